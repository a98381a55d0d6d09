/-
  Made short by a program of mine (wip/tools/mini.py).
-/
import Derived.Test.YtlpebgkekjfhaaaGreatS16x3
import Derived.Test.YtlpebgkekjfhaaaGreatProg
set_option linter.unusedVariables false
set_option linter.unusedSimpArgs false
namespace Go.Ab
open Go.Proofs
set_option maxRecDepth 100000
set_option linter.unusedVariables false
set_option linter.unusedSimpArgs false
set_option synthInstance.maxSize 5000
abbrev binary.D:=Bs
def binary.st:binary.D→SA:=fun b=>([.d tB b],[])
abbrev binary.Y:=Int
abbrev binary.X:=Int
def binary.out:binary.X→ba:=fun x=>⟨.d (.int .u32) x,[],[]⟩
def binary.add:binary.D→binary.Y→binary.X:=fun b y=>y
def binary.av:binary.D→Prop:=fun b=>4≤b.length
def binary.F:binary.D→binary.Y:=fun b=>vw (GX (b.getD 0 0) (b.getD 1 0) (b.getD 2 0) (b.getD 3 0))
noncomputable def binary.G:ed:=fk (P:=Tryz.prog) []
noncomputable def binary.an:eQ:= {}
noncomputable def binary.A:= @cY Tryz.prog binary.G binary.an 0 Tryz.f277 _ binary.st
abbrev binary.Ok:=dd @binary.A binary.av binary.add binary.F binary.out
theorem binary.eq{R:Type}(b:Bs)(k:ba→Option R):binary.A b k=
 aG (eI (0:Int) (((List.length b):Nat):Int)) (
 aG (eI (1:Int) (((List.length b):Nat):Int)) (
 aG (eI (2:Int) (((List.length b):Nat):Int)) (
 aG (eI (3:Int) (((List.length b):Nat):Int)) (
 k (binary.out (cw .or .u32 (cw .or .u32 (cw .or .u32 (jv .u32 (dR .u32 (nth tb b 0)) (24:Int)) (jv .u32 (dR .u32 (nth tb b 1)) (16:Int))) (jv .u32 (dR .u32 (nth tb b 2)) (8:Int))) (dR .u32 (nth tb b 3))))) none) none) none) none:=by kernel_rfl
theorem binary.ok:binary.Ok:=by
 intro b h
 have h:4≤b.length:=h
 rw[binary.eq,bm (by omega) (by omega),bm (by omega) (by omega),bm (by omega) (by omega),bm (by omega) (by omega)]
 simp only[ae,AX,qG,jk]
 rfl
noncomputable def binary.E:=Entry.cD [some tB] binary.st binary.av binary.add binary.F binary.out
noncomputable def binary.call:binary.D→Option binary.X:=bS binary.E binary.st
theorem binary.run:bM binary.call binary.av binary.add binary.F:=dq (df [.d tB] fun _=>by kernel_rfl)
noncomputable def binary.sg:SG Tryz.prog:=⟨277,aR,binary.E,.fn 0 (by kernel_rfl) binary.ok trivial⟩
abbrev dh.D:=Int×Int
def dh.st:dh.D→SA:=fun(x,kv)=>([.d (.int .u32) x,.d ti kv],[])
abbrev dh.Y:=Int
abbrev dh.X:=Int
def dh.out:dh.X→ba:=fun x=>⟨.d (.int .u32) x,[],[]⟩
def dh.add:dh.D→dh.Y→dh.X:=fun(x,kv) y=>y
def rl(w:W)(k:Nat):W:=w <<< k ||| w >>> (32 - k)
def dh.av:dh.D→Prop:=fun(x,k)=>0≤x∧x < 4294967296
def dh.F:dh.D→dh.Y:=fun(x,k)=>vw (rl (BitVec.ofInt 32 x) (k%32).toNat)
noncomputable def dh.G:ed:=fk (P:=Tryz.prog) []
noncomputable def dh.an:eQ:= {}
noncomputable def dh.A:= @cY Tryz.prog dh.G dh.an 0 Tryz.f248 _ dh.st
abbrev dh.Ok:=dd @dh.A dh.av dh.add dh.F dh.out
theorem dh.eq{R:Type}(x:Int)(kv:Int)(k:ba→Option R):dh.A (x,kv) k=
 aG (iC (cw .and .u64 (dR .u64 kv) (31:Int))) (
 aG (iC (da .u64 (32:Int) (cw .and .u64 (dR .u64 kv) (31:Int)))) (
 k (dh.out (cw .or .u32 (jv .u32 x (cw .and .u64 (dR .u64 kv) (31:Int))) (cg .u32 x (da .u64 (32:Int) (cw .and .u64 (dR .u64 kv) (31:Int))))))) none) none:=by kernel_rfl
theorem GW(k:Int):cw .and .u64 (dR .u64 k) 31=k%32:=by
 have e:(31:Int)=vw (31:BitVec 64):=rfl
 rw[s7,e,Bn]
 simp only
 have:(31:BitVec 64)=BitVec.ofNat 64 (2^5 - 1):=rfl
 unfold vw
 rw[BitVec.toNat_and,BitVec.toNat_ofInt,show(31:BitVec 64).toNat=2^5 - 1 from rfl,Nat.and_two_pow_sub_one_eq_mod]
 omega
theorem dh.ok:dh.Ok:=by
 rintro⟨x,k⟩ ⟨h1,h2⟩
 have e1:da .u64 32 (k%32)=32 - k%32:=by
  unfold da
  rw[wrap_u64,fO]
  omega
 have hx:x=vw (BitVec.ofInt 32 x):=by rw[fO];omega
 rw[dh.eq,GW,e1,lu (by omega),lu (by omega)]
 simp only[ae]
 have e2:cw .or .u32 (jv .u32 x (k%32)) (cg .u32 x (32 - k%32))=vw (rl (BitVec.ofInt 32 x) (k%32).toNat):=by
  conv=>lhs;rw[hx]
  rw[qG,oL,jk]
  simp only[rl]
  congr 3
  omega
 rw[e2]
 rfl
noncomputable def dh.E:=Entry.cD [some (.int .u32),some ti] dh.st dh.av dh.add dh.F dh.out
noncomputable def dh.call:dh.D→Option dh.X:=bS dh.E dh.st
theorem dh.run:bM dh.call dh.av dh.add dh.F:=dq (df [.d (.int .u32),.d ti] fun _=>by kernel_rfl)
noncomputable def dh.sg:SG Tryz.prog:=⟨248,aR,dh.E,.fn 0 (by kernel_rfl) dh.ok trivial⟩
theorem dh.at(w:W)(k:Int):dh.call (vw w,k)=some (vw (rl w (k%32).toNat)):=by
 have h:dh.av (vw w,k):=⟨sk w,by have:=D2 w;simpa using this⟩
 rw[dh.run h]
 show some (vw (rl (BitVec.ofInt 32 (vw w)) (k%32).toNat))=_
 rw[kq]
abbrev table.D:=Unit
def table.st:table.D→SA:=fun _=>([],[])
abbrev table.Y:=(List Int)
abbrev table.X:=(List Int)
def table.out:table.X→ba:=fun x=>⟨.d (.arr 64 (.int .u32)) x,[],[]⟩
def table.add:table.D→table.Y→table.X:=fun _ y=>y
def table.av:table.D→Prop:=fun _=>True
def table.F:table.D→table.Y:=fun _=>rQ
noncomputable def table.G:ed:=fk (P:=Tryz.prog) []
noncomputable def table.an:eQ:= {}
noncomputable def table.A:= @cY Tryz.prog table.G table.an 0 Tryz.f247 _ table.st
abbrev table.Ok:=dd @table.A table.av table.add table.F table.out
theorem table.eq{R:Type}(k:ba→Option R):table.A () k=
 k (table.out [(1116352408:Int),(1899447441:Int),(3049323471:Int),(3921009573:Int),(961987163:Int),(1508970993:Int),(2453635748:Int),(2870763221:Int),(3624381080:Int),(310598401:Int),(607225278:Int),(1426881987:Int),(1925078388:Int),(2162078206:Int),(2614888103:Int),(3248222580:Int),(3835390401:Int),(4022224774:Int),(264347078:Int),(604807628:Int),(770255983:Int),(1249150122:Int),(1555081692:Int),(1996064986:Int),(2554220882:Int),(2821834349:Int),(2952996808:Int),(3210313671:Int),(3336571891:Int),(3584528711:Int),(113926993:Int),(338241895:Int),(666307205:Int),(773529912:Int),(1294757372:Int),(1396182291:Int),(1695183700:Int),(1986661051:Int),(2177026350:Int),(2456956037:Int),(2730485921:Int),(2820302411:Int),(3259730800:Int),(3345764771:Int),(3516065817:Int),(3600352804:Int),(4094571909:Int),(275423344:Int),(430227734:Int),(506948616:Int),(659060556:Int),(883997877:Int),(958139571:Int),(1322822218:Int),(1537002063:Int),(1747873779:Int),(1955562222:Int),(2024104815:Int),(2227730452:Int),(2361852424:Int),(2428436474:Int),(2756734187:Int),(3204031479:Int),(3329325298:Int)]):=by kernel_rfl
theorem table.ok:table.Ok:=by
 intro d _
 rw[table.eq]
 rfl
noncomputable def table.E:=Entry.cD [] table.st table.av table.add table.F table.out
noncomputable def table.call:table.D→Option table.X:=bS table.E table.st
theorem table.run:bM table.call table.av table.add table.F:=dq (df [] fun _=>by kernel_rfl)
noncomputable def table.sg:SG Tryz.prog:=⟨247,aR,table.E,.fn 0 (by kernel_rfl) table.ok trivial⟩
abbrev first.D:=Unit
def first.st:first.D→SA:=fun _=>([],[])
abbrev first.Y:=(List Int)
abbrev first.X:=(List Int)
def first.out:first.X→ba:=fun x=>⟨.d (.arr 8 (.int .u32)) x,[],[]⟩
def first.add:first.D→first.Y→first.X:=fun _ y=>y
def first.av:first.D→Prop:=fun _=>True
def first.F:first.D→first.Y:=fun _=>jT.l
noncomputable def first.G:ed:=fk (P:=Tryz.prog) []
noncomputable def first.an:eQ:= {}
noncomputable def first.A:= @cY Tryz.prog first.G first.an 0 Tryz.f201 _ first.st
abbrev first.Ok:=dd @first.A first.av first.add first.F first.out
theorem first.eq{R:Type}(k:ba→Option R):first.A () k=
 k (first.out [(1779033703:Int),(3144134277:Int),(1013904242:Int),(2773480762:Int),(1359893119:Int),(2600822924:Int),(528734635:Int),(1541459225:Int)]):=by kernel_rfl
theorem first.ok:first.Ok:=by
 intro d _
 rw[first.eq]
 rfl
noncomputable def first.E:=Entry.cD [] first.st first.av first.add first.F first.out
noncomputable def first.call:first.D→Option first.X:=bS first.E first.st
theorem first.run:bM first.call first.av first.add first.F:=dq (df [] fun _=>by kernel_rfl)
noncomputable def first.sg:SG Tryz.prog:=⟨201,aR,first.E,.fn 0 (by kernel_rfl) first.ok trivial⟩
set_option synthInstance.maxSize 5000
abbrev schedule.L0.D:=Bs×Int×(List Int)
def schedule.L0.st:schedule.L0.D→AS:=fun(b_2,t8,n2)=>⟨([.d tB b_2,.undef,.ptr (.new 2 0) 0 [] 0]++bl 5 ([.d ti t8]++bl 52 [])),[],([[],[],[.obj 0 false (.d (.arr 64 (.int .u32)) n2)]]++ch 58 [])⟩
abbrev schedule.L0.Y0:=(List Int)
abbrev schedule.L0.X0:=(List Int)
def schedule.L0.bp:schedule.L0.X0→Exit×AS:=fun x=>(.exit 0,⟨([.undef,.undef,.ptr (.new 2 0) 0 [] 0]++bl 58 []),[],([[],[],[.obj 0 false (.d (.arr 64 (.int .u32)) x)]]++ch 58 [])⟩)
abbrev schedule.L0.X:=schedule.L0.X0
abbrev schedule.L0.Y:=schedule.L0.Y0
def schedule.L0.out:schedule.L0.X→Out (Exit×AS):=fun x=> .ok (schedule.L0.bp x)
def schedule.L0.add:schedule.L0.D→schedule.L0.Y→schedule.L0.X:=fun(b_2,t8,n2) y=>y
abbrev schedule.D:=Bs
def schedule.st:schedule.D→SA:=fun b=>([.d tB b],[])
abbrev schedule.Y:=(List Int)
abbrev schedule.X:=(List Int)
def schedule.out:schedule.X→ba:=fun x=>⟨.d (.arr 64 (.int .u32)) x,[],[]⟩
def schedule.add:schedule.D→schedule.Y→schedule.X:=fun b y=>y
def wl(l:List W):List Int:=l.map vw
def ou(l:List W):List Int:=wl l++List.replicate (64 - l.length) 0
def oa(b:List Int)(k:Nat):List W:=if k≤16 then(words b).take k else D5 (words b) (k - 16)
def schedule.L0.av:schedule.L0.D→Prop:=fun(b,t8,n2)=>64≤b.length∧∃k:Nat,k≤64∧t8=k∧n2=ou (oa b k)
def schedule.L0.F:schedule.L0.D→schedule.L0.Y:=fun(b,t8,n2)=>wl (sched b)
def schedule.av:schedule.D→Prop:=fun b=>64≤b.length
def schedule.F:schedule.D→schedule.Y:=fun b=>wl (sched b)
noncomputable def schedule.G:ed:=fk (P:=Tryz.prog) [binary.sg,dh.sg]
noncomputable def schedule.L0.E:=bU.cD schedule.L0.st schedule.L0.av schedule.L0.add schedule.L0.F schedule.L0.out
noncomputable def schedule.L0.call:schedule.L0.D→Option schedule.L0.X:=dw schedule.L0.E schedule.L0.st
noncomputable def schedule.an:eQ:= {loops:=jB [(2,{bn:=[0,2,8],sites:=[2]})],outs:=jA [(2,{bn:=[2],sites:=[2]},{bn:=[2]})],fC:=kf [(2,schedule.L0.E)]}
noncomputable def schedule.A:= @cY Tryz.prog schedule.G schedule.an 0 Tryz.f246 _ schedule.st
abbrev schedule.Ok:=dd @schedule.A schedule.av schedule.add schedule.F schedule.out
noncomputable def schedule.L0.R:= @cj Tryz.prog schedule.G schedule.an 0 Tryz.f246 0 _ schedule.L0.st
abbrev schedule.L0.Ok:=ew Tryz.prog schedule.G schedule.an 0 Tryz.f246 0 schedule.L0.st schedule.L0.av schedule.L0.add schedule.L0.F schedule.L0.out
theorem schedule.L0.run:bM schedule.L0.call schedule.L0.av schedule.L0.add schedule.L0.F:=eM (eL [.d tB,.d ti,.d (.slice (.int .u32))] fun _=>by kernel_rfl)
theorem schedule.L0.aB:fQ @schedule.L0.R schedule.L0.st schedule.L0.av schedule.L0.add schedule.L0.F schedule.L0.bp schedule.L0.Ok:=fU
theorem schedule.L0.step{R:Type}(b_2:Bs)(t8:Int)(n2:(List Int))(kn:AS→Option R)(kx:Exit→AS→Option R):schedule.L0.R (b_2,t8,n2) kn kx=
  aG ((fM t8 (64:Int))) (
   aG ((fM t8 (16:Int))) (
    aG (inc (fq .i64 (4:Int) t8) (((List.length b_2):Nat):Int)) (
    ah (binary.call (cut b_2 (Int.toNat (fq .i64 (4:Int) t8)) ((List.length b_2) - (Int.toNat (fq .i64 (4:Int) t8))))) fun x1=>
    aG (eI t8 (64:Int)) (
    aG (decide ((Int.toNat t8) < (List.length n2))) (
    aG (decide ((((Int.toNat t8)*1)+0)=(0+((Int.toNat t8)*1)))) (
    aG (decide ((Int.toNat t8) < (List.length n2))) (
    kn (schedule.L0.st (b_2,(bN .i64 t8 (1:Int)),(List.set n2 (Int.toNat t8) x1)))) none) none) none) none) none) (
    aG (eI (da .i64 t8 (15:Int)) (64:Int)) (
    aG (decide ((Int.toNat (da .i64 t8 (15:Int))) < (List.length n2))) (
    aG (decide ((((Int.toNat (da .i64 t8 (15:Int)))*1)+0)=(0+((Int.toNat (da .i64 t8 (15:Int)))*1)))) (
    aG (eI (da .i64 t8 (2:Int)) (64:Int)) (
    aG (decide ((Int.toNat (da .i64 t8 (2:Int))) < (List.length n2))) (
    aG (decide ((((Int.toNat (da .i64 t8 (2:Int)))*1)+0)=(0+((Int.toNat (da .i64 t8 (2:Int)))*1)))) (
    ah (dh.call ((nth (.int .u32) n2 (Int.toNat (da .i64 t8 (15:Int)))),(-7:Int))) fun x2=>
    ah (dh.call ((nth (.int .u32) n2 (Int.toNat (da .i64 t8 (15:Int)))),(-18:Int))) fun x3=>
    ah (dh.call ((nth (.int .u32) n2 (Int.toNat (da .i64 t8 (2:Int)))),(-17:Int))) fun x4=>
    ah (dh.call ((nth (.int .u32) n2 (Int.toNat (da .i64 t8 (2:Int)))),(-19:Int))) fun x5=>
    aG (eI (da .i64 t8 (16:Int)) (64:Int)) (
    aG (decide ((Int.toNat (da .i64 t8 (16:Int))) < (List.length n2))) (
    aG (decide ((((Int.toNat (da .i64 t8 (16:Int)))*1)+0)=(0+((Int.toNat (da .i64 t8 (16:Int)))*1)))) (
    aG (eI (da .i64 t8 (7:Int)) (64:Int)) (
    aG (decide ((Int.toNat (da .i64 t8 (7:Int))) < (List.length n2))) (
    aG (decide ((((Int.toNat (da .i64 t8 (7:Int)))*1)+0)=(0+((Int.toNat (da .i64 t8 (7:Int)))*1)))) (
    aG (eI t8 (64:Int)) (
    aG (decide ((Int.toNat t8) < (List.length n2))) (
    aG (decide ((((Int.toNat t8)*1)+0)=(0+((Int.toNat t8)*1)))) (
    aG (decide ((Int.toNat t8) < (List.length n2))) (
    kn (schedule.L0.st (b_2,(bN .i64 t8 (1:Int)),(List.set n2 (Int.toNat t8) (bN .u32 (bN .u32 (bN .u32 (nth (.int .u32) n2 (Int.toNat (da .i64 t8 (16:Int)))) (cw .xor .u32 (cw .xor .u32 x2 x3) (cg .u32 (nth (.int .u32) n2 (Int.toNat (da .i64 t8 (15:Int)))) (3:Int)))) (nth (.int .u32) n2 (Int.toNat (da .i64 t8 (7:Int))))) (cw .xor .u32 (cw .xor .u32 x4 x5) (cg .u32 (nth (.int .u32) n2 (Int.toNat (da .i64 t8 (2:Int)))) (10:Int)))))))) none) none) none) none) none) none) none) none) none) none) none) none) none) none) none) none)) (
   kx (schedule.L0.bp n2).1 (schedule.L0.bp n2).2):=by kernel_rfl
theorem schedule.eq{R:Type}(b:Bs)(k:ba→Option R):schedule.A b k=
 ah (schedule.L0.call (b,(0:Int),(List.replicate 64 (0:Int)))) fun x6=>
 k (schedule.out x6):=by kernel_rfl
theorem zp(b:List Int)(k:Nat)(h:k≤64):(oa b k).length=k:=by
 unfold oa
 split
 ·simp[eW];omega
 ·rw[mF,eW];omega
theorem E5(b:List Int):oa b 64=sched b:=rfl
theorem Ck(b:List Int)(k:Nat)(h:k < 16):oa b (k+1)=oa b k++ [be b k]:=by
 unfold oa
 rw[if_pos (by omega),if_pos (by omega),List.take_succ_eq_append_getElem (by rw[eW];exact h)]
 simp[words]
theorem D3(b:List Int)(k:Nat)(h:16≤k):oa b (k+1)=ext (oa b k):=by
 unfold oa
 rw[if_neg (by omega)]
 by_cases h16:k=16
 ·subst h16
  rw[if_pos (by omega),List.take_of_length_le (by rw[eW];omega)]
  rfl
 ·rw[if_neg (by omega),show k+1 - 16=(k - 16)+1 by omega]
  rfl
theorem wP(l:List W)(h:l.length≤64):(ou l).length=64:=by simp[ou,wl];omega
theorem o8(l:List W)(i:Nat)(h:i < l.length):nth (.int .u32) (ou l) i=vw (l.getD i 0):=by
 unfold nth ou wl
 rw[List.getD_eq_getElem?_getD,List.getElem?_append_left (by simpa using h)]
 simp[h]
theorem vG(l:List W)(w:W)(h:l.length < 64):(ou l).set l.length (vw w)=ou (l++ [w]):=by
 unfold ou wl
 rw[List.set_append_right _ _ (by simp)]
 simp only[List.length_map,Nat.sub_self,List.map_append,List.length_append,List.length_cons,List.length_nil]
 rw[show 64 - l.length=(64 - (l.length+(0+1)))+1 by omega,List.replicate_succ,List.set_cons_zero]
 simp
theorem zA(l:List W)(h:l.length=64):ou l=wl l:=by simp[ou,h]
theorem FD(b:List Int)(k:Nat)(h:4*k+4≤b.length):GX ((cut b (4*k) (b.length - 4*k)).getD 0 0) ((cut b (4*k) (b.length - 4*k)).getD 1 0) ((cut b (4*k) (b.length - 4*k)).getD 2 0) ((cut b (4*k) (b.length - 4*k)).getD 3 0)=be b k:=by
 have e:∀j,j < 4→(cut b (4*k) (b.length - 4*k)).getD j 0=b.getD (4*k+j) 0:=fun j hj=>by
  unfold cut
  rw[List.getD_eq_getElem?_getD,List.getD_eq_getElem?_getD,List.getElem?_take_of_lt (by omega),List.getElem?_drop]
 unfold be
 rw[e 0 (by omega),e 1 (by omega),e 2 (by omega),e 3 (by omega),Nat.add_zero]
theorem schedule.L0.ok:schedule.L0.Ok:=by
 refine schedule.L0.aB (fun(b,t8,n2)=>64 - t8.toNat) ?_
 rintro⟨b,t8,n2⟩ ⟨hb,k,hk,rfl,rfl⟩
 have hwl:=zp b k hk
 have hal:=wP (oa b k) (by omega)
 by_cases h:k < 64
 ·left
  refine⟨(b,((k+1:Nat):Int),ou (oa b (k+1))),⟨hb,k+1,by omega,rfl,rfl⟩,by simp;omega,rfl,fun kn kx=> ?_⟩
  have e1:bN .i64 (k:Int) 1=((k+1:Nat):Int):=by rw[gF (by omega) (by omega)];omega
  have e2:Int.toNat (k:Int)=k:=by omega
  rw[schedule.L0.step,aW (by omega)]
  simp only[ae,e1,e2,hal,Nat.mul_one,Nat.zero_add,Nat.add_zero,decide_true]
  by_cases h16:k < 16
  ·have e3:fq .i64 4 (k:Int)=((4*k:Nat):Int):=by rw[oJ (by omega) (by omega)];omega
   have e4:Int.toNat ((4*k:Nat):Int)=4*k:=by omega
   rw[aW (by omega),e3,jH (by omega) (by omega),e4,bm (by omega) (by omega),aZ h]
   have hp:binary.av (cut b (4*k) (b.length - 4*k)):=by
    show 4≤_
    rw[nI (by omega)];omega
   simp only[ae,binary.run hp,aa]
   have e5:binary.add (cut b (4*k) (b.length - 4*k)) (binary.F (cut b (4*k) (b.length - 4*k)))=vw (be b k):=by
    show vw (GX _ _ _ _)=_
    rw[FD b k (by omega)]
   have e6:=vG (oa b k) (be b k) (by omega)
   rw[hwl]at e6
   rw[e5,e6,Ck b k h16]
  ·have a15:Int.toNat (da .i64 (k:Int) 15)=k - 15:=by rw[eS (by omega) (by omega)];omega
   have a2:Int.toNat (da .i64 (k:Int) 2)=k - 2:=by rw[eS (by omega) (by omega)];omega
   have a16:Int.toNat (da .i64 (k:Int) 16)=k - 16:=by rw[eS (by omega) (by omega)];omega
   have a7:Int.toNat (da .i64 (k:Int) 7)=k - 7:=by rw[eS (by omega) (by omega)];omega
   have i15:eI (da .i64 (k:Int) 15) 64=true:=bm (by rw[eS (by omega) (by omega)];omega) (by rw[eS (by omega) (by omega)];omega)
   have i2:eI (da .i64 (k:Int) 2) 64=true:=bm (by rw[eS (by omega) (by omega)];omega) (by rw[eS (by omega) (by omega)];omega)
   have i16:eI (da .i64 (k:Int) 16) 64=true:=bm (by rw[eS (by omega) (by omega)];omega) (by rw[eS (by omega) (by omega)];omega)
   have i7:eI (da .i64 (k:Int) 7) 64=true:=bm (by rw[eS (by omega) (by omega)];omega) (by rw[eS (by omega) (by omega)];omega)
   have i0:eI (k:Int) 64=true:=bm (by omega) (by omega)
   have d15:decide (k - 15 < 64)=true:=aZ (by omega)
   have d2:decide (k - 2 < 64)=true:=aZ (by omega)
   have d16:decide (k - 16 < 64)=true:=aZ (by omega)
   have d7:decide (k - 7 < 64)=true:=aZ (by omega)
   have d0:decide (k < 64)=true:=aZ h
   rw[aO (by omega)]
   simp only[ae,ag,a15,a2,a16,a7,i15,i2,i16,i7,i0,d15,d2,d16,d7,d0,o8 (oa b k) (k - 15) (by omega),o8 (oa b k) (k - 2) (by omega),o8 (oa b k) (k - 16) (by omega),o8 (oa b k) (k - 7) (by omega),dh.at,aa,jk,oL,ns]
   have e6:=vG (oa b k) (Fq (oa b k) k) (by omega)
   rw[hwl]at e6
   rw[D3 b k (by omega),ext,hwl,←e6]
   rfl
 ·right
  obtain rfl:k=64:=by omega
  intro R kn kx
  rw[schedule.L0.step,aO (by omega),zA _ hwl,E5]
  simp only[ag,schedule.L0.add,schedule.L0.F]
theorem schedule.ok:schedule.Ok:=by
 intro b hb
 have hp:schedule.L0.av (b,0,List.replicate 64 0):=⟨hb,0,by omega,rfl,rfl⟩
 rw[schedule.eq,schedule.L0.run hp]
 simp only[aa,schedule.L0.add,schedule.L0.F,schedule.add,schedule.F]
noncomputable def schedule.E:=Entry.cD [some tB] schedule.st schedule.av schedule.add schedule.F schedule.out
noncomputable def schedule.call:schedule.D→Option schedule.X:=bS schedule.E schedule.st
theorem schedule.run:bM schedule.call schedule.av schedule.add schedule.F:=dq (df [.d tB] fun _=>by kernel_rfl)
noncomputable def schedule.sg:SG Tryz.prog:=⟨246,aR,schedule.E,.fn 1 (by kernel_rfl) schedule.ok (And.intro (.cD schedule.L0.ok (by kernel_rfl)) trivial)⟩
set_option synthInstance.maxSize 5000
abbrev mix.L0.D:=(List Int)×Int×(List Int)×(List Int)×(List Int)×(List Int)
def mix.L0.st:mix.L0.D→AS:=fun(h_2,t18,n4,n5,n6,n7)=>⟨([.undef,.undef,.ej (.arr 8 (.int .u32)) h_2,.undef,.ptr (.new 4 0) 0 [] 0,.ptr (.new 5 0) 0 [] 0,.ptr (.new 6 0) 0 [] 0,.ptr (.new 7 0) 0 [] 0]++bl 10 ([.d ti t18]++bl 98 [])),[],(ch 4 ([[.obj 0 false (.d (.arr 8 (.int .u32)) n4)],[.obj 0 false (.d (.arr 64 (.int .u32)) n5)],[.obj 0 false (.d (.arr 64 (.int .u32)) n6)],[.obj 0 false (.d (.arr 8 (.int .u32)) n7)]]++ch 109 []))⟩
abbrev mix.L0.Y0:=(List Int)
abbrev mix.L0.X0:=((List Int)×(List Int))×((List Int))
def mix.L0.bp:mix.L0.X0→Exit×AS:=fun x=>(.exit 0,⟨([.undef,.undef,.ej (.arr 8 (.int .u32)) x.1.1,.undef,.ptr (.new 4 0) 0 [] 0,.undef,.undef,.ptr (.new 7 0) 0 [] 0]++bl 109 []),[],(ch 4 ([[.obj 0 false (.d (.arr 8 (.int .u32)) x.1.2)],[],[],[.obj 0 false (.d (.arr 8 (.int .u32)) x.2)]]++ch 109 []))⟩)
abbrev mix.L0.X:=mix.L0.X0
abbrev mix.L0.Y:=mix.L0.Y0
def mix.L0.out:mix.L0.X→Out (Exit×AS):=fun x=> .ok (mix.L0.bp x)
def mix.L0.add:mix.L0.D→mix.L0.Y→mix.L0.X:=fun(h_2,t18,n4,n5,n6,n7) y=>((h_2,n4),y)
abbrev mix.L1.D:=(List Int)×Int×(List Int)×(List Int)
def mix.L1.st:mix.L1.D→AS:=fun(h_3,t104,n4_2,n7_2)=>⟨([.undef,.undef,.ej (.arr 8 (.int .u32)) h_3,.undef,.ptr (.new 4 0) 0 [] 0,.undef,.undef,.ptr (.new 7 0) 0 [] 0]++bl 96 ([.d ti t104]++bl 12 [])),[],(ch 4 ([[.obj 0 false (.d (.arr 8 (.int .u32)) n4_2)],[],[],[.obj 0 false (.d (.arr 8 (.int .u32)) n7_2)]]++ch 109 []))⟩
abbrev mix.L1.Y0:=(List Int)
abbrev mix.L1.X0:=((List Int))×((List Int))
def mix.L1.bp:mix.L1.X0→Exit×AS:=fun x=>(.exit 2,⟨(bl 4 ([.ptr (.new 4 0) 0 [] 0,.undef,.undef,.ptr (.new 7 0) 0 [] 0]++bl 109 [])),[],(ch 4 ([[.obj 0 false (.d (.arr 8 (.int .u32)) x.1)],[],[],[.obj 0 false (.d (.arr 8 (.int .u32)) x.2)]]++ch 109 []))⟩)
abbrev mix.L1.X:=mix.L1.X0
abbrev mix.L1.Y:=mix.L1.Y0
def mix.L1.out:mix.L1.X→Out (Exit×AS):=fun x=> .ok (mix.L1.bp x)
def mix.L1.add:mix.L1.D→mix.L1.Y→mix.L1.X:=fun(h_3,t104,n4_2,n7_2) y=>(n4_2,y)
abbrev mix.D:=(List Int)×Bs
def mix.st:mix.D→SA:=fun(h,b)=>([.d (.arr 8 (.int .u32)) h,.d tB b],[])
abbrev mix.Y:=(List Int)
abbrev mix.X:=(List Int)
def mix.out:mix.X→ba:=fun x=>⟨.d (.arr 8 (.int .u32)) x,[],[]⟩
def mix.add:mix.D→mix.Y→mix.X:=fun(h,b) y=>y
def xz(l:List Int):St:=⟨BitVec.ofInt 32 (l.getD 0 0),BitVec.ofInt 32 (l.getD 1 0),BitVec.ofInt 32 (l.getD 2 0),BitVec.ofInt 32 (l.getD 3 0),BitVec.ofInt 32 (l.getD 4 0),BitVec.ofInt 32 (l.getD 5 0),BitVec.ofInt 32 (l.getD 6 0),BitVec.ofInt 32 (l.getD 7 0)⟩
theorem iS(s:St):xz s.l=s:=by
 obtain⟨a,b,c,d,e,f,g,h⟩:=s
 simp[xz,St.l,kq]
def D0(l:List Int):List W:=l.map (BitVec.ofInt 32)
theorem nZ(l:List W):D0 (wl l)=l:=by
 unfold D0 wl
 rw[List.map_map]
 have:(BitVec.ofInt 32∘vw)=(id:W→W):=by funext w;exact kq w
 rw[this,List.map_id]
def mix.L0.av:mix.L0.D→Prop:=fun(h,t,n4,n5,n6,n7)=>∃(s:St) (ws:List W) (k:Nat),h=s.l∧n5=wl ws∧ws.length=64∧k≤64∧t=k∧n6=rQ∧n7=(rounds ws s k).l
def mix.L0.F:mix.L0.D→mix.L0.Y:=fun(h,t,n4,n5,n6,n7)=>(rounds (D0 n5) (xz h) 64).l
def mix.L1.av:mix.L1.D→Prop:=fun(h,t,n4,n7)=>n7.length=8∧∃k:Nat,k≤8∧t=k
def mix.L1.F:mix.L1.D→mix.L1.Y:=fun(h,t,n4,n7)=>from_ (fun i x=>bN .u32 x (nth (.int .u32) h i)) t.toNat n7
def mix.av:mix.D→Prop:=fun(h,b)=>(∃s:St,h=s.l)∧64≤b.length
def mix.F:mix.D→mix.Y:=fun(h,b)=>(rU (xz h) b).l
noncomputable def mix.G:ed:=fk (P:=Tryz.prog) [schedule.sg,table.sg,dh.sg]
noncomputable def mix.L0.E:=bU.cD mix.L0.st mix.L0.av mix.L0.add mix.L0.F mix.L0.out
noncomputable def mix.L0.call:mix.L0.D→Option mix.L0.X:=dw mix.L0.E mix.L0.st
noncomputable def mix.L1.E:=bU.cD mix.L1.st mix.L1.av mix.L1.add mix.L1.F mix.L1.out
noncomputable def mix.L1.call:mix.L1.D→Option mix.L1.X:=dw mix.L1.E mix.L1.st
noncomputable def mix.an:eQ:= {loops:=jB [(4,{bn:=[2,4,5,6,7,18],sites:=[4,5,6,7]}),(13,{bn:=[2,4,7,104],sites:=[4,7]})],outs:=jA [(4,{bn:=[2,4,7],sites:=[4,7]},{bn:=[4]}),(13,{bn:=[4,7],sites:=[4,7]},{bn:=[4]})],fC:=kf [(4,mix.L0.E),(13,mix.L1.E)]}
noncomputable def mix.A:= @cY Tryz.prog mix.G mix.an 0 Tryz.f202 _ mix.st
abbrev mix.Ok:=dd @mix.A mix.av mix.add mix.F mix.out
noncomputable def mix.L0.R:= @cj Tryz.prog mix.G mix.an 0 Tryz.f202 0 _ mix.L0.st
abbrev mix.L0.Ok:=ew Tryz.prog mix.G mix.an 0 Tryz.f202 0 mix.L0.st mix.L0.av mix.L0.add mix.L0.F mix.L0.out
noncomputable def mix.L1.R:= @cj Tryz.prog mix.G mix.an 0 Tryz.f202 1 _ mix.L1.st
abbrev mix.L1.Ok:=ew Tryz.prog mix.G mix.an 0 Tryz.f202 1 mix.L1.st mix.L1.av mix.L1.add mix.L1.F mix.L1.out
theorem mix.L0.run:bM mix.L0.call mix.L0.av mix.L0.add mix.L0.F:=eM (eL [.d (.arr 8 (.int .u32)),.d ti,.d (.slice (.int .u32)),.d (.slice (.int .u32)),.d (.slice (.int .u32)),.d (.slice (.int .u32))] fun _=>by kernel_rfl)
theorem mix.L0.aB:fQ @mix.L0.R mix.L0.st mix.L0.av mix.L0.add mix.L0.F mix.L0.bp mix.L0.Ok:=fU
theorem mix.L0.step{R:Type}(h_2:(List Int))(t18:Int)(n4:(List Int))(n5:(List Int))(n6:(List Int))(n7:(List Int))(kn:AS→Option R)(kx:Exit→AS→Option R):mix.L0.R (h_2,t18,n4,n5,n6,n7) kn kx=
  aG ((fM t18 (64:Int))) (
   aG (decide (4 < (List.length n7))) (
   ah (dh.call ((nth (.int .u32) n7 4),(-6:Int))) fun x1=>
   aG (decide (4 < (List.length n7))) (
   ah (dh.call ((nth (.int .u32) n7 4),(-11:Int))) fun x2=>
   aG (decide (4 < (List.length n7))) (
   ah (dh.call ((nth (.int .u32) n7 4),(-25:Int))) fun x3=>
   aG (decide (7 < (List.length n7))) (
   aG (decide (6 < (List.length n7))) (
   aG (decide (4 < (List.length n7))) (
   aG (decide (5 < (List.length n7))) (
   aG (decide (6 < (List.length n7))) (
   aG (eI t18 (64:Int)) (
   aG (decide ((Int.toNat t18) < (List.length n6))) (
   aG (decide ((((Int.toNat t18)*1)+0)=(0+((Int.toNat t18)*1)))) (
   aG (eI t18 (64:Int)) (
   aG (decide ((Int.toNat t18) < (List.length n5))) (
   aG (decide ((((Int.toNat t18)*1)+0)=(0+((Int.toNat t18)*1)))) (
   aG (decide (0 < (List.length n7))) (
   ah (dh.call ((nth (.int .u32) n7 0),(-2:Int))) fun x4=>
   aG (decide (0 < (List.length n7))) (
   ah (dh.call ((nth (.int .u32) n7 0),(-13:Int))) fun x5=>
   aG (decide (0 < (List.length n7))) (
   ah (dh.call ((nth (.int .u32) n7 0),(-22:Int))) fun x6=>
   aG (decide (0 < (List.length n7))) (
   aG (decide (1 < (List.length n7))) (
   aG (decide (2 < (List.length n7))) (
   aG (decide (0 < (List.length n7))) (
   aG (decide (1 < (List.length n7))) (
   aG (decide (0 < (List.length n7))) (
   aG (decide (1 < (List.length n7))) (
   aG (decide (2 < (List.length n7))) (
   aG (decide (3 < (List.length n7))) (
   aG (decide (4 < (List.length n7))) (
   aG (decide (5 < (List.length n7))) (
   aG (decide (6 < (List.length n7))) (
   kn (mix.L0.st (h_2,(bN .i64 t18 (1:Int)),n4,n5,n6,[(bN .u32 (bN .u32 (bN .u32 (bN .u32 (bN .u32 (bN .u32 (nth (.int .u32) n7 7) (cw .xor .u32 (cw .xor .u32 x1 x2) x3)) (cw .xor .u32 (nth (.int .u32) n7 6) (cw .and .u32 (nth (.int .u32) n7 4) (cw .xor .u32 (nth (.int .u32) n7 5) (nth (.int .u32) n7 6))))) (nth (.int .u32) n6 (Int.toNat t18))) (nth (.int .u32) n5 (Int.toNat t18))) (cw .xor .u32 (cw .xor .u32 x4 x5) x6)) (cw .or .u32 (cw .and .u32 (nth (.int .u32) n7 0) (nth (.int .u32) n7 1)) (cw .and .u32 (nth (.int .u32) n7 2) (cw .or .u32 (nth (.int .u32) n7 0) (nth (.int .u32) n7 1))))),(nth (.int .u32) n7 0),(nth (.int .u32) n7 1),(nth (.int .u32) n7 2),(bN .u32 (nth (.int .u32) n7 3) (bN .u32 (bN .u32 (bN .u32 (bN .u32 (nth (.int .u32) n7 7) (cw .xor .u32 (cw .xor .u32 x1 x2) x3)) (cw .xor .u32 (nth (.int .u32) n7 6) (cw .and .u32 (nth (.int .u32) n7 4) (cw .xor .u32 (nth (.int .u32) n7 5) (nth (.int .u32) n7 6))))) (nth (.int .u32) n6 (Int.toNat t18))) (nth (.int .u32) n5 (Int.toNat t18)))),(nth (.int .u32) n7 4),(nth (.int .u32) n7 5),(nth (.int .u32) n7 6)]))) none) none) none) none) none) none) none) none) none) none) none) none) none) none) none) none) none) none) none) none) none) none) none) none) none) none) none) none) none) (
   kx (mix.L0.bp ((h_2,n4),n7)).1 (mix.L0.bp ((h_2,n4),n7)).2):=by kernel_rfl
theorem mix.L1.run:bM mix.L1.call mix.L1.av mix.L1.add mix.L1.F:=eM (eL [.d (.arr 8 (.int .u32)),.d ti,.d (.slice (.int .u32)),.d (.slice (.int .u32))] fun _=>by kernel_rfl)
theorem mix.L1.aB:fQ @mix.L1.R mix.L1.st mix.L1.av mix.L1.add mix.L1.F mix.L1.bp mix.L1.Ok:=fU
theorem mix.L1.step{R:Type}(h_3:(List Int))(t104:Int)(n4_2:(List Int))(n7_2:(List Int))(kn:AS→Option R)(kx:Exit→AS→Option R):mix.L1.R (h_3,t104,n4_2,n7_2) kn kx=
  aG ((fM t104 (8:Int))) (
   aG (eI t104 (8:Int)) (
   aG (decide ((Int.toNat t104) < (List.length n7_2))) (
   aG (decide ((((Int.toNat t104)*1)+0)=(0+((Int.toNat t104)*1)))) (
   aG (eI t104 (8:Int)) (
   aG (eI t104 (8:Int)) (
   aG (decide ((Int.toNat t104) < (List.length n7_2))) (
   aG (decide ((((Int.toNat t104)*1)+0)=(0+((Int.toNat t104)*1)))) (
   aG (decide ((Int.toNat t104) < (List.length n7_2))) (
   kn (mix.L1.st (h_3,(bN .i64 t104 (1:Int)),n4_2,(List.set n7_2 (Int.toNat t104) (bN .u32 (nth (.int .u32) n7_2 (Int.toNat t104)) (nth (.int .u32) h_3 (Int.toNat t104))))))) none) none) none) none) none) none) none) none) (
   kx (mix.L1.bp (n4_2,n7_2)).1 (mix.L1.bp (n4_2,n7_2)).2):=by kernel_rfl
theorem mix.eq{R:Type}(h:(List Int))(b:Bs)(k:ba→Option R):mix.A (h,b) k=
 ah (schedule.call b) fun x1=>
 ah (table.call ()) fun x2=>
 ah (mix.L0.call (h,(0:Int),(List.replicate 8 (0:Int)),x1,x2,h)) fun x9=>
 ah (mix.L1.call (x9.1.1,(0:Int),x9.1.2,x9.2)) fun x10=>
 k (mix.out x10.2):=by kernel_rfl
theorem St.yB(s:St):s.l.length=8:=rfl
theorem sx:rQ.length=64:=rfl
theorem yA(k:Nat)(h:k < 64):nth (.int .u32) rQ k=vw (kw k):=by
 have hh:∀k:Fin 64,nth (.int .u32) rQ k.val=vw (kw k.val):=by decide+kernel
 exact hh ⟨k,h⟩
theorem sm(ws:List W)(k:Nat)(h:k < ws.length):nth (.int .u32) (wl ws) k=vw (ws.getD k 0):=by
 unfold nth wl
 simp[h]
theorem Iy(w:W):rl w ((-6:Int)%32).toNat=kS w 6:=rfl
theorem H6(w:W):rl w ((-11:Int)%32).toNat=kS w 11:=rfl
theorem H9(w:W):rl w ((-25:Int)%32).toNat=kS w 25:=rfl
theorem Ix(w:W):rl w ((-2:Int)%32).toNat=kS w 2:=rfl
theorem H7(w:W):rl w ((-13:Int)%32).toNat=kS w 13:=rfl
theorem H8(w:W):rl w ((-22:Int)%32).toNat=kS w 22:=rfl
theorem n0(s:St):nth (.int .u32) s.l 0=vw s.a:=rfl
theorem n1(s:St):nth (.int .u32) s.l 1=vw s.b:=rfl
theorem n2(s:St):nth (.int .u32) s.l 2=vw s.c:=rfl
theorem n3(s:St):nth (.int .u32) s.l 3=vw s.d:=rfl
theorem n4(s:St):nth (.int .u32) s.l 4=vw s.e:=rfl
theorem n5(s:St):nth (.int .u32) s.l 5=vw s.f:=rfl
theorem n6(s:St):nth (.int .u32) s.l 6=vw s.g:=rfl
theorem n7(s:St):nth (.int .u32) s.l 7=vw s.h:=rfl
theorem mix.L0.ok:mix.L0.Ok:=by
 refine mix.L0.aB (fun(h,t,n4,n5,n6,n7)=>64 - t.toNat) ?_
 rintro⟨h,t,m4,m5,m6,m7⟩ ⟨s,ws,k,rfl,rfl,hw,hk,rfl,rfl,rfl⟩
 by_cases hlt:k < 64
 ·left
  refine⟨(s.l,((k+1:Nat):Int),m4,wl ws,rQ,(rounds ws s (k+1)).l),⟨s,ws,k+1,rfl,rfl,hw,by omega,rfl,rfl,rfl⟩,by simp;omega,rfl,fun kn kx=> ?_⟩
  have e1:bN .i64 (k:Int) 1=((k+1:Nat):Int):=by rw[gF (by omega) (by omega)];omega
  have e2:Int.toNat (k:Int)=k:=by omega
  have hwl:(wl ws).length=64:=by simp[wl,hw]
  have d0:decide (k < 64)=true:=aZ hlt
  have i0:eI (k:Int) 64=true:=bm (by omega) (by omega)
  rw[mix.L0.step,aW (by omega)]
  generalize hv:rounds ws s k=v
  simp only[e1,e2,Nat.mul_one,Nat.zero_add,Nat.add_zero,decide_true,ae,St.yB,Nat.reduceLT,sx,hwl,d0,i0,n0,n1,n2,n3,n4,n5,n6,n7,dh.at,aa,yA k hlt,sm ws k (by omega),jk,ns,Iy,H6,H9,Ix,H7,H8]
  show kn _=kn (mix.L0.st (s.l,((k+1:Nat):Int),m4,wl ws,rQ,(Ia (rounds ws s k) (kw k) (ws.getD k 0)).l))
  rw[hv]
  rfl
 ·right
  obtain rfl:k=64:=by omega
  intro R kn kx
  rw[mix.L0.step,aO (by omega)]
  simp only[ag,mix.L0.add,mix.L0.F,nZ,iS]
theorem mix.L1.ok:mix.L1.Ok:=by
 refine mix.L1.aB (fun(h,t,n4,n7)=>8 - t.toNat) ?_
 rintro⟨h,t,m4,m7⟩ ⟨hl,k,hk,rfl⟩
 have hl:m7.length=8:=hl
 have e2:Int.toNat (k:Int)=k:=by omega
 have e3:Int.toNat ((k+1:Nat):Int)=k+1:=by omega
 by_cases hlt:k < 8
 ·left
  have e1:bN .i64 (k:Int) 1=((k+1:Nat):Int):=by rw[gF (by omega) (by omega)];omega
  have hn:nth (.int .u32) m7 k=m7[k]:=cn (t:= .int .u32) (by omega)
  refine⟨(h,((k+1:Nat):Int),m4,m7.set k (bN .u32 m7[k] (nth (.int .u32) h k))),⟨by simpa using hl,k+1,by omega,rfl⟩,by simp;omega,?_,fun kn kx=> ?_⟩
  ·simp only[mix.L1.add,mix.L1.F,e2,e3]
   rw[pb (fun i x=>bN .u32 x (nth (.int .u32) h i)) m7 k (by omega)]
  ·have d0:decide (k < 8)=true:=aZ hlt
   have i0:eI (k:Int) 8=true:=bm (by omega) (by omega)
   rw[mix.L1.step,aW (by omega)]
   simp only[e1,e2,Nat.mul_one,Nat.zero_add,Nat.add_zero,decide_true,ae,hl,d0,i0,hn]
 ·right
  obtain rfl:k=8:=by omega
  intro R kn kx
  rw[mix.L1.step,aO (by omega)]
  simp only[ag,mix.L1.add,mix.L1.F,e2]
  rw[qD _ _ _ (by omega)]
theorem mix.ok:mix.Ok:=by
 rintro⟨h,b⟩ ⟨⟨s,rfl⟩,hb⟩
 have hs:schedule.av b:=hb
 have hsl:(sched b).length=64:=by unfold sched;rw[mF,eW]
 have hp:mix.L0.av (s.l,0,List.replicate 8 0,wl (sched b),rQ,s.l):=⟨s,sched b,0,rfl,rfl,hsl,by omega,rfl,rfl,rfl⟩
 rw[mix.eq,schedule.run hs]
 simp only[aa,table.run (d:=()) trivial,schedule.add,schedule.F,table.add,table.F,mix.L0.run hp,mix.L0.add,mix.L0.F,nZ,iS]
 have hp1:mix.L1.av (s.l,0,List.replicate 8 0,(rounds (sched b) s 64).l):=⟨rfl,0,by omega,rfl⟩
 simp only[mix.L1.run hp1,aa,mix.L1.add,mix.L1.F,mix.add,mix.F,iS]
 unfold rU
 generalize rounds (sched b) s 64=v
 obtain⟨a1,b1,c1,d1,f1,g1,h1,i1⟩:=v
 simp only[St.l,from_,List.mapIdx_cons,List.mapIdx_nil,Int.toNat_zero,Nat.not_lt_zero,if_false,Nat.zero_add,Nat.reduceAdd]
 simp only[nth,List.getD_cons_zero,List.getD_cons_succ,ns]
noncomputable def mix.E:=Entry.cD [some (.arr 8 (.int .u32)),some tB] mix.st mix.av mix.add mix.F mix.out
noncomputable def mix.call:mix.D→Option mix.X:=bS mix.E mix.st
theorem mix.run:bM mix.call mix.av mix.add mix.F:=dq (df [.d (.slice (.int .u32)),.d tB] fun _=>by kernel_rfl)
noncomputable def mix.sg:SG Tryz.prog:=⟨202,aR,mix.E,.fn 2 (by kernel_rfl) mix.ok (And.intro (.cD mix.L0.ok (by kernel_rfl)) (And.intro (.cD mix.L1.ok (by kernel_rfl)) trivial))⟩
set_option synthInstance.maxSize 5000
theorem j9(n:Int)(k:Int)(h0:0≤k)(h1:k≤64):dR .u8 (cg .i64 n k)=n / 2^k.toNat%256:=by
 rw[rN,fO,cg]
 have e:min k.toNat IntKind.i64.bits=k.toNat:=by simp only[IntKind.bits];omega
 rw[e,Int.fdiv_eq_ediv_of_nonneg _ (Int.le_of_lt (Int.pow_pos (by omega)))]
 rfl
theorem nC{n:Nat}(h:n≤140737488355328):db n 1=true:=cS (by omega) (by omega)
abbrev dA.D:=Bs
def dA.st:dA.D→SA:=fun sv=>([.d tB sv],[])
abbrev dA.Y:=Nat×(List Int)
abbrev dA.X:=Nat×(List Int)
def dA.out:dA.X→ba:=fun x=>⟨.bH (.new 0 0) 0 [] 0 0 x.1,[],[.obj 0 false (.vec 5 tb x.2)]⟩
def dA.add:dA.D→dA.Y→dA.X:=fun sv y=>y
def dA.av:dA.D→Prop:=fun b=>b.length≤140737488355328
def dA.F:dA.D→dA.Y:=fun b=>(b.length,b)
noncomputable def dA.G:ed:=fk (P:=Tryz.prog) []
noncomputable def dA.an:eQ:= {bX:=[5],iE:=[⟨2,[],5,140⟩]}
noncomputable def dA.A:= @cY Tryz.prog dA.G dA.an 0 Tryz.f200 _ dA.st
abbrev dA.Ok:=dd @dA.A dA.av dA.add dA.F dA.out
theorem dA.eq{R:Type}(sv:Bs)(k:ba→Option R):dA.A sv k=
  aG (decide (0 < (List.length sv))) (
   aG (db (0+(List.length sv)) 1) (
   k (dA.out ((0+(List.length sv)),((List.take 0 (List.replicate 0 (0:Int)))++sv)))) none) (
   nd (
    k (dA.out (0,([]:List Int)))) (
    aG (db (0+(List.length sv)) 1) (
    k (dA.out ((0+(List.length sv)),((List.take 0 (List.replicate 0 (0:Int)))++sv)))) none)):=by kernel_rfl
theorem dA.ok:dA.Ok:=by
 intro b hb
 have hr:db b.length 1=true:=nC hb
 rw[dA.eq]
 have e0:(List.take 0 (List.replicate 0 0):List Int)=[]:=rfl
 simp only[Nat.zero_add,hr,ae,e0,List.nil_append,dA.add,dA.F]
 by_cases h:0 < b.length
 ·simp only[aZ h,ae]
 ·have:b=[]:=List.eq_nil_of_length_eq_zero (by omega)
  subst this
  simp only[List.length_nil,nU,bo (Nat.lt_irrefl 0),ag]
noncomputable def dA.E:=Entry.cD [some tB] dA.st dA.av dA.add dA.F dA.out
noncomputable def dA.call:dA.D→Option dA.X:=bS dA.E dA.st
theorem dA.run:bM dA.call dA.av dA.add dA.F:=dq (df [.d tB] fun _=>by kernel_rfl)
noncomputable def dA.sg:SG Tryz.prog:=⟨200,aR,dA.E,.fn 0 (by kernel_rfl) dA.ok trivial⟩
abbrev eT.D:=Int
def eT.st:eT.D→SA:=fun n=>([.dV,.d ti n],[])
abbrev eT.Y:=Nat×(List Int)
abbrev eT.X:=Nat×(List Int)
def eT.out:eT.X→ba:=fun x=>⟨.bH (.new 0 0) 0 [] 0 0 x.1,[],[.obj 0 false (.vec 5 tb x.2)]⟩
def eT.add:eT.D→eT.Y→eT.X:=fun n y=>y
def eT.av:eT.D→Prop:=fun _=>True
def eT.F:eT.D→eT.Y:=fun n=>(8,iQ n)
noncomputable def eT.G:ed:=fk (P:=Tryz.prog) []
noncomputable def eT.an:eQ:= {loops:=jB [(2,{bn:=[0,1,5],sites:=[16]})],outs:=jA [(2,{bn:=[0],sites:=[16]},{bn:=[4],sites:=[16]})],iE:=[⟨4,[],16,140⟩]}
noncomputable def eT.A:= @cY Tryz.prog eT.G eT.an 12 Tryz.f143 _ eT.st
abbrev eT.Ok:=dd @eT.A eT.av eT.add eT.F eT.out
theorem eT.eq{R:Type}(n:Int)(k:ba→Option R):eT.A n k=
 k (eT.out (8,[(dR .u8 (cg .i64 n (56:Int))),(dR .u8 (cg .i64 n (48:Int))),(dR .u8 (cg .i64 n (40:Int))),(dR .u8 (cg .i64 n (32:Int))),(dR .u8 (cg .i64 n (24:Int))),(dR .u8 (cg .i64 n (16:Int))),(dR .u8 (cg .i64 n (8:Int))),(dR .u8 (cg .i64 n (0:Int)))])):=by kernel_rfl
theorem zB(n:Int): [dR .u8 (cg .i64 n 56),dR .u8 (cg .i64 n 48),dR .u8 (cg .i64 n 40),dR .u8 (cg .i64 n 32),dR .u8 (cg .i64 n 24),dR .u8 (cg .i64 n 16),dR .u8 (cg .i64 n 8),dR .u8 (cg .i64 n 0)]=iQ n:=by
 rw[j9 n 56 (by omega) (by omega),j9 n 48 (by omega) (by omega),j9 n 40 (by omega) (by omega),j9 n 32 (by omega) (by omega),j9 n 24 (by omega) (by omega),j9 n 16 (by omega) (by omega),j9 n 8 (by omega) (by omega),j9 n 0 (by omega) (by omega)]
 simp[iQ]
theorem eT.ok:eT.Ok:=by
 intro n _
 rw[eT.eq,zB]
 rfl
noncomputable def eT.E:=Entry.cD [none,some ti] eT.st eT.av eT.add eT.F eT.out
noncomputable def eT.call:eT.D→Option eT.X:=bS eT.E eT.st
theorem eT.run:bM eT.call eT.av eT.add eT.F:=dq (df [.d ti] fun _=>by kernel_rfl)
noncomputable def eT.sg:SG Tryz.prog:=⟨143,BY,eT.E,.fn 1 (by kernel_rfl) eT.ok (And.intro (.none (by kernel_rfl)) trivial)⟩
abbrev eb.D:=Nat×Int×Bs
def eb.st:eb.D→SA:=fun(bL,n,o0)=>([.bH (.dx 0) 0 [] 0 0 bL,.d ti n],[.obj 0 false (.vec 5 tb o0)])
abbrev eb.Y:=Nat×(List Int)
abbrev eb.X:=Nat×(List Int)
def eb.out:eb.X→ba:=fun x=>⟨.bH (.dx 0) 8 [] 0 0 x.1,[.obj 8 false (.vec 5 tb x.2)],[]⟩
def eb.add:eb.D→eb.Y→eb.X:=fun(bL,n,o0) y=>y
def eb.av:eb.D→Prop:=fun(m,n,l)=>m=l.length∧l.length≤140737488355320
def eb.F:eb.D→eb.Y:=fun(m,n,l)=>(l.length+8,l++iQ n)
noncomputable def eb.G:ed:=fk (P:=Tryz.prog) []
noncomputable def eb.an:eQ:= {loops:=jB [(2,{bn:=[0,1,5],sites:=[16]})],outs:=jA [(2,{bn:=[0],sites:=[16]},{bn:=[4],sites:=[16]})]}
noncomputable def eb.A:= @cY Tryz.prog eb.G eb.an 12 Tryz.f143 _ eb.st
abbrev eb.Ok:=dd @eb.A eb.av eb.add eb.F eb.out
theorem eb.eq{R:Type}(bL:Nat)(n:Int)(o0:Bs)(k:ba→Option R):eb.A (bL,n,o0) k=
 aG (decide (bL≤(List.length o0))) (
 aG (db (bL+1) 1) (
 aG (decide ((bL+1)≤(List.length ((List.take bL o0)++ [(dR .u8 (cg .i64 n (56:Int)))])))) (
 aG (db ((bL+1)+1) 1) (
 aG (decide (((bL+1)+1)≤(List.length ((List.take (bL+1) ((List.take bL o0)++ [(dR .u8 (cg .i64 n (56:Int)))]))++ [(dR .u8 (cg .i64 n (48:Int)))])))) (
 aG (db (((bL+1)+1)+1) 1) (
 aG (decide ((((bL+1)+1)+1)≤(List.length ((List.take ((bL+1)+1) ((List.take (bL+1) ((List.take bL o0)++ [(dR .u8 (cg .i64 n (56:Int)))]))++ [(dR .u8 (cg .i64 n (48:Int)))]))++ [(dR .u8 (cg .i64 n (40:Int)))])))) (
 aG (db ((((bL+1)+1)+1)+1) 1) (
 aG (decide (((((bL+1)+1)+1)+1)≤(List.length ((List.take (((bL+1)+1)+1) ((List.take ((bL+1)+1) ((List.take (bL+1) ((List.take bL o0)++ [(dR .u8 (cg .i64 n (56:Int)))]))++ [(dR .u8 (cg .i64 n (48:Int)))]))++ [(dR .u8 (cg .i64 n (40:Int)))]))++ [(dR .u8 (cg .i64 n (32:Int)))])))) (
 aG (db (((((bL+1)+1)+1)+1)+1) 1) (
 aG (decide ((((((bL+1)+1)+1)+1)+1)≤(List.length ((List.take ((((bL+1)+1)+1)+1) ((List.take (((bL+1)+1)+1) ((List.take ((bL+1)+1) ((List.take (bL+1) ((List.take bL o0)++ [(dR .u8 (cg .i64 n (56:Int)))]))++ [(dR .u8 (cg .i64 n (48:Int)))]))++ [(dR .u8 (cg .i64 n (40:Int)))]))++ [(dR .u8 (cg .i64 n (32:Int)))]))++ [(dR .u8 (cg .i64 n (24:Int)))])))) (
 aG (db ((((((bL+1)+1)+1)+1)+1)+1) 1) (
 aG (decide (((((((bL+1)+1)+1)+1)+1)+1)≤(List.length ((List.take (((((bL+1)+1)+1)+1)+1) ((List.take ((((bL+1)+1)+1)+1) ((List.take (((bL+1)+1)+1) ((List.take ((bL+1)+1) ((List.take (bL+1) ((List.take bL o0)++ [(dR .u8 (cg .i64 n (56:Int)))]))++ [(dR .u8 (cg .i64 n (48:Int)))]))++ [(dR .u8 (cg .i64 n (40:Int)))]))++ [(dR .u8 (cg .i64 n (32:Int)))]))++ [(dR .u8 (cg .i64 n (24:Int)))]))++ [(dR .u8 (cg .i64 n (16:Int)))])))) (
 aG (db (((((((bL+1)+1)+1)+1)+1)+1)+1) 1) (
 aG (decide ((((((((bL+1)+1)+1)+1)+1)+1)+1)≤(List.length ((List.take ((((((bL+1)+1)+1)+1)+1)+1) ((List.take (((((bL+1)+1)+1)+1)+1) ((List.take ((((bL+1)+1)+1)+1) ((List.take (((bL+1)+1)+1) ((List.take ((bL+1)+1) ((List.take (bL+1) ((List.take bL o0)++ [(dR .u8 (cg .i64 n (56:Int)))]))++ [(dR .u8 (cg .i64 n (48:Int)))]))++ [(dR .u8 (cg .i64 n (40:Int)))]))++ [(dR .u8 (cg .i64 n (32:Int)))]))++ [(dR .u8 (cg .i64 n (24:Int)))]))++ [(dR .u8 (cg .i64 n (16:Int)))]))++ [(dR .u8 (cg .i64 n (8:Int)))])))) (
 aG (db ((((((((bL+1)+1)+1)+1)+1)+1)+1)+1) 1) (
 k (eb.out (((((((((bL+1)+1)+1)+1)+1)+1)+1)+1),((List.take (((((((bL+1)+1)+1)+1)+1)+1)+1) ((List.take ((((((bL+1)+1)+1)+1)+1)+1) ((List.take (((((bL+1)+1)+1)+1)+1) ((List.take ((((bL+1)+1)+1)+1) ((List.take (((bL+1)+1)+1) ((List.take ((bL+1)+1) ((List.take (bL+1) ((List.take bL o0)++ [(dR .u8 (cg .i64 n (56:Int)))]))++ [(dR .u8 (cg .i64 n (48:Int)))]))++ [(dR .u8 (cg .i64 n (40:Int)))]))++ [(dR .u8 (cg .i64 n (32:Int)))]))++ [(dR .u8 (cg .i64 n (24:Int)))]))++ [(dR .u8 (cg .i64 n (16:Int)))]))++ [(dR .u8 (cg .i64 n (8:Int)))]))++ [(dR .u8 (cg .i64 n (0:Int)))])))) none) none) none) none) none) none) none) none) none) none) none) none) none) none) none) none:=by kernel_rfl
theorem eb.ok:eb.Ok:=by
 rintro⟨m,n,l⟩ ⟨rfl,hl⟩
 have hl:l.length≤140737488355320:=hl
 rw[eb.eq]
 simp only[Nat.le_refl,decide_true,ae,List.take_of_length_le,List.length_append,List.length_cons,List.length_nil,Nat.zero_add]
 rw[nC (by omega),nC (by omega),nC (by omega),nC (by omega),nC (by omega),nC (by omega),nC (by omega),nC (by omega)]
 simp only[ae,eb.add,eb.F,←zB,List.append_assoc,List.cons_append,List.nil_append]
noncomputable def eb.E:=Entry.cD [none,some ti] eb.st eb.av eb.add eb.F eb.out
noncomputable def eb.call:eb.D→Option eb.X:=bS eb.E eb.st
theorem eb.run:bM eb.call eb.av eb.add eb.F:=dq (df [.n,.d ti,.d tB] fun _=>by kernel_rfl)
noncomputable def eb.sg:SG Tryz.prog:=⟨143,wx,eb.E,.fn 1 (by kernel_rfl) eb.ok (And.intro (.none (by kernel_rfl)) trivial)⟩
set_option synthInstance.maxSize 5000
abbrev aN.L0.D:=Bs×Nat×Bs×(List Int)
def aN.L0.st:aN.L0.D→AS:=fun(b_2,endL,n2,n14)=>⟨([.d tB b_2,.undef,.ptr (.new 2 0) 0 [] 0,.bH (.new 14 0) 0 [] 0 0 endL]++bl 61 []),[],([[],[],[.obj 0 false (.d tH n2)]]++ch 11 ([[.obj 0 false (.vec 5 tb n14)]]++ch 50 []))⟩
abbrev aN.L0.Y0:=Nat×(List Int)
abbrev aN.L0.X0:=(Bs×Bs)×(Nat×(List Int))
def aN.L0.bp:aN.L0.X0→Exit×AS:=fun x=>(.exit 0,⟨([.d tB x.1.1,.undef,.ptr (.new 2 0) 0 [] 0,.bH (.new 14 0) 0 [] 0 0 x.2.1]++bl 61 []),[],([[],[],[.obj 0 false (.d tH x.1.2)]]++ch 11 ([[.obj 0 false (.vec 5 tb x.2.2)]]++ch 50 []))⟩)
abbrev aN.L0.X:=aN.L0.X0
abbrev aN.L0.Y:=aN.L0.Y0
def aN.L0.out:aN.L0.X→Out (Exit×AS):=fun x=> .ok (aN.L0.bp x)
def aN.L0.add:aN.L0.D→aN.L0.Y→aN.L0.X:=fun(b_2,endL,n2,n14) y=>((b_2,n2),y)
abbrev aN.L1.D:=Bs×Nat×Bs×(List Int)×(List Int)
def aN.L1.st:aN.L1.D→AS:=fun(b_3,endL_2,n2_2,n4,n14_2)=>⟨([.d tB b_3,.undef,.ptr (.new 2 0) 0 [] 0,.bH (.new 14 0) 8 [] 0 0 endL_2,.ptr (.new 4 0) 0 [] 0]++bl 60 []),[],([[],[],[.obj 0 false (.d tH n2_2)],[],[.obj 0 false (.d (.arr 8 (.int .u32)) n4)]]++ch 9 ([[.obj 8 false (.vec 5 tb n14_2)]]++ch 50 []))⟩
abbrev aN.L1.Y0:=(List Int)
abbrev aN.L1.X0:=(Nat×Bs×(List Int))×((List Int))
def aN.L1.bp:aN.L1.X0→Exit×AS:=fun x=>(.exit 2,⟨([.undef,.undef,.ptr (.new 2 0) 0 [] 0,.bH (.new 14 0) 8 [] 0 0 x.1.1,.ptr (.new 4 0) 0 [] 0]++bl 60 []),[],([[],[],[.obj 0 false (.d tH x.1.2.1)],[],[.obj 0 false (.d (.arr 8 (.int .u32)) x.2)]]++ch 9 ([[.obj 8 false (.vec 5 tb x.1.2.2)]]++ch 50 []))⟩)
abbrev aN.L1.X:=aN.L1.X0
abbrev aN.L1.Y:=aN.L1.Y0
def aN.L1.out:aN.L1.X→Out (Exit×AS):=fun x=> .ok (aN.L1.bp x)
def aN.L1.add:aN.L1.D→aN.L1.Y→aN.L1.X:=fun(b_3,endL_2,n2_2,n4,n14_2) y=>((endL_2,n2_2,n14_2),y)
abbrev aN.L2.D:=Bs×Bs×(List Int)
def aN.L2.st:aN.L2.D→AS:=fun(endv,n2_3,n4_2)=>⟨([.undef,.undef,.ptr (.new 2 0) 0 [] 0,.d tB endv,.ptr (.new 4 0) 0 [] 0]++bl 60 []),[],([[],[],[.obj 0 false (.d tH n2_3)],[],[.obj 0 false (.d (.arr 8 (.int .u32)) n4_2)]]++ch 60 [])⟩
abbrev aN.L2.Y0:=(List Int)
abbrev aN.L2.X0:=(Bs)×((List Int))
def aN.L2.bp:aN.L2.X0→Exit×AS:=fun x=>(.exit 4,⟨([.undef,.undef,.ptr (.new 2 0) 0 [] 0,.undef,.ptr (.new 4 0) 0 [] 0]++bl 60 []),[],([[],[],[.obj 0 false (.d tH x.1)],[],[.obj 0 false (.d (.arr 8 (.int .u32)) x.2)]]++ch 60 [])⟩)
abbrev aN.L2.X:=aN.L2.X0
abbrev aN.L2.Y:=aN.L2.Y0
def aN.L2.out:aN.L2.X→Out (Exit×AS):=fun x=> .ok (aN.L2.bp x)
def aN.L2.add:aN.L2.D→aN.L2.Y→aN.L2.X:=fun(endv,n2_3,n4_2) y=>(n2_3,y)
abbrev aN.L3.D:=Int×Bs×(List Int)
def aN.L3.st:aN.L3.D→AS:=fun(t48,n2_4,n4_3)=>⟨([.undef,.undef,.ptr (.new 2 0) 0 [] 0,.undef,.ptr (.new 4 0) 0 [] 0]++bl 43 ([.d ti t48]++bl 16 [])),[],([[],[],[.obj 0 false (.d tH n2_4)],[],[.obj 0 false (.d (.arr 8 (.int .u32)) n4_3)]]++ch 60 [])⟩
abbrev aN.L3.Y0:=Bs
abbrev aN.L3.X0:=Bs
def aN.L3.bp:aN.L3.X0→Exit×AS:=fun x=>(.exit 6,⟨([.undef,.undef,.ptr (.new 2 0) 0 [] 0]++bl 62 []),[],([[],[],[.obj 0 false (.d tH x)]]++ch 62 [])⟩)
abbrev aN.L3.X:=aN.L3.X0
abbrev aN.L3.Y:=aN.L3.Y0
def aN.L3.out:aN.L3.X→Out (Exit×AS):=fun x=> .ok (aN.L3.bp x)
def aN.L3.add:aN.L3.D→aN.L3.Y→aN.L3.X:=fun(t48,n2_4,n4_3) y=>y
abbrev aN.D:=Bs
def aN.st:aN.D→SA:=fun b=>([.d tB b],[])
abbrev aN.Y:=Bs
abbrev aN.X:=Bs
def aN.out:aN.X→ba:=fun x=>⟨.d tH x,[],[]⟩
def aN.add:aN.D→aN.Y→aN.X:=fun b y=>y
def zc(n:Nat):Nat:=(120 - n%64)%64
def aN.L0.av:aN.L0.D→Prop:=fun(b,m,n2,l)=>m=l.length∧l.length+zc l.length≤140737488355328
def aN.L0.F:aN.L0.D→aN.L0.Y:=fun(b,m,n2,l)=>(l.length+zc l.length,l++List.replicate (zc l.length) 0)
def aN.L1.av:aN.L1.D→Prop:=fun(b,m,n2,h,l)=>∃s:St,h=s.l
def aN.L1.F:aN.L1.D→aN.L1.Y:=fun(b,m,n2,h,l)=>(blocks (xz h) b).l
def aN.L2.av:aN.L2.D→Prop:=fun(b,n2,h)=>b.length%64=0∧∃s:St,h=s.l
def aN.L2.F:aN.L2.D→aN.L2.Y:=fun(b,n2,h)=>(blocks (xz h) b).l
def pC(h:List Int)(i:Nat)(_:Int):Int:=dR .u8 (cg .u32 (nth (.int .u32) h (i / 4)) ((24 - 8*(i%4):Nat):Int))
def aN.L3.av:aN.L3.D→Prop:=fun(t,n2,h)=>n2.length=32∧h.length=8∧∃k:Nat,k≤32∧t=k
def aN.L3.F:aN.L3.D→aN.L3.Y:=fun(t,n2,h)=>from_ (pC h) t.toNat n2
def aN.av:aN.D→Prop:=fun b=>b.length≤140737488350000
def aN.F:aN.D→aN.Y:=fun b=>Gi b
noncomputable def aN.G:ed:=fk (P:=Tryz.prog) [dA.sg,eb.sg,first.sg,mix.sg]
noncomputable def aN.L0.E:=bU.cD aN.L0.st aN.L0.av aN.L0.add aN.L0.F aN.L0.out
noncomputable def aN.L0.call:aN.L0.D→Option aN.L0.X:=dw aN.L0.E aN.L0.st
noncomputable def aN.L1.E:=bU.cD aN.L1.st aN.L1.av aN.L1.add aN.L1.F aN.L1.out
noncomputable def aN.L1.call:aN.L1.D→Option aN.L1.X:=dw aN.L1.E aN.L1.st
noncomputable def aN.L2.E:=bU.cD aN.L2.st aN.L2.av aN.L2.add aN.L2.F aN.L2.out
noncomputable def aN.L2.call:aN.L2.D→Option aN.L2.X:=dw aN.L2.E aN.L2.st
noncomputable def aN.L3.E:=bU.cD aN.L3.st aN.L3.av aN.L3.add aN.L3.F aN.L3.out
noncomputable def aN.L3.call:aN.L3.D→Option aN.L3.X:=dw aN.L3.E aN.L3.st
noncomputable def aN.an:eQ:= {loops:=jB [(2,{bn:=[0,2,3],sites:=[2,14],iE:=[⟨3,[],14,140⟩]}),(6,{bn:=[0,2,3,4],sites:=[2,4,14]}),(9,{bn:=[2,3,4],sites:=[2,4],data:=[(3,tB)]}),(13,{bn:=[2,4,48],sites:=[2,4]})],outs:=jA [(2,{bn:=[0,2,3],sites:=[2,14]},{bn:=[2]}),(6,{bn:=[2,3,4],sites:=[2,4,14]},{bn:=[2]}),(9,{bn:=[2,4],sites:=[2,4]},{bn:=[2]}),(13,{bn:=[2],sites:=[2]},{bn:=[2]})],fC:=kf [(2,aN.L0.E),(6,aN.L1.E),(9,aN.L2.E),(13,aN.L3.E)]}
noncomputable def aN.A:= @cY Tryz.prog aN.G aN.an 0 Tryz.f144 _ aN.st
abbrev aN.Ok:=dd @aN.A aN.av aN.add aN.F aN.out
noncomputable def aN.L0.R:= @cj Tryz.prog aN.G aN.an 0 Tryz.f144 0 _ aN.L0.st
abbrev aN.L0.Ok:=ew Tryz.prog aN.G aN.an 0 Tryz.f144 0 aN.L0.st aN.L0.av aN.L0.add aN.L0.F aN.L0.out
noncomputable def aN.L1.R:= @cj Tryz.prog aN.G aN.an 0 Tryz.f144 1 _ aN.L1.st
abbrev aN.L1.Ok:=ew Tryz.prog aN.G aN.an 0 Tryz.f144 1 aN.L1.st aN.L1.av aN.L1.add aN.L1.F aN.L1.out
noncomputable def aN.L2.R:= @cj Tryz.prog aN.G aN.an 0 Tryz.f144 2 _ aN.L2.st
abbrev aN.L2.Ok:=ew Tryz.prog aN.G aN.an 0 Tryz.f144 2 aN.L2.st aN.L2.av aN.L2.add aN.L2.F aN.L2.out
noncomputable def aN.L3.R:= @cj Tryz.prog aN.G aN.an 0 Tryz.f144 3 _ aN.L3.st
abbrev aN.L3.Ok:=ew Tryz.prog aN.G aN.an 0 Tryz.f144 3 aN.L3.st aN.L3.av aN.L3.add aN.L3.F aN.L3.out
theorem aN.L0.run:bM aN.L0.call aN.L0.av aN.L0.add aN.L0.F:=eM (eL [.d tB,.n,.d tB,.d tB] fun _=>by kernel_rfl)
theorem aN.L0.aB:fQ @aN.L0.R aN.L0.st aN.L0.av aN.L0.add aN.L0.F aN.L0.bp aN.L0.Ok:=fU
theorem aN.L0.step{R:Type}(b_2:Bs)(endL:Nat)(n2:Bs)(n14:(List Int))(kn:AS→Option R)(kx:Exit→AS→Option R):aN.L0.R (b_2,endL,n2,n14) kn kx=
  aG ((mM (gT ((endL:Nat):Int) (64:Int)) (56:Int))) (
   aG (decide (endL≤(List.length n14))) (
   aG (db (endL+1) 1) (
   kn (aN.L0.st (b_2,(endL+1),n2,((List.take endL n14)++ [(0:Int)])))) none) none) (
   kx (aN.L0.bp ((b_2,n2),(endL,n14))).1 (aN.L0.bp ((b_2,n2),(endL,n14))).2):=by kernel_rfl
theorem aN.L1.run:bM aN.L1.call aN.L1.av aN.L1.add aN.L1.F:=eM (eL [.d tB,.n,.d tB,.d (.slice (.int .u32)),.d tB] fun _=>by kernel_rfl)
theorem aN.L1.aB:fQ @aN.L1.R aN.L1.st aN.L1.av aN.L1.add aN.L1.F aN.L1.bp aN.L1.Ok:=fU
theorem aN.L1.step{R:Type}(b_3:Bs)(endL_2:Nat)(n2_2:Bs)(n4:(List Int))(n14_2:(List Int))(kn:AS→Option R)(kx:Exit→AS→Option R):aN.L1.R (b_3,endL_2,n2_2,n4,n14_2) kn kx=
  aG ((nv (((List.length b_3):Nat):Int) (64:Int))) (
   aG (inc (64:Int) (((List.length b_3):Nat):Int)) (
   ah (mix.call (n4,(cut b_3 0 64))) fun x1=>
   aG (inc (64:Int) (((List.length b_3):Nat):Int)) (
   kn (aN.L1.st ((cut b_3 64 ((List.length b_3) - 64)),endL_2,n2_2,x1,n14_2))) none) none) (
   kx (aN.L1.bp ((endL_2,n2_2,n14_2),n4)).1 (aN.L1.bp ((endL_2,n2_2,n14_2),n4)).2):=by kernel_rfl
theorem aN.L2.run:bM aN.L2.call aN.L2.av aN.L2.add aN.L2.F:=eM (eL [.d tB,.d tB,.d (.slice (.int .u32))] fun _=>by kernel_rfl)
theorem aN.L2.aB:fQ @aN.L2.R aN.L2.st aN.L2.av aN.L2.add aN.L2.F aN.L2.bp aN.L2.Ok:=fU
theorem aN.L2.step{R:Type}(endv:Bs)(n2_3:Bs)(n4_2:(List Int))(kn:AS→Option R)(kx:Exit→AS→Option R):aN.L2.R (endv,n2_3,n4_2) kn kx=
  aG ((nN (((List.length endv):Nat):Int) (0:Int))) (
   aG (inc (64:Int) (((List.length endv):Nat):Int)) (
   ah (mix.call (n4_2,(cut endv 0 64))) fun x1=>
   aG (inc (64:Int) (((List.length endv):Nat):Int)) (
   kn (aN.L2.st ((cut endv 64 ((List.length endv) - 64)),n2_3,x1))) none) none) (
   kx (aN.L2.bp (n2_3,n4_2)).1 (aN.L2.bp (n2_3,n4_2)).2):=by kernel_rfl
theorem aN.L3.run:bM aN.L3.call aN.L3.av aN.L3.add aN.L3.F:=eM (eL [.d ti,.d tB,.d (.slice (.int .u32))] fun _=>by kernel_rfl)
theorem aN.L3.aB:fQ @aN.L3.R aN.L3.st aN.L3.av aN.L3.add aN.L3.F aN.L3.bp aN.L3.Ok:=fU
theorem aN.L3.step{R:Type}(t48:Int)(n2_4:Bs)(n4_3:(List Int))(kn:AS→Option R)(kx:Exit→AS→Option R):aN.L3.R (t48,n2_4,n4_3) kn kx=
  aG ((fM t48 (32:Int))) (
   aG (eI (ke .i64 t48 (4:Int)) (8:Int)) (
   aG (decide ((Int.toNat (ke .i64 t48 (4:Int))) < (List.length n4_3))) (
   aG (decide ((((Int.toNat (ke .i64 t48 (4:Int)))*1)+0)=(0+((Int.toNat (ke .i64 t48 (4:Int)))*1)))) (
   aG (iC (da .i64 (24:Int) (fq .i64 (8:Int) (gT t48 (4:Int))))) (
   aG (eI t48 (32:Int)) (
   aG (decide ((Int.toNat t48) < (List.length n2_4))) (
   aG (decide ((((Int.toNat t48)*1)+0)=(0+((Int.toNat t48)*1)))) (
   aG (decide ((Int.toNat t48) < (List.length n2_4))) (
   kn (aN.L3.st ((bN .i64 t48 (1:Int)),(List.set n2_4 (Int.toNat t48) (dR .u8 (cg .u32 (nth (.int .u32) n4_3 (Int.toNat (ke .i64 t48 (4:Int)))) (da .i64 (24:Int) (fq .i64 (8:Int) (gT t48 (4:Int))))))),n4_3))) none) none) none) none) none) none) none) none) (
   kx (aN.L3.bp n2_4).1 (aN.L3.bp n2_4).2):=by kernel_rfl
theorem aN.eq{R:Type}(b:Bs)(k:ba→Option R):aN.A b k=
 aG (inc (da .i64 (((List.length b):Nat):Int) (gT (((List.length b):Nat):Int) (64:Int))) (((List.length b):Nat):Int)) (
 ah (dA.call (cut b (Int.toNat (da .i64 (((List.length b):Nat):Int) (gT (((List.length b):Nat):Int) (64:Int)))) ((List.length b) - (Int.toNat (da .i64 (((List.length b):Nat):Int) (gT (((List.length b):Nat):Int) (64:Int))))))) fun x1=>
 aG (decide (x1.1≤(List.length x1.2))) (
 aG (db (x1.1+1) 1) (
 ah (aN.L0.call (b,(x1.1+1),(List.replicate 32 (0:Int)),((List.take x1.1 x1.2)++ [(128:Int)]))) fun x2=>
 ah (eb.call (x2.2.1,(fq .i64 (8:Int) (((List.length x2.1.1):Nat):Int)),x2.2.2)) fun x3=>
 ah (first.call ()) fun x4=>
 ah (aN.L1.call (x2.1.1,x3.1,x2.1.2,x4,x3.2)) fun x6=>
 aG (decide (0=0∧(0+x6.1.1)≤(List.length x6.1.2.2))) (
 ah (aN.L2.call ((cut x6.1.2.2 0 x6.1.1),x6.1.2.1,x6.2)) fun x9=>
 ah (aN.L3.call ((0:Int),x9.1,x9.2)) fun x10=>
 k (aN.out x10)) none) none) none) none:=by kernel_rfl
theorem aN.L0.ok:aN.L0.Ok:=by
 refine aN.L0.aB (fun(b,m,n2,l)=>zc l.length) ?_
 rintro⟨b,m,n2,l⟩ ⟨rfl,hl⟩
 have hl:l.length+zc l.length≤140737488355328:=hl
 have hr:gT ((l.length:Nat):Int) 64=((l.length%64:Nat):Int):=by
  unfold gT
  rw[Int.tmod_eq_emod_of_nonneg (by omega)]
  omega
 by_cases h:l.length%64=56
 ·right
  intro R kn kx
  have hz:zc l.length=0:=by unfold zc;omega
  rw[aN.L0.step,hr,ct (by omega)]
  simp only[ag,aN.L0.add,aN.L0.F,hz,Nat.add_zero,List.replicate_zero,List.append_nil]
 ·left
  have hz:zc l.length=zc (l.length+1)+1:=by unfold zc;omega
  refine⟨(b,l.length+1,n2,l++ [0]),⟨by simp,by simp only[List.length_append,List.length_cons,List.length_nil,Nat.zero_add];omega⟩,by simp only[List.length_append,List.length_cons,List.length_nil,Nat.zero_add];omega,?_,fun kn kx=> ?_⟩
  ·simp only[aN.L0.add,aN.L0.F,List.length_append,List.length_cons,List.length_nil,Nat.zero_add,hz,List.append_assoc,List.cons_append,List.nil_append,List.replicate_succ]
   rw[show l.length+1+zc (l.length+1)=l.length+(zc (l.length+1)+1) by omega]
  ·rw[aN.L0.step,hr,fg (by omega),nC (by omega)]
   simp only[ae,Nat.le_refl,decide_true,List.take_length]
theorem aN.L1.ok:aN.L1.Ok:=by
 refine aN.L1.aB (fun(b,m,n2,h,l)=>b.length) ?_
 rintro⟨b,m,n2,h,l⟩ ⟨s,rfl⟩
 by_cases hb:64≤b.length
 ·left
  have e1:cut b 64 (b.length - 64)=b.drop 64:=by unfold cut;rw[List.take_of_length_le (by simp)]
  have e2:cut b 0 64=b.take 64:=rfl
  have hp:mix.av (s.l,b.take 64):=⟨⟨s,rfl⟩,by simp;omega⟩
  refine⟨(b.drop 64,m,n2,(rU s (b.take 64)).l,l),⟨_,rfl⟩,by simp;omega,?_,fun kn kx=> ?_⟩
  ·simp only[aN.L1.add,aN.L1.F,iS]
   rw[oA s b hb]
  ·rw[aN.L1.step,fF (by omega),jH (by omega) (by omega),e1,e2]
   simp only[ae,mix.run hp,aa,mix.add,mix.F,iS]
 ·right
  intro R kn kx
  rw[aN.L1.step,eZ (by omega)]
  simp only[ag,aN.L1.add,aN.L1.F,iS]
  rw[nF s b (by omega)]
theorem aN.L2.ok:aN.L2.Ok:=by
 refine aN.L2.aB (fun(b,n2,h)=>b.length) ?_
 rintro⟨b,n2,h⟩ ⟨hm,s,rfl⟩
 have hm:b.length%64=0:=hm
 by_cases hb:0 < b.length
 ·left
  have e1:cut b 64 (b.length - 64)=b.drop 64:=by unfold cut;rw[List.take_of_length_le (by simp)]
  have e2:cut b 0 64=b.take 64:=rfl
  have hp:mix.av (s.l,b.take 64):=⟨⟨s,rfl⟩,by simp;omega⟩
  refine⟨(b.drop 64,n2,(rU s (b.take 64)).l),⟨by simp;omega,_,rfl⟩,by simp;omega,?_,fun kn kx=> ?_⟩
  ·simp only[aN.L2.add,aN.L2.F,iS]
   rw[oA s b (by omega)]
  ·rw[aN.L2.step,dY (by omega),jH (by omega) (by omega),e1,e2]
   simp only[ae,mix.run hp,aa,mix.add,mix.F,iS]
 ·right
  intro R kn kx
  rw[aN.L2.step,dI (by omega)]
  simp only[ag,aN.L2.add,aN.L2.F,iS]
  rw[nF s b (by omega)]
theorem aN.L3.ok:aN.L3.Ok:=by
 refine aN.L3.aB (fun(t,n2,h)=>32 - t.toNat) ?_
 rintro⟨t,m,h⟩ ⟨hl,h8,k,hk,rfl⟩
 have hl:m.length=32:=hl
 have h8:h.length=8:=h8
 have e2:Int.toNat (k:Int)=k:=by omega
 have e3:Int.toNat ((k+1:Nat):Int)=k+1:=by omega
 by_cases hlt:k < 32
 ·left
  have e1:bN .i64 (k:Int) 1=((k+1:Nat):Int):=by rw[gF (by omega) (by omega)];omega
  have q4:ke .i64 (k:Int) 4=((k / 4:Nat):Int):=by
   have:(k:Int).tdiv 4=((k / 4:Nat):Int):=by rw[Int.tdiv_eq_ediv_of_nonneg (by omega)];omega
   unfold ke
   rw[this,mj (by omega) (by omega)]
  have r4:gT (k:Int) 4=((k%4:Nat):Int):=by
   unfold gT
   rw[Int.tmod_eq_emod_of_nonneg (by omega)]
   omega
  have s4:da .i64 24 (fq .i64 8 ((k%4:Nat):Int))=((24 - 8*(k%4):Nat):Int):=by
   rw[oJ (by omega) (by omega),eS (by omega) (by omega)]
   omega
  have e4:Int.toNat ((k / 4:Nat):Int)=k / 4:=by omega
  refine⟨(((k+1:Nat):Int),m.set k (pC h k m[k]),h),⟨by simpa using hl,h8,k+1,by omega,rfl⟩,by simp;omega,?_,fun kn kx=> ?_⟩
  ·simp only[aN.L3.add,aN.L3.F,e2,e3]
   rw[pb (pC h) m k (by omega)]
  ·have d0:decide (k < 32)=true:=aZ hlt
   have d1:decide (k / 4 < 8)=true:=aZ (by omega)
   rw[aN.L3.step,aW (by omega),q4,r4,s4,bm (by omega) (by omega),bm (by omega) (by omega),lu (by omega)]
   simp only[e1,e2,e4,Nat.mul_one,Nat.zero_add,Nat.add_zero,decide_true,ae,hl,h8,d0,d1,pC]
 ·right
  obtain rfl:k=32:=by omega
  intro R kn kx
  rw[aN.L3.step,aO (by omega)]
  simp only[ag,aN.L3.add,aN.L3.F,e2]
  rw[qD _ _ _ (by omega)]
theorem B3(w:W):BitVec.ofInt 8 (vw w)=w.setWidth 8:=by
 apply BitVec.eq_of_toNat_eq
 rw[BitVec.toNat_ofInt,BitVec.toNat_setWidth]
 unfold vw
 omega
theorem FH(w:W)(k:Int):dR .u8 (cg .u32 (vw w) k)=vw ((w >>> k.toNat).setWidth 8):=by
 rw[oL,rN,B3]
theorem A6(s:St):from_ (pC s.l) 0 (List.replicate 32 0)=EN s:=by
 rw[tM]
 simp only[List.range_eq_range',List.range',List.map_cons,List.map_nil,pC,Nat.reduceAdd,Nat.reduceDiv,Nat.reduceMod,Nat.reduceMul,Nat.reduceSub,n0,n1,n2,n3,n4,n5,n6,n7,FH]
 rfl
theorem aN.ok:aN.Ok:=by
 intro b hb
 have hb:b.length≤140737488350000:=hb
 have hr:gT ((b.length:Nat):Int) 64=((b.length%64:Nat):Int):=by
  unfold gT
  rw[Int.tmod_eq_emod_of_nonneg (by omega)]
  omega
 have hs:da .i64 ((b.length:Nat):Int) ((b.length%64:Nat):Int)=((b.length - b.length%64:Nat):Int):=by
  rw[eS (by omega) (by omega)];omega
 have hn:Int.toNat ((b.length - b.length%64:Nat):Int)=b.length - b.length%64:=by omega
 have hm:fq .i64 8 ((b.length:Nat):Int)=8*(b.length:Int):=oJ (by omega) (by omega)
 generalize hq:b.length - b.length%64=q at hs hn
 have hc:cut b q (b.length - q)=b.drop q:=by unfold cut;rw[List.take_of_length_le (by simp)]
 have hcl:(b.drop q).length=b.length%64:=by simp;omega
 have p1:dA.av (b.drop q):=by show(b.drop q).length≤_;omega
 rw[aN.eq,hr,hs,jH (by omega) (by omega),hn,hc]
 simp only[ae,dA.run p1,aa,dA.add,dA.F,Nat.le_refl,decide_true,List.take_length]
 have p2:aN.L0.av (b,(b.drop q).length+1,List.replicate 32 0,b.drop q++ [128]):=by
  refine⟨by simp,?_⟩
  simp only[List.length_append,List.length_cons,List.length_nil,zc]
  omega
 have hz:zc (b.drop q++ [128]).length=mr b.length:=by
  simp only[List.length_append,List.length_cons,List.length_nil,zc,mr]
  omega
 rw[nC (by omega)]
 simp only[ae,aN.L0.run p2,aa,aN.L0.add,aN.L0.F,hm,hz]
 have hlen:(b.drop q++ [128]).length+mr b.length=(b.drop q++ [128]++List.replicate (mr b.length) 0).length:=by rw[@List.length_append _ (b.drop q++ [128]),List.length_replicate]
 have p3:eb.av ((b.drop q++ [128]).length+mr b.length,8*(b.length:Int),b.drop q++ [128]++List.replicate (mr b.length) 0):=by
  refine⟨hlen,?_⟩
  simp only[List.length_append,List.length_cons,List.length_nil,List.length_replicate,mr]
  omega
 have p4:aN.L1.av (b,(b.drop q++ [128]++List.replicate (mr b.length) 0).length+8,List.replicate 32 0,jT.l,b.drop q++ [128]++List.replicate (mr b.length) 0++iQ (8*(b.length:Int))):=⟨jT,rfl⟩
 simp only[eb.run p3,aa,eb.add,eb.F,first.run (d:=()) trivial,first.add,first.F,aN.L1.run p4,aN.L1.add,aN.L1.F,iS]
 generalize he:b.drop q++ [128]++List.replicate (mr b.length) 0++iQ (8*(b.length:Int))=e
 have hel:(b.drop q++ [128]++List.replicate (mr b.length) 0).length+8=e.length:=by rw[←he,@List.length_append _ _ (iQ _),cq]
 have hem:e.length%64=0:=by
  rw[←hel]
  simp only[List.length_append,List.length_cons,List.length_nil,List.length_replicate,mr,hcl]
  omega
 have hce:cut e 0 ((b.drop q++ [128]++List.replicate (mr b.length) 0).length+8)=e:=by
  rw[hel];unfold cut;rw[List.drop_zero,List.take_length]
 rw[hce,hel,aZ ⟨trivial,by omega⟩]
 have p5:aN.L2.av (e,List.replicate 32 0,(blocks jT b).l):=⟨hem,blocks jT b,rfl⟩
 have p6:aN.L3.av (0,List.replicate 32 0,(blocks (blocks jT b) e).l):=⟨rfl,rfl,0,by omega,rfl⟩
 simp only[ae,aN.L2.run p5,aa,aN.L2.add,aN.L2.F,iS,aN.L3.run p6,aN.L3.add,aN.L3.F,aN.add,aN.F]
 rw[show Int.toNat 0=0 from rfl,A6]
 have hbl:blocks jT (pad b)=blocks (blocks jT b) e:=by
  have h1:pad b=b.take q++e:=by
   rw[←he]
   unfold pad
   rw[List.append_assoc,List.append_assoc,←List.append_assoc (b.take q),List.take_append_drop]
   rfl
  have h2:blocks jT b=blocks (blocks jT (b.take q)) (b.drop q):=by
   rw[←pB _ _ _ (by simp;omega),List.take_append_drop]
  rw[h1,pB _ _ _ (by simp;omega),h2,nF _ (b.drop q) (by omega)]
 rw[Gi,hbl]
noncomputable def aN.E:=Entry.cD [some tB] aN.st aN.av aN.add aN.F aN.out
noncomputable def aN.call:aN.D→Option aN.X:=bS aN.E aN.st
theorem aN.run:bM aN.call aN.av aN.add aN.F:=dq (df [.d tB] fun _=>by kernel_rfl)
noncomputable def aN.sg:SG Tryz.prog:=⟨144,aR,aN.E,.fn 4 (by kernel_rfl) aN.ok (And.intro (.cD aN.L0.ok (by kernel_rfl)) (And.intro (.cD aN.L1.ok (by kernel_rfl)) (And.intro (.cD aN.L2.ok (by kernel_rfl)) (And.intro (.cD aN.L3.ok (by kernel_rfl)) trivial))))⟩
set_option synthInstance.maxSize 5000
abbrev cJ.L0.D:=Nat×(List Bs)×Int×Int×Bs×(List Int)
def cJ.L0.st:cJ.L0.D→AS:=fun(bL,t13,t14,t15,n4,n10)=>⟨(bl 4 ([.ptr (.new 4 0) 0 [] 0,.bH (.new 10 0) 0 [] 0 0 bL]++bl 7 ([.d (.slice tB) t13,.d ti t14,.d ti t15]++bl 12 []))),[],(ch 4 ([[.obj 0 false (.d tH n4)]]++ch 5 ([[.obj 0 false (.vec 5 tb n10)]]++ch 17 [])))⟩
abbrev cJ.L0.Y0:=Nat×(List Int)
abbrev cJ.L0.X0:=(Bs)×(Nat×(List Int))
def cJ.L0.bp:cJ.L0.X0→Exit×AS:=fun x=>(.exit 0,⟨(bl 4 ([.ptr (.new 4 0) 0 [] 0,.bH (.new 10 0) 0 [] 0 0 x.2.1]++bl 22 [])),[],(ch 4 ([[.obj 0 false (.d tH x.1)]]++ch 5 ([[.obj 0 false (.vec 5 tb x.2.2)]]++ch 17 [])))⟩)
abbrev cJ.L0.X:=cJ.L0.X0
abbrev cJ.L0.Y:=cJ.L0.Y0
def cJ.L0.out:cJ.L0.X→Out (Exit×AS):=fun x=> .ok (cJ.L0.bp x)
def cJ.L0.add:cJ.L0.D→cJ.L0.Y→cJ.L0.X:=fun(bL,t13,t14,t15,n4,n10) y=>(n4,y)
abbrev cJ.D:=ByteArray×(List Bs)
def cJ.st:cJ.D→SA:=fun(name,parts)=>([.d .str name,.d (.slice tB) parts],[])
abbrev cJ.Y:=Bs
abbrev cJ.X:=Bs
def cJ.out:cJ.X→ba:=fun x=>⟨.d tH x,[],[]⟩
def cJ.add:cJ.D→cJ.Y→cJ.X:=fun(name,parts) y=>y
def cJ.L0.av:cJ.L0.D→Prop:=fun(m,ps,n,i,n4,l)=>m=l.length∧n=ps.length∧ps.length≤140737488350000∧∃k:Nat,k≤ps.length∧i=k∧l.length+(iU (ps.drop k)).length≤140737488350000
def cJ.L0.F:cJ.L0.D→cJ.L0.Y:=fun(m,ps,n,i,n4,l)=>(l.length+(iU (ps.drop i.toNat)).length,l++iU (ps.drop i.toNat))
def cJ.av:cJ.D→Prop:=fun(name,ps)=>(sj (bG name) ps).length≤140737488350000
def cJ.F:cJ.D→cJ.Y:=fun(name,ps)=>tag (bG name) ps
noncomputable def cJ.G:ed:=fk (P:=Tryz.prog) [eT.sg,eb.sg,aN.sg]
noncomputable def cJ.L0.E:=bU.cD cJ.L0.st cJ.L0.av cJ.L0.add cJ.L0.F cJ.L0.out
noncomputable def cJ.L0.call:cJ.L0.D→Option cJ.L0.X:=dw cJ.L0.E cJ.L0.st
noncomputable def cJ.an:eQ:= {loops:=jB [(3,{bn:=[4,5,13,14,15],sites:=[4,10],iE:=[⟨5,[],10,140⟩]})],outs:=jA [(3,{bn:=[4,5],sites:=[4,10]},{bn:=[4]})],fC:=kf [(3,cJ.L0.E)]}
noncomputable def cJ.A:= @cY Tryz.prog cJ.G cJ.an 0 Tryz.f72 _ cJ.st
abbrev cJ.Ok:=dd @cJ.A cJ.av cJ.add cJ.F cJ.out
noncomputable def cJ.L0.R:= @cj Tryz.prog cJ.G cJ.an 0 Tryz.f72 0 _ cJ.L0.st
abbrev cJ.L0.Ok:=ew Tryz.prog cJ.G cJ.an 0 Tryz.f72 0 cJ.L0.st cJ.L0.av cJ.L0.add cJ.L0.F cJ.L0.out
theorem cJ.L0.run:bM cJ.L0.call cJ.L0.av cJ.L0.add cJ.L0.F:=eM (eL [.n,.d (.slice tB),.d ti,.d ti,.d tB,.d tB] fun _=>by kernel_rfl)
theorem cJ.L0.aB:fQ @cJ.L0.R cJ.L0.st cJ.L0.av cJ.L0.add cJ.L0.F cJ.L0.bp cJ.L0.Ok:=fU
theorem cJ.L0.step{R:Type}(bL:Nat)(t13:(List Bs))(t14:Int)(t15:Int)(n4:Bs)(n10:(List Int))(kn:AS→Option R)(kx:Exit→AS→Option R):cJ.L0.R (bL,t13,t14,t15,n4,n10) kn kx=
  aG ((fM t15 t14)) (
   aG (eI t15 (((List.length t13):Nat):Int)) (
   ah (eb.call (bL,(((List.length (nth tB t13 (Int.toNat t15))):Nat):Int),n10)) fun x1=>
   aG (decide (x1.1≤(List.length x1.2))) (
   aG (db (x1.1+(List.length (nth tB t13 (Int.toNat t15)))) 1) (
   kn (cJ.L0.st ((x1.1+(List.length (nth tB t13 (Int.toNat t15)))),t13,t14,(bN .i64 t15 (1:Int)),n4,((List.take x1.1 x1.2)++(nth tB t13 (Int.toNat t15)))))) none) none) none) (
   kx (cJ.L0.bp (n4,(bL,n10))).1 (cJ.L0.bp (n4,(bL,n10))).2):=by kernel_rfl
theorem cJ.eq{R:Type}(name:ByteArray)(parts:(List Bs))(k:ba→Option R):cJ.A (name,parts) k=
 ah (eT.call (((ByteArray.size name):Nat):Int)) fun x1=>
 aG (decide (x1.1≤(List.length x1.2))) (
 aG (db (x1.1+(List.length (bG name))) 1) (
 ah (cJ.L0.call ((x1.1+(List.length (bG name))),parts,(((List.length parts):Nat):Int),(0:Int),(List.replicate 32 (0:Int)),((List.take x1.1 x1.2)++(bG name)))) fun x4=>
 aG (decide (0=0∧(0+x4.2.1)≤(List.length x4.2.2))) (
 ah (aN.call (cut x4.2.2 0 x4.2.1)) fun x5=>
 k (cJ.out x5)) none) none) none:=by kernel_rfl
theorem wy(p:List Int)(ps:List (List Int)):iU (p::ps)=iQ p.length++p++iU ps:=by simp[iU]
theorem wz(ps:List (List Int))(k:Nat)(h:k < ps.length):iU (ps.drop k)=iQ ps[k].length++ps[k]++iU (ps.drop (k+1)):=by
 rw[List.drop_eq_getElem_cons h,wy]
theorem cJ.L0.ok:cJ.L0.Ok:=by
 refine cJ.L0.aB (fun(m,ps,n,i,n4,l)=>ps.length - i.toNat) ?_
 rintro⟨m,ps,n,i,n4,l⟩ ⟨rfl,rfl,hpl,k,hk,rfl,hl⟩
 have hl:l.length+(iU (ps.drop k)).length≤140737488350000:=hl
 have hk:k≤ps.length:=hk
 have e2:Int.toNat (k:Int)=k:=by omega
 have e3:Int.toNat ((k+1:Nat):Int)=k+1:=by omega
 by_cases h:k < ps.length
 ·left
  have ht:=wz ps k h
  have hlen:(iU (ps.drop k)).length=8+ps[k].length+(iU (ps.drop (k+1))).length:=by rw[ht];simp only[List.length_append,cq]
  have hn:nth (.slice (.int .u8)) ps k=ps[k]:=cn (t:= .slice (.int .u8)) h
  have hpl:ps.length≤140737488350000:=hpl
  have e1:bN .i64 (k:Int) 1=((k+1:Nat):Int):=by rw[gF (by omega) (by omega)];omega
  refine⟨((l++iQ ps[k].length++ps[k]).length,ps,(ps.length:Int),((k+1:Nat):Int),n4,l++iQ ps[k].length++ps[k]),⟨rfl,rfl,hpl,k+1,by show k+1≤ps.length;omega,rfl,?_⟩,?_,?_,fun kn kx=> ?_⟩
  ·show(l++iQ ps[k].length++ps[k]).length+(iU (ps.drop (k+1))).length≤_
   simp only[List.length_append,cq];omega
  ·show ps.length - Int.toNat ((k+1:Nat):Int) < ps.length - Int.toNat (k:Int)
   omega
  ·simp only[cJ.L0.add,cJ.L0.F,e2,e3,ht,List.append_assoc]
   simp only[List.length_append,cq,Nat.add_assoc]
  ·have p1:eb.av (l.length,(ps[k].length:Int),l):=⟨rfl,by show l.length≤_;omega⟩
   rw[cJ.L0.step,aW (by omega),bm (by omega) (by omega),e1,e2]
   simp only[ae,hn,eb.run p1,aa,eb.add,eb.F]
   have hlb:(l++iQ ps[k].length).length=l.length+8:=by simp[cq]
   rw[hlb,aZ (Nat.le_refl _),nC (by omega)]
   simp only[ae]
   rw[List.take_of_length_le (by rw[hlb];omega)]
   simp only[List.length_append,cq,Nat.add_assoc]
 ·right
  obtain rfl:k=ps.length:=by omega
  intro R kn kx
  rw[cJ.L0.step,aO (by omega)]
  simp only[ag,cJ.L0.add,cJ.L0.F,e2,List.drop_length]
  simp[iU]
theorem uN:∀ps:List (List Int),8*ps.length≤(iU ps).length
 |[]=>by simp[iU]
 |p::ps=>by
  rw[wy]
  have:=uN ps
  simp only[List.length_append,cq,List.length_cons]
  omega
theorem gZ(s:ByteArray):(bG s).length=s.size:=by simp only[bG,List.length_map,Array.length_toList];rfl
theorem cJ.ok:cJ.Ok:=by
 rintro⟨name,ps⟩ hp
 have hp:(iQ (bG name).length++bG name++iU ps).length≤140737488350000:=hp
 have hl:(iQ (bG name).length++bG name++iU ps).length=8+(bG name).length+(iU ps).length:=by simp only[List.length_append,cq]
 have hpl:=uN ps
 have hsz:((name.size:Nat):Int)=(((bG name).length:Nat):Int):=by rw[gZ]
 rw[cJ.eq,eT.run (d:=((name.size:Nat):Int)) trivial,hsz]
 simp only[aa,eT.add,eT.F,cq,Nat.le_refl,decide_true,ae]
 rw[nC (by omega),List.take_of_length_le (by rw[cq];omega)]
 have p2:cJ.L0.av (8+(bG name).length,ps,(ps.length:Int),0,List.replicate 32 0,iQ ((bG name).length:Int)++bG name):=by
  refine⟨by simp only[List.length_append,cq],rfl,by show ps.length≤_;omega,0,Nat.zero_le _,rfl,?_⟩
  rw[List.drop_zero]
  simp only[List.length_append,cq]
  omega
 simp only[ae,cJ.L0.run p2,aa,cJ.L0.add,cJ.L0.F,Int.toNat_zero,List.drop_zero]
 have hcut:cut (iQ ((bG name).length:Int)++bG name++iU ps) 0 ((iQ ((bG name).length:Int)++bG name).length+(iU ps).length)=sj (bG name) ps:=by
  unfold cut
  rw[List.drop_zero,List.take_of_length_le (by simp only[List.length_append];omega)]
  rfl
 have p3:aN.av (sj (bG name) ps):=hp
 rw[aZ ⟨trivial,by simp only[List.length_append];omega⟩,hcut]
 simp only[ae,aN.run p3,aa,aN.add,aN.F,cJ.add,cJ.F,tag]
noncomputable def cJ.E:=Entry.cD [some .str,some (.slice tB)] cJ.st cJ.av cJ.add cJ.F cJ.out
noncomputable def cJ.call:cJ.D→Option cJ.X:=bS cJ.E cJ.st
theorem cJ.run:bM cJ.call cJ.av cJ.add cJ.F:=dq (df [.d .str,.d (.slice tB)] fun _=>by kernel_rfl)
noncomputable def cJ.sg:SG Tryz.prog:=⟨72,aR,cJ.E,.fn 1 (by kernel_rfl) cJ.ok (And.intro (.cD cJ.L0.ok (by kernel_rfl)) trivial)⟩
set_option synthInstance.maxSize 5000
abbrev dH.D:=Int×Int
def dH.st:dH.D→SA:=fun(x,n)=>([.d (.int .u32) x,.d ti n],[])
abbrev dH.Y:=Int
abbrev dH.X:=Int
def dH.out:dH.X→ba:=fun x=>⟨.d (.int .u32) x,[],[]⟩
def dH.add:dH.D→dH.Y→dH.X:=fun(x,n) y=>y
def dH.av:dH.D→Prop:=fun(x,n)=>0≤x∧x < 4294967296∧0≤n∧n≤32
def dH.F:dH.D→dH.Y:=fun(x,n)=>vw (kS (BitVec.ofInt 32 x) n.toNat)
noncomputable def dH.G:ed:=fk (P:=Tryz.prog) []
noncomputable def dH.an:eQ:= {}
noncomputable def dH.A:= @cY Tryz.prog dH.G dH.an 0 Tryz.f283 _ dH.st
abbrev dH.Ok:=dd @dH.A dH.av dH.add dH.F dH.out
theorem dH.eq{R:Type}(x:Int)(n:Int)(k:ba→Option R):dH.A (x,n) k=
 aG (iC n) (
 aG (iC (da .i64 (32:Int) n)) (
 k (dH.out (cw .or .u32 (cg .u32 x n) (jv .u32 x (da .i64 (32:Int) n))))) none) none:=by kernel_rfl
theorem dH.ok:dH.Ok:=by
 rintro⟨x,n⟩ ⟨h1,h2,h3,h4⟩
 obtain⟨n,rfl⟩:=Int.eq_ofNat_of_zero_le h3
 have hx:x=vw (BitVec.ofInt 32 x):=by rw[fO];have h1:0≤x:=h1;have h2:x < 4294967296:=h2;omega
 have h4:(n:Int)≤32:=h4
 rw[dH.eq]
 simp(disch:=omega) only[↓S1,↓if_pos,↓if_neg,if_pos,if_neg,if_true,if_false,S2]
 have e2:cw .or .u32 (cg .u32 x (n:Int)) (jv .u32 x ((32 - n:Nat):Int))=vw (kS (BitVec.ofInt 32 x) n):=by
  conv=>lhs;rw[hx]
  rw[qG,oL,jk]
  simp only[kS,Int.toNat_natCast]
  rw[BitVec.or_comm]
 rw[e2]
 rfl
noncomputable def dH.E:=Entry.cD [some (.int .u32),some ti] dH.st dH.av dH.add dH.F dH.out
noncomputable def dH.call:dH.D→Option dH.X:=bS dH.E dH.st
theorem dH.run:bM dH.call dH.av dH.add dH.F:=dq (df [.d (.int .u32),.d ti] fun _=>by kernel_rfl)
noncomputable def dH.sg:SG Tryz.prog:=⟨283,aR,dH.E,.fn 0 (by kernel_rfl) dH.ok trivial⟩
theorem dH.at(w:W){k:Int}(h:0≤k∧k≤32):dH.call (vw w,k)=some (vw (kS w k.toNat)):=by
 have h:dH.av (vw w,k):=⟨sk w,by have:=D2 w;simpa using this,h.1,h.2⟩
 rw[dH.run h]
 show some (vw (kS (BitVec.ofInt 32 (vw w)) k.toNat))=_
 rw[kq]
abbrev cW.D:=Unit
def cW.st:cW.D→SA:=fun _=>([],[])
abbrev cW.Y:=(List Int)
abbrev cW.X:=(List Int)
def cW.out:cW.X→ba:=fun x=>⟨.d (.slice (.int .u32)) x,[],[]⟩
def cW.add:cW.D→cW.Y→cW.X:=fun _ y=>y
def cW.av:cW.D→Prop:=fun _=>True
def cW.F:cW.D→cW.Y:=fun _=>jT.l
noncomputable def cW.G:ed:=fk (P:=Tryz.prog) []
noncomputable def cW.an:eQ:= {bX:=[1],res:=[some (.slice (.int .u32))]}
noncomputable def cW.A:= @cY Tryz.prog cW.G cW.an 0 Tryz.f263 _ cW.st
abbrev cW.Ok:=dd @cW.A cW.av cW.add cW.F cW.out
theorem cW.eq{R:Type}(k:ba→Option R):cW.A () k=
 k (cW.out [(1779033703:Int),(3144134277:Int),(1013904242:Int),(2773480762:Int),(1359893119:Int),(2600822924:Int),(528734635:Int),(1541459225:Int)]):=by kernel_rfl
theorem cW.ok:cW.Ok:=by
 intro d _
 rw[cW.eq]
 rfl
noncomputable def cW.E:=Entry.cD [] cW.st cW.av cW.add cW.F cW.out
noncomputable def cW.call:cW.D→Option cW.X:=bS cW.E cW.st
theorem cW.run:bM cW.call cW.av cW.add cW.F:=dq (df [] fun _=>by kernel_rfl)
noncomputable def cW.sg:SG Tryz.prog:=⟨263,aR,cW.E,.fn 0 (by kernel_rfl) cW.ok trivial⟩
abbrev eU.D:=Unit
def eU.st:eU.D→SA:=fun _=>([],[])
abbrev eU.Y:=(List Int)
abbrev eU.X:=(List Int)
def eU.out:eU.X→ba:=fun x=>⟨.d (.slice (.int .u32)) x,[],[]⟩
def eU.add:eU.D→eU.Y→eU.X:=fun _ y=>y
def eU.av:eU.D→Prop:=fun _=>True
def eU.F:eU.D→eU.Y:=fun _=>rQ
noncomputable def eU.G:ed:=fk (P:=Tryz.prog) []
noncomputable def eU.an:eQ:= {bX:=[1],res:=[some (.slice (.int .u32))]}
noncomputable def eU.A:= @cY Tryz.prog eU.G eU.an 0 Tryz.f282 _ eU.st
abbrev eU.Ok:=dd @eU.A eU.av eU.add eU.F eU.out
theorem eU.eq{R:Type}(k:ba→Option R):eU.A () k=
 k (eU.out [(1116352408:Int),(1899447441:Int),(3049323471:Int),(3921009573:Int),(961987163:Int),(1508970993:Int),(2453635748:Int),(2870763221:Int),(3624381080:Int),(310598401:Int),(607225278:Int),(1426881987:Int),(1925078388:Int),(2162078206:Int),(2614888103:Int),(3248222580:Int),(3835390401:Int),(4022224774:Int),(264347078:Int),(604807628:Int),(770255983:Int),(1249150122:Int),(1555081692:Int),(1996064986:Int),(2554220882:Int),(2821834349:Int),(2952996808:Int),(3210313671:Int),(3336571891:Int),(3584528711:Int),(113926993:Int),(338241895:Int),(666307205:Int),(773529912:Int),(1294757372:Int),(1396182291:Int),(1695183700:Int),(1986661051:Int),(2177026350:Int),(2456956037:Int),(2730485921:Int),(2820302411:Int),(3259730800:Int),(3345764771:Int),(3516065817:Int),(3600352804:Int),(4094571909:Int),(275423344:Int),(430227734:Int),(506948616:Int),(659060556:Int),(883997877:Int),(958139571:Int),(1322822218:Int),(1537002063:Int),(1747873779:Int),(1955562222:Int),(2024104815:Int),(2227730452:Int),(2361852424:Int),(2428436474:Int),(2756734187:Int),(3204031479:Int),(3329325298:Int)]):=by kernel_rfl
theorem eU.ok:eU.Ok:=by
 intro d _
 rw[eU.eq]
 rfl
noncomputable def eU.E:=Entry.cD [] eU.st eU.av eU.add eU.F eU.out
noncomputable def eU.call:eU.D→Option eU.X:=bS eU.E eU.st
theorem eU.run:bM eU.call eU.av eU.add eU.F:=dq (df [] fun _=>by kernel_rfl)
noncomputable def eU.sg:SG Tryz.prog:=⟨282,aR,eU.E,.fn 0 (by kernel_rfl) eU.ok trivial⟩
abbrev az.L0.D:=Bs×Nat×(List Int)
def az.L0.st:az.L0.D→AS:=fun(b_2,outL,n6)=>⟨([.d tB b_2,.undef,.undef,.bH (.new 6 0) 0 [] 0 0 outL]++bl 31 []),[],(ch 6 ([[.obj 0 false (.vec 5 tb n6)]]++ch 28 []))⟩
abbrev az.L0.Y0:=Nat×(List Int)
abbrev az.L0.X0:=(Bs)×(Nat×(List Int))
def az.L0.bp:az.L0.X0→Exit×AS:=fun x=>(.exit 0,⟨([.d tB x.1,.undef,.undef,.bH (.new 6 0) 0 [] 0 0 x.2.1]++bl 31 []),[],(ch 6 ([[.obj 0 false (.vec 5 tb x.2.2)]]++ch 28 []))⟩)
abbrev az.L0.X:=az.L0.X0
abbrev az.L0.Y:=az.L0.Y0
def az.L0.out:az.L0.X→Out (Exit×AS):=fun x=> .ok (az.L0.bp x)
def az.L0.add:az.L0.D→az.L0.Y→az.L0.X:=fun(b_2,outL,n6) y=>(b_2,y)
abbrev az.L1.D:=Nat×Int×Int×(List Int)
def az.L1.st:az.L1.D→AS:=fun(outL_2,n,kv,n6_2)=>⟨([.undef,.undef,.undef,.bH (.new 6 0) 0 [] 0 0 outL_2,.d tu n,.d ti kv]++bl 29 []),[],(ch 6 ([[.obj 0 false (.vec 5 tb n6_2)]]++ch 28 []))⟩
abbrev az.L1.Y0:=Nat×(List Int)
abbrev az.L1.X0:=Nat×(List Int)
def az.L1.bp:az.L1.X0→Exit×AS:=fun x=>(.exit 2,⟨([.undef,.undef,.undef,.bH (.new 6 0) 0 [] 0 0 x.1]++bl 31 []),[],(ch 6 ([[.obj 0 false (.vec 5 tb x.2)]]++ch 28 []))⟩)
abbrev az.L1.X:=az.L1.X0
abbrev az.L1.Y:=az.L1.Y0
def az.L1.out:az.L1.X→Out (Exit×AS):=fun x=> .ok (az.L1.bp x)
def az.L1.add:az.L1.D→az.L1.Y→az.L1.X:=fun(outL_2,n,kv,n6_2) y=>y
abbrev az.D:=Bs
def az.st:az.D→SA:=fun b=>([.d tB b],[])
abbrev az.Y:=Bs
abbrev az.X:=Bs
def az.out:az.X→ba:=fun x=>⟨.d tB x,[],[]⟩
def az.add:az.D→az.Y→az.X:=fun b y=>y
def az.L0.av:az.L0.D→Prop:=fun(b,m,l)=>m=l.length∧l.length+zc l.length≤140737488355328
def az.L0.F:az.L0.D→az.L0.Y:=fun(b,m,l)=>(l.length+zc l.length,l++List.replicate (zc l.length) 0)
def az.L1.av:az.L1.D→Prop:=fun(m,n,kv,l)=>0≤n∧n < 18446744073709551616∧∃j:Nat,j≤8∧kv=56 - 8*(j:Int)∧m=l.length∧l.length≤140737488355320+j
def az.L1.F:az.L1.D→az.L1.Y:=fun(m,n,kv,l)=>(l.length+(iQ n).length - (7 - (kv / 8)).toNat,l++(iQ n).drop (7 - (kv / 8)).toNat)
def az.av:az.D→Prop:=fun b=>b.length≤140737488350000
def az.F:az.D→az.Y:=fun b=>pad b
noncomputable def az.G:ed:=fk (P:=Tryz.prog) []
noncomputable def az.L0.E:=bU.cD az.L0.st az.L0.av az.L0.add az.L0.F az.L0.out
noncomputable def az.L0.call:az.L0.D→Option az.L0.X:=dw az.L0.E az.L0.st
noncomputable def az.L1.E:=bU.cD az.L1.st az.L1.av az.L1.add az.L1.F az.L1.out
noncomputable def az.L1.call:az.L1.D→Option az.L1.X:=dw az.L1.E az.L1.st
noncomputable def az.an:eQ:= {bX:=[6],loops:=jB [(3,{bn:=[0,3],sites:=[6],iE:=[⟨3,[],6,140⟩]}),(7,{bn:=[3,4,5],sites:=[6],iE:=[⟨3,[],6,140⟩]})],outs:=jA [(3,{bn:=[0,3],sites:=[6]},{bn:=[2]}),(7,{bn:=[3],sites:=[6]},{bn:=[2]})],fC:=kf [(3,az.L0.E),(7,az.L1.E)],res:=[some tB]}
noncomputable def az.A:= @cY Tryz.prog az.G az.an 0 Tryz.f262 _ az.st
abbrev az.Ok:=dd @az.A az.av az.add az.F az.out
noncomputable def az.L0.R:= @cj Tryz.prog az.G az.an 0 Tryz.f262 0 _ az.L0.st
abbrev az.L0.Ok:=ew Tryz.prog az.G az.an 0 Tryz.f262 0 az.L0.st az.L0.av az.L0.add az.L0.F az.L0.out
noncomputable def az.L1.R:= @cj Tryz.prog az.G az.an 0 Tryz.f262 1 _ az.L1.st
abbrev az.L1.Ok:=ew Tryz.prog az.G az.an 0 Tryz.f262 1 az.L1.st az.L1.av az.L1.add az.L1.F az.L1.out
theorem az.L0.run:bM az.L0.call az.L0.av az.L0.add az.L0.F:=eM (eL [.d tB,.n,.d tB] fun _=>by kernel_rfl)
theorem az.L0.aB:fQ @az.L0.R az.L0.st az.L0.av az.L0.add az.L0.F az.L0.bp az.L0.Ok:=fU
theorem az.L0.step{R:Type}(b_2:Bs)(outL:Nat)(n6:(List Int))(kn:AS→Option R)(kx:Exit→AS→Option R):az.L0.R (b_2,outL,n6) kn kx=
  aG ((mM (gT ((outL:Nat):Int) (64:Int)) (56:Int))) (
   aG (decide (outL≤(List.length n6))) (
   aG (db (outL+1) 1) (
   kn (az.L0.st (b_2,(outL+1),((List.take outL n6)++ [(0:Int)])))) none) none) (
   kx (az.L0.bp (b_2,(outL,n6))).1 (az.L0.bp (b_2,(outL,n6))).2):=by kernel_rfl
theorem az.L1.run:bM az.L1.call az.L1.av az.L1.add az.L1.F:=eM (eL [.n,.d tu,.d ti,.d tB] fun _=>by kernel_rfl)
theorem az.L1.aB:fQ @az.L1.R az.L1.st az.L1.av az.L1.add az.L1.F az.L1.bp az.L1.Ok:=fU
theorem az.L1.step{R:Type}(outL_2:Nat)(n:Int)(kv:Int)(n6_2:(List Int))(kn:AS→Option R)(kx:Exit→AS→Option R):az.L1.R (outL_2,n,kv,n6_2) kn kx=
  aG ((nv kv (0:Int))) (
   aG (iC kv) (
   aG (decide (outL_2≤(List.length n6_2))) (
   aG (db (outL_2+1) 1) (
   kn (az.L1.st ((outL_2+1),n,(da .i64 kv (8:Int)),((List.take outL_2 n6_2)++ [(dR .u8 (cg .u64 n kv))])))) none) none) none) (
   kx (az.L1.bp (outL_2,n6_2)).1 (az.L1.bp (outL_2,n6_2)).2):=by kernel_rfl
theorem az.eq{R:Type}(b:Bs)(k:ba→Option R):az.A b k=
 aG (db (0+(List.length b)) 1) (
 aG (decide ((0+(List.length b))≤(List.length ((List.take 0 (List.replicate 0 (0:Int)))++b)))) (
 aG (db ((0+(List.length b))+1) 1) (
 ah (az.L0.call (b,((0+(List.length b))+1),((List.take (0+(List.length b)) ((List.take 0 (List.replicate 0 (0:Int)))++b))++ [(128:Int)]))) fun x1=>
 ah (az.L1.call (x1.2.1,(fq .u64 (8:Int) (dR .u64 (((List.length x1.1):Nat):Int))),(56:Int),x1.2.2)) fun x2=>
 aG (decide (0=0∧(0+x2.1)≤(List.length x2.2))) (
 k (az.out (cut x2.2 0 x2.1))) none) none) none) none:=by kernel_rfl
theorem az.L0.ok:az.L0.Ok:=by
 refine az.L0.aB (fun(b,m,l)=>zc l.length) ?_
 rintro⟨b,m,l⟩ ⟨rfl,hl⟩
 have hl:l.length+zc l.length≤140737488355328:=hl
 by_cases h:l.length%64=56
 ·right
  intro R kn kx
  have hz:zc l.length=0:=by unfold zc;omega
  rw[az.L0.step]
  simp(disch:=omega) only[↓S1,↓if_pos,↓if_neg,if_pos,if_neg,if_true,if_false,S2,az.L0.add,az.L0.F,hz,Nat.add_zero,List.replicate_zero,List.append_nil]
 ·left
  have hz:zc l.length=zc (l.length+1)+1:=by unfold zc;omega
  refine⟨(b,l.length+1,l++ [0]),⟨by simp,by simp only[List.length_append,List.length_cons,List.length_nil,Nat.zero_add];omega⟩,by simp only[List.length_append,List.length_cons,List.length_nil,Nat.zero_add];omega,?_,fun kn kx=> ?_⟩
  ·simp only[az.L0.add,az.L0.F,List.length_append,List.length_cons,List.length_nil,Nat.zero_add,hz,List.append_assoc,List.cons_append,List.nil_append,List.replicate_succ]
   rw[show l.length+1+zc (l.length+1)=l.length+(zc (l.length+1)+1) by omega]
  ·rw[az.L0.step]
   simp(disch:=omega) only[↓S1,↓if_pos,↓if_neg,if_pos,if_neg,if_true,if_false,S2,List.take_length]
theorem xU(n:Int)(j:Nat)(h:j < 8):(iQ n).drop j=n / 2^(56 - 8*j)%256::(iQ n).drop (j+1):=by
 rcases(by omega:j=0∨j=1∨j=2∨j=3∨j=4∨j=5∨j=6∨j=7) with rfl | rfl | rfl | rfl | rfl | rfl | rfl | rfl <;> simp[iQ]
theorem uU(n:Int)(k:Nat)(h1:k≤64):dR .u8 (cg .u64 n (k:Int))=n / 2^k%256:=by
 rw[rN,fO,cg]
 have e:min (k:Int).toNat IntKind.u64.bits=k:=by simp only[IntKind.bits];omega
 rw[e,Int.fdiv_eq_ediv_of_nonneg _ (Int.le_of_lt (Int.pow_pos (by omega)))]
 rfl
theorem az.L1.ok:az.L1.Ok:=by
 refine az.L1.aB (fun(m,n,kv,l)=>(kv+8).toNat) ?_
 rintro⟨m,n,kv,l⟩ ⟨h1,h2,j,hj,rfl,rfl,hl⟩
 have hl:l.length≤140737488355320+j:=hl
 have e1:(7 - ((56 - 8*(j:Int)) / 8)).toNat=j:=by omega
 by_cases h:j < 8
 ·left
  have e2:da .i64 (56 - 8*(j:Int)) 8=56 - 8*((j+1:Nat):Int):=by rw[eS (by omega) (by omega)];omega
  have e3:(7 - ((56 - 8*((j+1:Nat):Int)) / 8)).toNat=j+1:=by omega
  have e4:(56 - 8*(j:Int))=((56 - 8*j:Nat):Int):=by omega
  refine⟨(l.length+1,n,56 - 8*((j+1:Nat):Int),l++ [n / 2^(56 - 8*j)%256]),⟨h1,h2,j+1,by omega,rfl,by simp,by simp only[List.length_append,List.length_cons,List.length_nil];omega⟩,by simp only;omega,?_,fun kn kx=> ?_⟩
  ·simp only[az.L1.add,az.L1.F,e1,e3,xU n j h,List.length_append,List.length_cons,List.length_nil,List.append_assoc,List.cons_append,List.nil_append,cq]
   rw[show l.length+(0+1)+8 - (j+1)=l.length+8 - j by omega]
  ·rw[az.L1.step,e2,e4,uU n _ (by omega)]
   simp(disch:=omega) only[↓S1,↓if_pos,↓if_neg,if_pos,if_neg,if_true,if_false,S2,List.take_length]
 ·right
  obtain rfl:j=8:=by omega
  intro R kn kx
  rw[az.L1.step]
  simp(disch:=omega) only[↓S1,↓if_pos,↓if_neg,if_pos,if_neg,if_true,if_false,S2,az.L1.add,az.L1.F,e1]
  simp[iQ]
theorem az.ok:az.Ok:=by
 intro b hb
 have hb:b.length≤140737488350000:=hb
 have hz:zc (b++ [128]).length=mr b.length:=by
  simp only[List.length_append,List.length_cons,List.length_nil,zc,mr]
  omega
 have hzb:mr b.length < 64:=by unfold mr;omega
 have p1:az.L0.av (b,b.length+1,b++ [128]):=⟨by simp,by rw[hz];simp only[List.length_append,List.length_cons,List.length_nil] <;> omega⟩
 have e1:dR .u64 ((b.length:Nat):Int)=((b.length:Nat):Int):=by rw[s7,fO];omega
 have e2:fq .u64 8 ((b.length:Nat):Int)=8*(b.length:Int):=by
  unfold fq;rw[wrap_u64,fO];omega
 have e3:List.take b.length b=b:=List.take_length
 rw[az.eq]
 simp only[List.replicate_zero,List.take_nil,List.nil_append,Nat.zero_add,e1,e2,e3]
 simp(disch:=omega) only[↓S1,↓if_pos,↓if_neg,if_pos,if_neg,if_true,if_false,S2,az.L0.run p1,az.L0.add,az.L0.F,hz]
 have p2:az.L1.av ((b++ [128]).length+mr b.length,8*(b.length:Int),56,b++ [128]++List.replicate (mr b.length) 0):=by
  refine⟨by omega,by omega,0,by omega,rfl,by simp only[List.length_append,List.length_cons,List.length_nil,List.length_replicate] <;> omega,?_⟩
  simp only[List.length_append,List.length_cons,List.length_nil,List.length_replicate]
  omega
 simp(disch:=omega) only[↓S1,↓if_pos,↓if_neg,if_pos,if_neg,if_true,if_false,S2,e1,e2,az.L1.run p2,az.L1.add,az.L1.F]
 have e5:(7 - ((56:Int) / 8)).toNat=0:=by decide
 rw[e5,List.drop_zero]
 have e6:(b++ [128]++List.replicate (mr b.length) 0).length+(iQ (8*(b.length:Int))).length - 0=(b++ [128]++List.replicate (mr b.length) 0++iQ (8*(b.length:Int))).length:=by rw[@List.length_append _ _ (iQ _)];omega
 rw[e6,if_pos (Nat.le_refl _)]
 unfold cut
 rw[List.drop_zero,List.take_length]
 simp only[az.add,az.F,pad,List.append_assoc,List.cons_append,List.nil_append]
noncomputable def az.E:=Entry.cD [some tB] az.st az.av az.add az.F az.out
noncomputable def az.call:az.D→Option az.X:=bS az.E az.st
theorem az.run:bM az.call az.av az.add az.F:=dq (df [.d tB] fun _=>by kernel_rfl)
noncomputable def az.sg:SG Tryz.prog:=⟨262,aR,az.E,.fn 2 (by kernel_rfl) az.ok (And.intro (.cD az.L0.ok (by kernel_rfl)) (And.intro (.cD az.L1.ok (by kernel_rfl)) trivial))⟩
set_option synthInstance.maxSize 5000
abbrev aI.L0.D:=Bs×Nat×Int×(List Int)
def aI.L0.st:aI.L0.D→AS:=fun(b_2,wL,i,n49)=>⟨([.d tB b_2,.undef,.undef,.bH (.new 49 0) 0 [] 0 0 wL,.d ti i]++bl 94 []),[],(ch 49 ([[.obj 0 false (.vec 255 (.int .u32) n49)]]++ch 49 []))⟩
abbrev aI.L0.Y0:=Nat×(List Int)
abbrev aI.L0.X0:=Nat×(List Int)
def aI.L0.bp:aI.L0.X0→Exit×AS:=fun x=>(.exit 0,⟨([.undef,.undef,.undef,.bH (.new 49 0) 0 [] 0 0 x.1]++bl 95 []),[],(ch 49 ([[.obj 0 false (.vec 255 (.int .u32) x.2)]]++ch 49 []))⟩)
abbrev aI.L0.X:=aI.L0.X0
abbrev aI.L0.Y:=aI.L0.Y0
def aI.L0.out:aI.L0.X→Out (Exit×AS):=fun x=> .ok (aI.L0.bp x)
def aI.L0.add:aI.L0.D→aI.L0.Y→aI.L0.X:=fun(b_2,wL,i,n49) y=>y
abbrev aI.L1.D:=Nat×Int×(List Int)
def aI.L1.st:aI.L1.D→AS:=fun(wL_2,i_2,n49_2)=>⟨([.undef,.undef,.undef,.bH (.new 49 0) 0 [] 0 0 wL_2,.undef,.d ti i_2]++bl 93 []),[],(ch 49 ([[.obj 0 false (.vec 255 (.int .u32) n49_2)]]++ch 49 []))⟩
abbrev aI.L1.Y0:=Nat×(List Int)
abbrev aI.L1.X0:=Nat×(List Int)
def aI.L1.bp:aI.L1.X0→Exit×AS:=fun x=>(.exit 2,⟨([.undef,.undef,.undef,.bH (.new 49 0) 0 [] 0 0 x.1]++bl 95 []),[],(ch 49 ([[.obj 0 false (.vec 255 (.int .u32) x.2)]]++ch 49 []))⟩)
abbrev aI.L1.X:=aI.L1.X0
abbrev aI.L1.Y:=aI.L1.Y0
def aI.L1.out:aI.L1.X→Out (Exit×AS):=fun x=> .ok (aI.L1.bp x)
def aI.L1.add:aI.L1.D→aI.L1.Y→aI.L1.X:=fun(wL_2,i_2,n49_2) y=>y
abbrev aI.D:=Bs
def aI.st:aI.D→SA:=fun b=>([.d tB b],[])
abbrev aI.Y:=(List Int)
abbrev aI.X:=(List Int)
def aI.out:aI.X→ba:=fun x=>⟨.d (.slice (.int .u32)) x,[],[]⟩
def aI.add:aI.D→aI.Y→aI.X:=fun b y=>y
def aI.L0.av:aI.L0.D→Prop:=fun(b,m,i,l)=>64≤b.length∧∃k:Nat,k≤16∧i=k∧k=m∧l=wl ((words b).take k)
def aI.L0.F:aI.L0.D→aI.L0.Y:=fun(b,m,i,l)=>(16,wl (words b))
def aI.L1.av:aI.L1.D→Prop:=fun(m,i,l)=>∃ws:List W,16≤ws.length∧ws.length≤64∧l=wl ws∧m=ws.length∧i=(ws.length:Nat)
def aI.L1.F:aI.L1.D→aI.L1.Y:=fun(m,i,l)=>(64,wl (D5 (D0 l) (64 - l.length)))
def aI.av:aI.D→Prop:=fun b=>64≤b.length
def aI.F:aI.D→aI.Y:=fun b=>wl (sched b)
noncomputable def aI.G:ed:=fk (P:=Tryz.prog) [dH.sg]
noncomputable def aI.L0.E:=bU.cD aI.L0.st aI.L0.av aI.L0.add aI.L0.F aI.L0.out
noncomputable def aI.L0.call:aI.L0.D→Option aI.L0.X:=dw aI.L0.E aI.L0.st
noncomputable def aI.L1.E:=bU.cD aI.L1.st aI.L1.av aI.L1.add aI.L1.F aI.L1.out
noncomputable def aI.L1.call:aI.L1.D→Option aI.L1.X:=dw aI.L1.E aI.L1.st
noncomputable def aI.an:eQ:= {loops:=jB [(3,{bn:=[0,3,4],sites:=[49],iE:=[⟨3,[],49,304⟩]}),(7,{bn:=[3,5],sites:=[49],iE:=[⟨3,[],49,304⟩]})],outs:=jA [(3,{bn:=[3],sites:=[49]},{bn:=[2]}),(7,{bn:=[3],sites:=[49]},{bn:=[2]})],fC:=kf [(3,aI.L0.E),(7,aI.L1.E)],res:=[some (.slice (.int .u32))]}
noncomputable def aI.A:= @cY Tryz.prog aI.G aI.an 0 Tryz.f281 _ aI.st
abbrev aI.Ok:=dd @aI.A aI.av aI.add aI.F aI.out
noncomputable def aI.L0.R:= @cj Tryz.prog aI.G aI.an 0 Tryz.f281 0 _ aI.L0.st
abbrev aI.L0.Ok:=ew Tryz.prog aI.G aI.an 0 Tryz.f281 0 aI.L0.st aI.L0.av aI.L0.add aI.L0.F aI.L0.out
noncomputable def aI.L1.R:= @cj Tryz.prog aI.G aI.an 0 Tryz.f281 1 _ aI.L1.st
abbrev aI.L1.Ok:=ew Tryz.prog aI.G aI.an 0 Tryz.f281 1 aI.L1.st aI.L1.av aI.L1.add aI.L1.F aI.L1.out
theorem aI.L0.run:bM aI.L0.call aI.L0.av aI.L0.add aI.L0.F:=eM (eL [.d tB,.n,.d ti,.d (.slice (.int .u32))] fun _=>by kernel_rfl)
theorem aI.L0.aB:fQ @aI.L0.R aI.L0.st aI.L0.av aI.L0.add aI.L0.F aI.L0.bp aI.L0.Ok:=fU
theorem aI.L0.step{R:Type}(b_2:Bs)(wL:Nat)(i:Int)(n49:(List Int))(kn:AS→Option R)(kx:Exit→AS→Option R):aI.L0.R (b_2,wL,i,n49) kn kx=
  aG ((fM i (16:Int))) (
   aG (eI (fq .i64 (4:Int) i) (((List.length b_2):Nat):Int)) (
   aG (eI (bN .i64 (fq .i64 (4:Int) i) (1:Int)) (((List.length b_2):Nat):Int)) (
   aG (eI (bN .i64 (fq .i64 (4:Int) i) (2:Int)) (((List.length b_2):Nat):Int)) (
   aG (eI (bN .i64 (fq .i64 (4:Int) i) (3:Int)) (((List.length b_2):Nat):Int)) (
   aG (decide (wL≤(List.length n49))) (
   aG (db (wL+1) 4) (
   kn (aI.L0.st (b_2,(wL+1),(bN .i64 i (1:Int)),((List.take wL n49)++ [(cw .or .u32 (cw .or .u32 (cw .or .u32 (jv .u32 (dR .u32 (nth tb b_2 (Int.toNat (fq .i64 (4:Int) i)))) (24:Int)) (jv .u32 (dR .u32 (nth tb b_2 (Int.toNat (bN .i64 (fq .i64 (4:Int) i) (1:Int))))) (16:Int))) (jv .u32 (dR .u32 (nth tb b_2 (Int.toNat (bN .i64 (fq .i64 (4:Int) i) (2:Int))))) (8:Int))) (dR .u32 (nth tb b_2 (Int.toNat (bN .i64 (fq .i64 (4:Int) i) (3:Int))))))])))) none) none) none) none) none) none) (
   kx (aI.L0.bp (wL,n49)).1 (aI.L0.bp (wL,n49)).2):=by kernel_rfl
theorem aI.L1.run:bM aI.L1.call aI.L1.av aI.L1.add aI.L1.F:=eM (eL [.n,.d ti,.d (.slice (.int .u32))] fun _=>by kernel_rfl)
theorem aI.L1.aB:fQ @aI.L1.R aI.L1.st aI.L1.av aI.L1.add aI.L1.F aI.L1.bp aI.L1.Ok:=fU
theorem aI.L1.step{R:Type}(wL_2:Nat)(i_2:Int)(n49_2:(List Int))(kn:AS→Option R)(kx:Exit→AS→Option R):aI.L1.R (wL_2,i_2,n49_2) kn kx=
  aG ((fM i_2 (64:Int))) (
   aG (eI (da .i64 i_2 (15:Int)) ((wL_2:Nat):Int)) (
   aG (decide ((0+(Int.toNat (da .i64 i_2 (15:Int)))) < (List.length n49_2))) (
   aG (decide ((((0+(Int.toNat (da .i64 i_2 (15:Int))))*1)+0)=(0+((Int.toNat (da .i64 i_2 (15:Int)))*1)))) (
   aG (eI (da .i64 i_2 (2:Int)) ((wL_2:Nat):Int)) (
   aG (decide ((0+(Int.toNat (da .i64 i_2 (2:Int)))) < (List.length n49_2))) (
   aG (decide ((((0+(Int.toNat (da .i64 i_2 (2:Int))))*1)+0)=(0+((Int.toNat (da .i64 i_2 (2:Int)))*1)))) (
   ah (dH.call ((nth (.int .u32) n49_2 (0+(Int.toNat (da .i64 i_2 (15:Int))))),(7:Int))) fun x1=>
   ah (dH.call ((nth (.int .u32) n49_2 (0+(Int.toNat (da .i64 i_2 (15:Int))))),(18:Int))) fun x2=>
   ah (dH.call ((nth (.int .u32) n49_2 (0+(Int.toNat (da .i64 i_2 (2:Int))))),(17:Int))) fun x3=>
   ah (dH.call ((nth (.int .u32) n49_2 (0+(Int.toNat (da .i64 i_2 (2:Int))))),(19:Int))) fun x4=>
   aG (eI (da .i64 i_2 (16:Int)) ((wL_2:Nat):Int)) (
   aG (decide ((0+(Int.toNat (da .i64 i_2 (16:Int)))) < (List.length n49_2))) (
   aG (decide ((((0+(Int.toNat (da .i64 i_2 (16:Int))))*1)+0)=(0+((Int.toNat (da .i64 i_2 (16:Int)))*1)))) (
   aG (eI (da .i64 i_2 (7:Int)) ((wL_2:Nat):Int)) (
   aG (decide ((0+(Int.toNat (da .i64 i_2 (7:Int)))) < (List.length n49_2))) (
   aG (decide ((((0+(Int.toNat (da .i64 i_2 (7:Int))))*1)+0)=(0+((Int.toNat (da .i64 i_2 (7:Int)))*1)))) (
   aG (decide (wL_2≤(List.length n49_2))) (
   aG (db (wL_2+1) 4) (
   kn (aI.L1.st ((wL_2+1),(bN .i64 i_2 (1:Int)),((List.take wL_2 n49_2)++ [(bN .u32 (bN .u32 (bN .u32 (nth (.int .u32) n49_2 (0+(Int.toNat (da .i64 i_2 (16:Int))))) (cw .xor .u32 (cw .xor .u32 x1 x2) (cg .u32 (nth (.int .u32) n49_2 (0+(Int.toNat (da .i64 i_2 (15:Int))))) (3:Int)))) (nth (.int .u32) n49_2 (0+(Int.toNat (da .i64 i_2 (7:Int)))))) (cw .xor .u32 (cw .xor .u32 x3 x4) (cg .u32 (nth (.int .u32) n49_2 (0+(Int.toNat (da .i64 i_2 (2:Int))))) (10:Int))))])))) none) none) none) none) none) none) none) none) none) none) none) none) none) none) (
   kx (aI.L1.bp (wL_2,n49_2)).1 (aI.L1.bp (wL_2,n49_2)).2):=by kernel_rfl
theorem aI.eq{R:Type}(b:Bs)(k:ba→Option R):aI.A b k=
 ah (aI.L0.call (b,0,(0:Int),([]:List Int))) fun x1=>
 ah (aI.L1.call (x1.1,(16:Int),x1.2)) fun x10=>
 aG (decide (0=0∧(0+x10.1)≤(List.length x10.2))) (
 k (aI.out (cut x10.2 0 x10.1))) none:=by kernel_rfl
theorem l9(ws:List W):(wl ws).length=ws.length:=by simp[wl]
theorem Bh(m:List W):∀n,D5 (ext m) n=D5 m (n+1)
 | 0=>rfl
 |n+1=>by rw[D5,Bh m n];rfl
theorem FE(b:List Int)(k:Nat)(h:4*k+3 < b.length):be b k=GX (nth (.int .u8) b (4*k)) (nth (.int .u8) b (4*k+1)) (nth (.int .u8) b (4*k+2)) (nth (.int .u8) b (4*k+3)):=rfl
theorem aI.L0.ok:aI.L0.Ok:=by
 refine aI.L0.aB (fun(b,m,i,l)=>16 - m) ?_
 rintro⟨b,m,i,l⟩ ⟨hb,k,hk,rfl,rfl,rfl⟩
 have hb:64≤b.length:=hb
 have hl:(wl ((words b).take k)).length=k:=by rw[l9,List.length_take,eW];omega
 by_cases h:k < 16
 ·left
  refine⟨(b,k+1,((k+1:Nat):Int),wl ((words b).take (k+1))),⟨hb,k+1,by omega,rfl,rfl,rfl⟩,by simp only;omega,rfl,fun kn kx=> ?_⟩
  rw[aI.L0.step]
  simp(disch:=omega) only[↓S1,↓if_pos,↓if_neg,if_pos,if_neg,if_true,if_false,S2,hl,List.take_of_length_le (Nat.le_of_eq hl)]
  rw[List.take_succ_eq_append_getElem (by rw[eW];exact h)]
  simp only[AX,qG,jk,wl,List.map_append,List.map_cons,List.map_nil]
  have e:(words b)[k]'(by rw[eW];exact h)=be b k:=by simp[words]
  rw[e,FE b k (by omega)]
  rfl
 ·right
  obtain rfl:k=16:=by omega
  intro R kn kx
  rw[aI.L0.step]
  simp(disch:=omega) only[↓S1,↓if_pos,↓if_neg,if_pos,if_neg,if_true,if_false,S2,aI.L0.add,aI.L0.F]
  rw[List.take_of_length_le (by rw[eW];omega)]
theorem aI.L1.ok:aI.L1.Ok:=by
 refine aI.L1.aB (fun(m,i,l)=>64 - m) ?_
 rintro⟨m,i,l⟩ ⟨ws,h1,h2,rfl,rfl,rfl⟩
 have hl:=l9 ws
 by_cases h:ws.length < 64
 ·left
  refine⟨(ws.length+1,((ws.length+1:Nat):Int),wl (ext ws)),⟨ext ws,by rw[kO];omega,by rw[kO];omega,rfl,by rw[kO],by rw[kO]⟩,by simp only;omega,?_,fun kn kx=> ?_⟩
  ·simp only[aI.L1.add,aI.L1.F,nZ,l9,kO]
   rw[Bh,show 64 - (ws.length+1)+1=64 - ws.length by omega]
  ·rw[aI.L1.step]
   simp(disch:=omega) only[↓S1,↓if_pos,↓if_neg,if_pos,if_neg,if_true,if_false,S2,hl,Nat.zero_add,Nat.mul_one,Nat.add_zero,sm ws _ (by omega:ws.length - 15 < ws.length),sm ws _ (by omega:ws.length - 2 < ws.length),sm ws _ (by omega:ws.length - 16 < ws.length),sm ws _ (by omega:ws.length - 7 < ws.length),dH.at,jk,oL,ns,List.take_of_length_le (Nat.le_of_eq hl)]
   unfold ext wl
   rw[List.map_append]
   rfl
 ·right
  have h64:ws.length=64:=by omega
  intro R kn kx
  rw[aI.L1.step]
  simp(disch:=omega) only[↓S1,↓if_pos,↓if_neg,if_pos,if_neg,if_true,if_false,S2,aI.L1.add,aI.L1.F,hl,h64,nZ,Nat.sub_self]
  rfl
theorem aI.ok:aI.Ok:=by
 intro b hb
 have p1:aI.L0.av (b,0,0,[]):=⟨hb,0,by omega,rfl,rfl,rfl⟩
 have p2:aI.L1.av (16,16,wl (words b)):=⟨words b,by rw[eW];omega,by rw[eW];omega,rfl,by rw[eW],by rw[eW];rfl⟩
 have hs:(sched b).length=64:=by unfold sched;rw[mF,eW]
 rw[aI.eq]
 simp(disch:=omega) only[↓S1,↓if_pos,↓if_neg,if_pos,if_neg,if_true,if_false,S2,aI.L0.run p1,aI.L0.add,aI.L0.F,aI.L1.run p2,aI.L1.add,aI.L1.F,nZ,l9,eW,Nat.zero_add,Nat.reduceSub]
 have e:D5 (words b) 48=sched b:=rfl
 rw[e,hs,if_pos (Nat.le_refl _)]
 unfold cut
 rw[List.drop_zero,List.take_of_length_le (by rw[l9];omega)]
 simp only[aI.add,aI.F]
noncomputable def aI.E:=Entry.cD [some tB] aI.st aI.av aI.add aI.F aI.out
noncomputable def aI.call:aI.D→Option aI.X:=bS aI.E aI.st
theorem aI.run:bM aI.call aI.av aI.add aI.F:=dq (df [.d tB] fun _=>by kernel_rfl)
noncomputable def aI.sg:SG Tryz.prog:=⟨281,aR,aI.E,.fn 2 (by kernel_rfl) aI.ok (And.intro (.cD aI.L0.ok (by kernel_rfl)) (And.intro (.cD aI.L1.ok (by kernel_rfl)) trivial))⟩
set_option synthInstance.maxSize 5000
abbrev aH.L0.D:=(List Int)×(List Int)×(List Int)×Nat×Int×(List Int)
def aH.L0.st:aH.L0.D→AS:=fun(h_2,wv,kv,vL,i,n18)=>⟨([.d (.slice (.int .u32)) h_2]++bl 4 ([.d (.slice (.int .u32)) wv,.d (.slice (.int .u32)) kv,.bH (.new 18 0) 0 [] 0 0 vL,.d ti i]++bl 146 [])),[],(ch 18 ([[.obj 0 false (.vec 255 (.int .u32) n18)]]++ch 136 []))⟩
abbrev aH.L0.Y0:=Nat×(List Int)
abbrev aH.L0.X0:=((List Int))×(Nat×(List Int))
def aH.L0.bp:aH.L0.X0→Exit×AS:=fun x=>(.exit 0,⟨([.d (.slice (.int .u32)) x.1]++bl 6 ([.bH (.new 18 0) 0 [] 0 0 x.2.1]++bl 147 [])),[],(ch 18 ([[.obj 0 false (.vec 255 (.int .u32) x.2.2)]]++ch 136 []))⟩)
abbrev aH.L0.X:=aH.L0.X0
abbrev aH.L0.Y:=aH.L0.Y0
def aH.L0.out:aH.L0.X→Out (Exit×AS):=fun x=> .ok (aH.L0.bp x)
def aH.L0.add:aH.L0.D→aH.L0.Y→aH.L0.X:=fun(h_2,wv,kv,vL,i,n18) y=>(h_2,y)
abbrev aH.L1.D:=(List Int)×Nat×Int×(List Int)
def aH.L1.st:aH.L1.D→AS:=fun(h_3,vL_2,i_2,n18_2)=>⟨([.d (.slice (.int .u32)) h_3]++bl 6 ([.bH (.new 18 0) 0 [] 0 0 vL_2]++bl 6 ([.d ti i_2]++bl 140 []))),[],(ch 18 ([[.obj 0 false (.vec 255 (.int .u32) n18_2)]]++ch 136 []))⟩
abbrev aH.L1.Y0:=(List Int)
abbrev aH.L1.X0:=(Nat)×((List Int))
def aH.L1.bp:aH.L1.X0→Exit×AS:=fun x=>(.exit 2,⟨(bl 7 ([.bH (.new 18 0) 0 [] 0 0 x.1]++bl 147 [])),[],(ch 18 ([[.obj 0 false (.vec 255 (.int .u32) x.2)]]++ch 136 []))⟩)
abbrev aH.L1.X:=aH.L1.X0
abbrev aH.L1.Y:=aH.L1.Y0
def aH.L1.out:aH.L1.X→Out (Exit×AS):=fun x=> .ok (aH.L1.bp x)
def aH.L1.add:aH.L1.D→aH.L1.Y→aH.L1.X:=fun(h_3,vL_2,i_2,n18_2) y=>(vL_2,y)
abbrev aH.D:=(List Int)×Bs
def aH.st:aH.D→SA:=fun(h,b)=>([.d (.slice (.int .u32)) h,.d tB b],[])
abbrev aH.Y:=(List Int)
abbrev aH.X:=(List Int)
def aH.out:aH.X→ba:=fun x=>⟨.d (.slice (.int .u32)) x,[],[]⟩
def aH.add:aH.D→aH.Y→aH.X:=fun(h,b) y=>y
def aH.L0.av:aH.L0.D→Prop:=fun(h,wv,kv,m,i,l)=>∃(s:St) (ws:List W) (k:Nat),h=s.l∧wv=wl ws∧ws.length=64∧k≤64∧i=k∧kv=rQ∧m=8∧l=(rounds ws s k).l
def aH.L0.F:aH.L0.D→aH.L0.Y:=fun(h,wv,kv,m,i,l)=>(8,(rounds (D0 wv) (xz h) 64).l)
def aH.L1.av:aH.L1.D→Prop:=fun(h,m,i,l)=>h.length=8∧l.length=8∧m=8∧∃k:Nat,k≤8∧i=k
def aH.L1.F:aH.L1.D→aH.L1.Y:=fun(h,m,i,l)=>from_ (fun i x=>bN .u32 x (nth (.int .u32) h i)) i.toNat l
def aH.av:aH.D→Prop:=fun(h,b)=>(∃s:St,h=s.l)∧64≤b.length
def aH.F:aH.D→aH.Y:=fun(h,b)=>(rU (xz h) b).l
noncomputable def aH.G:ed:=fk (P:=Tryz.prog) [aI.sg,eU.sg,dH.sg]
noncomputable def aH.L0.E:=bU.cD aH.L0.st aH.L0.av aH.L0.add aH.L0.F aH.L0.out
noncomputable def aH.L0.call:aH.L0.D→Option aH.L0.X:=dw aH.L0.E aH.L0.st
noncomputable def aH.L1.E:=bU.cD aH.L1.st aH.L1.av aH.L1.add aH.L1.F aH.L1.out
noncomputable def aH.L1.call:aH.L1.D→Option aH.L1.X:=dw aH.L1.E aH.L1.st
noncomputable def aH.an:eQ:= {bX:=[18,137],loops:=jB [(5,{bn:=[0,5,6,7,8],sites:=[18,137],iE:=[⟨7,[],18,0⟩]}),(14,{bn:=[0,7,14],sites:=[18]})],outs:=jA [(5,{bn:=[0,7],sites:=[18]},{bn:=[4]}),(14,{bn:=[7],sites:=[18]},{bn:=[4]})],fC:=kf [(5,aH.L0.E),(14,aH.L1.E)],res:=[some (.slice (.int .u32))]}
noncomputable def aH.A:= @cY Tryz.prog aH.G aH.an 0 Tryz.f264 _ aH.st
abbrev aH.Ok:=dd @aH.A aH.av aH.add aH.F aH.out
noncomputable def aH.L0.R:= @cj Tryz.prog aH.G aH.an 0 Tryz.f264 0 _ aH.L0.st
abbrev aH.L0.Ok:=ew Tryz.prog aH.G aH.an 0 Tryz.f264 0 aH.L0.st aH.L0.av aH.L0.add aH.L0.F aH.L0.out
noncomputable def aH.L1.R:= @cj Tryz.prog aH.G aH.an 0 Tryz.f264 1 _ aH.L1.st
abbrev aH.L1.Ok:=ew Tryz.prog aH.G aH.an 0 Tryz.f264 1 aH.L1.st aH.L1.av aH.L1.add aH.L1.F aH.L1.out
theorem aH.L0.run:bM aH.L0.call aH.L0.av aH.L0.add aH.L0.F:=eM (eL [.d (.slice (.int .u32)),.d (.slice (.int .u32)),.d (.slice (.int .u32)),.n,.d ti,.d (.slice (.int .u32))] fun _=>by kernel_rfl)
theorem aH.L0.aB:fQ @aH.L0.R aH.L0.st aH.L0.av aH.L0.add aH.L0.F aH.L0.bp aH.L0.Ok:=fU
theorem aH.L0.step{R:Type}(h_2:(List Int))(wv:(List Int))(kv:(List Int))(vL:Nat)(i:Int)(n18:(List Int))(kn:AS→Option R)(kx:Exit→AS→Option R):aH.L0.R (h_2,wv,kv,vL,i,n18) kn kx=
  aG ((fM i (64:Int))) (
   aG (eI (4:Int) ((vL:Nat):Int)) (
   aG (decide (4 < (List.length n18))) (
   ah (dH.call ((nth (.int .u32) n18 4),(6:Int))) fun x1=>
   aG (eI (4:Int) ((vL:Nat):Int)) (
   aG (decide (4 < (List.length n18))) (
   ah (dH.call ((nth (.int .u32) n18 4),(11:Int))) fun x2=>
   aG (eI (4:Int) ((vL:Nat):Int)) (
   aG (decide (4 < (List.length n18))) (
   ah (dH.call ((nth (.int .u32) n18 4),(25:Int))) fun x3=>
   aG (eI (4:Int) ((vL:Nat):Int)) (
   aG (decide (4 < (List.length n18))) (
   aG (eI (5:Int) ((vL:Nat):Int)) (
   aG (decide (5 < (List.length n18))) (
   aG (eI (4:Int) ((vL:Nat):Int)) (
   aG (decide (4 < (List.length n18))) (
   aG (eI (6:Int) ((vL:Nat):Int)) (
   aG (decide (6 < (List.length n18))) (
   aG (eI (7:Int) ((vL:Nat):Int)) (
   aG (decide (7 < (List.length n18))) (
   aG (eI i (((List.length kv):Nat):Int)) (
   aG (eI i (((List.length wv):Nat):Int)) (
   aG (eI (0:Int) ((vL:Nat):Int)) (
   aG (decide (0 < (List.length n18))) (
   ah (dH.call ((nth (.int .u32) n18 0),(2:Int))) fun x4=>
   aG (eI (0:Int) ((vL:Nat):Int)) (
   aG (decide (0 < (List.length n18))) (
   ah (dH.call ((nth (.int .u32) n18 0),(13:Int))) fun x5=>
   aG (eI (0:Int) ((vL:Nat):Int)) (
   aG (decide (0 < (List.length n18))) (
   ah (dH.call ((nth (.int .u32) n18 0),(22:Int))) fun x6=>
   aG (eI (0:Int) ((vL:Nat):Int)) (
   aG (decide (0 < (List.length n18))) (
   aG (eI (1:Int) ((vL:Nat):Int)) (
   aG (decide (1 < (List.length n18))) (
   aG (eI (0:Int) ((vL:Nat):Int)) (
   aG (decide (0 < (List.length n18))) (
   aG (eI (2:Int) ((vL:Nat):Int)) (
   aG (decide (2 < (List.length n18))) (
   aG (eI (1:Int) ((vL:Nat):Int)) (
   aG (decide (1 < (List.length n18))) (
   aG (eI (2:Int) ((vL:Nat):Int)) (
   aG (decide (2 < (List.length n18))) (
   aG (eI (0:Int) ((vL:Nat):Int)) (
   aG (decide (0 < (List.length n18))) (
   aG (eI (1:Int) ((vL:Nat):Int)) (
   aG (decide (1 < (List.length n18))) (
   aG (eI (2:Int) ((vL:Nat):Int)) (
   aG (decide (2 < (List.length n18))) (
   aG (eI (3:Int) ((vL:Nat):Int)) (
   aG (decide (3 < (List.length n18))) (
   aG (eI (4:Int) ((vL:Nat):Int)) (
   aG (decide (4 < (List.length n18))) (
   aG (eI (5:Int) ((vL:Nat):Int)) (
   aG (decide (5 < (List.length n18))) (
   aG (eI (6:Int) ((vL:Nat):Int)) (
   aG (decide (6 < (List.length n18))) (
   kn (aH.L0.st (h_2,wv,kv,8,(bN .i64 i (1:Int)),[(bN .u32 (bN .u32 (bN .u32 (bN .u32 (bN .u32 (bN .u32 (nth (.int .u32) n18 7) (cw .xor .u32 (cw .xor .u32 x1 x2) x3)) (cw .xor .u32 (cw .and .u32 (nth (.int .u32) n18 4) (nth (.int .u32) n18 5)) (cw .and .u32 (EB .u32 (nth (.int .u32) n18 4)) (nth (.int .u32) n18 6)))) (nth (.int .u32) kv (Int.toNat i))) (nth (.int .u32) wv (Int.toNat i))) (cw .xor .u32 (cw .xor .u32 x4 x5) x6)) (cw .xor .u32 (cw .xor .u32 (cw .and .u32 (nth (.int .u32) n18 0) (nth (.int .u32) n18 1)) (cw .and .u32 (nth (.int .u32) n18 0) (nth (.int .u32) n18 2))) (cw .and .u32 (nth (.int .u32) n18 1) (nth (.int .u32) n18 2)))),(nth (.int .u32) n18 0),(nth (.int .u32) n18 1),(nth (.int .u32) n18 2),(bN .u32 (nth (.int .u32) n18 3) (bN .u32 (bN .u32 (bN .u32 (bN .u32 (nth (.int .u32) n18 7) (cw .xor .u32 (cw .xor .u32 x1 x2) x3)) (cw .xor .u32 (cw .and .u32 (nth (.int .u32) n18 4) (nth (.int .u32) n18 5)) (cw .and .u32 (EB .u32 (nth (.int .u32) n18 4)) (nth (.int .u32) n18 6)))) (nth (.int .u32) kv (Int.toNat i))) (nth (.int .u32) wv (Int.toNat i)))),(nth (.int .u32) n18 4),(nth (.int .u32) n18 5),(nth (.int .u32) n18 6)]))) none) none) none) none) none) none) none) none) none) none) none) none) none) none) none) none) none) none) none) none) none) none) none) none) none) none) none) none) none) none) none) none) none) none) none) none) none) none) none) none) none) none) none) none) none) none) none) none) none) none) (
   kx (aH.L0.bp (h_2,(vL,n18))).1 (aH.L0.bp (h_2,(vL,n18))).2):=by kernel_rfl
theorem aH.L1.run:bM aH.L1.call aH.L1.av aH.L1.add aH.L1.F:=eM (eL [.d (.slice (.int .u32)),.n,.d ti,.d (.slice (.int .u32))] fun _=>by kernel_rfl)
theorem aH.L1.aB:fQ @aH.L1.R aH.L1.st aH.L1.av aH.L1.add aH.L1.F aH.L1.bp aH.L1.Ok:=fU
theorem aH.L1.step{R:Type}(h_3:(List Int))(vL_2:Nat)(i_2:Int)(n18_2:(List Int))(kn:AS→Option R)(kx:Exit→AS→Option R):aH.L1.R (h_3,vL_2,i_2,n18_2) kn kx=
  aG ((fM i_2 (8:Int))) (
   aG (eI i_2 ((vL_2:Nat):Int)) (
   aG (decide ((0+(Int.toNat i_2)) < (List.length n18_2))) (
   aG (decide ((((0+(Int.toNat i_2))*1)+0)=(0+((Int.toNat i_2)*1)))) (
   aG (eI i_2 (((List.length h_3):Nat):Int)) (
   aG (eI i_2 ((vL_2:Nat):Int)) (
   aG (decide ((0+(Int.toNat i_2)) < (List.length n18_2))) (
   aG (decide ((((0+(Int.toNat i_2))*1)+0)=(0+((Int.toNat i_2)*1)))) (
   aG (decide ((0+(Int.toNat i_2)) < (List.length n18_2))) (
   kn (aH.L1.st (h_3,vL_2,(bN .i64 i_2 (1:Int)),(List.set n18_2 (0+(Int.toNat i_2)) (bN .u32 (nth (.int .u32) n18_2 (0+(Int.toNat i_2))) (nth (.int .u32) h_3 (Int.toNat i_2))))))) none) none) none) none) none) none) none) none) (
   kx (aH.L1.bp (vL_2,n18_2)).1 (aH.L1.bp (vL_2,n18_2)).2):=by kernel_rfl
theorem aH.eq{R:Type}(h:(List Int))(b:Bs)(k:ba→Option R):aH.A (h,b) k=
 ah (aI.call b) fun x1=>
 ah (eU.call ()) fun x2=>
 aG (db (0+(List.length h)) 4) (
 ah (aH.L0.call (h,x1,x2,(0+(List.length h)),(0:Int),((List.take 0 (List.replicate 0 (0:Int)))++h))) fun x15=>
 ah (aH.L1.call (x15.1,x15.2.1,(0:Int),x15.2.2)) fun x16=>
 aG (decide (0=0∧(0+x16.1)≤(List.length x16.2))) (
 k (aH.out (cut x16.2 0 x16.1))) none) none:=by kernel_rfl
theorem C2(w:W):EB .u32 (vw w)=vw (~~~w):=by
 have e:(if IntKind.u32.signed then -1 else IntKind.u32.max:Int)=vw (BitVec.allOnes 32):=rfl
 unfold EB
 rw[e,jk]
 simp only[BitVec.allOnes_xor]
theorem G1(e f g:W):(e &&& f)^^^(~~~e &&& g)=g^^^(e &&& (f^^^g)):=by
 ext i hi
 simp only[BitVec.getElem_xor,BitVec.getElem_and,BitVec.getElem_not]
 cases e[i] <;> cases f[i] <;> cases g[i] <;> rfl
theorem F7(a b c:W):(a &&& b)^^^(a &&& c)^^^(b &&& c)=(a &&& b) ||| (c &&& (a ||| b)):=by
 ext i hi
 simp only[BitVec.getElem_xor,BitVec.getElem_and,BitVec.getElem_or]
 cases a[i] <;> cases b[i] <;> cases c[i] <;> rfl
theorem aH.L0.ok:aH.L0.Ok:=by
 refine aH.L0.aB (fun(h,wv,kv,m,i,l)=>64 - i.toNat) ?_
 rintro⟨h,wv,kv,m,i,l⟩ ⟨s,ws,k,rfl,rfl,hw,hk,rfl,rfl,rfl,rfl⟩
 by_cases hlt:k < 64
 ·left
  refine⟨(s.l,wl ws,rQ,8,((k+1:Nat):Int),(rounds ws s (k+1)).l),⟨s,ws,k+1,rfl,rfl,hw,by omega,rfl,rfl,rfl,rfl⟩,by simp only;omega,rfl,fun kn kx=> ?_⟩
  rw[aH.L0.step]
  generalize hv:rounds ws s k=v
  have t1:∀w:W,dH.call (vw w,6)=some (vw (kS w 6)):=fun w=>dH.at w (by omega)
  have t2:∀w:W,dH.call (vw w,11)=some (vw (kS w 11)):=fun w=>dH.at w (by omega)
  have t3:∀w:W,dH.call (vw w,25)=some (vw (kS w 25)):=fun w=>dH.at w (by omega)
  have t4:∀w:W,dH.call (vw w,2)=some (vw (kS w 2)):=fun w=>dH.at w (by omega)
  have t5:∀w:W,dH.call (vw w,13)=some (vw (kS w 13)):=fun w=>dH.at w (by omega)
  have t6:∀w:W,dH.call (vw w,22)=some (vw (kS w 22)):=fun w=>dH.at w (by omega)
  rw[n0,n1,n2,n3,n4,n5,n6,n7,t1,aa,t2,aa,t3,aa,t4,aa,t5,aa,t6,aa]
  simp(disch:=omega) only[↓S1,↓if_pos,↓if_neg,if_pos,if_neg,if_true,if_false,S2,St.yB,sx,l9,hw,yA k hlt,sm ws k (by omega),jk,ns,C2,G1,F7]
  show kn _=kn (aH.L0.st (s.l,wl ws,rQ,8,((k+1:Nat):Int),(Ia (rounds ws s k) (kw k) (ws.getD k 0)).l))
  rw[hv]
  rfl
 ·right
  obtain rfl:k=64:=by omega
  intro R kn kx
  rw[aH.L0.step]
  simp(disch:=omega) only[↓S1,↓if_pos,↓if_neg,if_pos,if_neg,if_true,if_false,S2,aH.L0.add,aH.L0.F,nZ,iS]
theorem aH.L1.ok:aH.L1.Ok:=by
 refine aH.L1.aB (fun(h,m,i,l)=>8 - i.toNat) ?_
 rintro⟨h,m,i,l⟩ ⟨hh,hl,rfl,k,hk,rfl⟩
 have hl:l.length=8:=hl
 have hh:h.length=8:=hh
 by_cases hlt:k < 8
 ·left
  have hn:nth (.int .u32) l k=l[k]:=cn (t:= .int .u32) (by omega)
  refine⟨(h,8,((k+1:Nat):Int),l.set k (bN .u32 l[k] (nth (.int .u32) h k))),⟨hh,by simpa using hl,rfl,k+1,by omega,rfl⟩,by simp only;omega,?_,fun kn kx=> ?_⟩
  ·simp only[aH.L1.add,aH.L1.F,Int.toNat_natCast]
   rw[pb (fun i x=>bN .u32 x (nth (.int .u32) h i)) l k (by omega)]
  ·rw[aH.L1.step]
   simp(disch:=omega) only[↓S1,↓if_pos,↓if_neg,if_pos,if_neg,if_true,if_false,S2,hl,hh,Nat.zero_add,Nat.mul_one,Nat.add_zero,hn]
 ·right
  obtain rfl:k=8:=by omega
  intro R kn kx
  rw[aH.L1.step]
  simp(disch:=omega) only[↓S1,↓if_pos,↓if_neg,if_pos,if_neg,if_true,if_false,S2,aH.L1.add,aH.L1.F]
  rw[qD _ _ _ (by omega)]
theorem F9(s:St)(b:List Int):from_ (fun i x=>bN .u32 x (nth (.int .u32) s.l i)) 0 (rounds (sched b) s 64).l=(rU s b).l:=by
 unfold rU
 generalize rounds (sched b) s 64=v
 obtain⟨a1,b1,c1,d1,f1,g1,h1,i1⟩:=v
 simp only[St.l,from_,List.mapIdx_cons,List.mapIdx_nil,Nat.not_lt_zero,if_false,Nat.zero_add,Nat.reduceAdd]
 simp only[nth,List.getD_cons_zero,List.getD_cons_succ,ns]
theorem aH.ok:aH.Ok:=by
 rintro⟨h,b⟩ ⟨⟨s,rfl⟩,hb⟩
 have p0:aI.av b:=hb
 have hsl:(sched b).length=64:=by unfold sched;rw[mF,eW]
 have p1:aH.L0.av (s.l,wl (sched b),rQ,8,0,s.l):=⟨s,sched b,0,rfl,rfl,hsl,by omega,rfl,rfl,rfl,rfl⟩
 have p2:aH.L1.av (s.l,8,0,(rounds (sched b) s 64).l):=⟨rfl,rfl,rfl,0,by omega,rfl⟩
 have e0:0+s.l.length=8:=rfl
 have e1:List.take 0 (List.replicate 0 (0:Int))++s.l=s.l:=rfl
 rw[aH.eq]
 simp(disch:=omega) only[↓S1,↓if_pos,↓if_neg,if_pos,if_neg,if_true,if_false,S2,aI.run p0,aI.add,aI.F,eU.run (d:=()) trivial,eU.add,eU.F,e0,e1,aH.L0.run p1,aH.L0.add,aH.L0.F,nZ,iS,aH.L1.run p2,aH.L1.add,aH.L1.F,Int.toNat_zero,F9]
 have e2:(rU s b).l.length=8:=rfl
 have e3:cut (rU s b).l 0 8=(rU s b).l:=rfl
 simp only[e2,Nat.zero_add,Nat.le_refl,if_true,e3,aH.add,aH.F,iS]
noncomputable def aH.E:=Entry.cD [some (.slice (.int .u32)),some tB] aH.st aH.av aH.add aH.F aH.out
noncomputable def aH.call:aH.D→Option aH.X:=bS aH.E aH.st
theorem aH.run:bM aH.call aH.av aH.add aH.F:=dq (df [.d (.slice (.int .u32)),.d tB] fun _=>by kernel_rfl)
noncomputable def aH.sg:SG Tryz.prog:=⟨264,aR,aH.E,.fn 2 (by kernel_rfl) aH.ok (And.intro (.cD aH.L0.ok (by kernel_rfl)) (And.intro (.cD aH.L1.ok (by kernel_rfl)) trivial))⟩
set_option synthInstance.maxSize 5000
abbrev bR.L0.D:=Bs×(List Int)×Int×Bs
def bR.L0.st:bR.L0.D→AS:=fun(p,h,i,n2)=>⟨([.undef,.undef,.ptr (.new 2 0) 0 [] 0,.d tB p,.d (.slice (.int .u32)) h,.d ti i]++bl 36 []),[],([[],[],[.obj 0 false (.d tH n2)]]++ch 39 [])⟩
abbrev bR.L0.Y0:=(List Int)
abbrev bR.L0.X0:=(Bs)×((List Int))
def bR.L0.bp:bR.L0.X0→Exit×AS:=fun x=>(.exit 0,⟨([.undef,.undef,.ptr (.new 2 0) 0 [] 0,.undef,.d (.slice (.int .u32)) x.2]++bl 37 []),[],([[],[],[.obj 0 false (.d tH x.1)]]++ch 39 [])⟩)
abbrev bR.L0.X:=bR.L0.X0
abbrev bR.L0.Y:=bR.L0.Y0
def bR.L0.out:bR.L0.X→Out (Exit×AS):=fun x=> .ok (bR.L0.bp x)
def bR.L0.add:bR.L0.D→bR.L0.Y→bR.L0.X:=fun(p,h,i,n2) y=>(n2,y)
abbrev bR.L1.D:=(List Int)×Int×Bs×Bs
def bR.L1.st:bR.L1.D→AS:=fun(h_2,i_2,n2_2,n6)=>⟨([.undef,.undef,.ptr (.new 2 0) 0 [] 0,.undef,.d (.slice (.int .u32)) h_2,.undef,.ptr (.new 6 0) 0 [] 0,.d ti i_2]++bl 34 []),[],([[],[],[.obj 0 false (.d tH n2_2)],[],[],[],[.obj 0 false (.d tH n6)]]++ch 35 [])⟩
abbrev bR.L1.Y0:=Bs
abbrev bR.L1.X0:=(Bs)×(Bs)
def bR.L1.bp:bR.L1.X0→Exit×AS:=fun x=>(.exit 2,⟨([.undef,.undef,.ptr (.new 2 0) 0 [] 0,.undef,.undef,.undef,.ptr (.new 6 0) 0 [] 0]++bl 35 []),[],([[],[],[.obj 0 false (.d tH x.1)],[],[],[],[.obj 0 false (.d tH x.2)]]++ch 35 [])⟩)
abbrev bR.L1.X:=bR.L1.X0
abbrev bR.L1.Y:=bR.L1.Y0
def bR.L1.out:bR.L1.X→Out (Exit×AS):=fun x=> .ok (bR.L1.bp x)
def bR.L1.add:bR.L1.D→bR.L1.Y→bR.L1.X:=fun(h_2,i_2,n2_2,n6) y=>(n2_2,y)
abbrev bR.D:=Bs
def bR.st:bR.D→SA:=fun b=>([.d tB b],[])
abbrev bR.Y:=Bs
abbrev bR.X:=Bs
def bR.out:bR.X→ba:=fun x=>⟨.d tH x,[],[]⟩
def bR.add:bR.D→bR.Y→bR.X:=fun b y=>y
def bR.L0.av:bR.L0.D→Prop:=fun(p,h,i,n2)=>p.length%64=0∧p.length≤140737488355328∧∃(s:St) (k:Nat),h=s.l∧i=((64*k:Nat):Int)∧64*k≤p.length
def bR.L0.F:bR.L0.D→bR.L0.Y:=fun(p,h,i,n2)=>(blocks (xz h) (p.drop i.toNat)).l
def bR.L1.av:bR.L1.D→Prop:=fun(h,i,n2,l)=>h.length=8∧l.length=32∧∃k:Nat,k≤32∧i=k
def bR.L1.F:bR.L1.D→bR.L1.Y:=fun(h,i,n2,l)=>from_ (pC h) i.toNat l
def bR.av:bR.D→Prop:=fun b=>b.length≤140737488350000
def bR.F:bR.D→bR.Y:=fun b=>Gi b
noncomputable def bR.G:ed:=fk (P:=Tryz.prog) [az.sg,cW.sg,aH.sg]
noncomputable def bR.L0.E:=bU.cD bR.L0.st bR.L0.av bR.L0.add bR.L0.F bR.L0.out
noncomputable def bR.L0.call:bR.L0.D→Option bR.L0.X:=dw bR.L0.E bR.L0.st
noncomputable def bR.L1.E:=bU.cD bR.L1.st bR.L1.av bR.L1.add bR.L1.F bR.L1.out
noncomputable def bR.L1.call:bR.L1.D→Option bR.L1.X:=dw bR.L1.E bR.L1.st
noncomputable def bR.an:eQ:= {loops:=jB [(4,{bn:=[2,3,4,5],sites:=[2]}),(9,{bn:=[2,4,6,7],sites:=[2,6]})],outs:=jA [(4,{bn:=[2,4],sites:=[2]},{bn:=[2]}),(9,{bn:=[2,6],sites:=[2,6]},{bn:=[2]})],fC:=kf [(4,bR.L0.E),(9,bR.L1.E)]}
noncomputable def bR.A:= @cY Tryz.prog bR.G bR.an 0 Tryz.f219 _ bR.st
abbrev bR.Ok:=dd @bR.A bR.av bR.add bR.F bR.out
noncomputable def bR.L0.R:= @cj Tryz.prog bR.G bR.an 0 Tryz.f219 0 _ bR.L0.st
abbrev bR.L0.Ok:=ew Tryz.prog bR.G bR.an 0 Tryz.f219 0 bR.L0.st bR.L0.av bR.L0.add bR.L0.F bR.L0.out
noncomputable def bR.L1.R:= @cj Tryz.prog bR.G bR.an 0 Tryz.f219 1 _ bR.L1.st
abbrev bR.L1.Ok:=ew Tryz.prog bR.G bR.an 0 Tryz.f219 1 bR.L1.st bR.L1.av bR.L1.add bR.L1.F bR.L1.out
theorem bR.L0.run:bM bR.L0.call bR.L0.av bR.L0.add bR.L0.F:=eM (eL [.d tB,.d (.slice (.int .u32)),.d ti,.d tB] fun _=>by kernel_rfl)
theorem bR.L0.aB:fQ @bR.L0.R bR.L0.st bR.L0.av bR.L0.add bR.L0.F bR.L0.bp bR.L0.Ok:=fU
theorem bR.L0.step{R:Type}(p:Bs)(h:(List Int))(i:Int)(n2:Bs)(kn:AS→Option R)(kx:Exit→AS→Option R):bR.L0.R (p,h,i,n2) kn kx=
  aG ((fM i (((List.length p):Nat):Int))) (
   aG (inc (bN .i64 i (64:Int)) (((List.length p):Nat):Int)) (
   aG (inc i (((Int.toNat (bN .i64 i (64:Int))):Nat):Int)) (
   ah (aH.call (h,(cut p (Int.toNat i) ((Int.toNat (bN .i64 i (64:Int))) - (Int.toNat i))))) fun x1=>
   kn (bR.L0.st (p,x1,(bN .i64 i (64:Int)),n2))) none) none) (
   kx (bR.L0.bp (n2,h)).1 (bR.L0.bp (n2,h)).2):=by kernel_rfl
theorem bR.L1.run:bM bR.L1.call bR.L1.av bR.L1.add bR.L1.F:=eM (eL [.d (.slice (.int .u32)),.d ti,.d tB,.d tB] fun _=>by kernel_rfl)
theorem bR.L1.aB:fQ @bR.L1.R bR.L1.st bR.L1.av bR.L1.add bR.L1.F bR.L1.bp bR.L1.Ok:=fU
theorem bR.L1.step{R:Type}(h_2:(List Int))(i_2:Int)(n2_2:Bs)(n6:Bs)(kn:AS→Option R)(kx:Exit→AS→Option R):bR.L1.R (h_2,i_2,n2_2,n6) kn kx=
  aG ((fM i_2 (32:Int))) (
   aG (eI (ke .i64 i_2 (4:Int)) (((List.length h_2):Nat):Int)) (
   aG (iC (da .i64 (24:Int) (fq .i64 (8:Int) (gT i_2 (4:Int))))) (
   aG (eI i_2 (32:Int)) (
   aG (decide ((Int.toNat i_2) < (List.length n6))) (
   aG (decide ((((Int.toNat i_2)*1)+0)=(0+((Int.toNat i_2)*1)))) (
   aG (decide ((Int.toNat i_2) < (List.length n6))) (
   kn (bR.L1.st (h_2,(bN .i64 i_2 (1:Int)),n2_2,(List.set n6 (Int.toNat i_2) (dR .u8 (cg .u32 (nth (.int .u32) h_2 (Int.toNat (ke .i64 i_2 (4:Int)))) (da .i64 (24:Int) (fq .i64 (8:Int) (gT i_2 (4:Int)))))))))) none) none) none) none) none) none) (
   kx (bR.L1.bp (n2_2,n6)).1 (bR.L1.bp (n2_2,n6)).2):=by kernel_rfl
theorem bR.eq{R:Type}(b:Bs)(k:ba→Option R):bR.A b k=
 ah (az.call b) fun x1=>
 ah (cW.call ()) fun x2=>
 ah (bR.L0.call (x1,x2,(0:Int),(List.replicate 32 (0:Int)))) fun x4=>
 ah (bR.L1.call (x4.2,(0:Int),x4.1,(List.replicate 32 (0:Int)))) fun x5=>
 k (bR.out x5.2):=by kernel_rfl
theorem bR.L0.ok:bR.L0.Ok:=by
 refine bR.L0.aB (fun(p,h,i,n2)=>p.length - i.toNat) ?_
 rintro⟨p,h,i,n2⟩ ⟨hm,hb,s,k,rfl,rfl,hk⟩
 have hm:p.length%64=0:=hm
 have hb:p.length≤140737488355328:=hb
 have hk:64*k≤p.length:=hk
 by_cases hlt:64*k < p.length
 ·left
  have e1:cut p (64*k) (64*k+64 - 64*k)=(p.drop (64*k)).take 64:=by unfold cut;rw[show 64*k+64 - 64*k=64 by omega]
  have e2:(p.drop (64*k)).drop 64=p.drop (64*(k+1)):=by rw[List.drop_drop];congr 1
  have e3:(64*(k+1):Nat)=64*k+64:=by omega
  have p1:aH.av (s.l,(p.drop (64*k)).take 64):=⟨⟨s,rfl⟩,by simp;omega⟩
  refine⟨(p,(rU s ((p.drop (64*k)).take 64)).l,((64*(k+1):Nat):Int),n2),⟨hm,hb,_,k+1,rfl,rfl,by omega⟩,by simp only[Int.toNat_natCast];omega,?_,fun kn kx=> ?_⟩
  ·simp only[bR.L0.add,bR.L0.F,iS,Int.toNat_natCast]
   rw[oA s (p.drop (64*k)) (by simp;omega),e2]
  ·rw[bR.L0.step]
   simp(disch:=omega) only[↓S1,↓if_pos,↓if_neg,if_pos,if_neg,if_true,if_false,S2,e1,aH.run p1,aH.add,aH.F,iS,e3]
 ·right
  intro R kn kx
  rw[bR.L0.step]
  simp(disch:=omega) only[↓S1,↓if_pos,↓if_neg,if_pos,if_neg,if_true,if_false,S2,bR.L0.add,bR.L0.F,iS]
  rw[nF s _ (by simp;omega)]
theorem bR.L1.ok:bR.L1.Ok:=by
 refine bR.L1.aB (fun(h,i,n2,l)=>32 - i.toNat) ?_
 rintro⟨h,i,n2,l⟩ ⟨h8,hl,k,hk,rfl⟩
 have hl:l.length=32:=hl
 have h8:h.length=8:=h8
 by_cases hlt:k < 32
 ·left
  refine⟨(h,((k+1:Nat):Int),n2,l.set k (pC h k l[k])),⟨h8,by simpa using hl,k+1,by omega,rfl⟩,by simp only[Int.toNat_natCast];omega,?_,fun kn kx=> ?_⟩
  ·simp only[bR.L1.add,bR.L1.F,Int.toNat_natCast]
   rw[pb (pC h) l k (by omega)]
  ·rw[bR.L1.step]
   simp(disch:=omega) only[↓S1,↓if_pos,↓if_neg,if_pos,if_neg,if_true,if_false,S2,hl,h8,Nat.mul_one,Nat.add_zero,Nat.zero_add,pC]
 ·right
  obtain rfl:k=32:=by omega
  intro R kn kx
  rw[bR.L1.step]
  simp(disch:=omega) only[↓S1,↓if_pos,↓if_neg,if_pos,if_neg,if_true,if_false,S2,bR.L1.add,bR.L1.F]
  rw[qD _ _ _ (by omega)]
theorem Ai(b:List Int):(pad b).length%64=0∧(pad b).length≤b.length+73:=by
 unfold pad
 simp only[List.length_append,List.length_cons,List.length_replicate,cq,mr]
 omega
theorem bR.ok:bR.Ok:=by
 intro b hb
 have hb:b.length≤140737488350000:=hb
 have p1:az.av b:=hb
 obtain⟨h1,h2⟩:=Ai b
 have p2:bR.L0.av (pad b,jT.l,0,List.replicate 32 0):=⟨h1,by omega,jT,0,rfl,rfl,by omega⟩
 have p3:bR.L1.av ((blocks jT (pad b)).l,0,List.replicate 32 0,List.replicate 32 0):=⟨rfl,rfl,0,by omega,rfl⟩
 rw[bR.eq]
 simp(disch:=omega) only[↓S1,↓if_pos,↓if_neg,if_pos,if_neg,if_true,if_false,S2,az.run p1,az.add,az.F,cW.run (d:=()) trivial,cW.add,cW.F,bR.L0.run p2,bR.L0.add,bR.L0.F,iS,Int.toNat_zero,List.drop_zero,bR.L1.run p3,bR.L1.add,bR.L1.F,A6]
 rfl
noncomputable def bR.E:=Entry.cD [some tB] bR.st bR.av bR.add bR.F bR.out
noncomputable def bR.call:bR.D→Option bR.X:=bS bR.E bR.st
theorem bR.run:bM bR.call bR.av bR.add bR.F:=dq (df [.d tB] fun _=>by kernel_rfl)
noncomputable def bR.sg:SG Tryz.prog:=⟨219,aR,bR.E,.fn 2 (by kernel_rfl) bR.ok (And.intro (.cD bR.L0.ok (by kernel_rfl)) (And.intro (.cD bR.L1.ok (by kernel_rfl)) trivial))⟩
abbrev ei.D:=Int
def ei.st:ei.D→SA:=fun n=>([.d tu n],[])
abbrev ei.Y:=Nat×(List Int)
abbrev ei.X:=Nat×(List Int)
def ei.out:ei.X→ba:=fun x=>⟨.bH (.new 0 0) 0 [] 0 0 x.1,[],[.obj 0 false (.vec 5 tb x.2)]⟩
def ei.add:ei.D→ei.Y→ei.X:=fun n y=>y
def ei.av:ei.D→Prop:=fun n=>0≤n∧n < 18446744073709551616
def ei.F:ei.D→ei.Y:=fun n=>(8,iQ n)
noncomputable def ei.G:ed:=fk (P:=Tryz.prog) []
noncomputable def ei.an:eQ:= {loops:=jB [(3,{bn:=[0,3,4],sites:=[15]})],outs:=jA [(3,{bn:=[3],sites:=[15]},{bn:=[2],sites:=[15]})],iE:=[⟨2,[],15,140⟩]}
noncomputable def ei.A:= @cY Tryz.prog ei.G ei.an 10 Tryz.f218 _ ei.st
abbrev ei.Ok:=dd @ei.A ei.av ei.add ei.F ei.out
theorem ei.eq{R:Type}(n:Int)(k:ba→Option R):ei.A n k=
 k (ei.out (8,[(dR .u8 (cg .u64 n (56:Int))),(dR .u8 (cg .u64 n (48:Int))),(dR .u8 (cg .u64 n (40:Int))),(dR .u8 (cg .u64 n (32:Int))),(dR .u8 (cg .u64 n (24:Int))),(dR .u8 (cg .u64 n (16:Int))),(dR .u8 (cg .u64 n (8:Int))),(dR .u8 (cg .u64 n (0:Int)))])):=by kernel_rfl
theorem ei.ok:ei.Ok:=by
 intro n _
 have e:∀k:Nat,k≤64→dR .u8 (cg .u64 n (k:Int))=n / 2^k%256:=fun k hk=>uU n k hk
 rw[ei.eq]
 have e56:dR .u8 (cg .u64 n 56)=n / 2^56%256:=e 56 (by omega)
 have e48:dR .u8 (cg .u64 n 48)=n / 2^48%256:=e 48 (by omega)
 have e40:dR .u8 (cg .u64 n 40)=n / 2^40%256:=e 40 (by omega)
 have e32:dR .u8 (cg .u64 n 32)=n / 2^32%256:=e 32 (by omega)
 have e24:dR .u8 (cg .u64 n 24)=n / 2^24%256:=e 24 (by omega)
 have e16:dR .u8 (cg .u64 n 16)=n / 2^16%256:=e 16 (by omega)
 have e8:dR .u8 (cg .u64 n 8)=n / 2^8%256:=e 8 (by omega)
 have e0:=e 0 (by omega)
 rw[e56,e48,e40,e32,e24,e16,e8]
 have e0:dR .u8 (cg .u64 n 0)=n%256:=by rw[show(0:Int)=((0:Nat):Int) from rfl,e0];simp
 rw[e0]
 rfl
noncomputable def ei.E:=Entry.cD [some tu] ei.st ei.av ei.add ei.F ei.out
noncomputable def ei.call:ei.D→Option ei.X:=bS ei.E ei.st
theorem ei.run:bM ei.call ei.av ei.add ei.F:=dq (df [.d tu] fun _=>by kernel_rfl)
noncomputable def ei.sg:SG Tryz.prog:=⟨218,aR,ei.E,.fn 1 (by kernel_rfl) ei.ok (And.intro (.none (by kernel_rfl)) trivial)⟩
abbrev di.L0.D:=(List Bs)×Nat×Int×Bs×(List Int)
def di.L0.st:di.L0.D→AS:=fun(parts_2,bL,i,n4,n11)=>⟨([.undef,.d (.slice tB) parts_2,.undef,.undef,.ptr (.new 4 0) 0 [] 0,.bH (.new 11 0) 0 [] 0 0 bL,.d ti i]++bl 32 []),[],(ch 4 ([[.obj 0 false (.d tH n4)]]++ch 6 ([[.obj 0 false (.vec 5 tb n11)]]++ch 27 [])))⟩
abbrev di.L0.Y0:=Nat×(List Int)
abbrev di.L0.X0:=(Bs)×(Nat×(List Int))
def di.L0.bp:di.L0.X0→Exit×AS:=fun x=>(.exit 0,⟨(bl 4 ([.ptr (.new 4 0) 0 [] 0,.bH (.new 11 0) 0 [] 0 0 x.2.1]++bl 33 [])),[],(ch 4 ([[.obj 0 false (.d tH x.1)]]++ch 6 ([[.obj 0 false (.vec 5 tb x.2.2)]]++ch 27 [])))⟩)
abbrev di.L0.X:=di.L0.X0
abbrev di.L0.Y:=di.L0.Y0
def di.L0.out:di.L0.X→Out (Exit×AS):=fun x=> .ok (di.L0.bp x)
def di.L0.add:di.L0.D→di.L0.Y→di.L0.X:=fun(parts_2,bL,i,n4,n11) y=>(n4,y)
abbrev di.D:=ByteArray×(List Bs)
def di.st:di.D→SA:=fun(name,parts)=>([.d .str name,.d (.slice tB) parts],[])
abbrev di.Y:=Bs
abbrev di.X:=Bs
def di.out:di.X→ba:=fun x=>⟨.d tH x,[],[]⟩
def di.add:di.D→di.Y→di.X:=fun(name,parts) y=>y
def di.L0.av:di.L0.D→Prop:=fun(ps,m,i,n4,l)=>m=l.length∧∃k:Nat,k≤ps.length∧ps.length≤140737488350000∧i=k∧l.length+(iU (ps.drop k)).length≤140737488350000
def di.L0.F:di.L0.D→di.L0.Y:=fun(ps,m,i,n4,l)=>(l.length+(iU (ps.drop i.toNat)).length,l++iU (ps.drop i.toNat))
def di.av:di.D→Prop:=fun(name,ps)=>(sj (bG name) ps).length≤140737488350000
def di.F:di.D→di.Y:=fun(name,ps)=>tag (bG name) ps
noncomputable def di.G:ed:=fk (P:=Tryz.prog) [ei.sg,bR.sg]
noncomputable def di.L0.E:=bU.cD di.L0.st di.L0.av di.L0.add di.L0.F di.L0.out
noncomputable def di.L0.call:di.L0.D→Option di.L0.X:=dw di.L0.E di.L0.st
noncomputable def di.an:eQ:= {loops:=jB [(3,{bn:=[1,4,5,6],sites:=[4,11],iE:=[⟨5,[],11,140⟩]})],outs:=jA [(3,{bn:=[4,5],sites:=[4,11]},{bn:=[4]})],fC:=kf [(3,di.L0.E)]}
noncomputable def di.A:= @cY Tryz.prog di.G di.an 0 Tryz.f161 _ di.st
abbrev di.Ok:=dd @di.A di.av di.add di.F di.out
noncomputable def di.L0.R:= @cj Tryz.prog di.G di.an 0 Tryz.f161 0 _ di.L0.st
abbrev di.L0.Ok:=ew Tryz.prog di.G di.an 0 Tryz.f161 0 di.L0.st di.L0.av di.L0.add di.L0.F di.L0.out
theorem di.L0.run:bM di.L0.call di.L0.av di.L0.add di.L0.F:=eM (eL [.d (.slice tB),.n,.d ti,.d tB,.d tB] fun _=>by kernel_rfl)
theorem di.L0.aB:fQ @di.L0.R di.L0.st di.L0.av di.L0.add di.L0.F di.L0.bp di.L0.Ok:=fU
theorem di.L0.step{R:Type}(parts_2:(List Bs))(bL:Nat)(i:Int)(n4:Bs)(n11:(List Int))(kn:AS→Option R)(kx:Exit→AS→Option R):di.L0.R (parts_2,bL,i,n4,n11) kn kx=
  aG ((fM i (((List.length parts_2):Nat):Int))) (
   aG (eI i (((List.length parts_2):Nat):Int)) (
   ah (ei.call (dR .u64 (((List.length (nth tB parts_2 (Int.toNat i))):Nat):Int))) fun x1=>
   aG (decide (0=0∧(0+x1.1)≤(List.length x1.2))) (
   aG (decide (bL≤(List.length n11))) (
   aG (db (bL+(List.length (cut x1.2 0 x1.1))) 1) (
   aG (eI i (((List.length parts_2):Nat):Int)) (
   aG (decide ((bL+(List.length (cut x1.2 0 x1.1)))≤(List.length ((List.take bL n11)++(cut x1.2 0 x1.1))))) (
   aG (db ((bL+(List.length (cut x1.2 0 x1.1)))+(List.length (nth tB parts_2 (Int.toNat i)))) 1) (
   kn (di.L0.st (parts_2,((bL+(List.length (cut x1.2 0 x1.1)))+(List.length (nth tB parts_2 (Int.toNat i)))),(bN .i64 i (1:Int)),n4,((List.take (bL+(List.length (cut x1.2 0 x1.1))) ((List.take bL n11)++(cut x1.2 0 x1.1)))++(nth tB parts_2 (Int.toNat i)))))) none) none) none) none) none) none) none) (
   kx (di.L0.bp (n4,(bL,n11))).1 (di.L0.bp (n4,(bL,n11))).2):=by kernel_rfl
theorem di.eq{R:Type}(name:ByteArray)(parts:(List Bs))(k:ba→Option R):di.A (name,parts) k=
 ah (ei.call (dR .u64 (((ByteArray.size name):Nat):Int))) fun x1=>
 aG (decide (x1.1≤(List.length x1.2))) (
 aG (db (x1.1+(List.length (bG name))) 1) (
 ah (di.L0.call (parts,(x1.1+(List.length (bG name))),(0:Int),(List.replicate 32 (0:Int)),((List.take x1.1 x1.2)++(bG name)))) fun x4=>
 aG (decide (0=0∧(0+x4.2.1)≤(List.length x4.2.2))) (
 ah (bR.call (cut x4.2.2 0 x4.2.1)) fun x5=>
 k (di.out x5)) none) none) none:=by kernel_rfl
theorem Bg{n:Nat}(h:n < 18446744073709551616):dR .u64 ((n:Nat):Int)=n:=by rw[s7,fO];omega
theorem ei.at{n:Nat}(h:n < 18446744073709551616):ei.call (n:Int)=some (8,iQ (n:Int)):=ei.run (d:=(n:Int)) (show 0≤(n:Int)∧(n:Int) < 18446744073709551616 from⟨by omega,by omega⟩)
theorem G2{l:List Int}{n:Nat}(h:l.length=n):cut l 0 n=l:=by unfold cut;rw[List.drop_zero,List.take_of_length_le (by omega)]
theorem di.L0.ok:di.L0.Ok:=by
 refine di.L0.aB (fun(ps,m,i,n4,l)=>ps.length - i.toNat) ?_
 rintro⟨ps,m,i,n4,l⟩ ⟨rfl,k,hk,hpl,rfl,hl⟩
 have hk:k≤ps.length:=hk
 have hpl:ps.length≤140737488350000:=hpl
 have hl:l.length+(iU (ps.drop k)).length≤140737488350000:=hl
 by_cases h:k < ps.length
 ·left
  have ht:=wz ps k h
  have hlen:(iU (ps.drop k)).length=8+ps[k].length+(iU (ps.drop (k+1))).length:=by rw[ht];simp only[List.length_append,cq]
  have hn:nth (.slice (.int .u8)) ps k=ps[k]:=cn (t:= .slice (.int .u8)) h
  have hlb:(l++iQ (ps[k].length:Int)).length=l.length+8:=by simp[cq]
  refine⟨(ps,(l++iQ ps[k].length++ps[k]).length,((k+1:Nat):Int),n4,l++iQ ps[k].length++ps[k]),⟨rfl,k+1,by omega,hpl,rfl,?_⟩,by simp only[Int.toNat_natCast];omega,?_,fun kn kx=> ?_⟩
  ·simp only[List.length_append,cq];omega
  ·simp only[di.L0.add,di.L0.F,Int.toNat_natCast,ht,List.append_assoc]
   simp only[List.length_append,cq,Nat.add_assoc]
  ·have c8:cut (iQ (ps[k].length:Int)) 0 8=iQ (ps[k].length:Int):=G2 (cq _)
   have h64:ps[k].length < 18446744073709551616:=by omega
   rw[di.L0.step]
   simp(disch:=omega) only[↓S1,↓if_pos,↓if_neg,if_pos,if_neg,if_true,if_false,S2,hn,Bg h64,ei.at h64,cq,c8,List.take_length,hlb,Nat.zero_add,Nat.le_refl,and_self,if_true]
   rw[List.take_of_length_le (by rw[hlb];omega)]
   simp only[List.length_append,cq,Nat.add_assoc]
 ·right
  obtain rfl:k=ps.length:=by omega
  intro R kn kx
  rw[di.L0.step]
  simp(disch:=omega) only[↓S1,↓if_pos,↓if_neg,if_pos,if_neg,if_true,if_false,S2,di.L0.add,di.L0.F,List.drop_length]
  simp[iU]
theorem di.ok:di.Ok:=by
 rintro⟨name,ps⟩ hp
 have hp:(iQ (bG name).length++bG name++iU ps).length≤140737488350000:=hp
 have hl:(iQ (bG name).length++bG name++iU ps).length=8+(bG name).length+(iU ps).length:=by simp only[List.length_append,cq]
 have hpl:=uN ps
 have hsz:name.size=(bG name).length:=by rw[gZ]
 have h64:(bG name).length < 18446744073709551616:=by omega
 have p2:di.L0.av (ps,8+(bG name).length,0,List.replicate 32 0,iQ ((bG name).length:Int)++bG name):=by
  refine⟨by simp only[List.length_append,cq],0,Nat.zero_le _,by omega,rfl,?_⟩
  rw[List.drop_zero]
  simp only[List.length_append,cq]
  omega
 rw[di.eq,hsz]
 simp(disch:=omega) only[↓S1,↓if_pos,↓if_neg,if_pos,if_neg,if_true,if_false,S2,Bg h64,ei.at h64,cq,List.take_of_length_le (Nat.le_of_eq (cq _)),di.L0.run p2,di.L0.add,di.L0.F,Int.toNat_zero,List.drop_zero,Nat.zero_add]
 have hcut:cut (iQ ((bG name).length:Int)++bG name++iU ps) 0 ((iQ ((bG name).length:Int)++bG name).length+(iU ps).length)=sj (bG name) ps:=G2 (by simp only[List.length_append])
 have p3:bR.av (sj (bG name) ps):=hp
 rw[if_pos (by simp only[List.length_append];omega),hcut,bR.run p3]
 rfl
noncomputable def di.E:=Entry.cD [some .str,some (.slice tB)] di.st di.av di.add di.F di.out
noncomputable def di.call:di.D→Option di.X:=bS di.E di.st
theorem di.run:bM di.call di.av di.add di.F:=dq (df [.d .str,.d (.slice tB)] fun _=>by kernel_rfl)
noncomputable def di.sg:SG Tryz.prog:=⟨161,aR,di.E,.fn 1 (by kernel_rfl) di.ok (And.intro (.cD di.L0.ok (by kernel_rfl)) trivial)⟩
set_option synthInstance.maxSize 5000
theorem rz{n:Int}(h1:0≤n)(h2:n < 18446744073709551616):IntKind.u64.wrap n=n:=by
 rw[wrap_u64,fO];omega
theorem rv(n:Int):IntKind.u64.wrap n=n%18446744073709551616:=by
 rw[wrap_u64,fO];rfl
theorem jm(x y:Int):bN .u64 x y=(x+y)%18446744073709551616:=rv _
theorem s9(x y:Int):da .u64 x y=(x - y)%18446744073709551616:=rv _
theorem kZ(x y:Int):fq .u64 x y=(x*y)%18446744073709551616:=rv _
theorem zY(x:Int):dR .u64 x=x%18446744073709551616:=rv _
theorem xR{x:Int}(h:0≤x)(h2:x < 18446744073709551616):cw .and .u64 x 4294967295=x%4294967296:=by
 obtain⟨n,rfl⟩:∃n:Nat,x=n:=⟨x.toNat,by omega⟩
 have e:(BitVec.ofInt 64 (n:Int) &&& BitVec.ofInt 64 4294967295).toNat=n%4294967296:=by
  rw[BitVec.toNat_and]
  have a:(BitVec.ofInt 64 (n:Int)).toNat=n:=by rw[BitVec.ofInt_natCast,BitVec.toNat_ofNat];omega
  have b:(BitVec.ofInt 64 4294967295).toNat=2^32 - 1:=by decide
  rw[a,b,Nat.and_two_pow_sub_one_eq_mod]
 show IntKind.u64.wrap ((BitVec.ofInt 64 (n:Int) &&& BitVec.ofInt 64 4294967295).toNat:Int)=_
 rw[e,rz (by omega) (by omega)];omega
theorem GV{x:Int}(h:0≤x)(h2:x < 18446744073709551616):cw .and .u64 x 1=x%2:=by
 obtain⟨n,rfl⟩:∃n:Nat,x=n:=⟨x.toNat,by omega⟩
 have e:(BitVec.ofInt 64 (n:Int) &&& BitVec.ofInt 64 1).toNat=n%2:=by
  rw[BitVec.toNat_and]
  have a:(BitVec.ofInt 64 (n:Int)).toNat=n:=by rw[BitVec.ofInt_natCast,BitVec.toNat_ofNat];omega
  have b:(BitVec.ofInt 64 1).toNat=2^1 - 1:=by decide
  rw[a,b,Nat.and_two_pow_sub_one_eq_mod]
 show IntKind.u64.wrap ((BitVec.ofInt 64 (n:Int) &&& BitVec.ofInt 64 1).toNat:Int)=_
 rw[e,rz (by omega) (by omega)];omega
theorem lg{x k:Int}(n:Nat)(hk:k=n)(hn:n≤64):cg .u64 x k=x / 2^n:=by
 subst hk
 rw[cg]
 have e:min (Int.toNat (n:Int)) IntKind.u64.bits=n:=by simp only[IntKind.bits];omega
 rw[e,Int.fdiv_eq_ediv_of_nonneg _ (Int.le_of_lt (Int.pow_pos (by omega)))]
theorem lf{x k:Int}(n:Nat)(hk:k=n)(hn:n≤64):jv .u64 x k=x*2^n%18446744073709551616:=by
 subst hk
 rw[jv,rv]
 have e:min (Int.toNat (n:Int)) IntKind.u64.bits=n:=by simp only[IntKind.bits];omega
 rw[e]
theorem qQ{x y:Int}(k:Nat)(m:Int)(hm:m=2^k)(hx:x%m=0)(h0:0≤x)(h1:x < 18446744073709551616)(hy:0≤y)(hy2:y < m)(h2:x+y < 18446744073709551616):cw .or .u64 x y=x+y:=by
 subst hm
 obtain⟨n,rfl⟩:∃n:Nat,x=n:=⟨x.toNat,by omega⟩
 obtain⟨j,rfl⟩:∃j:Nat,y=j:=⟨y.toNat,by omega⟩
 have hx:n%2^k=0:=by
  have:((n%2^k:Nat):Int)=0:=by rw[Int.natCast_emod];simpa using hx
  omega
 have hj:j < 2^k:=by
  have:((j:Nat):Int) < ((2^k:Nat):Int):=by simpa using hy2
  omega
 obtain⟨q,rfl⟩:∃q,n=2^k*q:=⟨n / 2^k,by have:=Nat.div_add_mod n (2^k);omega⟩
 have e:(BitVec.ofInt 64 ((2^k*q:Nat):Int) ||| BitVec.ofInt 64 (j:Int)).toNat=2^k*q+j:=by
  rw[BitVec.toNat_or]
  have a:(BitVec.ofInt 64 ((2^k*q:Nat):Int)).toNat=2^k*q:=by rw[BitVec.ofInt_natCast,BitVec.toNat_ofNat];exact Nat.mod_eq_of_lt (by omega)
  have b:(BitVec.ofInt 64 (j:Int)).toNat=j:=by rw[BitVec.ofInt_natCast,BitVec.toNat_ofNat];exact Nat.mod_eq_of_lt (by omega)
  rw[a,b,Nat.two_pow_add_eq_or_of_lt hj]
 show IntKind.u64.wrap ((BitVec.ofInt 64 ((2^k*q:Nat):Int) ||| BitVec.ofInt 64 (j:Int)).toNat:Int)=_
 rw[e,rz (by omega) (by omega)];omega
theorem xd{x y:Int}(h:0≤x)(h1:0≤y)(h2:x < 18446744073709551616):ke .u64 x y=x / y:=by
 rw[ke,Int.tdiv_eq_ediv_of_nonneg h]
 exact rz (Int.ediv_nonneg h h1) (Int.lt_of_le_of_lt (Int.ediv_le_self _ h) h2)
theorem jL{x y:Int}(h:0≤x):gT x y=x%y:=by rw[gT,Int.tmod_eq_emod_of_nonneg h]
theorem k1{e u w r q:Int}(he:e=42260∨e=42264∨e=42272)(hu:0≤u)(hu2:u < 18446744073709551616 - e)(hw:0≤w)(hw2:w < 4294967296)(hr:0≤r)(hr2:r < 4294967296)
  (hq:q*4294967295+r=u) (hQ:(u*4294967296+w) / (18446744073709551616 - e)≤q):
  (4294967296≤q→(u*4294967296+w) / (18446744073709551616 - e)≤q - 1)∧
  (q < 4294967296→4294967296*r+w < q*(4294967296 - e)→(u*4294967296+w) / (18446744073709551616 - e)≤q - 1)∧
  (q < 4294967296→q*(4294967296 - e)≤4294967296*r+w→(u*4294967296+w) / (18446744073709551616 - e)=q)∧
  (4294967296≤r+4294967295→(u*4294967296+w) / (18446744073709551616 - e)≤q - 1→(u*4294967296+w) / (18446744073709551616 - e)=q - 1)∧0≤(u*4294967296+w) / (18446744073709551616 - e)∧q≤4294967297:=by
 rcases he with rfl | rfl | rfl
 ·refine⟨?_,?_,?_,?_,?_,?_⟩ <;> omega
 ·refine⟨?_,?_,?_,?_,?_,?_⟩ <;> omega
 ·refine⟨?_,?_,?_,?_,?_,?_⟩ <;> omega
theorem k0{e u w:Int}(he:e=42260∨e=42264∨e=42272)(hu:0≤u)(hu2:u < 18446744073709551616 - e)(hw:0≤w)(hw2:w < 4294967296):
  (u*4294967296+w) / (18446744073709551616 - e)≤u / 4294967295∧0≤u - u / 4294967295*4294967295∧u - u / 4294967295*4294967295 < 4294967296∧
  (u*4294967296+w) - (u*4294967296+w) / (18446744073709551616 - e)*(18446744073709551616 - e)=(u*4294967296+w)%(18446744073709551616 - e)∧
  0≤(u*4294967296+w)%(18446744073709551616 - e)∧(u*4294967296+w)%(18446744073709551616 - e) < 18446744073709551616 - e∧
  0≤(u*4294967296+w) / (18446744073709551616 - e)∧(u*4294967296+w) / (18446744073709551616 - e) < 4294967296:=by
 rcases he with rfl | rfl | rfl
 ·refine⟨?_,?_,?_,?_,?_,?_,?_,?_⟩ <;> omega
 ·refine⟨?_,?_,?_,?_,?_,?_,?_,?_⟩ <;> omega
 ·refine⟨?_,?_,?_,?_,?_,?_,?_,?_⟩ <;> omega
theorem kd(Y u w1 w0:Int)(hY:0 < Y)(h0:0≤w0)(h1:w0 < 4294967296):
  ((u*4294967296+w1)*4294967296+w0) / Y=(u*4294967296+w1) / Y*4294967296+((u*4294967296+w1)%Y*4294967296+w0) / Y∧
  ((u*4294967296+w1)*4294967296+w0)%Y=((u*4294967296+w1)%Y*4294967296+w0)%Y:=by
 generalize u*4294967296+w1=n
 have e:n*4294967296+w0=(n%Y*4294967296+w0)+Y*(n / Y*4294967296):=by
  have:=Int.emod_add_mul_ediv n Y
  have h:Y*(n / Y*4294967296)=(Y*(n / Y))*4294967296:=by rw[Int.mul_assoc]
  rw[h];omega
 rw[e,Int.add_mul_ediv_left _ _ (by omega),Int.add_mul_emod_self_left]
 exact⟨by omega,rfl⟩
abbrev eo.D:=Int
def eo.st:eo.D→SA:=fun x=>([.d tu x],[])
abbrev eo.Y:=Int
abbrev eo.X:=Int
def eo.out:eo.X→ba:=fun x=>⟨.d ti x,[],[]⟩
def eo.add:eo.D→eo.Y→eo.X:=fun x y=>y
def Hc(y:Int):Prop:=y=4611686018427377339∨y=2305843009213688669∨y=2305843009213688668
def eo.av:eo.D→Prop:=Hc
def eo.F:eo.D→eo.Y:=fun y=>if y=4611686018427377339 then 62 else 61
noncomputable def eo.G:ed:=fk (P:=Tryz.prog) []
noncomputable def eo.an:eQ:= {}
noncomputable def eo.A:= @cY Tryz.prog eo.G eo.an 0 Tryz.f215 _ eo.st
abbrev eo.Ok:=dd @eo.A eo.av eo.add eo.F eo.out
theorem eo.eq{R:Type}(x:Int)(k:ba→Option R):eo.A x k=
  aG ((nv x (4294967296:Int))) (
   aG ((nv (cg .u64 x (32:Int)) (65536:Int))) (
    aG ((nv (cg .u64 (cg .u64 x (32:Int)) (16:Int)) (256:Int))) (
     aG (eI (dR .u8 (cg .u64 (cg .u64 (cg .u64 x (32:Int)) (16:Int)) (8:Int))) (256:Int)) (
     k (eo.out (bN .i64 (56:Int) (dR .i64 (y6 (⟨#[0,1,2,2,3,3,3,3,4,4,4,4,4,4,4,4,5,5,5,5,5,5,5,5,5,5,5,5,5,5,5,5,6,6,6,6,6,6,6,6,6,6,6,6,6,6,6,6,6,6,6,6,6,6,6,6,6,6,6,6,6,6,6,6,7,7,7,7,7,7,7,7,7,7,7,7,7,7,7,7,7,7,7,7,7,7,7,7,7,7,7,7,7,7,7,7,7,7,7,7,7,7,7,7,7,7,7,7,7,7,7,7,7,7,7,7,7,7,7,7,7,7,7,7,7,7,7,7,8,8,8,8,8,8,8,8,8,8,8,8,8,8,8,8,8,8,8,8,8,8,8,8,8,8,8,8,8,8,8,8,8,8,8,8,8,8,8,8,8,8,8,8,8,8,8,8,8,8,8,8,8,8,8,8,8,8,8,8,8,8,8,8,8,8,8,8,8,8,8,8,8,8,8,8,8,8,8,8,8,8,8,8,8,8,8,8,8,8,8,8,8,8,8,8,8,8,8,8,8,8,8,8,8,8,8,8,8,8,8,8,8,8,8,8,8,8,8,8,8,8,8,8,8,8,8,8]⟩:ByteArray) (dR .u8 (cg .u64 (cg .u64 (cg .u64 x (32:Int)) (16:Int)) (8:Int)))))))) none) (
     aG (eI (dR .u8 (cg .u64 (cg .u64 x (32:Int)) (16:Int))) (256:Int)) (
     k (eo.out (bN .i64 (48:Int) (dR .i64 (y6 (⟨#[0,1,2,2,3,3,3,3,4,4,4,4,4,4,4,4,5,5,5,5,5,5,5,5,5,5,5,5,5,5,5,5,6,6,6,6,6,6,6,6,6,6,6,6,6,6,6,6,6,6,6,6,6,6,6,6,6,6,6,6,6,6,6,6,7,7,7,7,7,7,7,7,7,7,7,7,7,7,7,7,7,7,7,7,7,7,7,7,7,7,7,7,7,7,7,7,7,7,7,7,7,7,7,7,7,7,7,7,7,7,7,7,7,7,7,7,7,7,7,7,7,7,7,7,7,7,7,7,8,8,8,8,8,8,8,8,8,8,8,8,8,8,8,8,8,8,8,8,8,8,8,8,8,8,8,8,8,8,8,8,8,8,8,8,8,8,8,8,8,8,8,8,8,8,8,8,8,8,8,8,8,8,8,8,8,8,8,8,8,8,8,8,8,8,8,8,8,8,8,8,8,8,8,8,8,8,8,8,8,8,8,8,8,8,8,8,8,8,8,8,8,8,8,8,8,8,8,8,8,8,8,8,8,8,8,8,8,8,8,8,8,8,8,8,8,8,8,8,8,8,8,8,8,8,8,8]⟩:ByteArray) (dR .u8 (cg .u64 (cg .u64 x (32:Int)) (16:Int)))))))) none)) (
    aG ((nv (cg .u64 x (32:Int)) (256:Int))) (
     aG (eI (dR .u8 (cg .u64 (cg .u64 x (32:Int)) (8:Int))) (256:Int)) (
     k (eo.out (bN .i64 (40:Int) (dR .i64 (y6 (⟨#[0,1,2,2,3,3,3,3,4,4,4,4,4,4,4,4,5,5,5,5,5,5,5,5,5,5,5,5,5,5,5,5,6,6,6,6,6,6,6,6,6,6,6,6,6,6,6,6,6,6,6,6,6,6,6,6,6,6,6,6,6,6,6,6,7,7,7,7,7,7,7,7,7,7,7,7,7,7,7,7,7,7,7,7,7,7,7,7,7,7,7,7,7,7,7,7,7,7,7,7,7,7,7,7,7,7,7,7,7,7,7,7,7,7,7,7,7,7,7,7,7,7,7,7,7,7,7,7,8,8,8,8,8,8,8,8,8,8,8,8,8,8,8,8,8,8,8,8,8,8,8,8,8,8,8,8,8,8,8,8,8,8,8,8,8,8,8,8,8,8,8,8,8,8,8,8,8,8,8,8,8,8,8,8,8,8,8,8,8,8,8,8,8,8,8,8,8,8,8,8,8,8,8,8,8,8,8,8,8,8,8,8,8,8,8,8,8,8,8,8,8,8,8,8,8,8,8,8,8,8,8,8,8,8,8,8,8,8,8,8,8,8,8,8,8,8,8,8,8,8,8,8,8,8,8,8]⟩:ByteArray) (dR .u8 (cg .u64 (cg .u64 x (32:Int)) (8:Int)))))))) none) (
     aG (eI (dR .u8 (cg .u64 x (32:Int))) (256:Int)) (
     k (eo.out (bN .i64 (32:Int) (dR .i64 (y6 (⟨#[0,1,2,2,3,3,3,3,4,4,4,4,4,4,4,4,5,5,5,5,5,5,5,5,5,5,5,5,5,5,5,5,6,6,6,6,6,6,6,6,6,6,6,6,6,6,6,6,6,6,6,6,6,6,6,6,6,6,6,6,6,6,6,6,7,7,7,7,7,7,7,7,7,7,7,7,7,7,7,7,7,7,7,7,7,7,7,7,7,7,7,7,7,7,7,7,7,7,7,7,7,7,7,7,7,7,7,7,7,7,7,7,7,7,7,7,7,7,7,7,7,7,7,7,7,7,7,7,8,8,8,8,8,8,8,8,8,8,8,8,8,8,8,8,8,8,8,8,8,8,8,8,8,8,8,8,8,8,8,8,8,8,8,8,8,8,8,8,8,8,8,8,8,8,8,8,8,8,8,8,8,8,8,8,8,8,8,8,8,8,8,8,8,8,8,8,8,8,8,8,8,8,8,8,8,8,8,8,8,8,8,8,8,8,8,8,8,8,8,8,8,8,8,8,8,8,8,8,8,8,8,8,8,8,8,8,8,8,8,8,8,8,8,8,8,8,8,8,8,8,8,8,8,8,8,8]⟩:ByteArray) (dR .u8 (cg .u64 x (32:Int)))))))) none))) (
   aG ((nv x (65536:Int))) (
    aG ((nv (cg .u64 x (16:Int)) (256:Int))) (
     aG (eI (dR .u8 (cg .u64 (cg .u64 x (16:Int)) (8:Int))) (256:Int)) (
     k (eo.out (bN .i64 (24:Int) (dR .i64 (y6 (⟨#[0,1,2,2,3,3,3,3,4,4,4,4,4,4,4,4,5,5,5,5,5,5,5,5,5,5,5,5,5,5,5,5,6,6,6,6,6,6,6,6,6,6,6,6,6,6,6,6,6,6,6,6,6,6,6,6,6,6,6,6,6,6,6,6,7,7,7,7,7,7,7,7,7,7,7,7,7,7,7,7,7,7,7,7,7,7,7,7,7,7,7,7,7,7,7,7,7,7,7,7,7,7,7,7,7,7,7,7,7,7,7,7,7,7,7,7,7,7,7,7,7,7,7,7,7,7,7,7,8,8,8,8,8,8,8,8,8,8,8,8,8,8,8,8,8,8,8,8,8,8,8,8,8,8,8,8,8,8,8,8,8,8,8,8,8,8,8,8,8,8,8,8,8,8,8,8,8,8,8,8,8,8,8,8,8,8,8,8,8,8,8,8,8,8,8,8,8,8,8,8,8,8,8,8,8,8,8,8,8,8,8,8,8,8,8,8,8,8,8,8,8,8,8,8,8,8,8,8,8,8,8,8,8,8,8,8,8,8,8,8,8,8,8,8,8,8,8,8,8,8,8,8,8,8,8,8]⟩:ByteArray) (dR .u8 (cg .u64 (cg .u64 x (16:Int)) (8:Int)))))))) none) (
     aG (eI (dR .u8 (cg .u64 x (16:Int))) (256:Int)) (
     k (eo.out (bN .i64 (16:Int) (dR .i64 (y6 (⟨#[0,1,2,2,3,3,3,3,4,4,4,4,4,4,4,4,5,5,5,5,5,5,5,5,5,5,5,5,5,5,5,5,6,6,6,6,6,6,6,6,6,6,6,6,6,6,6,6,6,6,6,6,6,6,6,6,6,6,6,6,6,6,6,6,7,7,7,7,7,7,7,7,7,7,7,7,7,7,7,7,7,7,7,7,7,7,7,7,7,7,7,7,7,7,7,7,7,7,7,7,7,7,7,7,7,7,7,7,7,7,7,7,7,7,7,7,7,7,7,7,7,7,7,7,7,7,7,7,8,8,8,8,8,8,8,8,8,8,8,8,8,8,8,8,8,8,8,8,8,8,8,8,8,8,8,8,8,8,8,8,8,8,8,8,8,8,8,8,8,8,8,8,8,8,8,8,8,8,8,8,8,8,8,8,8,8,8,8,8,8,8,8,8,8,8,8,8,8,8,8,8,8,8,8,8,8,8,8,8,8,8,8,8,8,8,8,8,8,8,8,8,8,8,8,8,8,8,8,8,8,8,8,8,8,8,8,8,8,8,8,8,8,8,8,8,8,8,8,8,8,8,8,8,8,8,8]⟩:ByteArray) (dR .u8 (cg .u64 x (16:Int)))))))) none)) (
    aG ((nv x (256:Int))) (
     aG (eI (dR .u8 (cg .u64 x (8:Int))) (256:Int)) (
     k (eo.out (bN .i64 (8:Int) (dR .i64 (y6 (⟨#[0,1,2,2,3,3,3,3,4,4,4,4,4,4,4,4,5,5,5,5,5,5,5,5,5,5,5,5,5,5,5,5,6,6,6,6,6,6,6,6,6,6,6,6,6,6,6,6,6,6,6,6,6,6,6,6,6,6,6,6,6,6,6,6,7,7,7,7,7,7,7,7,7,7,7,7,7,7,7,7,7,7,7,7,7,7,7,7,7,7,7,7,7,7,7,7,7,7,7,7,7,7,7,7,7,7,7,7,7,7,7,7,7,7,7,7,7,7,7,7,7,7,7,7,7,7,7,7,8,8,8,8,8,8,8,8,8,8,8,8,8,8,8,8,8,8,8,8,8,8,8,8,8,8,8,8,8,8,8,8,8,8,8,8,8,8,8,8,8,8,8,8,8,8,8,8,8,8,8,8,8,8,8,8,8,8,8,8,8,8,8,8,8,8,8,8,8,8,8,8,8,8,8,8,8,8,8,8,8,8,8,8,8,8,8,8,8,8,8,8,8,8,8,8,8,8,8,8,8,8,8,8,8,8,8,8,8,8,8,8,8,8,8,8,8,8,8,8,8,8,8,8,8,8,8,8]⟩:ByteArray) (dR .u8 (cg .u64 x (8:Int)))))))) none) (
     aG (eI (dR .u8 x) (256:Int)) (
     k (eo.out (bN .i64 (0:Int) (dR .i64 (y6 (⟨#[0,1,2,2,3,3,3,3,4,4,4,4,4,4,4,4,5,5,5,5,5,5,5,5,5,5,5,5,5,5,5,5,6,6,6,6,6,6,6,6,6,6,6,6,6,6,6,6,6,6,6,6,6,6,6,6,6,6,6,6,6,6,6,6,7,7,7,7,7,7,7,7,7,7,7,7,7,7,7,7,7,7,7,7,7,7,7,7,7,7,7,7,7,7,7,7,7,7,7,7,7,7,7,7,7,7,7,7,7,7,7,7,7,7,7,7,7,7,7,7,7,7,7,7,7,7,7,7,8,8,8,8,8,8,8,8,8,8,8,8,8,8,8,8,8,8,8,8,8,8,8,8,8,8,8,8,8,8,8,8,8,8,8,8,8,8,8,8,8,8,8,8,8,8,8,8,8,8,8,8,8,8,8,8,8,8,8,8,8,8,8,8,8,8,8,8,8,8,8,8,8,8,8,8,8,8,8,8,8,8,8,8,8,8,8,8,8,8,8,8,8,8,8,8,8,8,8,8,8,8,8,8,8,8,8,8,8,8,8,8,8,8,8,8,8,8,8,8,8,8,8,8,8,8,8,8]⟩:ByteArray) (dR .u8 x)))))) none))):=by kernel_rfl
theorem eo.ok:eo.Ok:=by
 intro y h
 rw[eo.eq]
 obtain rfl | rfl | rfl:=h <;> kernel_rfl
noncomputable def eo.E:=Entry.cD [some tu] eo.st eo.av eo.add eo.F eo.out
noncomputable def eo.call:eo.D→Option eo.X:=bS eo.E eo.st
theorem eo.run:bM eo.call eo.av eo.add eo.F:=dq (df [.d tu] fun _=>by kernel_rfl)
noncomputable def eo.sg:SG Tryz.prog:=⟨215,aR,eo.E,.fn 0 (by kernel_rfl) eo.ok trivial⟩
abbrev gf.D:=Int
def gf.st:gf.D→SA:=fun x=>([.d tu x],[])
abbrev gf.Y:=Int
abbrev gf.X:=Int
def gf.out:gf.X→ba:=fun x=>⟨.d ti x,[],[]⟩
def gf.add:gf.D→gf.Y→gf.X:=fun x y=>y
def gf.av:gf.D→Prop:=Hc
def gf.F:gf.D→gf.Y:=fun y=>if y=4611686018427377339 then 2 else 3
noncomputable def gf.G:ed:=fk (P:=Tryz.prog) [eo.sg]
noncomputable def gf.an:eQ:= {}
noncomputable def gf.A:= @cY Tryz.prog gf.G gf.an 0 Tryz.f276 _ gf.st
abbrev gf.Ok:=dd @gf.A gf.av gf.add gf.F gf.out
theorem gf.eq{R:Type}(x:Int)(k:ba→Option R):gf.A x k=
 ah (eo.call x) fun x1=>
 k (gf.out (da .i64 (64:Int) x1)):=by kernel_rfl
theorem gf.ok:gf.Ok:=by
 intro y h
 rw[gf.eq,eo.run (d:=y) h]
 obtain rfl | rfl | rfl:=h <;> rfl
noncomputable def gf.E:=Entry.cD [some tu] gf.st gf.av gf.add gf.F gf.out
noncomputable def gf.call:gf.D→Option gf.X:=bS gf.E gf.st
theorem gf.run:bM gf.call gf.av gf.add gf.F:=dq (df [.d tu] fun _=>by kernel_rfl)
noncomputable def gf.sg:SG Tryz.prog:=⟨276,aR,gf.E,.fn 0 (by kernel_rfl) gf.ok trivial⟩
set_option synthInstance.maxSize 5000
abbrev aX.L0.D:=Int×Int×Int×Int×Int×Int×Int×Int×Int
def aX.L0.st:aX.L0.D→AS:=fun(yv_2,sv,yn1,yn0,un32,un1,un0,q1,rhat)=>⟨([.undef,.undef,.d tu yv_2]++bl 5 ([.d tu sv,.d tu yn1,.d tu yn0,.d tu un32,.undef,.d tu un1,.d tu un0,.d tu q1,.d tu rhat]++bl 118 [])),[],(List.replicate 135 [])⟩
abbrev aX.L0.Y0:=Int
abbrev aX.L0.X0:=(Int×Int×Int×Int×Int×Int×Int)×(Int)
def aX.L0.bp:aX.L0.X0→Exit×AS:=fun x=>(.exit 0,⟨([.undef,.undef,.d tu x.1.1]++bl 5 ([.d tu x.1.2.1,.d tu x.1.2.2.1,.d tu x.1.2.2.2.1,.d tu x.1.2.2.2.2.1,.undef,.d tu x.1.2.2.2.2.2.1,.d tu x.1.2.2.2.2.2.2,.d tu x.2]++bl 119 [])),[],(List.replicate 135 [])⟩)
abbrev aX.L0.X:=aX.L0.X0
abbrev aX.L0.Y:=aX.L0.Y0
def aX.L0.out:aX.L0.X→Out (Exit×AS):=fun x=> .ok (aX.L0.bp x)
def aX.L0.add:aX.L0.D→aX.L0.Y→aX.L0.X:=fun(yv_2,sv,yn1,yn0,un32,un1,un0,q1,rhat) y=>((yv_2,sv,yn1,yn0,un32,un1,un0),y)
abbrev aX.L1.D:=Int×Int×Int×Int×Int×Int×Int×Int×Int
def aX.L1.st:aX.L1.D→AS:=fun(yv_3,sv_2,yn1_2,yn0_2,un0_2,q1_2,rhat_2,un21,q0)=>⟨([.undef,.undef,.d tu yv_3]++bl 5 ([.d tu sv_2,.d tu yn1_2,.d tu yn0_2,.undef,.undef,.undef,.d tu un0_2,.d tu q1_2,.d tu rhat_2,.d tu un21,.d tu q0]++bl 116 [])),[],(List.replicate 135 [])⟩
abbrev aX.L1.Y0:=Int
abbrev aX.L1.X0:=(Int×Int×Int×Int×Int)×(Int)
def aX.L1.bp:aX.L1.X0→Exit×AS:=fun x=>(.exit 2,⟨([.undef,.undef,.d tu x.1.1]++bl 5 ([.d tu x.1.2.1]++bl 5 ([.d tu x.1.2.2.1,.d tu x.1.2.2.2.1,.undef,.d tu x.1.2.2.2.2,.d tu x.2]++bl 116 []))),[],(List.replicate 135 [])⟩)
abbrev aX.L1.X:=aX.L1.X0
abbrev aX.L1.Y:=aX.L1.Y0
def aX.L1.out:aX.L1.X→Out (Exit×AS):=fun x=> .ok (aX.L1.bp x)
def aX.L1.add:aX.L1.D→aX.L1.Y→aX.L1.X:=fun(yv_3,sv_2,yn1_2,yn0_2,un0_2,q1_2,rhat_2,un21,q0) y=>((yv_3,sv_2,un0_2,q1_2,un21),y)
abbrev aX.D:=Int×Int×Int
def aX.st:aX.D→SA:=fun(hi,lo,yv)=>([.d tu hi,.d tu lo,.d tu yv],[])
abbrev aX.Y:=Int×Int
abbrev aX.X:=Int×Int
def aX.out:aX.X→ba:=fun x=>⟨.cons (.d tu x.1) (.cons (.d tu x.2) (.nil)),[],[]⟩
def aX.add:aX.D→aX.Y→aX.X:=fun(hi,lo,yv) y=>y
def aX.L0.av:aX.L0.D→Prop:=fun(y,sv,yn1,yn0,u,w,un0,q,r)=>∃e:Int,(e=42260∨e=42264∨e=42272)∧y=18446744073709551616 - e∧yn1=4294967295∧yn0=4294967296 - e∧0≤u∧u < 18446744073709551616 - e∧0≤w∧w < 4294967296∧0≤r∧r < 4294967296∧q*4294967295+r=u∧(u*4294967296+w) / (18446744073709551616 - e)≤q
def aX.L0.F:aX.L0.D→aX.L0.Y:=fun(y,sv,yn1,yn0,u,w,un0,q,r)=>(u*4294967296+w) / y
def aX.L1.av:aX.L1.D→Prop:=fun(y,sv,yn1,yn0,w,q1,r,u,q)=>∃e:Int,(e=42260∨e=42264∨e=42272)∧y=18446744073709551616 - e∧yn1=4294967295∧yn0=4294967296 - e∧0≤u∧u < 18446744073709551616 - e∧0≤w∧w < 4294967296∧0≤r∧r < 4294967296∧q*4294967295+r=u∧(u*4294967296+w) / (18446744073709551616 - e)≤q
def aX.L1.F:aX.L1.D→aX.L1.Y:=fun(y,sv,yn1,yn0,w,q1,r,u,q)=>(u*4294967296+w) / y
def aX.av:aX.D→Prop:=fun(hi,lo,y)=>Hc y∧0≤hi∧hi < y∧0≤lo∧lo < 18446744073709551616
def aX.F:aX.D→aX.Y:=fun(hi,lo,y)=>((hi*18446744073709551616+lo) / y,(hi*18446744073709551616+lo)%y)
noncomputable def aX.G:ed:=fk (P:=Tryz.prog) [gf.sg]
noncomputable def aX.L0.E:=bU.cD aX.L0.st aX.L0.av aX.L0.add aX.L0.F aX.L0.out
noncomputable def aX.L0.call:aX.L0.D→Option aX.L0.X:=dw aX.L0.E aX.L0.st
noncomputable def aX.L1.E:=bU.cD aX.L1.st aX.L1.av aX.L1.add aX.L1.F aX.L1.out
noncomputable def aX.L1.call:aX.L1.D→Option aX.L1.X:=dw aX.L1.E aX.L1.st
noncomputable def aX.an:eQ:= {loops:=jB [(17,{bn:=[2,8,9,10,11,13,14,15,16]}),(24,{bn:=[2,8,9,10,14,15,16,17,18]})],outs:=jA [(17,{bn:=[2,8,9,10,11,13,14,15]},{bn:=[6,7]}),(24,{bn:=[2,8,14,15,17,18]},{bn:=[6,7]})],fC:=kf [(17,aX.L0.E),(24,aX.L1.E)]}
noncomputable def aX.A:= @cY Tryz.prog aX.G aX.an 0 Tryz.f237 _ aX.st
abbrev aX.Ok:=dd @aX.A aX.av aX.add aX.F aX.out
noncomputable def aX.L0.R:= @cj Tryz.prog aX.G aX.an 0 Tryz.f237 0 _ aX.L0.st
abbrev aX.L0.Ok:=ew Tryz.prog aX.G aX.an 0 Tryz.f237 0 aX.L0.st aX.L0.av aX.L0.add aX.L0.F aX.L0.out
noncomputable def aX.L1.R:= @cj Tryz.prog aX.G aX.an 0 Tryz.f237 1 _ aX.L1.st
abbrev aX.L1.Ok:=ew Tryz.prog aX.G aX.an 0 Tryz.f237 1 aX.L1.st aX.L1.av aX.L1.add aX.L1.F aX.L1.out
theorem aX.L0.run:bM aX.L0.call aX.L0.av aX.L0.add aX.L0.F:=eM (eL [.d tu,.d tu,.d tu,.d tu,.d tu,.d tu,.d tu,.d tu,.d tu] fun _=>by kernel_rfl)
theorem aX.L0.aB:fQ @aX.L0.R aX.L0.st aX.L0.av aX.L0.add aX.L0.F aX.L0.bp aX.L0.Ok:=fU
theorem aX.L0.step{R:Type}(yv_2:Int)(sv:Int)(yn1:Int)(yn0:Int)(un32:Int)(un1:Int)(un0:Int)(q1:Int)(rhat:Int)(kn:AS→Option R)(kx:Exit→AS→Option R):aX.L0.R (yv_2,sv,yn1,yn0,un32,un1,un0,q1,rhat) kn kx=
  aG ((nv q1 (4294967296:Int))) (
   aG ((nv (bN .u64 rhat yn1) (4294967296:Int))) (
    kx (aX.L0.bp ((yv_2,sv,yn1,yn0,un32,un1,un0),(da .u64 q1 (1:Int)))).1 (aX.L0.bp ((yv_2,sv,yn1,yn0,un32,un1,un0),(da .u64 q1 (1:Int)))).2) (
    kn (aX.L0.st (yv_2,sv,yn1,yn0,un32,un1,un0,(da .u64 q1 (1:Int)),(bN .u64 rhat yn1))))) (
   aG ((nN (fq .u64 q1 yn0) (bN .u64 (fq .u64 (4294967296:Int) rhat) un1))) (
    aG ((nv (bN .u64 rhat yn1) (4294967296:Int))) (
     kx (aX.L0.bp ((yv_2,sv,yn1,yn0,un32,un1,un0),(da .u64 q1 (1:Int)))).1 (aX.L0.bp ((yv_2,sv,yn1,yn0,un32,un1,un0),(da .u64 q1 (1:Int)))).2) (
     kn (aX.L0.st (yv_2,sv,yn1,yn0,un32,un1,un0,(da .u64 q1 (1:Int)),(bN .u64 rhat yn1))))) (
    kx (aX.L0.bp ((yv_2,sv,yn1,yn0,un32,un1,un0),q1)).1 (aX.L0.bp ((yv_2,sv,yn1,yn0,un32,un1,un0),q1)).2)):=by kernel_rfl
theorem aX.L1.run:bM aX.L1.call aX.L1.av aX.L1.add aX.L1.F:=eM (eL [.d tu,.d tu,.d tu,.d tu,.d tu,.d tu,.d tu,.d tu,.d tu] fun _=>by kernel_rfl)
theorem aX.L1.aB:fQ @aX.L1.R aX.L1.st aX.L1.av aX.L1.add aX.L1.F aX.L1.bp aX.L1.Ok:=fU
theorem aX.L1.step{R:Type}(yv_3:Int)(sv_2:Int)(yn1_2:Int)(yn0_2:Int)(un0_2:Int)(q1_2:Int)(rhat_2:Int)(un21:Int)(q0:Int)(kn:AS→Option R)(kx:Exit→AS→Option R):aX.L1.R (yv_3,sv_2,yn1_2,yn0_2,un0_2,q1_2,rhat_2,un21,q0) kn kx=
  aG ((nv q0 (4294967296:Int))) (
   aG ((nv (bN .u64 rhat_2 yn1_2) (4294967296:Int))) (
    kx (aX.L1.bp ((yv_3,sv_2,un0_2,q1_2,un21),(da .u64 q0 (1:Int)))).1 (aX.L1.bp ((yv_3,sv_2,un0_2,q1_2,un21),(da .u64 q0 (1:Int)))).2) (
    kn (aX.L1.st (yv_3,sv_2,yn1_2,yn0_2,un0_2,q1_2,(bN .u64 rhat_2 yn1_2),un21,(da .u64 q0 (1:Int)))))) (
   aG ((nN (fq .u64 q0 yn0_2) (bN .u64 (fq .u64 (4294967296:Int) rhat_2) un0_2))) (
    aG ((nv (bN .u64 rhat_2 yn1_2) (4294967296:Int))) (
     kx (aX.L1.bp ((yv_3,sv_2,un0_2,q1_2,un21),(da .u64 q0 (1:Int)))).1 (aX.L1.bp ((yv_3,sv_2,un0_2,q1_2,un21),(da .u64 q0 (1:Int)))).2) (
     kn (aX.L1.st (yv_3,sv_2,yn1_2,yn0_2,un0_2,q1_2,(bN .u64 rhat_2 yn1_2),un21,(da .u64 q0 (1:Int)))))) (
    kx (aX.L1.bp ((yv_3,sv_2,un0_2,q1_2,un21),q0)).1 (aX.L1.bp ((yv_3,sv_2,un0_2,q1_2,un21),q0)).2)):=by kernel_rfl
theorem aX.eq{R:Type}(hi:Int)(lo:Int)(yv:Int)(k:ba→Option R):aX.A (hi,lo,yv) k=
  aG ((jz yv (0:Int))) (
   none) (
   aG ((zr yv hi)) (
    none) (
    aG ((jz hi (0:Int))) (
     aG (jN yv) (
     aG (jN yv) (
     k (aX.out ((ke .u64 lo yv),(gT lo yv)))) none) none) (
     ah (gf.call yv) fun x1=>
     aG (iC (dR .u64 x1)) (
     aG (iC (dR .u64 x1)) (
     aG (iC (da .u64 (64:Int) (dR .u64 x1))) (
     aG (iC (dR .u64 x1)) (
     aG (jN (cg .u64 (jv .u64 yv (dR .u64 x1)) (32:Int))) (
     ah (aX.L0.call ((jv .u64 yv (dR .u64 x1)),(dR .u64 x1),(cg .u64 (jv .u64 yv (dR .u64 x1)) (32:Int)),(cw .and .u64 (jv .u64 yv (dR .u64 x1)) (4294967295:Int)),(cw .or .u64 (jv .u64 hi (dR .u64 x1)) (cg .u64 lo (da .u64 (64:Int) (dR .u64 x1)))),(cg .u64 (jv .u64 lo (dR .u64 x1)) (32:Int)),(cw .and .u64 (jv .u64 lo (dR .u64 x1)) (4294967295:Int)),(ke .u64 (cw .or .u64 (jv .u64 hi (dR .u64 x1)) (cg .u64 lo (da .u64 (64:Int) (dR .u64 x1)))) (cg .u64 (jv .u64 yv (dR .u64 x1)) (32:Int))),(da .u64 (cw .or .u64 (jv .u64 hi (dR .u64 x1)) (cg .u64 lo (da .u64 (64:Int) (dR .u64 x1)))) (fq .u64 (ke .u64 (cw .or .u64 (jv .u64 hi (dR .u64 x1)) (cg .u64 lo (da .u64 (64:Int) (dR .u64 x1)))) (cg .u64 (jv .u64 yv (dR .u64 x1)) (32:Int))) (cg .u64 (jv .u64 yv (dR .u64 x1)) (32:Int)))))) fun x2=>
     aG (jN x2.1.2.2.1) (
     ah (aX.L1.call (x2.1.1,x2.1.2.1,x2.1.2.2.1,x2.1.2.2.2.1,x2.1.2.2.2.2.2.2,x2.2,(da .u64 (da .u64 (bN .u64 (fq .u64 x2.1.2.2.2.2.1 (4294967296:Int)) x2.1.2.2.2.2.2.1) (fq .u64 x2.2 x2.1.1)) (fq .u64 (ke .u64 (da .u64 (bN .u64 (fq .u64 x2.1.2.2.2.2.1 (4294967296:Int)) x2.1.2.2.2.2.2.1) (fq .u64 x2.2 x2.1.1)) x2.1.2.2.1) x2.1.2.2.1)),(da .u64 (bN .u64 (fq .u64 x2.1.2.2.2.2.1 (4294967296:Int)) x2.1.2.2.2.2.2.1) (fq .u64 x2.2 x2.1.1)),(ke .u64 (da .u64 (bN .u64 (fq .u64 x2.1.2.2.2.2.1 (4294967296:Int)) x2.1.2.2.2.2.2.1) (fq .u64 x2.2 x2.1.1)) x2.1.2.2.1))) fun x3=>
     aG (iC x3.1.2.1) (
     k (aX.out ((bN .u64 (fq .u64 x3.1.2.2.2.1 (4294967296:Int)) x3.2),(cg .u64 (da .u64 (bN .u64 (fq .u64 x3.1.2.2.2.2 (4294967296:Int)) x3.1.2.2.1) (fq .u64 x3.2 x3.1.1)) x3.1.2.1)))) none) none) none) none) none) none) none))):=by kernel_rfl
theorem aX.L0.ok:aX.L0.Ok:=by
 refine aX.L0.aB (fun(y,sv,yn1,yn0,u,w,un0,q,r)=>q.toNat) ?_
 rintro⟨y,sv,yn1,yn0,u,w,un0,q,r⟩ ⟨e,he,rfl,rfl,rfl,hu,hu2,hw,hw2,hr,hr2,hq,hQ⟩
 have hu:0≤u:=hu
 have hu2:u < 18446744073709551616 - e:=hu2
 have hw:0≤w:=hw
 have hw2:w < 4294967296:=hw2
 have hr:0≤r:=hr
 have hr2:r < 4294967296:=hr2
 have hq:q*4294967295+r=u:=hq
 obtain⟨k1,k2,k3,k4,k5,k6⟩:=k1 he hu hu2 hw hw2 hr hr2 hq hQ
 have q0:0≤q:=Int.le_trans k5 hQ
 have a1:bN .u64 r 4294967295=r+4294967295:=by rw[jm];omega
 have a2:bN .u64 (fq .u64 4294967296 r) w=4294967296*r+w:=by rw[kZ,jm];omega
 have a3:q < 4294967296→fq .u64 q (4294967296 - e)=q*(4294967296 - e):=by
  intro h;rw[kZ];rcases he with rfl | rfl | rfl <;> omega
 have a4:0 < q→da .u64 q 1=q - 1:=by intro h;rw[s9];omega
 have pos:4294967296≤q∨(q < 4294967296∧4294967296*r+w < q*(4294967296 - e))→0 < q∧(u*4294967296+w) / (18446744073709551616 - e)≤q - 1:=by
  rintro(h | ⟨h,h2⟩)
  ·exact⟨by omega,k1 h⟩
  ·exact⟨by have:=k2 h h2;omega,k2 h h2⟩
 by_cases hc:4294967296≤q∨(q < 4294967296∧4294967296*r+w < q*(4294967296 - e))
 ·obtain⟨p1,p2⟩:=pos hc
  by_cases hb:4294967296≤r+4294967295
  ·right
   have hF:aX.L0.F (18446744073709551616 - e,sv,4294967295,4294967296 - e,u,w,un0,q,r)=q - 1:=k4 hb p2
   intro R kn kx
   rw[aX.L0.step,a1,a2,a4 p1,fF hb,hF]
   rcases hc with h | ⟨h,h2⟩
   ·rw[fF h];rfl
   ·rw[eZ (by omega),a3 h,dY h2];rfl
  ·left
   refine⟨(18446744073709551616 - e,sv,4294967295,4294967296 - e,u,w,un0,q - 1,r+4294967295),⟨e,he,rfl,rfl,rfl,hu,hu2,hw,hw2,by omega,by omega,by omega,p2⟩,by simp only[];omega,rfl,fun kn kx=> ?_⟩
   rw[aX.L0.step,a1,a2,a4 p1,eZ hb]
   rcases hc with h | ⟨h,h2⟩
   ·rw[fF h];rfl
   ·rw[eZ (by omega),a3 h,dY h2];rfl
 ·right
  have h:q < 4294967296:=by omega
  have h2:¬4294967296*r+w < q*(4294967296 - e):=fun x=>hc (Or.inr ⟨h,x⟩)
  have hF:aX.L0.F (18446744073709551616 - e,sv,4294967295,4294967296 - e,u,w,un0,q,r)=q:=k3 h (by omega)
  intro R kn kx
  rw[aX.L0.step,a2,a3 h,eZ (by omega),dI h2,hF]
  rfl
theorem aX.L1.ok:aX.L1.Ok:=by
 refine aX.L1.aB (fun(y,sv,yn1,yn0,w,q1,r,u,q)=>q.toNat) ?_
 rintro⟨y,sv,yn1,yn0,w,q1,r,u,q⟩ ⟨e,he,rfl,rfl,rfl,hu,hu2,hw,hw2,hr,hr2,hq,hQ⟩
 have hu:0≤u:=hu
 have hu2:u < 18446744073709551616 - e:=hu2
 have hw:0≤w:=hw
 have hw2:w < 4294967296:=hw2
 have hr:0≤r:=hr
 have hr2:r < 4294967296:=hr2
 have hq:q*4294967295+r=u:=hq
 obtain⟨k1,k2,k3,k4,k5,k6⟩:=k1 he hu hu2 hw hw2 hr hr2 hq hQ
 have q0:0≤q:=Int.le_trans k5 hQ
 have a1:bN .u64 r 4294967295=r+4294967295:=by rw[jm];omega
 have a2:bN .u64 (fq .u64 4294967296 r) w=4294967296*r+w:=by rw[kZ,jm];omega
 have a3:q < 4294967296→fq .u64 q (4294967296 - e)=q*(4294967296 - e):=by
  intro h;rw[kZ];rcases he with rfl | rfl | rfl <;> omega
 have a4:0 < q→da .u64 q 1=q - 1:=by intro h;rw[s9];omega
 have pos:4294967296≤q∨(q < 4294967296∧4294967296*r+w < q*(4294967296 - e))→0 < q∧(u*4294967296+w) / (18446744073709551616 - e)≤q - 1:=by
  rintro(h | ⟨h,h2⟩)
  ·exact⟨by omega,k1 h⟩
  ·exact⟨by have:=k2 h h2;omega,k2 h h2⟩
 by_cases hc:4294967296≤q∨(q < 4294967296∧4294967296*r+w < q*(4294967296 - e))
 ·obtain⟨p1,p2⟩:=pos hc
  by_cases hb:4294967296≤r+4294967295
  ·right
   have hF:aX.L1.F (18446744073709551616 - e,sv,4294967295,4294967296 - e,w,q1,r,u,q)=q - 1:=k4 hb p2
   intro R kn kx
   rw[aX.L1.step,a1,a2,a4 p1,fF hb,hF]
   rcases hc with h | ⟨h,h2⟩
   ·rw[fF h];rfl
   ·rw[eZ (by omega),a3 h,dY h2];rfl
  ·left
   refine⟨(18446744073709551616 - e,sv,4294967295,4294967296 - e,w,q1,r+4294967295,u,q - 1),⟨e,he,rfl,rfl,rfl,hu,hu2,hw,hw2,by omega,by omega,by omega,p2⟩,by simp only[];omega,rfl,fun kn kx=> ?_⟩
   rw[aX.L1.step,a1,a2,a4 p1,eZ hb]
   rcases hc with h | ⟨h,h2⟩
   ·rw[fF h];rfl
   ·rw[eZ (by omega),a3 h,dY h2];rfl
 ·right
  have h:q < 4294967296:=by omega
  have h2:¬4294967296*r+w < q*(4294967296 - e):=fun x=>hc (Or.inr ⟨h,x⟩)
  have hF:aX.L1.F (18446744073709551616 - e,sv,4294967295,4294967296 - e,w,q1,r,u,q)=q:=k3 h (by omega)
  intro R kn kx
  rw[aX.L1.step,a2,a3 h,eZ (by omega),dI h2,hF]
  rfl
theorem FK{y hi lo:Int}(hy:Hc y)(h0:0≤hi)(h1:hi < y)(h2:0≤lo)(h3:lo < 18446744073709551616):∃(s:Nat) (e m:Int),gf.F y=s∧(s=2∨s=3)∧m=2^s∧(e=42260∨e=42264∨e=42272)∧y*m=18446744073709551616 - e∧
  jv .u64 y (s:Int)=18446744073709551616 - e∧
  cw .or .u64 (jv .u64 hi (s:Int)) (cg .u64 lo (da .u64 64 (s:Int)))=(hi*18446744073709551616+lo)*m / 18446744073709551616∧
  jv .u64 lo (s:Int)=(hi*18446744073709551616+lo)*m%18446744073709551616∧
  (hi*18446744073709551616+lo)*m / 18446744073709551616 < 18446744073709551616 - e∧
  (hi*18446744073709551616+lo)*m / (18446744073709551616 - e)=(hi*18446744073709551616+lo) / y∧
  (hi*18446744073709551616+lo)*m%(18446744073709551616 - e) / m=(hi*18446744073709551616+lo)%y:=by
 have e1:da .u64 64 ((2:Nat):Int)=((62:Nat):Int):=rfl
 have e2:da .u64 64 ((3:Nat):Int)=((61:Nat):Int):=rfl
 have p2:(2:Int)^2=4:=rfl
 have p3:(2:Int)^3=8:=rfl
 have p61:(2:Int)^61=2305843009213693952:=rfl
 have p62:(2:Int)^62=4611686018427387904:=rfl
 obtain rfl | rfl | rfl:=hy
 ·refine⟨2,42260,4,rfl,Or.inl rfl,rfl,Or.inl rfl,rfl,by rw[lf 2 (by rfl) (by omega),p2];omega,?_,?_,by omega,by omega,by omega⟩
  ·rw[e1,lf 2 (by rfl) (by omega),lg 62 (by rfl) (by omega),p2,p62,qQ 2 4 rfl (by omega) (by omega) (by omega) (by omega) (by omega) (by omega)];omega
  ·rw[lf 2 (by rfl) (by omega),p2];omega
 ·refine⟨3,42264,8,rfl,Or.inr rfl,rfl,Or.inr (Or.inl rfl),rfl,by rw[lf 3 (by rfl) (by omega),p3];omega,?_,?_,by omega,by omega,by omega⟩
  ·rw[e2,lf 3 (by rfl) (by omega),lg 61 (by rfl) (by omega),p3,p61,qQ 3 8 rfl (by omega) (by omega) (by omega) (by omega) (by omega) (by omega)];omega
  ·rw[lf 3 (by rfl) (by omega),p3];omega
 ·refine⟨3,42272,8,rfl,Or.inr rfl,rfl,Or.inr (Or.inr rfl),rfl,by rw[lf 3 (by rfl) (by omega),p3];omega,?_,?_,by omega,by omega,by omega⟩
  ·rw[e2,lf 3 (by rfl) (by omega),lg 61 (by rfl) (by omega),p3,p61,qQ 3 8 rfl (by omega) (by omega) (by omega) (by omega) (by omega) (by omega)];omega
  ·rw[lf 3 (by rfl) (by omega),p3];omega
theorem HT(a b c:Int):(((a%18446744073709551616+b)%18446744073709551616) - c%18446744073709551616)%18446744073709551616=(a+b - c)%18446744073709551616:=by omega
theorem aX.ok:aX.Ok:=by
 rintro⟨hi,lo,y⟩ ⟨hy,h0,h1,h2,h3⟩
 have h0:0≤hi:=h0
 have h1:hi < y:=h1
 have h2:0≤lo:=h2
 have h3:lo < 18446744073709551616:=h3
 have yb:0 < y∧y < 18446744073709551616:=by obtain rfl | rfl | rfl:=hy <;> omega
 rw[aX.eq,gr (by omega),iM (by omega)]
 simp only[ag]
 have z:jN y=true:=by simp[jN];omega
 by_cases hz:hi=0
 ·subst hz
  rw[hP rfl,z,xd h2 (by omega) h3,jL h2]
  simp only[ae,aX.F,aX.add,Int.zero_mul,Int.zero_add]
 ·obtain⟨s,e,m,hs,hs2,hm,he,hym,a1,a2,a3,a4,a5,a6⟩:=FK hy h0 h1 h2 h3
  have c1:dR .u64 (s:Int)=(s:Int):=by rw[zY];omega
  have c2:iC (s:Int)=true:=lu (by omega)
  have c3:iC (da .u64 64 (s:Int))=true:=by rcases hs2 with rfl | rfl <;> rfl
  rw[gr hz,gf.run (d:=y) hy]
  simp only[ag,aa,gf.add,hs,c1,c2,c3,ae,a1,a2,a3]
  have hN:0≤(hi*18446744073709551616+lo)*m:=Int.mul_nonneg (by omega) (by rcases hs2 with rfl | rfl <;> omega)
  revert a4 a5 a6
  generalize (hi*18446744073709551616+lo)*m=N at hN
  intro a4 a5 a6
  have u0:0≤N / 18446744073709551616:=by omega
  have t0:0≤N%18446744073709551616:=by omega
  have t1:N%18446744073709551616 < 18446744073709551616:=by omega
  have hd:N=(N / 18446744073709551616*4294967296+N%18446744073709551616 / 4294967296)*4294967296+N%18446744073709551616%4294967296:=by omega
  have w10:0≤N%18446744073709551616 / 4294967296:=by omega
  have w11:N%18446744073709551616 / 4294967296 < 4294967296:=by omega
  have w00:0≤N%18446744073709551616%4294967296:=by omega
  have w01:N%18446744073709551616%4294967296 < 4294967296:=by omega
  have p32:(2:Int)^32=4294967296:=rfl
  have b1:cg .u64 (18446744073709551616 - e) 32=4294967295:=by rw[lg 32 (by rfl) (by omega),p32];rcases he with rfl | rfl | rfl <;> rfl
  have b2:cw .and .u64 (18446744073709551616 - e) 4294967295=4294967296 - e:=by rw[xR (by omega) (by omega)];omega
  have b3:cg .u64 (N%18446744073709551616) 32=N%18446744073709551616 / 4294967296:=by rw[lg 32 (by rfl) (by omega),p32]
  have b4:cw .and .u64 (N%18446744073709551616) 4294967295=N%18446744073709551616%4294967296:=xR t0 t1
  have z2:jN 4294967295=true:=rfl
  simp only[b1,b2,b3,b4,z2,ae]
  clear a1 a2 a3 b1 b2 b3 b4
  have kdd:=kd (18446744073709551616 - e) (N / 18446744073709551616) (N%18446744073709551616 / 4294967296) (N%18446744073709551616%4294967296) (by omega) w00 w01
  rw[←hd,a5]at kdd
  revert a4 kdd
  generalize N / 18446744073709551616=u at u0
  generalize N%18446744073709551616 / 4294967296=w1 at w10 w11
  generalize N%18446744073709551616%4294967296=w0 at w00 w01
  intro a4 kdd
  have g:∀u w:Int,0≤u→u < 18446744073709551616 - e→0≤w→w < 4294967296→
    ke .u64 u 4294967295=u / 4294967295∧da .u64 u (fq .u64 (u / 4294967295) 4294967295)=u - u / 4294967295*4294967295∧
    da .u64 (bN .u64 (fq .u64 u 4294967296) w) (fq .u64 ((u*4294967296+w) / (18446744073709551616 - e)) (18446744073709551616 - e))=(u*4294967296+w)%(18446744073709551616 - e):=by
   intro u w k1 k2 k3 k4
   obtain⟨q1,q2,q3,q4,q5,q6,q7,q8⟩:=k0 he k1 k2 k3 k4
   refine⟨xd k1 (by omega) (by omega),by rw[s9,kZ];omega,?_⟩
   rw[s9,jm,kZ,kZ,HT,q4]
   exact Int.emod_eq_of_lt q5 (by omega)
  obtain⟨f1,f2,f3⟩:=g u w1 u0 a4 w10 w11
  obtain⟨q1,q2,q3,q4,q5,q6,q7,q8⟩:=k0 he u0 a4 w10 w11
  have p1:aX.L0.av (18446744073709551616 - e,(s:Int),4294967295,4294967296 - e,u,w1,w0,u / 4294967295,u - u / 4294967295*4294967295):=⟨e,he,rfl,rfl,rfl,u0,a4,w10,w11,q2,q3,by omega,q1⟩
  rw[f1,f2,aX.L0.run p1]
  simp only[aa,aX.L0.add,aX.L0.F,z2,ae,f3]
  revert f3 q1 kdd
  generalize (u*4294967296+w1)%(18446744073709551616 - e)=v at q4 q5 q6
  generalize (u*4294967296+w1) / (18446744073709551616 - e)=Q at q4 q7 q8
  intro kdd f3 q1
  obtain⟨g1,g2,g3⟩:=g v w0 q5 q6 w00 w01
  obtain⟨r1,r2,r3,r4,r5,r6,r7,r8⟩:=k0 he q5 q6 w00 w01
  have p2:aX.L1.av (18446744073709551616 - e,(s:Int),4294967295,4294967296 - e,w0,Q,v - v / 4294967295*4294967295,v,v / 4294967295):=⟨e,he,rfl,rfl,rfl,q5,q6,w00,w01,r2,r3,by omega,r1⟩
  rw[g1,g2,aX.L1.run p2]
  simp only[aa,aX.L1.add,aX.L1.F,c2,ae,g3]
  rw[←kdd.2,lg s (by rfl) (by omega),←hm,a6,kZ,jm]
  have e9:(Q*4294967296%18446744073709551616+(v*4294967296+w0) / (18446744073709551616 - e))%18446744073709551616=(hi*18446744073709551616+lo) / y:=by rw[kdd.1];omega
  rw[e9]
  rfl
noncomputable def aX.E:=Entry.cD [some tu,some tu,some tu] aX.st aX.av aX.add aX.F aX.out
noncomputable def aX.call:aX.D→Option aX.X:=bS aX.E aX.st
theorem aX.run:bM aX.call aX.av aX.add aX.F:=dq (df [.d tu,.d tu,.d tu] fun _=>by kernel_rfl)
noncomputable def aX.sg:SG Tryz.prog:=⟨237,aR,aX.E,.fn 2 (by kernel_rfl) aX.ok (And.intro (.cD aX.L0.ok (by kernel_rfl)) (And.intro (.cD aX.L1.ok (by kernel_rfl)) trivial))⟩
abbrev dT.D:=Int×Int×Int
def dT.st:dT.D→SA:=fun(hi,lo,yv)=>([.d tu hi,.d tu lo,.d tu yv],[])
abbrev dT.Y:=Int
abbrev dT.X:=Int
def dT.out:dT.X→ba:=fun x=>⟨.d tu x,[],[]⟩
def dT.add:dT.D→dT.Y→dT.X:=fun(hi,lo,yv) y=>y
def dT.av:dT.D→Prop:=fun(hi,lo,y)=>Hc y∧0≤hi∧hi < 18446744073709551616∧0≤lo∧lo < 18446744073709551616
def dT.F:dT.D→dT.Y:=fun(hi,lo,y)=>(hi*18446744073709551616+lo)%y
noncomputable def dT.G:ed:=fk (P:=Tryz.prog) [aX.sg]
noncomputable def dT.an:eQ:= {}
noncomputable def dT.A:= @cY Tryz.prog dT.G dT.an 0 Tryz.f199 _ dT.st
abbrev dT.Ok:=dd @dT.A dT.av dT.add dT.F dT.out
theorem dT.eq{R:Type}(hi:Int)(lo:Int)(yv:Int)(k:ba→Option R):dT.A (hi,lo,yv) k=
 aG (jN yv) (
 ah (aX.call ((gT hi yv),lo,yv)) fun x1=>
 k (dT.out x1.2)) none:=by kernel_rfl
theorem dT.ok:dT.Ok:=by
 rintro⟨hi,lo,y⟩ ⟨hy,h0,h1,h2,h3⟩
 have h0:0≤hi:=h0
 have yb:0 < y:=by obtain rfl | rfl | rfl:=hy <;> omega
 have z:jN y=true:=by simp[jN];omega
 have p:aX.av (hi%y,lo,y):=⟨hy,Int.emod_nonneg _ (by omega),Int.emod_lt_of_pos _ yb,h2,h3⟩
 rw[dT.eq,z,jL h0,aX.run p]
 have e:(hi%y*18446744073709551616+lo)%y=(hi*18446744073709551616+lo)%y:=by
  rw[Int.add_emod,Int.mul_emod,Int.emod_emod_of_dvd _ (Int.dvd_refl y),←Int.mul_emod,←Int.add_emod]
 simp only[ae,aa,aX.add,aX.F,dT.add,dT.F,e]
noncomputable def dT.E:=Entry.cD [some tu,some tu,some tu] dT.st dT.av dT.add dT.F dT.out
noncomputable def dT.call:dT.D→Option dT.X:=bS dT.E dT.st
theorem dT.run:bM dT.call dT.av dT.add dT.F:=dq (df [.d tu,.d tu,.d tu] fun _=>by kernel_rfl)
noncomputable def dT.sg:SG Tryz.prog:=⟨199,aR,dT.E,.fn 0 (by kernel_rfl) dT.ok trivial⟩
abbrev eg.D:=Int×Int
def eg.st:eg.D→SA:=fun(x,yv)=>([.d tu x,.d tu yv],[])
abbrev eg.Y:=Int×Int
abbrev eg.X:=Int×Int
def eg.out:eg.X→ba:=fun x=>⟨.cons (.d tu x.1) (.cons (.d tu x.2) (.nil)),[],[]⟩
def eg.add:eg.D→eg.Y→eg.X:=fun(x,yv) y=>y
def eg.av:eg.D→Prop:=fun(x,y)=>(0≤x∧x < 18446744073709551616)∧0≤y∧y < 18446744073709551616
def eg.F:eg.D→eg.Y:=fun(x,y)=>(x*y / 18446744073709551616,x*y%18446744073709551616)
noncomputable def eg.G:ed:=fk (P:=Tryz.prog) []
noncomputable def eg.an:eQ:= {}
noncomputable def eg.A:= @cY Tryz.prog eg.G eg.an 0 Tryz.f236 _ eg.st
abbrev eg.Ok:=dd @eg.A eg.av eg.add eg.F eg.out
theorem eg.eq{R:Type}(x:Int)(yv:Int)(k:ba→Option R):eg.A (x,yv) k=
 k (eg.out ((bN .u64 (bN .u64 (fq .u64 (cg .u64 x (32:Int)) (cg .u64 yv (32:Int))) (cg .u64 (bN .u64 (fq .u64 (cg .u64 x (32:Int)) (cw .and .u64 yv (4294967295:Int))) (cg .u64 (fq .u64 (cw .and .u64 x (4294967295:Int)) (cw .and .u64 yv (4294967295:Int))) (32:Int))) (32:Int))) (cg .u64 (bN .u64 (cw .and .u64 (bN .u64 (fq .u64 (cg .u64 x (32:Int)) (cw .and .u64 yv (4294967295:Int))) (cg .u64 (fq .u64 (cw .and .u64 x (4294967295:Int)) (cw .and .u64 yv (4294967295:Int))) (32:Int))) (4294967295:Int)) (fq .u64 (cw .and .u64 x (4294967295:Int)) (cg .u64 yv (32:Int)))) (32:Int))),(fq .u64 x yv))):=by kernel_rfl
theorem rV{a b m n:Int}(h0:0≤a)(h1:a≤m)(h2:0≤b)(h3:b≤n):0≤a*b∧a*b≤m*n:=
 ⟨Int.mul_nonneg h0 h2,Int.mul_le_mul h1 h3 h2 (Int.le_trans h0 h1)⟩
theorem eg.ok:eg.Ok:=by
 rintro⟨x,y⟩ ⟨⟨h0,h1⟩,h2,h3⟩
 have h0:0≤x:=h0
 have h1:x < 18446744073709551616:=h1
 have h2:0≤y:=h2
 have h3:y < 18446744073709551616:=h3
 rw[eg.eq]
 have p32:(2:Int)^32=4294967296:=rfl
 have s32:∀x:Int,cg .u64 x 32=x / 4294967296:=fun x=>by rw[lg 32 (by rfl) (by omega),p32]
 simp only[s32,xR h0 h1,xR h2 h3]
 obtain⟨a,b,rfl,a0,a1,b0,b1⟩:∃a b:Int,x=a*4294967296+b∧0≤a∧a≤4294967295∧0≤b∧b≤4294967295:=⟨x / 4294967296,x%4294967296,by omega,by omega,by omega,by omega,by omega⟩
 obtain⟨c,d,rfl,c0,c1,d0,d1⟩:∃a b:Int,y=a*4294967296+b∧0≤a∧a≤4294967295∧0≤b∧b≤4294967295:=⟨y / 4294967296,y%4294967296,by omega,by omega,by omega,by omega,by omega⟩
 have e1:(a*4294967296+b) / 4294967296=a:=by omega
 have e2:(a*4294967296+b)%4294967296=b:=by omega
 have e3:(c*4294967296+d) / 4294967296=c:=by omega
 have e4:(c*4294967296+d)%4294967296=d:=by omega
 have e5:(a*4294967296+b)*(c*4294967296+d)=a*c*18446744073709551616+(a*d+b*c)*4294967296+b*d:=by
  have q:(4294967296:Int)*4294967296=18446744073709551616:=rfl
  rw[Int.add_mul,Int.mul_add,Int.mul_add]
  have q1:a*4294967296*(c*4294967296)=a*c*18446744073709551616:=by rw[←q];ac_rfl
  have q2:a*4294967296*d=a*d*4294967296:=by ac_rfl
  have q3:b*(c*4294967296)=b*c*4294967296:=by ac_rfl
  rw[q1,q2,q3];omega
 obtain⟨m1,m2⟩:=rV a0 a1 c0 c1
 obtain⟨m3,m4⟩:=rV a0 a1 d0 d1
 obtain⟨m5,m6⟩:=rV b0 b1 c0 c1
 obtain⟨m7,m8⟩:=rV b0 b1 d0 d1
 have n:(4294967295:Int)*4294967295=18446744065119617025:=rfl
 rw[n]at m2 m4 m6 m8
 simp only[e1,e2,e3,e4,eg.add,eg.F,e5,kZ,jm]
 revert m1 m2 m3 m4 m5 m6 m7 m8
 generalize a*c=ac
 generalize a*d=ad
 generalize b*c=bc
 generalize b*d=bd
 intro m1 m2 m3 m4 m5 m6 m7 m8
 have q1:bd%18446744073709551616=bd:=by omega
 have q2:ad%18446744073709551616=ad:=by omega
 have q3:bc%18446744073709551616=bc:=by omega
 have q4:ac%18446744073709551616=ac:=by omega
 rw[q1,q2,q3,q4]
 have q5:(ad+bd / 4294967296)%18446744073709551616=ad+bd / 4294967296:=by omega
 have q6:cw .and .u64 (ad+bd / 4294967296) 4294967295=(ad+bd / 4294967296)%4294967296:=xR (by omega) (by omega)
 rw[q5,q6]
 refine congrArg some (congrArg eg.out (Prod.ext ?_ ?_))
 ·show _=(_:Int)
  simp only[]
  omega
 ·rfl
noncomputable def eg.E:=Entry.cD [some tu,some tu] eg.st eg.av eg.add eg.F eg.out
noncomputable def eg.call:eg.D→Option eg.X:=bS eg.E eg.st
theorem eg.run:bM eg.call eg.av eg.add eg.F:=dq (df [.d tu,.d tu] fun _=>by kernel_rfl)
noncomputable def eg.sg:SG Tryz.prog:=⟨236,aR,eg.E,.fn 0 (by kernel_rfl) eg.ok trivial⟩
set_option synthInstance.maxSize 5000
def Pn(x:Int):Prop:=0≤x∧x < 4611686018427377339
def gY(x:Int):Prop:=0≤x∧x < 18446744073709551616
theorem Pn.u{x:Int}(h:Pn x):gY x:=⟨h.1,by have:=h.2;omega⟩
def gQ(a b:Int):Int:=a*b%4611686018427377339
theorem jM(a b:Int):Pn (gQ a b):=⟨Int.emod_nonneg _ (by omega),Int.emod_lt_of_pos _ (by omega)⟩
def xD:Nat→Int→Nat→Int→Int
 | 0,_,_,out=>out
 |f+1,a,n,out=>if n=0 then out else xD f (gQ a a) (n / 2) (if n%2=1 then gQ out a else out)
def pw(a:Int)(n:Nat):Int:=xD 64 a n 1
theorem mu(f:Nat)(a out:Int):xD f a 0 out=out:=by cases f <;> rfl
theorem uv:∀(f g:Nat) (a:Int) (n:Nat) (out:Int),n < 2^f→n < 2^g→xD f a n out=xD g a n out
 | 0,g,a,n,out,h,_=>by
  obtain rfl:n=0:=by omega
  rw[mu,mu]
 |f+1,0,a,n,out,_,h=>by
  obtain rfl:n=0:=by omega
  rw[mu,mu]
 |f+1,g+1,a,n,out,h,h'=>by
  have e:(2:Nat)^(f+1)=2^f*2:=Nat.pow_succ 2 f
  have e':(2:Nat)^(g+1)=2^g*2:=Nat.pow_succ 2 g
  unfold xD
  split
  ·rfl
  ·exact uv f g _ _ _ (by omega) (by omega)
theorem DD:∀(f:Nat) (a:Int) (n:Nat) (out:Int),Pn out→Pn (xD f a n out)
 | 0,_,_,_,h=>h
 |f+1,a,n,out,h=>by
  unfold xD
  split
  ·exact h
  ·refine DD f _ _ _ ?_
   split
   ·exact jM _ _
   ·exact h
theorem uz(a:Int)(n:Nat):Pn (pw a n):=DD _ _ _ _ ⟨by omega,by omega⟩
abbrev dF.D:=Int×Int
def dF.st:dF.D→SA:=fun(a,b)=>([.d tu a,.d tu b],[])
abbrev dF.Y:=Int
abbrev dF.X:=Int
def dF.out:dF.X→ba:=fun x=>⟨.d tu x,[],[]⟩
def dF.add:dF.D→dF.Y→dF.X:=fun(a,b) y=>y
def dF.av:dF.D→Prop:=fun(a,b)=>gY a∧gY b
def dF.F:dF.D→dF.Y:=fun(a,b)=>gQ a b
noncomputable def dF.G:ed:=fk (P:=Tryz.prog) [eg.sg,dT.sg]
noncomputable def dF.an:eQ:= {}
noncomputable def dF.A:= @cY Tryz.prog dF.G dF.an 0 Tryz.f193 _ dF.st
abbrev dF.Ok:=dd @dF.A dF.av dF.add dF.F dF.out
theorem dF.eq{R:Type}(a:Int)(b:Int)(k:ba→Option R):dF.A (a,b) k=
 ah (eg.call (a,b)) fun x1=>
 ah (dT.call (x1.1,x1.2,(4611686018427377339:Int))) fun x2=>
 k (dF.out x2):=by kernel_rfl
theorem uR(n:Int):n / 18446744073709551616*18446744073709551616+n%18446744073709551616=n:=by omega
theorem dF.ok:dF.Ok:=by
 rintro⟨a,b⟩ ⟨ha,hb⟩
 have ha:gY a:=ha
 have hb:gY b:=hb
 obtain⟨m1,m2⟩:=rV ha.1 (show a≤18446744073709551615 by have:=ha.2;omega) hb.1 (show b≤18446744073709551615 by have:=hb.2;omega)
 have n:(18446744073709551615:Int)*18446744073709551615=340282366920938463426481119284349108225:=rfl
 rw[n]at m2
 have p:dT.av (a*b / 18446744073709551616,a*b%18446744073709551616,4611686018427377339):=⟨Or.inl rfl,by omega,by omega,by omega,by omega⟩
 rw[dF.eq,eg.run (d:=(a,b)) ⟨ha,hb⟩]
 simp only[aa,eg.add,eg.F]
 rw[dT.run p]
 simp only[aa,dT.add,dT.F,uR]
 rfl
noncomputable def dF.E:=Entry.cD [some tu,some tu] dF.st dF.av dF.add dF.F dF.out
noncomputable def dF.call:dF.D→Option dF.X:=bS dF.E dF.st
theorem dF.run:bM dF.call dF.av dF.add dF.F:=dq (df [.d tu,.d tu] fun _=>by kernel_rfl)
noncomputable def dF.sg:SG Tryz.prog:=⟨193,aR,dF.E,.fn 0 (by kernel_rfl) dF.ok trivial⟩
abbrev bt.L0.D:=Int×Int×Int
def bt.L0.st:bt.L0.D→AS:=fun(a_2,n_2,outv)=>⟨([.d tu a_2,.d tu n_2,.undef,.undef,.undef,.d tu outv]++bl 14 []),[],(List.replicate 20 [])⟩
abbrev bt.L0.Y0:=Int
abbrev bt.L0.X0:=Int
def bt.L0.bp:bt.L0.X0→Exit×AS:=fun x=>(.exit 0,⟨(bl 5 ([.d tu x]++bl 14 [])),[],(List.replicate 20 [])⟩)
abbrev bt.L0.X:=bt.L0.X0
abbrev bt.L0.Y:=bt.L0.Y0
def bt.L0.out:bt.L0.X→Out (Exit×AS):=fun x=> .ok (bt.L0.bp x)
def bt.L0.add:bt.L0.D→bt.L0.Y→bt.L0.X:=fun(a_2,n_2,outv) y=>y
abbrev bt.D:=Int×Int
def bt.st:bt.D→SA:=fun(a,n)=>([.d tu a,.d tu n],[])
abbrev bt.Y:=Int
abbrev bt.X:=Int
def bt.out:bt.X→ba:=fun x=>⟨.d tu x,[],[]⟩
def bt.add:bt.D→bt.Y→bt.X:=fun(a,n) y=>y
def bt.L0.av:bt.L0.D→Prop:=fun(a,n,o)=>gY a∧gY n∧Pn o
def bt.L0.F:bt.L0.D→bt.L0.Y:=fun(a,n,o)=>xD 64 a n.toNat o
def bt.av:bt.D→Prop:=fun(a,n)=>gY a∧gY n
def bt.F:bt.D→bt.Y:=fun(a,n)=>pw a n.toNat
noncomputable def bt.G:ed:=fk (P:=Tryz.prog) [dF.sg]
noncomputable def bt.L0.E:=bU.cD bt.L0.st bt.L0.av bt.L0.add bt.L0.F bt.L0.out
noncomputable def bt.L0.call:bt.L0.D→Option bt.L0.X:=dw bt.L0.E bt.L0.st
noncomputable def bt.an:eQ:= {loops:=jB [(2,{bn:=[0,1,5]})],outs:=jA [(2,{bn:=[5]},{bn:=[4]})],fC:=kf [(2,bt.L0.E)]}
noncomputable def bt.A:= @cY Tryz.prog bt.G bt.an 0 Tryz.f130 _ bt.st
abbrev bt.Ok:=dd @bt.A bt.av bt.add bt.F bt.out
noncomputable def bt.L0.R:= @cj Tryz.prog bt.G bt.an 0 Tryz.f130 0 _ bt.L0.st
abbrev bt.L0.Ok:=ew Tryz.prog bt.G bt.an 0 Tryz.f130 0 bt.L0.st bt.L0.av bt.L0.add bt.L0.F bt.L0.out
theorem bt.L0.run:bM bt.L0.call bt.L0.av bt.L0.add bt.L0.F:=eM (eL [.d tu,.d tu,.d tu] fun _=>by kernel_rfl)
theorem bt.L0.aB:fQ @bt.L0.R bt.L0.st bt.L0.av bt.L0.add bt.L0.F bt.L0.bp bt.L0.Ok:=fU
theorem bt.L0.step{R:Type}(a_2:Int)(n_2:Int)(outv:Int)(kn:AS→Option R)(kx:Exit→AS→Option R):bt.L0.R (a_2,n_2,outv) kn kx=
  aG ((nN n_2 (0:Int))) (
   aG ((jz (cw .and .u64 n_2 (1:Int)) (1:Int))) (
    ah (dF.call (outv,a_2)) fun x1=>
    ah (dF.call (a_2,a_2)) fun x2=>
    kn (bt.L0.st (x2,(cg .u64 n_2 (1:Int)),x1))) (
    ah (dF.call (a_2,a_2)) fun x3=>
    kn (bt.L0.st (x3,(cg .u64 n_2 (1:Int)),outv)))) (
   kx (bt.L0.bp outv).1 (bt.L0.bp outv).2):=by kernel_rfl
theorem bt.eq{R:Type}(a:Int)(n:Int)(k:ba→Option R):bt.A (a,n) k=
 ah (bt.L0.call (a,n,(1:Int))) fun x4=>
 k (bt.out x4):=by kernel_rfl
theorem Ig{n:Int}(h:gY n):cg .u64 n 1=n / 2:=lg 1 (by rfl) (by omega)
theorem bt.L0.ok:bt.L0.Ok:=by
 refine bt.L0.aB (fun(a,n,o)=>n.toNat) ?_
 rintro⟨a,n,o⟩ ⟨ha,hn,ho⟩
 have ha:gY a:=ha
 have hn:gY n:=hn
 have ho:Pn o:=ho
 have n0:=hn.1
 have n1:=hn.2
 by_cases h:0 < n
 ·left
  have e:bt.L0.F (a,n,o)=bt.L0.F (gQ a a,n / 2,if n%2=1 then gQ o a else o):=by
   show xD 64 a n.toNat o=xD 64 (gQ a a) (n / 2).toNat _
   rw[uv 64 65 a n.toNat o (by omega) (by omega)]
   have t1:(n / 2).toNat=n.toNat / 2:=by omega
   have t2:(n%2=1)=(n.toNat%2=1):=by apply propext;omega
   rw[t1]
   simp only[t2]
   show(if n.toNat=0 then o else _)=_
   rw[if_neg (by omega)]
  refine⟨(gQ a a,n / 2,if n%2=1 then gQ o a else o),⟨(jM a a).u,⟨by omega,by omega⟩,?_⟩,by show(n / 2).toNat < n.toNat;omega,?_,fun kn kx=> ?_⟩
  ·show Pn (if n%2=1 then gQ o a else o)
   split
   ·exact jM _ _
   ·exact ho
  ·exact congrArg _ e.symm
  ·rw[bt.L0.step,dY h,Ig hn,GV n0 n1,dF.run (d:=(o,a)) ⟨ho.u,ha⟩,dF.run (d:=(a,a)) ⟨ha,ha⟩]
   by_cases h1:n%2=1
   ·rw[hP h1,if_pos h1];rfl
   ·rw[gr h1,if_neg h1];rfl
 ·right
  intro R kn kx
  obtain rfl:n=0:=by omega
  rw[bt.L0.step,dI (by omega)]
  simp only[ag,bt.L0.add,bt.L0.F]
  rw[show xD 64 a (Int.toNat 0) o=o from mu _ _ _]
theorem bt.ok:bt.Ok:=by
 rintro⟨a,n⟩ ⟨ha,hn⟩
 rw[bt.eq,bt.L0.run (d:=(a,n,1)) ⟨ha,hn,by omega,by omega⟩]
 rfl
noncomputable def bt.E:=Entry.cD [some tu,some tu] bt.st bt.av bt.add bt.F bt.out
noncomputable def bt.call:bt.D→Option bt.X:=bS bt.E bt.st
theorem bt.run:bM bt.call bt.av bt.add bt.F:=dq (df [.d tu,.d tu] fun _=>by kernel_rfl)
noncomputable def bt.sg:SG Tryz.prog:=⟨130,aR,bt.E,.fn 1 (by kernel_rfl) bt.ok (And.intro (.cD bt.L0.ok (by kernel_rfl)) trivial)⟩
set_option synthInstance.maxSize 5000
def ju(p:Int):Bool:=decide (0 < p∧p < 4611686018427377339) && decide (pw p 2305843009213688669=1)
def tk(p:Int):Int:=if ju p then p else 1
theorem uO(p:Int):Pn (tk p):=by
 unfold tk
 split
 ·rename_i h
  simp only[ju,Bool.and_eq_true,decide_eq_true_eq]at h
  exact⟨by omega,by omega⟩
 ·exact⟨by omega,by omega⟩
def ku(p k:Int):Int:=pw (tk p) (k%2305843009213688669).toNat
def e7(k:Int):Int:=ku 4 k
def ui(p:Int):Int:=pw (tk p) 2305843009213688668
def mB(l:List Int):Int:=l.foldl (fun o p=>gQ o (tk p)) 1
theorem EY(l:List Int)(o:Int)(h:Pn o):Pn (l.foldl (fun o p=>gQ o (tk p)) o):=by
 induction l generalizing o with
 |nil=>exact h
 |cons p l ih=>exact ih _ (jM _ _)
theorem EZ(l:List Int):Pn (mB l):=EY l 1 ⟨by omega,by omega⟩
abbrev cP.D:=Int
def cP.st:cP.D→SA:=fun p=>([.d tu p],[])
abbrev cP.Y:=Bool
abbrev cP.X:=Bool
def cP.out:cP.X→ba:=fun x=>⟨.d .bool x,[],[]⟩
def cP.add:cP.D→cP.Y→cP.X:=fun p y=>y
def cP.av:cP.D→Prop:=fun p=>gY p
def cP.F:cP.D→cP.Y:=fun p=>ju p
noncomputable def cP.G:ed:=fk (P:=Tryz.prog) [bt.sg]
noncomputable def cP.an:eQ:= {}
noncomputable def cP.A:= @cY Tryz.prog cP.G cP.an 0 Tryz.f151 _ cP.st
abbrev cP.Ok:=dd @cP.A cP.av cP.add cP.F cP.out
theorem cP.eq{R:Type}(p:Int)(k:ba→Option R):cP.A p k=
  aG ((nN p (0:Int))) (
   aG ((fM p (4611686018427377339:Int))) (
    ah (bt.call (p,(2305843009213688669:Int))) fun x1=>
    k (cP.out (jz x1 (1:Int)))) (
    k (cP.out false))) (
   k (cP.out false)):=by kernel_rfl
theorem cP.ok:cP.Ok:=by
 intro p hp
 have hp:gY p:=hp
 rw[cP.eq,bt.run (d:=(p,2305843009213688669)) ⟨hp,by constructor <;> decide⟩]
 simp only[aa,bt.add,bt.F,cP.add,cP.F,ju]
 by_cases h:0 < p
 ·rw[dY h,ae]
  by_cases h2:p < 4611686018427377339
  ·rw[aW h2,ae,aZ ⟨h,h2⟩,Bool.true_and]
   rfl
  ·rw[aO h2,ag,bo (fun x=>h2 x.2),Bool.false_and]
 ·rw[dI h,ag,bo (fun x=>h x.1),Bool.false_and]
noncomputable def cP.E:=Entry.cD [some tu] cP.st cP.av cP.add cP.F cP.out
noncomputable def cP.call:cP.D→Option cP.X:=bS cP.E cP.st
theorem cP.run:bM cP.call cP.av cP.add cP.F:=dq (df [.d tu] fun _=>by kernel_rfl)
noncomputable def cP.sg:SG Tryz.prog:=⟨151,aR,cP.E,.fn 0 (by kernel_rfl) cP.ok trivial⟩
abbrev dg.D:=Int
def dg.st:dg.D→SA:=fun p=>([.d tu p],[])
abbrev dg.Y:=Int
abbrev dg.X:=Int
def dg.out:dg.X→ba:=fun x=>⟨.d tu x,[],[]⟩
def dg.add:dg.D→dg.Y→dg.X:=fun p y=>y
def dg.av:dg.D→Prop:=fun p=>gY p
def dg.F:dg.D→dg.Y:=fun p=>tk p
noncomputable def dg.G:ed:=fk (P:=Tryz.prog) [cP.sg]
noncomputable def dg.an:eQ:= {}
noncomputable def dg.A:= @cY Tryz.prog dg.G dg.an 0 Tryz.f131 _ dg.st
abbrev dg.Ok:=dd @dg.A dg.av dg.add dg.F dg.out
theorem dg.eq{R:Type}(p:Int)(k:ba→Option R):dg.A p k=
  ah (cP.call p) fun x1=>
  aG (x1) (
   k (dg.out p)) (
   k (dg.out (1:Int))):=by kernel_rfl
theorem dg.ok:dg.Ok:=by
 intro p hp
 rw[dg.eq,cP.run (d:=p) hp]
 simp only[aa,cP.add,cP.F,dg.add,dg.F,tk]
 cases ju p <;> rfl
noncomputable def dg.E:=Entry.cD [some tu] dg.st dg.av dg.add dg.F dg.out
noncomputable def dg.call:dg.D→Option dg.X:=bS dg.E dg.st
theorem dg.run:bM dg.call dg.av dg.add dg.F:=dq (df [.d tu] fun _=>by kernel_rfl)
noncomputable def dg.sg:SG Tryz.prog:=⟨131,aR,dg.E,.fn 0 (by kernel_rfl) dg.ok trivial⟩
abbrev dJ.D:=Int×Int
def dJ.st:dJ.D→SA:=fun(p,kv)=>([.d tu p,.d tu kv],[])
abbrev dJ.Y:=Int
abbrev dJ.X:=Int
def dJ.out:dJ.X→ba:=fun x=>⟨.d tu x,[],[]⟩
def dJ.add:dJ.D→dJ.Y→dJ.X:=fun(p,kv) y=>y
def dJ.av:dJ.D→Prop:=fun(p,k)=>gY p∧gY k
def dJ.F:dJ.D→dJ.Y:=fun(p,k)=>ku p k
noncomputable def dJ.G:ed:=fk (P:=Tryz.prog) [dg.sg,bt.sg]
noncomputable def dJ.an:eQ:= {}
noncomputable def dJ.A:= @cY Tryz.prog dJ.G dJ.an 0 Tryz.f63 _ dJ.st
abbrev dJ.Ok:=dd @dJ.A dJ.av dJ.add dJ.F dJ.out
theorem dJ.eq{R:Type}(p:Int)(kv:Int)(k:ba→Option R):dJ.A (p,kv) k=
 ah (dg.call p) fun x1=>
 ah (bt.call (x1,(gT kv (2305843009213688669:Int)))) fun x2=>
 k (dJ.out x2):=by kernel_rfl
theorem dJ.ok:dJ.Ok:=by
 rintro⟨p,k⟩ ⟨hp,hk⟩
 have hk:gY k:=hk
 have e:=jL (y:=2305843009213688669) hk.1
 have b:gY (k%2305843009213688669):=⟨by omega,by omega⟩
 rw[dJ.eq,dg.run (d:=p) hp,e]
 simp only[aa,dg.add,dg.F]
 rw[bt.run (d:=(tk p,k%2305843009213688669)) ⟨(uO p).u,b⟩]
 rfl
noncomputable def dJ.E:=Entry.cD [some tu,some tu] dJ.st dJ.av dJ.add dJ.F dJ.out
noncomputable def dJ.call:dJ.D→Option dJ.X:=bS dJ.E dJ.st
theorem dJ.run:bM dJ.call dJ.av dJ.add dJ.F:=dq (df [.d tu,.d tu] fun _=>by kernel_rfl)
noncomputable def dJ.sg:SG Tryz.prog:=⟨63,aR,dJ.E,.fn 0 (by kernel_rfl) dJ.ok trivial⟩
abbrev dP.D:=Int
def dP.st:dP.D→SA:=fun kv=>([.d tu kv],[])
abbrev dP.Y:=Int
abbrev dP.X:=Int
def dP.out:dP.X→ba:=fun x=>⟨.d tu x,[],[]⟩
def dP.add:dP.D→dP.Y→dP.X:=fun kv y=>y
def dP.av:dP.D→Prop:=fun k=>gY k
def dP.F:dP.D→dP.Y:=fun k=>e7 k
noncomputable def dP.G:ed:=fk (P:=Tryz.prog) [dJ.sg]
noncomputable def dP.an:eQ:= {}
noncomputable def dP.A:= @cY Tryz.prog dP.G dP.an 0 Tryz.f14 _ dP.st
abbrev dP.Ok:=dd @dP.A dP.av dP.add dP.F dP.out
theorem dP.eq{R:Type}(kv:Int)(k:ba→Option R):dP.A kv k=
 ah (dJ.call ((4:Int),kv)) fun x1=>
 k (dP.out x1):=by kernel_rfl
theorem dP.ok:dP.Ok:=by
 intro k hk
 rw[dP.eq,dJ.run (d:=(4,k)) ⟨⟨by omega,by omega⟩,hk⟩]
 rfl
noncomputable def dP.E:=Entry.cD [some tu] dP.st dP.av dP.add dP.F dP.out
noncomputable def dP.call:dP.D→Option dP.X:=bS dP.E dP.st
theorem dP.run:bM dP.call dP.av dP.add dP.F:=dq (df [.d tu] fun _=>by kernel_rfl)
noncomputable def dP.sg:SG Tryz.prog:=⟨14,aR,dP.E,.fn 0 (by kernel_rfl) dP.ok trivial⟩
abbrev gh.D:=Int
def gh.st:gh.D→SA:=fun p=>([.d tu p],[])
abbrev gh.Y:=Int
abbrev gh.X:=Int
def gh.out:gh.X→ba:=fun x=>⟨.d tu x,[],[]⟩
def gh.add:gh.D→gh.Y→gh.X:=fun p y=>y
def gh.av:gh.D→Prop:=fun p=>gY p
def gh.F:gh.D→gh.Y:=fun p=>ui p
noncomputable def gh.G:ed:=fk (P:=Tryz.prog) [dg.sg,bt.sg]
noncomputable def gh.an:eQ:= {}
noncomputable def gh.A:= @cY Tryz.prog gh.G gh.an 0 Tryz.f260 _ gh.st
abbrev gh.Ok:=dd @gh.A gh.av gh.add gh.F gh.out
theorem gh.eq{R:Type}(p:Int)(k:ba→Option R):gh.A p k=
 ah (dg.call p) fun x1=>
 ah (bt.call (x1,(2305843009213688668:Int))) fun x2=>
 k (gh.out x2):=by kernel_rfl
theorem gh.ok:gh.Ok:=by
 intro p hp
 rw[gh.eq,dg.run (d:=p) hp]
 simp only[aa,dg.add,dg.F]
 rw[bt.run (d:=(tk p,2305843009213688668)) ⟨(uO p).u,by constructor <;> decide⟩]
 rfl
noncomputable def gh.E:=Entry.cD [some tu] gh.st gh.av gh.add gh.F gh.out
noncomputable def gh.call:gh.D→Option gh.X:=bS gh.E gh.st
theorem gh.run:bM gh.call gh.av gh.add gh.F:=dq (df [.d tu] fun _=>by kernel_rfl)
noncomputable def gh.sg:SG Tryz.prog:=⟨260,aR,gh.E,.fn 0 (by kernel_rfl) gh.ok trivial⟩
abbrev dr.L0.D:=Int×Bs×Int×Int
def dr.L0.st:dr.L0.D→AS:=fun(outv,t6,t7,t8)=>⟨([.undef,.undef,.undef,.d tu outv,.undef,.undef,.d tU t6,.d ti t7,.d ti t8]++bl 9 []),[],(List.replicate 18 [])⟩
abbrev dr.L0.Y0:=Int
abbrev dr.L0.X0:=Int
def dr.L0.bp:dr.L0.X0→Exit×AS:=fun x=>(.exit 0,⟨([.undef,.undef,.undef,.d tu x]++bl 14 []),[],(List.replicate 18 [])⟩)
abbrev dr.L0.X:=dr.L0.X0
abbrev dr.L0.Y:=dr.L0.Y0
def dr.L0.out:dr.L0.X→Out (Exit×AS):=fun x=> .ok (dr.L0.bp x)
def dr.L0.add:dr.L0.D→dr.L0.Y→dr.L0.X:=fun(outv,t6,t7,t8) y=>y
abbrev dr.D:=Bs
def dr.st:dr.D→SA:=fun l=>([.d tU l],[])
abbrev dr.Y:=Int
abbrev dr.X:=Int
def dr.out:dr.X→ba:=fun x=>⟨.d tu x,[],[]⟩
def dr.add:dr.D→dr.Y→dr.X:=fun l y=>y
def dr.L0.av:dr.L0.D→Prop:=fun(o,l,n,i)=>Pn o∧(∀x∈l,gY x)∧l.length≤1000000000∧n=l.length∧∃k:Nat,k≤l.length∧i=k
def dr.L0.F:dr.L0.D→dr.L0.Y:=fun(o,l,n,i)=>(l.drop i.toNat).foldl (fun o p=>gQ o (tk p)) o
def dr.av:dr.D→Prop:=fun l=>(∀x∈l,gY x)∧l.length≤1000000000
def dr.F:dr.D→dr.Y:=fun l=>mB l
noncomputable def dr.G:ed:=fk (P:=Tryz.prog) [dg.sg,dF.sg]
noncomputable def dr.L0.E:=bU.cD dr.L0.st dr.L0.av dr.L0.add dr.L0.F dr.L0.out
noncomputable def dr.L0.call:dr.L0.D→Option dr.L0.X:=dw dr.L0.E dr.L0.st
noncomputable def dr.an:eQ:= {loops:=jB [(3,{bn:=[3,6,7,8]})],outs:=jA [(3,{bn:=[3]},{bn:=[2]})],fC:=kf [(3,dr.L0.E)]}
noncomputable def dr.A:= @cY Tryz.prog dr.G dr.an 0 Tryz.f242 _ dr.st
abbrev dr.Ok:=dd @dr.A dr.av dr.add dr.F dr.out
noncomputable def dr.L0.R:= @cj Tryz.prog dr.G dr.an 0 Tryz.f242 0 _ dr.L0.st
abbrev dr.L0.Ok:=ew Tryz.prog dr.G dr.an 0 Tryz.f242 0 dr.L0.st dr.L0.av dr.L0.add dr.L0.F dr.L0.out
theorem dr.L0.run:bM dr.L0.call dr.L0.av dr.L0.add dr.L0.F:=eM (eL [.d tu,.d tU,.d ti,.d ti] fun _=>by kernel_rfl)
theorem dr.L0.aB:fQ @dr.L0.R dr.L0.st dr.L0.av dr.L0.add dr.L0.F dr.L0.bp dr.L0.Ok:=fU
theorem dr.L0.step{R:Type}(outv:Int)(t6:Bs)(t7:Int)(t8:Int)(kn:AS→Option R)(kx:Exit→AS→Option R):dr.L0.R (outv,t6,t7,t8) kn kx=
  aG ((fM t8 t7)) (
   aG (eI t8 (((List.length t6):Nat):Int)) (
   ah (dg.call (nth tu t6 (Int.toNat t8))) fun x1=>
   ah (dF.call (outv,x1)) fun x2=>
   kn (dr.L0.st (x2,t6,t7,(bN .i64 t8 (1:Int))))) none) (
   kx (dr.L0.bp outv).1 (dr.L0.bp outv).2):=by kernel_rfl
theorem dr.eq{R:Type}(l:Bs)(k:ba→Option R):dr.A l k=
 ah (dr.L0.call ((1:Int),l,(((List.length l):Nat):Int),(0:Int))) fun x3=>
 k (dr.out x3):=by kernel_rfl
theorem dr.L0.ok:dr.L0.Ok:=by
 refine dr.L0.aB (fun(o,l,n,i)=>l.length - i.toNat) ?_
 rintro⟨o,l,n,i⟩ ⟨ho,hl,hb,rfl,k,hk,rfl⟩
 have ho:Pn o:=ho
 have hb:l.length≤1000000000:=hb
 have hk:k≤l.length:=hk
 by_cases h:k < l.length
 ·left
  have hx:=hl _ (List.getElem_mem h)
  have n1:nth (.int .u64) l k=l[k]:=cn (t:= .int .u64) h
  refine⟨(gQ o (tk l[k]),l,l.length,((k+1:Nat):Int)),⟨jM _ _,hl,hb,rfl,k+1,by omega,rfl⟩,by simp only[Int.toNat_natCast];omega,?_,fun kn kx=> ?_⟩
  ·simp only[dr.L0.add,dr.L0.F,Int.toNat_natCast]
   rw[List.drop_eq_getElem_cons h]
   rfl
  ·rw[dr.L0.step]
   simp(disch:=omega) only[↓S1,↓if_pos,↓if_neg,if_pos,if_neg,if_true,if_false,S2,n1]
   rw[dg.run (d:=l[k]) hx]
   simp only[aa,dg.add,dg.F]
   rw[dF.run (d:=(o,tk l[k])) ⟨ho.u,(uO _).u⟩]
   rfl
 ·right
  obtain rfl:k=l.length:=by omega
  intro R kn kx
  rw[dr.L0.step]
  simp(disch:=omega) only[↓S1,↓if_pos,↓if_neg,if_pos,if_neg,if_true,if_false,S2,dr.L0.add,dr.L0.F,List.drop_length]
  rfl
theorem dr.ok:dr.Ok:=by
 rintro l ⟨hl,hb⟩
 rw[dr.eq,dr.L0.run (d:=(1,l,l.length,0)) ⟨⟨by omega,by omega⟩,hl,hb,rfl,0,by omega,rfl⟩]
 rfl
noncomputable def dr.E:=Entry.cD [some tU] dr.st dr.av dr.add dr.F dr.out
noncomputable def dr.call:dr.D→Option dr.X:=bS dr.E dr.st
theorem dr.run:bM dr.call dr.av dr.add dr.F:=dq (df [.d tU] fun _=>by kernel_rfl)
noncomputable def dr.sg:SG Tryz.prog:=⟨242,aR,dr.E,.fn 1 (by kernel_rfl) dr.ok (And.intro (.cD dr.L0.ok (by kernel_rfl)) trivial)⟩
abbrev gg.D:=Int×Int
def gg.st:gg.D→SA:=fun(p,q)=>([.d tu p,.d tu q],[])
abbrev gg.Y:=Int
abbrev gg.X:=Int
def gg.out:gg.X→ba:=fun x=>⟨.d tu x,[],[]⟩
def gg.add:gg.D→gg.Y→gg.X:=fun(p,q) y=>y
def gg.av:gg.D→Prop:=fun(p,q)=>gY p∧gY q
def gg.F:gg.D→gg.Y:=fun(p,q)=>mB [p,q]
noncomputable def gg.G:ed:=fk (P:=Tryz.prog) [dr.sg]
noncomputable def gg.an:eQ:= {}
noncomputable def gg.A:= @cY Tryz.prog gg.G gg.an 0 Tryz.f195 _ gg.st
abbrev gg.Ok:=dd @gg.A gg.av gg.add gg.F gg.out
theorem gg.eq{R:Type}(p:Int)(q:Int)(k:ba→Option R):gg.A (p,q) k=
 ah (dr.call [p,q]) fun x1=>
 k (gg.out x1):=by kernel_rfl
theorem gg.ok:gg.Ok:=by
 rintro⟨p,q⟩ ⟨hp,hq⟩
 have h:dr.av [p,q]:=⟨by intro x hx;simp only[List.mem_cons,List.not_mem_nil,or_false]at hx;rcases hx with rfl | rfl <;> assumption,by simp only[List.length_cons,List.length_nil];omega⟩
 rw[gg.eq,dr.run h]
 rfl
noncomputable def gg.E:=Entry.cD [some tu,some tu] gg.st gg.av gg.add gg.F gg.out
noncomputable def gg.call:gg.D→Option gg.X:=bS gg.E gg.st
theorem gg.run:bM gg.call gg.av gg.add gg.F:=dq (df [.d tu,.d tu] fun _=>by kernel_rfl)
noncomputable def gg.sg:SG Tryz.prog:=⟨195,aR,gg.E,.fn 0 (by kernel_rfl) gg.ok trivial⟩
set_option synthInstance.maxSize 5000
def Qn(x:Int):Prop:=0≤x∧x < 2305843009213688669
theorem Qn.u{x:Int}(h:Qn x):gY x:=⟨h.1,by have:=h.2;omega⟩
def Dr(a:Int):Int:=a%2305843009213688669
theorem xn(a:Int):Qn (Dr a):=⟨Int.emod_nonneg _ (by omega),Int.emod_lt_of_pos _ (by omega)⟩
def zw(a b:Int):Int:=(Dr a+Dr b)%2305843009213688669
def xk(a b:Int):Int:=Dr a*Dr b%2305843009213688669
def oI(h:List Int):Int:=h.foldl (fun n b=>(n*256+b)%2305843009213688668) 0+1
def wG.b(n:Int):Prop:=0≤n∧n < 2305843009213688668
theorem tJ(h:List Int)(n:Int)(hn:wG.b n):wG.b (h.foldl (fun n b=>(n*256+b)%2305843009213688668) n):=by
 induction h generalizing n with
 |nil=>exact hn
 |cons p l ih=>exact ih _ ⟨Int.emod_nonneg _ (by omega),Int.emod_lt_of_pos _ (by omega)⟩
theorem tK(h:List Int):0 < oI h∧oI h < 2305843009213688669:=by
 have:=tJ h 0 ⟨by omega,by omega⟩
 have h1:=this.1
 have h2:=this.2
 unfold oI
 omega
theorem AJ(a b:Int):Qn (zw a b):=⟨Int.emod_nonneg _ (by omega),Int.emod_lt_of_pos _ (by omega)⟩
theorem EH(a b:Int):Qn (xk a b):=⟨Int.emod_nonneg _ (by omega),Int.emod_lt_of_pos _ (by omega)⟩
abbrev dv.D:=Int
def dv.st:dv.D→SA:=fun a=>([.d tu a],[])
abbrev dv.Y:=Bool
abbrev dv.X:=Bool
def dv.out:dv.X→ba:=fun x=>⟨.d .bool x,[],[]⟩
def dv.add:dv.D→dv.Y→dv.X:=fun a y=>y
def dv.av:dv.D→Prop:=fun _=>True
def dv.F:dv.D→dv.Y:=fun a=>fM a 2305843009213688669
noncomputable def dv.G:ed:=fk (P:=Tryz.prog) []
noncomputable def dv.an:eQ:= {}
noncomputable def dv.A:= @cY Tryz.prog dv.G dv.an 0 Tryz.f65 _ dv.st
abbrev dv.Ok:=dd @dv.A dv.av dv.add dv.F dv.out
theorem dv.eq{R:Type}(a:Int)(k:ba→Option R):dv.A a k=
 k (dv.out (fM a (2305843009213688669:Int))):=by kernel_rfl
theorem dv.ok:dv.Ok:=by
 intro a _
 rw[dv.eq]
 rfl
noncomputable def dv.E:=Entry.cD [some tu] dv.st dv.av dv.add dv.F dv.out
noncomputable def dv.call:dv.D→Option dv.X:=bS dv.E dv.st
theorem dv.run:bM dv.call dv.av dv.add dv.F:=dq (df [.d tu] fun _=>by kernel_rfl)
noncomputable def dv.sg:SG Tryz.prog:=⟨65,aR,dv.E,.fn 0 (by kernel_rfl) dv.ok trivial⟩
abbrev jy.D:=Int
def jy.st:jy.D→SA:=fun a=>([.d tu a],[])
abbrev jy.Y:=Int
abbrev jy.X:=Int
def jy.out:jy.X→ba:=fun x=>⟨.d tu x,[],[]⟩
def jy.add:jy.D→jy.Y→jy.X:=fun a y=>y
def jy.av:jy.D→Prop:=fun a=>gY a
def jy.F:jy.D→jy.Y:=fun a=>Dr a
noncomputable def jy.G:ed:=fk (P:=Tryz.prog) []
noncomputable def jy.an:eQ:= {}
noncomputable def jy.A:= @cY Tryz.prog jy.G jy.an 0 Tryz.f243 _ jy.st
abbrev jy.Ok:=dd @jy.A jy.av jy.add jy.F jy.out
theorem jy.eq{R:Type}(a:Int)(k:ba→Option R):jy.A a k=
 k (jy.out (gT a (2305843009213688669:Int))):=by kernel_rfl
theorem jy.ok:jy.Ok:=by
 intro a ha
 rw[jy.eq,jL ha.1]
 rfl
noncomputable def jy.E:=Entry.cD [some tu] jy.st jy.av jy.add jy.F jy.out
noncomputable def jy.call:jy.D→Option jy.X:=bS jy.E jy.st
theorem jy.run:bM jy.call jy.av jy.add jy.F:=dq (df [.d tu] fun _=>by kernel_rfl)
noncomputable def jy.sg:SG Tryz.prog:=⟨243,aR,jy.E,.fn 0 (by kernel_rfl) jy.ok trivial⟩
abbrev eY.D:=Int×Int
def eY.st:eY.D→SA:=fun(a,b)=>([.d tu a,.d tu b],[])
abbrev eY.Y:=Int
abbrev eY.X:=Int
def eY.out:eY.X→ba:=fun x=>⟨.d tu x,[],[]⟩
def eY.add:eY.D→eY.Y→eY.X:=fun(a,b) y=>y
def eY.av:eY.D→Prop:=fun(a,b)=>Qn a∧Qn b
def eY.F:eY.D→eY.Y:=fun(a,b)=>(a+b)%2305843009213688669
noncomputable def eY.G:ed:=fk (P:=Tryz.prog) []
noncomputable def eY.an:eQ:= {}
noncomputable def eY.A:= @cY Tryz.prog eY.G eY.an 0 Tryz.f244 _ eY.st
abbrev eY.Ok:=dd @eY.A eY.av eY.add eY.F eY.out
theorem eY.eq{R:Type}(a:Int)(b:Int)(k:ba→Option R):eY.A (a,b) k=
 k (eY.out (gT (bN .u64 a b) (2305843009213688669:Int))):=by kernel_rfl
theorem eY.ok:eY.Ok:=by
 rintro⟨a,b⟩ ⟨ha,hb⟩
 have ha:Qn a:=ha
 have hb:Qn b:=hb
 obtain⟨h1,h2⟩:=ha
 obtain⟨h3,h4⟩:=hb
 have e:bN .u64 a b=a+b:=by rw[jm];omega
 rw[eY.eq,e,jL (by omega)]
 rfl
noncomputable def eY.E:=Entry.cD [some tu,some tu] eY.st eY.av eY.add eY.F eY.out
noncomputable def eY.call:eY.D→Option eY.X:=bS eY.E eY.st
theorem eY.run:bM eY.call eY.av eY.add eY.F:=dq (df [.d tu,.d tu] fun _=>by kernel_rfl)
noncomputable def eY.sg:SG Tryz.prog:=⟨244,aR,eY.E,.fn 0 (by kernel_rfl) eY.ok trivial⟩
abbrev dO.D:=Int×Int
def dO.st:dO.D→SA:=fun(a,b)=>([.d tu a,.d tu b],[])
abbrev dO.Y:=Int
abbrev dO.X:=Int
def dO.out:dO.X→ba:=fun x=>⟨.d tu x,[],[]⟩
def dO.add:dO.D→dO.Y→dO.X:=fun(a,b) y=>y
def dO.av:dO.D→Prop:=fun(a,b)=>Qn a∧Qn b
def dO.F:dO.D→dO.Y:=fun(a,b)=>a*b%2305843009213688669
noncomputable def dO.G:ed:=fk (P:=Tryz.prog) [eg.sg,dT.sg]
noncomputable def dO.an:eQ:= {}
noncomputable def dO.A:= @cY Tryz.prog dO.G dO.an 0 Tryz.f245 _ dO.st
abbrev dO.Ok:=dd @dO.A dO.av dO.add dO.F dO.out
theorem dO.eq{R:Type}(a:Int)(b:Int)(k:ba→Option R):dO.A (a,b) k=
 ah (eg.call (a,b)) fun x1=>
 ah (dT.call (x1.1,x1.2,(2305843009213688669:Int))) fun x2=>
 k (dO.out x2):=by kernel_rfl
theorem dO.ok:dO.Ok:=by
 rintro⟨a,b⟩ ⟨ha,hb⟩
 have ha:Qn a:=ha
 have hb:Qn b:=hb
 obtain⟨m1,m2⟩:=rV ha.1 (show a≤18446744073709551615 by have:=ha.2;omega) hb.1 (show b≤18446744073709551615 by have:=hb.2;omega)
 have n:(18446744073709551615:Int)*18446744073709551615=340282366920938463426481119284349108225:=rfl
 rw[n]at m2
 have p:dT.av (a*b / 18446744073709551616,a*b%18446744073709551616,2305843009213688669):=⟨Or.inr (Or.inl rfl),by omega,by omega,by omega,by omega⟩
 rw[dO.eq,eg.run (d:=(a,b)) ⟨ha.u,hb.u⟩]
 simp only[aa,eg.add,eg.F]
 rw[dT.run p]
 simp only[aa,dT.add,dT.F,uR]
 rfl
noncomputable def dO.E:=Entry.cD [some tu,some tu] dO.st dO.av dO.add dO.F dO.out
noncomputable def dO.call:dO.D→Option dO.X:=bS dO.E dO.st
theorem dO.run:bM dO.call dO.av dO.add dO.F:=dq (df [.d tu,.d tu] fun _=>by kernel_rfl)
noncomputable def dO.sg:SG Tryz.prog:=⟨245,aR,dO.E,.fn 0 (by kernel_rfl) dO.ok trivial⟩
abbrev gq.D:=Int×Int
def gq.st:gq.D→SA:=fun(a,b)=>([.d tu a,.d tu b],[])
abbrev gq.Y:=Int
abbrev gq.X:=Int
def gq.out:gq.X→ba:=fun x=>⟨.d tu x,[],[]⟩
def gq.add:gq.D→gq.Y→gq.X:=fun(a,b) y=>y
def gq.av:gq.D→Prop:=fun(a,b)=>gY a∧gY b
def gq.F:gq.D→gq.Y:=fun(a,b)=>zw a b
noncomputable def gq.G:ed:=fk (P:=Tryz.prog) [jy.sg,eY.sg]
noncomputable def gq.an:eQ:= {}
noncomputable def gq.A:= @cY Tryz.prog gq.G gq.an 0 Tryz.f196 _ gq.st
abbrev gq.Ok:=dd @gq.A gq.av gq.add gq.F gq.out
theorem gq.eq{R:Type}(a:Int)(b:Int)(k:ba→Option R):gq.A (a,b) k=
 ah (jy.call a) fun x1=>
 ah (jy.call b) fun x2=>
 ah (eY.call (x1,x2)) fun x3=>
 k (gq.out x3):=by kernel_rfl
theorem gq.ok:gq.Ok:=by
 rintro⟨a,b⟩ ⟨ha,hb⟩
 rw[gq.eq,jy.run (d:=a) ha,jy.run (d:=b) hb]
 simp only[aa,jy.add,jy.F]
 rw[eY.run (d:=(Dr a,Dr b)) ⟨xn a,xn b⟩]
 rfl
noncomputable def gq.E:=Entry.cD [some tu,some tu] gq.st gq.av gq.add gq.F gq.out
noncomputable def gq.call:gq.D→Option gq.X:=bS gq.E gq.st
theorem gq.run:bM gq.call gq.av gq.add gq.F:=dq (df [.d tu,.d tu] fun _=>by kernel_rfl)
noncomputable def gq.sg:SG Tryz.prog:=⟨196,aR,gq.E,.fn 0 (by kernel_rfl) gq.ok trivial⟩
abbrev gb.D:=Int×Int
def gb.st:gb.D→SA:=fun(a,b)=>([.d tu a,.d tu b],[])
abbrev gb.Y:=Int
abbrev gb.X:=Int
def gb.out:gb.X→ba:=fun x=>⟨.d tu x,[],[]⟩
def gb.add:gb.D→gb.Y→gb.X:=fun(a,b) y=>y
def gb.av:gb.D→Prop:=fun(a,b)=>gY a∧gY b
def gb.F:gb.D→gb.Y:=fun(a,b)=>xk a b
noncomputable def gb.G:ed:=fk (P:=Tryz.prog) [jy.sg,dO.sg]
noncomputable def gb.an:eQ:= {}
noncomputable def gb.A:= @cY Tryz.prog gb.G gb.an 0 Tryz.f197 _ gb.st
abbrev gb.Ok:=dd @gb.A gb.av gb.add gb.F gb.out
theorem gb.eq{R:Type}(a:Int)(b:Int)(k:ba→Option R):gb.A (a,b) k=
 ah (jy.call a) fun x1=>
 ah (jy.call b) fun x2=>
 ah (dO.call (x1,x2)) fun x3=>
 k (gb.out x3):=by kernel_rfl
theorem gb.ok:gb.Ok:=by
 rintro⟨a,b⟩ ⟨ha,hb⟩
 rw[gb.eq,jy.run (d:=a) ha,jy.run (d:=b) hb]
 simp only[aa,jy.add,jy.F]
 rw[dO.run (d:=(Dr a,Dr b)) ⟨xn a,xn b⟩]
 rfl
noncomputable def gb.E:=Entry.cD [some tu,some tu] gb.st gb.av gb.add gb.F gb.out
noncomputable def gb.call:gb.D→Option gb.X:=bS gb.E gb.st
theorem gb.run:bM gb.call gb.av gb.add gb.F:=dq (df [.d tu,.d tu] fun _=>by kernel_rfl)
noncomputable def gb.sg:SG Tryz.prog:=⟨197,aR,gb.E,.fn 0 (by kernel_rfl) gb.ok trivial⟩
abbrev bW.L0.D:=Int×Bs×Int
def bW.L0.st:bW.L0.D→AS:=fun(n,t6,t7)=>⟨([.undef,.undef,.undef,.d tu n,.undef,.undef,.d tH t6,.d ti t7]++bl 13 []),[],(List.replicate 21 [])⟩
abbrev bW.L0.Y0:=Int
abbrev bW.L0.X0:=Int
def bW.L0.bp:bW.L0.X0→Exit×AS:=fun x=>(.exit 0,⟨([.undef,.undef,.undef,.d tu x]++bl 17 []),[],(List.replicate 21 [])⟩)
abbrev bW.L0.X:=bW.L0.X0
abbrev bW.L0.Y:=bW.L0.Y0
def bW.L0.out:bW.L0.X→Out (Exit×AS):=fun x=> .ok (bW.L0.bp x)
def bW.L0.add:bW.L0.D→bW.L0.Y→bW.L0.X:=fun(n,t6,t7) y=>y
abbrev bW.D:=Bs
def bW.st:bW.D→SA:=fun h=>([.d tH h],[])
abbrev bW.Y:=Int
abbrev bW.X:=Int
def bW.out:bW.X→ba:=fun x=>⟨.d tu x,[],[]⟩
def bW.add:bW.D→bW.Y→bW.X:=fun h y=>y
def bW.L0.av:bW.L0.D→Prop:=fun(n,h,i)=>wG.b n∧h.length=32∧Bytes h∧∃k:Nat,k≤32∧i=k
def bW.L0.F:bW.L0.D→bW.L0.Y:=fun(n,h,i)=>(h.drop i.toNat).foldl (fun n b=>(n*256+b)%2305843009213688668) n
def bW.av:bW.D→Prop:=fun h=>h.length=32∧Bytes h
def bW.F:bW.D→bW.Y:=fun h=>oI h
noncomputable def bW.G:ed:=fk (P:=Tryz.prog) [dT.sg]
noncomputable def bW.L0.E:=bU.cD bW.L0.st bW.L0.av bW.L0.add bW.L0.F bW.L0.out
noncomputable def bW.L0.call:bW.L0.D→Option bW.L0.X:=dw bW.L0.E bW.L0.st
noncomputable def bW.an:eQ:= {loops:=jB [(3,{bn:=[3,6,7]})],outs:=jA [(3,{bn:=[3]},{bn:=[2]})],fC:=kf [(3,bW.L0.E)]}
noncomputable def bW.A:= @cY Tryz.prog bW.G bW.an 0 Tryz.f136 _ bW.st
abbrev bW.Ok:=dd @bW.A bW.av bW.add bW.F bW.out
noncomputable def bW.L0.R:= @cj Tryz.prog bW.G bW.an 0 Tryz.f136 0 _ bW.L0.st
abbrev bW.L0.Ok:=ew Tryz.prog bW.G bW.an 0 Tryz.f136 0 bW.L0.st bW.L0.av bW.L0.add bW.L0.F bW.L0.out
theorem bW.L0.run:bM bW.L0.call bW.L0.av bW.L0.add bW.L0.F:=eM (eL [.d tu,.d tB,.d ti] fun _=>by kernel_rfl)
theorem bW.L0.aB:fQ @bW.L0.R bW.L0.st bW.L0.av bW.L0.add bW.L0.F bW.L0.bp bW.L0.Ok:=fU
theorem bW.L0.step{R:Type}(n:Int)(t6:Bs)(t7:Int)(kn:AS→Option R)(kx:Exit→AS→Option R):bW.L0.R (n,t6,t7) kn kx=
  aG ((fM t7 (32:Int))) (
   aG (eI t7 (32:Int)) (
   ah (dT.call ((cg .u64 n (56:Int)),(cw .or .u64 (jv .u64 n (8:Int)) (dR .u64 (nth tb t6 (Int.toNat t7)))),(2305843009213688668:Int))) fun x1=>
   kn (bW.L0.st (x1,t6,(bN .i64 t7 (1:Int))))) none) (
   kx (bW.L0.bp n).1 (bW.L0.bp n).2):=by kernel_rfl
theorem bW.eq{R:Type}(h:Bs)(k:ba→Option R):bW.A h k=
 ah (bW.L0.call ((0:Int),h,(0:Int))) fun x2=>
 k (bW.out (bN .u64 x2 (1:Int))):=by kernel_rfl
theorem yp{n b:Int}(hn:wG.b n)(hb:u6 b):cg .u64 n 56*18446744073709551616+cw .or .u64 (jv .u64 n 8) (dR .u64 b)=n*256+b∧gY (cg .u64 n 56)∧gY (cw .or .u64 (jv .u64 n 8) (dR .u64 b)):=by
 obtain⟨h1,h2⟩:=hn
 obtain⟨h3,h4⟩:=hb
 have p56:(2:Int)^56=72057594037927936:=rfl
 have p8:(2:Int)^8=256:=rfl
 have e:dR .u64 b=b:=by rw[zY];omega
 rw[lg 56 (by rfl) (by omega),lf 8 (by rfl) (by omega),p56,p8,e,qQ 8 256 rfl (by omega) (by omega) (by omega) (by omega) (by omega) (by omega)]
 exact⟨by omega,⟨by omega,by omega⟩,by omega,by omega⟩
theorem bW.L0.ok:bW.L0.Ok:=by
 refine bW.L0.aB (fun(n,h,i)=>32 - i.toNat) ?_
 rintro⟨n,h,i⟩ ⟨hn,hl,hb,k,hk,rfl⟩
 have hn:wG.b n:=hn
 have hl:h.length=32:=hl
 have hb:Bytes h:=hb
 by_cases hlt:k < 32
 ·left
  have hx:u6 (h[k]'(by omega)):=hb _ (List.getElem_mem _)
  have n1:nth (.int .u8) h k=h[k]'(by omega):=cn (t:= .int .u8) (by omega)
  obtain⟨d1,d2,d3⟩:=yp hn hx
  refine⟨((n*256+h[k]'(by omega))%2305843009213688668,h,((k+1:Nat):Int)),⟨⟨by omega,by omega⟩,hl,hb,k+1,by omega,rfl⟩,by simp only[Int.toNat_natCast];omega,?_,fun kn kx=> ?_⟩
  ·simp only[bW.L0.add,bW.L0.F,Int.toNat_natCast]
   rw[List.drop_eq_getElem_cons (by omega:k < h.length)]
   rfl
  ·rw[bW.L0.step]
   simp(disch:=omega) only[↓S1,↓if_pos,↓if_neg,if_pos,if_neg,if_true,if_false,S2,n1]
   rw[dT.run (d:=(_,_,2305843009213688668)) ⟨Or.inr (Or.inr rfl),d2.1,d2.2,d3.1,d3.2⟩]
   simp only[aa,dT.add,dT.F,d1]
 ·right
  obtain rfl:k=32:=by omega
  intro R kn kx
  rw[bW.L0.step]
  simp(disch:=omega) only[↓S1,↓if_pos,↓if_neg,if_pos,if_neg,if_true,if_false,S2,bW.L0.add,bW.L0.F]
  rw[List.drop_of_length_le (by omega)]
  rfl
theorem bW.ok:bW.Ok:=by
 rintro h ⟨hl,hb⟩
 have e:=tJ h 0 ⟨by omega,by omega⟩
 have h1:=e.1
 have h2:=e.2
 rw[bW.eq,bW.L0.run (d:=(0,h,0)) ⟨⟨by omega,by omega⟩,hl,hb,0,by omega,rfl⟩]
 simp only[aa,bW.L0.add,bW.L0.F,bW.add,bW.F,oI,Int.toNat_zero,List.drop_zero]
 revert h1 h2
 generalize h.foldl (fun n b=>(n*256+b)%2305843009213688668) 0=m
 intro h1 h2
 have e:bN .u64 m 1=m+1:=by rw[jm];omega
 rw[e]
noncomputable def bW.E:=Entry.cD [some tH] bW.st bW.av bW.add bW.F bW.out
noncomputable def bW.call:bW.D→Option bW.X:=bS bW.E bW.st
theorem bW.run:bM bW.call bW.av bW.add bW.F:=dq (df [.d tB] fun _=>by kernel_rfl)
noncomputable def bW.sg:SG Tryz.prog:=⟨136,aR,bW.E,.fn 1 (by kernel_rfl) bW.ok (And.intro (.cD bW.L0.ok (by kernel_rfl)) trivial)⟩
set_option synthInstance.maxSize 5000
theorem xV(n:Int): [dR .u8 (cg .u64 n 56),dR .u8 (cg .u64 n 48),dR .u8 (cg .u64 n 40),dR .u8 (cg .u64 n 32),dR .u8 (cg .u64 n 24),dR .u8 (cg .u64 n 16),dR .u8 (cg .u64 n 8),dR .u8 (cg .u64 n 0)]=iQ n:=zB n
theorem fb{α:Type}{l:List α}{n:Nat}(h:l.length=n):cut l 0 n=l:=by subst h;simp[cut]
theorem zh{n:ByteArray}{a b c:List Int}(hn:n.size≤100)(ha:a.length≤1000000)(hb:b.length≤1000000)(hc:c.length≤1000000):cJ.av (n,[a,b,c]):=by
 show(sj _ [a,b,c]).length≤_
 rw[sj]
 simp only[iU,List.flatMap_cons,List.flatMap_nil,List.length_append,cq,gZ,List.length_nil]
 omega
theorem DU{n:ByteArray}{a b:List Int}(hn:n.size≤100)(ha:a.length≤1000000)(hb:b.length≤1000000):cJ.av (n,[a,b]):=by
 show(sj _ [a,b]).length≤_
 rw[sj]
 simp only[iU,List.flatMap_cons,List.flatMap_nil,List.length_append,cq,gZ,List.length_nil]
 omega
theorem zg{n:ByteArray}{a:List Int}(hn:n.size≤100)(ha:a.length≤1000000):cJ.av (n,[a]):=by
 show(sj _ [a]).length≤_
 rw[sj]
 simp only[iU,List.flatMap_cons,List.flatMap_nil,List.length_append,cq,gZ,List.length_nil]
 omega
def Sm(m:List Int):Prop:=m.length=32∧Bytes m
theorem Gp(b:List Int):Sm (Gi b):=⟨As b,Bt b⟩
theorem xv(n:List Int)(ps:List (List Int)):Sm (tag n ps):=Gp _
def DT(n:ByteArray)(ps:List (List Int)):List Int:=tag (bG n) ps
def Hg:ByteArray:=⟨#[115,105,103]⟩
def Ag:ByteArray:=⟨#[110,111,110,99,101]⟩
def kG(r p:Int)(m:List Int):Int:=oI (DT Hg [iQ r,iQ p,m])
theorem qA(r p:Int)(m:List Int):Qn (kG r p m):=by
 have:=tK (DT Hg [iQ r,iQ p,m])
 exact⟨by unfold kG;omega,by unfold kG;omega⟩
def E9(s:Sg):Prop:=gY s.1∧gY s.2.1
def iX(p:Int)(m:List Int)(t:Int)(s:Sg):Bool:=
 if p=1∨ju p=false∨ju t=false∨ju s.1=false∨¬s.2.1 < 2305843009213688669 then false
 else decide (e7 s.2.1=mB [s.1,ku p (kG s.1 p m),ui t])
def wN(k nonce:Int)(m:List Int)(t:Int):Sg:=
 (mB [e7 nonce,t],zw nonce (xk (kG (mB [e7 nonce,t]) (e7 k) m) k),())
def Dn(k:Int)(m:List Int):Int:=oI (DT Ag [iQ k,m])
def iH(k:Int)(m:List Int):Sg:=if k < 2305843009213688669∧k≠0 then wN k (Dn k m) m 1 else(0,0,())
abbrev dz.D:=Int
def dz.st:dz.D→SA:=fun n=>([.d tu n],[])
abbrev dz.Y:=Bs
abbrev dz.X:=Bs
def dz.out:dz.X→ba:=fun x=>⟨.d tB x,[],[]⟩
def dz.add:dz.D→dz.Y→dz.X:=fun n y=>y
def dz.av:dz.D→Prop:=fun _=>True
def dz.F:dz.D→dz.Y:=fun n=>iQ n
noncomputable def dz.G:ed:=fk (P:=Tryz.prog) []
noncomputable def dz.an:eQ:= {loops:=jB [(3,{bn:=[0,3,7,8],sites:=[5]})],outs:=jA [(3,{bn:=[3],sites:=[5]},{bn:=[2],sites:=[5]})],res:=[some tB]}
noncomputable def dz.A:= @cY Tryz.prog dz.G dz.an 12 Tryz.f137 _ dz.st
abbrev dz.Ok:=dd @dz.A dz.av dz.add dz.F dz.out
theorem dz.eq{R:Type}(n:Int)(k:ba→Option R):dz.A n k=
 k (dz.out [(dR .u8 (cg .u64 n (56:Int))),(dR .u8 (cg .u64 n (48:Int))),(dR .u8 (cg .u64 n (40:Int))),(dR .u8 (cg .u64 n (32:Int))),(dR .u8 (cg .u64 n (24:Int))),(dR .u8 (cg .u64 n (16:Int))),(dR .u8 (cg .u64 n (8:Int))),(dR .u8 (cg .u64 n (0:Int)))]):=by kernel_rfl
theorem dz.ok:dz.Ok:=by
 intro n _
 rw[dz.eq,xV]
 rfl
noncomputable def dz.E:=Entry.cD [some tu] dz.st dz.av dz.add dz.F dz.out
noncomputable def dz.call:dz.D→Option dz.X:=bS dz.E dz.st
theorem dz.run:bM dz.call dz.av dz.add dz.F:=dq (df [.d tu] fun _=>by kernel_rfl)
noncomputable def dz.sg:SG Tryz.prog:=⟨137,aR,dz.E,.fn 1 (by kernel_rfl) dz.ok (And.intro (.none (by kernel_rfl)) trivial)⟩
abbrev ek.D:=Int×Int×Bs
def ek.st:ek.D→SA:=fun(r,p,m)=>([.d tu r,.d tu p,.d tH m],[])
abbrev ek.Y:=Int
abbrev ek.X:=Int
def ek.out:ek.X→ba:=fun x=>⟨.d tu x,[],[]⟩
def ek.add:ek.D→ek.Y→ek.X:=fun(r,p,m) y=>y
def ek.av:ek.D→Prop:=fun(r,p,m)=>Sm m
def ek.F:ek.D→ek.Y:=fun(r,p,m)=>kG r p m
noncomputable def ek.G:ed:=fk (P:=Tryz.prog) [dz.sg,cJ.sg,bW.sg]
noncomputable def ek.an:eQ:= {}
noncomputable def ek.A:= @cY Tryz.prog ek.G ek.an 0 Tryz.f198 _ ek.st
abbrev ek.Ok:=dd @ek.A ek.av ek.add ek.F ek.out
theorem ek.eq{R:Type}(r:Int)(p:Int)(m:Bs)(k:ba→Option R):ek.A (r,p,m) k=
 ah (dz.call r) fun x1=>
 ah (dz.call p) fun x2=>
 ah (cJ.call ((⟨#[115,105,103]⟩:ByteArray),[x1,x2,(cut m 0 32)])) fun x3=>
 ah (bW.call x3) fun x4=>
 k (ek.out x4):=by kernel_rfl
theorem ek.ok:ek.Ok:=by
 rintro⟨r,p,m⟩ hm
 have hm:Sm m:=hm
 rw[ek.eq,dz.run (d:=r) trivial,dz.run (d:=p) trivial]
 simp only[aa,dz.add,dz.F]
 rw[fb hm.1,cJ.run (zh (by decide) (by rw[cq];omega) (by rw[cq];omega) (by rw[hm.1];omega))]
 simp only[aa,cJ.add,cJ.F]
 rw[bW.run (d:=tag (bG (⟨#[115,105,103]⟩:ByteArray)) [iQ r,iQ p,m]) (xv _ _)]
 rfl
noncomputable def ek.E:=Entry.cD [some tu,some tu,some tH] ek.st ek.av ek.add ek.F ek.out
noncomputable def ek.call:ek.D→Option ek.X:=bS ek.E ek.st
theorem ek.run:bM ek.call ek.av ek.add ek.F:=dq (df [.d tu,.d tu,.d tB] fun _=>by kernel_rfl)
noncomputable def ek.sg:SG Tryz.prog:=⟨198,aR,ek.E,.fn 0 (by kernel_rfl) ek.ok trivial⟩
abbrev cG.D:=Int×Bs×Int×Sg
def cG.st:cG.D→SA:=fun(p,m,t,pre)=>([.d tu p,.d tH m,.d tu t,.d sJ pre],[])
abbrev cG.Y:=Bool
abbrev cG.X:=Bool
def cG.out:cG.X→ba:=fun x=>⟨.d .bool x,[],[]⟩
def cG.add:cG.D→cG.Y→cG.X:=fun(p,m,t,pre) y=>y
def cG.av:cG.D→Prop:=fun(p,m,t,s)=>gY p∧Sm m∧gY t∧E9 s
def cG.F:cG.D→cG.Y:=fun(p,m,t,s)=>iX p m t s
noncomputable def cG.G:ed:=fk (P:=Tryz.prog) [cP.sg,dv.sg,ek.sg,dJ.sg,gh.sg,dr.sg,dP.sg]
noncomputable def cG.an:eQ:= {}
noncomputable def cG.A:= @cY Tryz.prog cG.G cG.an 0 Tryz.f216 _ cG.st
abbrev cG.Ok:=dd @cG.A cG.av cG.add cG.F cG.out
theorem cG.eq{R:Type}(p:Int)(m:Bs)(t:Int)(pre:Sg)(k:ba→Option R):cG.A (p,m,t,pre) k=
  aG ((jz p (1:Int))) (
   k (cG.out false)) (
   ah (cP.call p) fun x1=>
   aG ((!x1)) (
    k (cG.out false)) (
    ah (cP.call t) fun x2=>
    aG ((!x2)) (
     k (cG.out false)) (
     ah (cP.call pre.1) fun x3=>
     aG ((!x3)) (
      k (cG.out false)) (
      ah (dv.call pre.2.1) fun x4=>
      aG ((!x4)) (
       k (cG.out false)) (
       ah (ek.call (pre.1,p,m)) fun x5=>
       ah (dJ.call (p,x5)) fun x6=>
       ah (gh.call t) fun x7=>
       ah (dr.call [pre.1,x6,x7]) fun x8=>
       ah (dP.call pre.2.1) fun x9=>
       k (cG.out (jz x9 x8))))))):=by kernel_rfl
theorem cG.ok:cG.Ok:=by
 rintro⟨p,m,t,s⟩ ⟨hp,hm,ht,hs⟩
 have hp:gY p:=hp
 have ht:gY t:=ht
 have hm:Sm m:=hm
 have hs:E9 s:=hs
 rw[cG.eq,cP.run (d:=p) hp,cP.run (d:=t) ht,cP.run (d:=s.1) hs.1,dv.run (d:=s.2.1) trivial]
 simp only[aa,cP.add,cP.F,dv.add,dv.F,cG.add,cG.F,iX]
 by_cases h1:p=1
 ·rw[hP h1,ae,if_pos (Or.inl h1)]
 rw[gr h1,ag]
 cases h2:ju p
 ·rw[if_pos (Or.inr (Or.inl rfl))];rfl
 cases h3:ju t
 ·rw[if_pos (Or.inr (Or.inr (Or.inl rfl)))];rfl
 cases h4:ju s.1
 ·rw[if_pos (Or.inr (Or.inr (Or.inr (Or.inl rfl))))];rfl
 by_cases h5:s.2.1 < 2305843009213688669
 ·rw[aW h5,if_neg (by simp[h1,h5])]
  have hq:=qA s.1 p m
  rw[ek.run (d:=(s.1,p,m)) hm]
  simp only[Bool.not_true,ag,aa,ek.add,ek.F]
  rw[dJ.run (d:=(p,kG s.1 p m)) ⟨hp,hq.u⟩,gh.run (d:=t) ht]
  simp only[aa,dJ.add,dJ.F,gh.add,gh.F]
  have q:dr.av [s.1,ku p (kG s.1 p m),ui t]:=⟨by
   intro x hx
   simp only[List.mem_cons,List.not_mem_nil,or_false]at hx
   rcases hx with rfl | rfl | rfl
   ·exact hs.1
   ·exact(uz _ _).u
   ·exact(uz _ _).u,by simp only[List.length_cons,List.length_nil];omega⟩
  rw[dr.run q,dP.run (d:=s.2.1) hs.2]
  rfl
 ·rw[aO h5,if_pos (Or.inr (Or.inr (Or.inr (Or.inr h5))))];rfl
noncomputable def cG.E:=Entry.cD [some tu,some tH,some tu,some sJ] cG.st cG.av cG.add cG.F cG.out
noncomputable def cG.call:cG.D→Option cG.X:=bS cG.E cG.st
theorem cG.run:bM cG.call cG.av cG.add cG.F:=dq (df [.d tu,.d tB,.d tu,.d sJ] fun _=>by kernel_rfl)
noncomputable def cG.sg:SG Tryz.prog:=⟨216,aR,cG.E,.fn 0 (by kernel_rfl) cG.ok trivial⟩
abbrev cX.D:=Int×Bs×Sg
def cX.st:cX.D→SA:=fun(p,m,sv)=>([.d tu p,.d tH m,.d sJ sv],[])
abbrev cX.Y:=Bool
abbrev cX.X:=Bool
def cX.out:cX.X→ba:=fun x=>⟨.d .bool x,[],[]⟩
def cX.add:cX.D→cX.Y→cX.X:=fun(p,m,sv) y=>y
def cX.av:cX.D→Prop:=fun(p,m,s)=>gY p∧Sm m∧E9 s
def cX.F:cX.D→cX.Y:=fun(p,m,s)=>iX p m 1 s
noncomputable def cX.G:ed:=fk (P:=Tryz.prog) [cG.sg]
noncomputable def cX.an:eQ:= {}
noncomputable def cX.A:= @cY Tryz.prog cX.G cX.an 0 Tryz.f158 _ cX.st
abbrev cX.Ok:=dd @cX.A cX.av cX.add cX.F cX.out
theorem cX.eq{R:Type}(p:Int)(m:Bs)(sv:Sg)(k:ba→Option R):cX.A (p,m,sv) k=
 ah (cG.call (p,m,(1:Int),sv)) fun x1=>
 k (cX.out x1):=by kernel_rfl
theorem cX.ok:cX.Ok:=by
 rintro⟨p,m,s⟩ ⟨hp,hm,hs⟩
 rw[cX.eq,cG.run (d:=(p,m,1,s)) ⟨hp,hm,⟨by omega,by omega⟩,hs⟩]
 rfl
noncomputable def cX.E:=Entry.cD [some tu,some tH,some sJ] cX.st cX.av cX.add cX.F cX.out
noncomputable def cX.call:cX.D→Option cX.X:=bS cX.E cX.st
theorem cX.run:bM cX.call cX.av cX.add cX.F:=dq (df [.d tu,.d tB,.d sJ] fun _=>by kernel_rfl)
noncomputable def cX.sg:SG Tryz.prog:=⟨158,aR,cX.E,.fn 0 (by kernel_rfl) cX.ok trivial⟩
abbrev fT.D:=Int
def fT.st:fT.D→SA:=fun kv=>([.d tu kv],[])
abbrev fT.Y:=Bool
abbrev fT.X:=Bool
def fT.out:fT.X→ba:=fun x=>⟨.d .bool x,[],[]⟩
def fT.add:fT.D→fT.Y→fT.X:=fun kv y=>y
def fT.av:fT.D→Prop:=fun _=>True
def fT.F:fT.D→fT.Y:=fun k=>decide (k < 2305843009213688669∧k≠0)
noncomputable def fT.G:ed:=fk (P:=Tryz.prog) [dv.sg]
noncomputable def fT.an:eQ:= {}
noncomputable def fT.A:= @cY Tryz.prog fT.G fT.an 0 Tryz.f134 _ fT.st
abbrev fT.Ok:=dd @fT.A fT.av fT.add fT.F fT.out
theorem fT.eq{R:Type}(kv:Int)(k:ba→Option R):fT.A kv k=
  ah (dv.call kv) fun x1=>
  aG (x1) (
   k (fT.out (mM kv (0:Int)))) (
   k (fT.out false)):=by kernel_rfl
theorem fT.ok:fT.Ok:=by
 intro k _
 rw[fT.eq,dv.run (d:=k) trivial]
 simp only[aa,dv.add,dv.F,fT.add,fT.F]
 by_cases h:k < 2305843009213688669
 ·rw[aW h,ae]
  by_cases h0:k=0
  ·rw[ct h0,bo (fun x=>x.2 h0)]
  ·rw[fg h0,aZ ⟨h,h0⟩]
 ·rw[aO h,ag,bo (fun x=>h x.1)]
noncomputable def fT.E:=Entry.cD [some tu] fT.st fT.av fT.add fT.F fT.out
noncomputable def fT.call:fT.D→Option fT.X:=bS fT.E fT.st
theorem fT.run:bM fT.call fT.av fT.add fT.F:=dq (df [.d tu] fun _=>by kernel_rfl)
noncomputable def fT.sg:SG Tryz.prog:=⟨134,aR,fT.E,.fn 0 (by kernel_rfl) fT.ok trivial⟩
abbrev dm.D:=Int×Int×Bs×Int
def dm.st:dm.D→SA:=fun(kv,nonce,m,t)=>([.d tu kv,.d tu nonce,.d tH m,.d tu t],[])
abbrev dm.Y:=Sg
abbrev dm.X:=Sg
def dm.out:dm.X→ba:=fun x=>⟨.d sJ x,[],[]⟩
def dm.add:dm.D→dm.Y→dm.X:=fun(kv,nonce,m,t) y=>y
def dm.av:dm.D→Prop:=fun(k,n,m,t)=>gY k∧gY n∧Sm m∧gY t
def dm.F:dm.D→dm.Y:=fun(k,n,m,t)=>wN k n m t
noncomputable def dm.G:ed:=fk (P:=Tryz.prog) [dP.sg,gg.sg,ek.sg,gb.sg,gq.sg]
noncomputable def dm.an:eQ:= {}
noncomputable def dm.A:= @cY Tryz.prog dm.G dm.an 0 Tryz.f135 _ dm.st
abbrev dm.Ok:=dd @dm.A dm.av dm.add dm.F dm.out
theorem dm.eq{R:Type}(kv:Int)(nonce:Int)(m:Bs)(t:Int)(k:ba→Option R):dm.A (kv,nonce,m,t) k=
 ah (dP.call nonce) fun x1=>
 ah (gg.call (x1,t)) fun x2=>
 ah (dP.call kv) fun x3=>
 ah (ek.call (x2,x3,m)) fun x4=>
 ah (gb.call (x4,kv)) fun x5=>
 ah (gq.call (nonce,x5)) fun x6=>
 k (dm.out (x2,(x6,()))):=by kernel_rfl
theorem dm.ok:dm.Ok:=by
 rintro⟨k,n,m,t⟩ ⟨hk,hn,hm,ht⟩
 have hk:gY k:=hk
 have hn:gY n:=hn
 have hm:Sm m:=hm
 have ht:gY t:=ht
 rw[dm.eq,dP.run (d:=n) hn]
 simp only[aa,dP.add,dP.F]
 rw[gg.run (d:=(e7 n,t)) ⟨(uz _ _).u,ht⟩,dP.run (d:=k) hk]
 simp only[aa,dP.add,dP.F,gg.add,gg.F]
 rw[ek.run (d:=(mB [e7 n,t],e7 k,m)) hm]
 simp only[aa,ek.add,ek.F]
 rw[gb.run (d:=(kG (mB [e7 n,t]) (e7 k) m,k)) ⟨(qA _ _ _).u,hk⟩]
 simp only[aa,gb.add,gb.F]
 rw[gq.run (d:=(n,xk (kG (mB [e7 n,t]) (e7 k) m) k)) ⟨hn,(EH _ _).u⟩]
 rfl
noncomputable def dm.E:=Entry.cD [some tu,some tu,some tH,some tu] dm.st dm.av dm.add dm.F dm.out
noncomputable def dm.call:dm.D→Option dm.X:=bS dm.E dm.st
theorem dm.run:bM dm.call dm.av dm.add dm.F:=dq (df [.d tu,.d tu,.d tB,.d tu] fun _=>by kernel_rfl)
noncomputable def dm.sg:SG Tryz.prog:=⟨135,aR,dm.E,.fn 0 (by kernel_rfl) dm.ok trivial⟩
abbrev eG.D:=Int×Bs
def eG.st:eG.D→SA:=fun(kv,m)=>([.d tu kv,.d tH m],[])
abbrev eG.Y:=Sg
abbrev eG.X:=Sg
def eG.out:eG.X→ba:=fun x=>⟨.d sJ x,[],[]⟩
def eG.add:eG.D→eG.Y→eG.X:=fun(kv,m) y=>y
def eG.av:eG.D→Prop:=fun(k,m)=>gY k∧Sm m
def eG.F:eG.D→eG.Y:=fun(k,m)=>iH k m
noncomputable def eG.G:ed:=fk (P:=Tryz.prog) [fT.sg,dz.sg,cJ.sg,bW.sg,dm.sg]
noncomputable def eG.an:eQ:= {}
noncomputable def eG.A:= @cY Tryz.prog eG.G eG.an 0 Tryz.f69 _ eG.st
abbrev eG.Ok:=dd @eG.A eG.av eG.add eG.F eG.out
theorem eG.eq{R:Type}(kv:Int)(m:Bs)(k:ba→Option R):eG.A (kv,m) k=
  ah (fT.call kv) fun x1=>
  aG ((!x1)) (
   k (eG.out ((0:Int),((0:Int),())))) (
   ah (dz.call kv) fun x2=>
   ah (cJ.call ((⟨#[110,111,110,99,101]⟩:ByteArray),[x2,(cut m 0 32)])) fun x3=>
   ah (bW.call x3) fun x4=>
   ah (dm.call (kv,x4,m,(1:Int))) fun x5=>
   k (eG.out x5)):=by kernel_rfl
theorem eG.ok:eG.Ok:=by
 rintro⟨k,m⟩ ⟨hk,hm⟩
 have hk:gY k:=hk
 have hm:Sm m:=hm
 rw[eG.eq,fT.run (d:=k) trivial]
 simp only[aa,fT.add,fT.F,eG.add,eG.F,iH]
 by_cases h:k < 2305843009213688669∧k≠0
 ·rw[aZ h,if_pos h,dz.run (d:=k) trivial,fb hm.1]
  simp only[Bool.not_true,ag,aa,dz.add,dz.F]
  rw[cJ.run (DU (by decide) (by rw[cq];omega) (by rw[hm.1];omega))]
  simp only[aa,cJ.add,cJ.F]
  rw[bW.run (d:=tag (bG (⟨#[110,111,110,99,101]⟩:ByteArray)) [iQ k,m]) (xv _ _)]
  simp only[aa,bW.add,bW.F]
  have q:=tK (tag (bG (⟨#[110,111,110,99,101]⟩:ByteArray)) [iQ k,m])
  rw[dm.run (d:=(k,oI (tag (bG (⟨#[110,111,110,99,101]⟩:ByteArray)) [iQ k,m]),m,1)) ⟨hk,⟨by omega,by omega⟩,hm,by omega,by omega⟩]
  rfl
 ·rw[bo h,if_neg h];rfl
noncomputable def eG.E:=Entry.cD [some tu,some tH] eG.st eG.av eG.add eG.F eG.out
noncomputable def eG.call:eG.D→Option eG.X:=bS eG.E eG.st
theorem eG.run:bM eG.call eG.av eG.add eG.F:=dq (df [.d tu,.d tB] fun _=>by kernel_rfl)
noncomputable def eG.sg:SG Tryz.prog:=⟨69,aR,eG.E,.fn 0 (by kernel_rfl) eG.ok trivial⟩
set_option synthInstance.maxSize 5000
abbrev eO.D:=Int
def eO.st:eO.D→SA:=fun n=>([.dV,.d ti n],[])
abbrev eO.Y:=Nat×(List Int)
abbrev eO.X:=Nat×(List Int)
def eO.out:eO.X→ba:=fun x=>⟨.bH (.new 0 0) 0 [] 0 0 x.1,[],[.obj 0 false (.vec 5 tb x.2)]⟩
def eO.add:eO.D→eO.Y→eO.X:=fun n y=>y
def eO.av:eO.D→Prop:=fun n=>∃k:Nat,n=k∧k≤100000000
def eO.F:eO.D→eO.Y:=fun n=>(0,List.replicate n.toNat 0)
noncomputable def eO.G:ed:=fk (P:=Tryz.prog) []
noncomputable def eO.an:eQ:= {iE:=[⟨4,[],22,140⟩]}
noncomputable def eO.A:= @cY Tryz.prog eO.G eO.an 0 Tryz.f249 _ eO.st
abbrev eO.Ok:=dd @eO.A eO.av eO.add eO.F eO.out
theorem eO.eq{R:Type}(n:Int)(k:ba→Option R):eO.A n k=
  aG ((fM n (0:Int))) (
   none) (
   aG ((nN (da .i64 n (0:Int)) (0:Int))) (
    aG (decide (0 < (da .i64 n (0:Int))) && db (Int.toNat (da .i64 n (0:Int))) 1) (
    aG (inc (0:Int) (((Int.toNat (da .i64 n (0:Int))):Nat):Int)) (
    k (eO.out (0,(List.replicate (Int.toNat (da .i64 n (0:Int))) (0:Int))))) none) none) (
    k (eO.out (0,([]:List Int))))):=by kernel_rfl
theorem eO.ok:eO.Ok:=by
 rintro n ⟨k,rfl,hk⟩
 have e:da .i64 (k:Int) 0=(k:Int):=by rw[eS (by omega) (by omega)];omega
 rw[eO.eq,e,aO (by omega),ag]
 by_cases h:0 < k
 ·rw[dY (by omega),Int.toNat_natCast,aZ (by omega),cS (by omega) (by omega),jH (by omega) (by omega)]
  rfl
 ·obtain rfl:k=0:=by omega
  rfl
noncomputable def eO.E:=Entry.cD [none,some ti] eO.st eO.av eO.add eO.F eO.out
noncomputable def eO.call:eO.D→Option eO.X:=bS eO.E eO.st
theorem eO.run:bM eO.call eO.av eO.add eO.F:=dq (df [.d ti] fun _=>by kernel_rfl)
noncomputable def eO.sg:SG Tryz.prog:=⟨249,aR,eO.E,.fn 0 (by kernel_rfl) eO.ok trivial⟩
def ki(l:List (List Int)):Nat:=l.flatten.length
def vd(n:Nat)(l:List Int):List (List Int)→Nat×List Int
 |[]=>(n,l)
 |s::r=>(n+(s::r).flatten.length,l.take n++(s::r).flatten)
theorem Bw(n:Nat)(l s:List Int)(r:List (List Int))(h:n≤l.length):vd n l (s::r)=vd (n+s.length) (l.take n++s) r:=by
 have hl:(l.take n++s).length=n+s.length:=by rw[List.length_append,List.length_take];omega
 cases r with
 |nil=>simp[vd]
 |cons t r=>
  simp only[vd]
  rw[List.take_of_length_le (Nat.le_of_eq hl)]
  simp only[List.flatten_cons,List.length_append,List.append_assoc,Nat.add_assoc]
theorem El(n:Nat)(z:List Int)(r:List (List Int)):(vd 0 z r).1≤(vd 0 z r).2.length∧cut (vd 0 z r).2 0 (vd 0 z r).1=r.flatten:=by
 cases r with
 |nil=>exact⟨Nat.zero_le _,rfl⟩
 |cons s r=>
  simp only[vd,List.take_zero,List.nil_append,Nat.zero_add]
  exact⟨Nat.le_refl _,by show List.take _ (List.drop 0 _)=_;rw[List.drop_zero,List.take_length]⟩
abbrev ay.L0.D:=(List Bs)×Int×(List Bs)×Int×Int
def ay.L0.st:ay.L0.D→AS:=fun(slices_2,size,t9,t10,t11)=>⟨([.d (.slice tB) slices_2,.undef,.undef,.d ti size]++bl 5 ([.d (.slice tB) t9,.d ti t10,.d ti t11]++bl 24 [])),[],(List.replicate 36 [])⟩
abbrev ay.L0.Y0:=Int
abbrev ay.L0.X0:=((List Bs))×(Int)
def ay.L0.bp:ay.L0.X0→Exit×AS:=fun x=>(.exit 0,⟨([.d (.slice tB) x.1,.undef,.undef,.d ti x.2]++bl 32 []),[],(List.replicate 36 [])⟩)
abbrev ay.L0.X:=ay.L0.X0
abbrev ay.L0.Y:=ay.L0.Y0
def ay.L0.out:ay.L0.X→Out (Exit×AS):=fun x=> .ok (ay.L0.bp x)
def ay.L0.add:ay.L0.D→ay.L0.Y→ay.L0.X:=fun(slices_2,size,t9,t10,t11) y=>(slices_2,y)
abbrev ay.L1.D:=Nat×(List Bs)×Int×Int×(List Int)
def ay.L1.st:ay.L1.D→AS:=fun(newsliceL,t25,t26,t27,n24)=>⟨(bl 6 ([.bH (.new 24 0) 0 [] 0 0 newsliceL]++bl 18 ([.d (.slice tB) t25,.d ti t26,.d ti t27]++bl 8 []))),[],(ch 24 ([[.obj 0 false (.vec 5 tb n24)]]++ch 11 []))⟩
abbrev ay.L1.Y0:=Nat×(List Int)
abbrev ay.L1.X0:=Nat×(List Int)
def ay.L1.bp:ay.L1.X0→Exit×AS:=fun x=>(.exit 2,⟨(bl 6 ([.bH (.new 24 0) 0 [] 0 0 x.1]++bl 29 [])),[],(ch 24 ([[.obj 0 false (.vec 5 tb x.2)]]++ch 11 []))⟩)
abbrev ay.L1.X:=ay.L1.X0
abbrev ay.L1.Y:=ay.L1.Y0
def ay.L1.out:ay.L1.X→Out (Exit×AS):=fun x=> .ok (ay.L1.bp x)
def ay.L1.add:ay.L1.D→ay.L1.Y→ay.L1.X:=fun(newsliceL,t25,t26,t27,n24) y=>y
abbrev ay.D:=(List Bs)
def ay.st:ay.D→SA:=fun slices=>([.d (.slice tB) slices],[])
abbrev ay.Y:=Bs
abbrev ay.X:=Bs
def ay.out:ay.X→ba:=fun x=>⟨.d tB x,[],[]⟩
def ay.add:ay.D→ay.Y→ay.X:=fun slices y=>y
def ay.L0.av:ay.L0.D→Prop:=fun(s,size,t,n,i)=>s.length≤1000000∧t=s∧n=s.length∧∃k z:Nat,k≤s.length∧i=k∧size=z∧z+ki (s.drop k)≤100000000
def ay.L0.F:ay.L0.D→ay.L0.Y:=fun(s,size,t,n,i)=>((size:Int)+((ki (s.drop i.toNat):Nat):Int):Int)
def ay.L1.av:ay.L1.D→Prop:=fun(n,s,t,i,l)=>s.length≤1000000∧n≤l.length∧t=s.length∧∃k:Nat,k≤s.length∧i=k∧n+ki (s.drop k)≤100000000
def ay.L1.F:ay.L1.D→ay.L1.Y:=fun(n,s,t,i,l)=>vd n l (s.drop i.toNat)
def ay.av:ay.D→Prop:=fun s=>s.length≤1000000∧ki s≤100000000
def ay.F:ay.D→ay.Y:=fun s=>s.flatten
noncomputable def ay.G:ed:=fk (P:=Tryz.prog) [eO.sg]
noncomputable def ay.L0.E:=bU.cD ay.L0.st ay.L0.av ay.L0.add ay.L0.F ay.L0.out
noncomputable def ay.L0.call:ay.L0.D→Option ay.L0.X:=dw ay.L0.E ay.L0.st
noncomputable def ay.L1.E:=bU.cD ay.L1.st ay.L1.av ay.L1.add ay.L1.F ay.L1.out
noncomputable def ay.L1.call:ay.L1.D→Option ay.L1.X:=dw ay.L1.E ay.L1.st
noncomputable def ay.an:eQ:= {loops:=jB [(3,{bn:=[0,3,9,10,11]}),(11,{bn:=[6,25,26,27],sites:=[24],iE:=[⟨6,[],24,140⟩]})],outs:=jA [(3,{bn:=[0,3]},{bn:=[2]}),(11,{bn:=[6],sites:=[24]},{bn:=[2]})],fC:=kf [(3,ay.L0.E),(11,ay.L1.E)],res:=[some tB]}
noncomputable def ay.A:= @cY Tryz.prog ay.G ay.an 0 Tryz.f203 _ ay.st
abbrev ay.Ok:=dd @ay.A ay.av ay.add ay.F ay.out
noncomputable def ay.L0.R:= @cj Tryz.prog ay.G ay.an 0 Tryz.f203 0 _ ay.L0.st
abbrev ay.L0.Ok:=ew Tryz.prog ay.G ay.an 0 Tryz.f203 0 ay.L0.st ay.L0.av ay.L0.add ay.L0.F ay.L0.out
noncomputable def ay.L1.R:= @cj Tryz.prog ay.G ay.an 0 Tryz.f203 1 _ ay.L1.st
abbrev ay.L1.Ok:=ew Tryz.prog ay.G ay.an 0 Tryz.f203 1 ay.L1.st ay.L1.av ay.L1.add ay.L1.F ay.L1.out
theorem ay.L0.run:bM ay.L0.call ay.L0.av ay.L0.add ay.L0.F:=eM (eL [.d (.slice tB),.d ti,.d (.slice tB),.d ti,.d ti] fun _=>by kernel_rfl)
theorem ay.L0.aB:fQ @ay.L0.R ay.L0.st ay.L0.av ay.L0.add ay.L0.F ay.L0.bp ay.L0.Ok:=fU
theorem ay.L0.step{R:Type}(slices_2:(List Bs))(size:Int)(t9:(List Bs))(t10:Int)(t11:Int)(kn:AS→Option R)(kx:Exit→AS→Option R):ay.L0.R (slices_2,size,t9,t10,t11) kn kx=
  aG ((fM t11 t10)) (
   aG (eI t11 (((List.length t9):Nat):Int)) (
   aG ((fM (bN .i64 size (((List.length (nth tB t9 (Int.toNat t11))):Nat):Int)) (0:Int))) (
    none) (
    kn (ay.L0.st (slices_2,(bN .i64 size (((List.length (nth tB t9 (Int.toNat t11))):Nat):Int)),t9,t10,(bN .i64 t11 (1:Int)))))) none) (
   kx (ay.L0.bp (slices_2,size)).1 (ay.L0.bp (slices_2,size)).2):=by kernel_rfl
theorem ay.L1.run:bM ay.L1.call ay.L1.av ay.L1.add ay.L1.F:=eM (eL [.n,.d (.slice tB),.d ti,.d ti,.d tB] fun _=>by kernel_rfl)
theorem ay.L1.aB:fQ @ay.L1.R ay.L1.st ay.L1.av ay.L1.add ay.L1.F ay.L1.bp ay.L1.Ok:=fU
theorem ay.L1.step{R:Type}(newsliceL:Nat)(t25:(List Bs))(t26:Int)(t27:Int)(n24:(List Int))(kn:AS→Option R)(kx:Exit→AS→Option R):ay.L1.R (newsliceL,t25,t26,t27,n24) kn kx=
  aG ((fM t27 t26)) (
   aG (eI t27 (((List.length t25):Nat):Int)) (
   aG (decide (newsliceL≤(List.length n24))) (
   aG (db (newsliceL+(List.length (nth tB t25 (Int.toNat t27)))) 1) (
   kn (ay.L1.st ((newsliceL+(List.length (nth tB t25 (Int.toNat t27)))),t25,t26,(bN .i64 t27 (1:Int)),((List.take newsliceL n24)++(nth tB t25 (Int.toNat t27)))))) none) none) none) (
   kx (ay.L1.bp (newsliceL,n24)).1 (ay.L1.bp (newsliceL,n24)).2):=by kernel_rfl
theorem ay.eq{R:Type}(slices:(List Bs))(k:ba→Option R):ay.A slices k=
 ah (ay.L0.call (slices,(0:Int),slices,(((List.length slices):Nat):Int),(0:Int))) fun x1=>
 ah (eO.call x1.2) fun x2=>
 ah (ay.L1.call (x2.1,x1.1,(((List.length x1.1):Nat):Int),(0:Int),x2.2)) fun x3=>
 aG (decide (0=0∧(0+x3.1)≤(List.length x3.2))) (
 k (ay.out (cut x3.2 0 x3.1))) none:=by kernel_rfl
theorem A0(s:List (List Int))(k:Nat)(h:k < s.length):ki (s.drop k)=s[k].length+ki (s.drop (k+1)):=by
 unfold ki
 rw[List.drop_eq_getElem_cons h,List.flatten_cons,List.length_append]
theorem ay.L0.ok:ay.L0.Ok:=by
 refine ay.L0.aB (fun(s,size,t,n,i)=>s.length - i.toNat) ?_
 rintro⟨s,size,t,n,i⟩ ⟨hs,rfl,rfl,k,z,hk,rfl,rfl,hz⟩
 have hs:t.length≤1000000:=hs
 have hk:k≤t.length:=hk
 have hz:z+ki (t.drop k)≤100000000:=hz
 by_cases h:k < t.length
 ·left
  have n1:nth (.slice (.int .u8)) t k=t[k]:=cn (t:= .slice (.int .u8)) h
  have hd:=A0 t k h
  refine⟨(t,((z+t[k].length:Nat):Int),t,t.length,((k+1:Nat):Int)),⟨hs,rfl,rfl,k+1,z+t[k].length,by omega,rfl,rfl,by omega⟩,by simp only[Int.toNat_natCast];omega,?_,fun kn kx=> ?_⟩
  ·simp only[ay.L0.add,ay.L0.F,Int.toNat_natCast]
   rw[hd]
   refine congrArg _ ?_
   omega
  ·rw[ay.L0.step]
   simp(disch:=omega) only[↓S1,↓if_pos,↓if_neg,if_pos,if_neg,if_true,if_false,S2,n1]
 ·right
  obtain rfl:k=t.length:=by omega
  intro R kn kx
  rw[ay.L0.step]
  simp(disch:=omega) only[↓S1,↓if_pos,↓if_neg,if_pos,if_neg,if_true,if_false,S2,ay.L0.add,ay.L0.F,List.drop_length]
  simp only[ki,List.flatten_nil,List.length_nil,Int.natCast_zero,Int.add_zero]
theorem ay.L1.ok:ay.L1.Ok:=by
 refine ay.L1.aB (fun(n,s,t,i,l)=>s.length - i.toNat) ?_
 rintro⟨n,s,t,i,l⟩ ⟨hs,hn,rfl,k,hk,rfl,hz⟩
 have hs:s.length≤1000000:=hs
 have hn:n≤l.length:=hn
 have hk:k≤s.length:=hk
 have hz:n+ki (s.drop k)≤100000000:=hz
 by_cases h:k < s.length
 ·left
  have n1:nth (.slice (.int .u8)) s k=s[k]:=cn (t:= .slice (.int .u8)) h
  have hd:=A0 s k h
  refine⟨(n+s[k].length,s,s.length,((k+1:Nat):Int),l.take n++s[k]),⟨hs,by rw[List.length_append,List.length_take];omega,rfl,k+1,by omega,rfl,by omega⟩,by simp only[Int.toNat_natCast];omega,?_,fun kn kx=> ?_⟩
  ·simp only[ay.L1.add,ay.L1.F,Int.toNat_natCast]
   rw[List.drop_eq_getElem_cons h,Bw _ _ _ _ hn]
  ·rw[ay.L1.step]
   simp(disch:=omega) only[↓S1,↓if_pos,↓if_neg,if_pos,if_neg,if_true,if_false,S2,n1]
 ·right
  obtain rfl:k=s.length:=by omega
  intro R kn kx
  rw[ay.L1.step]
  simp(disch:=omega) only[↓S1,↓if_pos,↓if_neg,if_pos,if_neg,if_true,if_false,S2,ay.L1.add,ay.L1.F,List.drop_length]
  rfl
theorem ay.ok:ay.Ok:=by
 rintro s ⟨hs,hz⟩
 have hs:s.length≤1000000:=hs
 have hz:ki s≤100000000:=hz
 have p1:ay.L0.av (s,0,s,s.length,0):=⟨hs,rfl,rfl,0,0,by omega,rfl,rfl,by rw[List.drop_zero];omega⟩
 have p2:ay.L1.av (0,s,s.length,0,List.replicate (ki s) 0):=⟨hs,by omega,rfl,0,by omega,rfl,by rw[List.drop_zero];omega⟩
 rw[ay.eq,ay.L0.run p1]
 simp only[aa,ay.L0.add,ay.L0.F,Int.toNat_zero,List.drop_zero,Int.zero_add]
 rw[eO.run (d:=((ki s:Nat):Int)) ⟨ki s,rfl,hz⟩]
 simp only[aa,eO.add,eO.F,Int.toNat_natCast]
 rw[ay.L1.run p2]
 simp only[aa,ay.L1.add,ay.L1.F,Int.toNat_zero,List.drop_zero]
 obtain⟨c1,c2⟩:=El 0 (List.replicate (ki s) 0) s
 simp only[Nat.zero_add,c1,and_self,decide_true,ae,c2]
 rfl
noncomputable def ay.E:=Entry.cD [some (.slice tB)] ay.st ay.av ay.add ay.F ay.out
noncomputable def ay.call:ay.D→Option ay.X:=bS ay.E ay.st
theorem ay.run:bM ay.call ay.av ay.add ay.F:=dq (df [.d (.slice tB)] fun _=>by kernel_rfl)
noncomputable def ay.sg:SG Tryz.prog:=⟨203,aR,ay.E,.fn 2 (by kernel_rfl) ay.ok (And.intro (.cD ay.L0.ok (by kernel_rfl)) (And.intro (.cD ay.L1.ok (by kernel_rfl)) trivial))⟩
abbrev dU.D:=Bs×Bs
def dU.st:dU.D→SA:=fun(b,more)=>([.d tB b,.d tB more],[])
abbrev dU.Y:=Bs
abbrev dU.X:=Bs
def dU.out:dU.X→ba:=fun x=>⟨.d tB x,[],[]⟩
def dU.add:dU.D→dU.Y→dU.X:=fun(b,more) y=>y
def dU.av:dU.D→Prop:=fun(a,b)=>a.length+b.length≤100000000
def dU.F:dU.D→dU.Y:=fun(a,b)=>a++b
noncomputable def dU.G:ed:=fk (P:=Tryz.prog) [ay.sg]
noncomputable def dU.an:eQ:= {}
noncomputable def dU.A:= @cY Tryz.prog dU.G dU.an 0 Tryz.f179 _ dU.st
abbrev dU.Ok:=dd @dU.A dU.av dU.add dU.F dU.out
theorem dU.eq{R:Type}(b:Bs)(more:Bs)(k:ba→Option R):dU.A (b,more) k=
 ah (ay.call [b,more]) fun x1=>
 k (dU.out x1):=by kernel_rfl
theorem dU.ok:dU.Ok:=by
 rintro⟨a,b⟩ h
 have h:a.length+b.length≤100000000:=h
 rw[dU.eq,ay.run (d:=[a,b]) ⟨by show [a,b].length≤_;simp,by show ki [a,b]≤_;simp only[ki,List.flatten_cons,List.flatten_nil,List.append_nil,List.length_append];omega⟩]
 simp only[aa,ay.add,ay.F,dU.add,dU.F,List.flatten_cons,List.flatten_nil,List.append_nil]
noncomputable def dU.E:=Entry.cD [some tB,some tB] dU.st dU.av dU.add dU.F dU.out
noncomputable def dU.call:dU.D→Option dU.X:=bS dU.E dU.st
theorem dU.run:bM dU.call dU.av dU.add dU.F:=dq (df [.d tB,.d tB] fun _=>by kernel_rfl)
noncomputable def dU.sg:SG Tryz.prog:=⟨179,aR,dU.E,.fn 0 (by kernel_rfl) dU.ok trivial⟩
set_option synthInstance.maxSize 5000
def jq:Nat→Int→List Int×Int
 | 0,n=>([],n)
 |f+1,n=>if 128≤n then((n%128+128)::(jq f (n / 128)).1,(jq f (n / 128)).2) else([],n)
def mw(n:Int):List Int:=(jq 10 n).1++ [(jq 10 n).2]
theorem wk:∀(f g:Nat) (n:Int),n < 128^(f+1)→n < 128^(g+1)→jq f n=jq g n
 | 0,0,n,_,_=>rfl
 | 0,g+1,n,h,_=>by
  have h:n < 128:=h
  rw[jq,jq,if_neg (by omega)]
 |f+1,0,n,_,h=>by
  have h:n < 128:=h
  rw[jq,jq,if_neg (by omega)]
 |f+1,g+1,n,h,h'=>by
  rw[jq,jq]
  split
  ·have e:(128:Int)^(f+1+1)=128^(f+1)*128:=Int.pow_succ 128 (f+1)
   have e':(128:Int)^(g+1+1)=128^(g+1)*128:=Int.pow_succ 128 (g+1)
   rw[wk f g (n / 128) (by omega) (by omega)]
  ·rfl
theorem uE:∀(f:Nat) (n:Int),(jq f n).1.length≤f
 | 0,_=>Nat.le_refl _
 |f+1,n=>by
  rw[jq]
  split
  ·have:=uE f (n / 128)
   simp only[List.length_cons];omega
  ·exact Nat.zero_le _
theorem wj:∀(f:Nat) (n:Int),0≤n→n < 128^(f+1)→0≤(jq f n).2∧(jq f n).2 < 128
 | 0,n,h,h'=>by have h':n < 128:=h';exact⟨h,h'⟩
 |f+1,n,h,h'=>by
  rw[jq]
  have e:(128:Int)^(f+1+1)=128^(f+1)*128:=Int.pow_succ 128 (f+1)
  split
  ·exact wj f (n / 128) (by omega) (by omega)
  ·exact⟨h,by omega⟩
theorem wm{n:Int}(h:128≤n)(h2:n≤9223372036854775807):jq 10 n=((n%128+128)::(jq 10 (n / 128)).1,(jq 10 (n / 128)).2):=by
 have e:(128:Int)^(9+1)=1180591620717411303424:=rfl
 have e2:(128:Int)^(10+1)=151115727451828646838272:=rfl
 rw[jq,if_pos h,wk 9 10 (n / 128) (by rw[e];omega) (by rw[e2];omega)]
theorem my(n:Int):(mw n).length≤11:=by
 have:=uE 10 n
 unfold mw
 simp only[List.length_append,List.length_cons,List.length_nil];omega
def zs(n:Int):Prop:=0≤n∧n≤9223372036854775807
abbrev de.L0.D:=Int×Nat×(List Int)
def de.L0.st:de.L0.D→AS:=fun(n_2,outL,n14)=>⟨([.d ti n_2,.undef,.undef,.bH (.new 14 0) 0 [] 0 0 outL]++bl 16 []),[],(ch 14 ([[.obj 0 false (.vec 5 tb n14)]]++ch 5 []))⟩
abbrev de.L0.Y0:=Int×Nat×(List Int)
abbrev de.L0.X0:=Int×Nat×(List Int)
def de.L0.bp:de.L0.X0→Exit×AS:=fun x=>(.exit 0,⟨([.d ti x.1,.undef,.undef,.bH (.new 14 0) 0 [] 0 0 x.2.1]++bl 16 []),[],(ch 14 ([[.obj 0 false (.vec 5 tb x.2.2)]]++ch 5 []))⟩)
abbrev de.L0.X:=de.L0.X0
abbrev de.L0.Y:=de.L0.Y0
def de.L0.out:de.L0.X→Out (Exit×AS):=fun x=> .ok (de.L0.bp x)
def de.L0.add:de.L0.D→de.L0.Y→de.L0.X:=fun(n_2,outL,n14) y=>y
abbrev de.D:=Int
def de.st:de.D→SA:=fun n=>([.d ti n],[])
abbrev de.Y:=Bs
abbrev de.X:=Bs
def de.out:de.X→ba:=fun x=>⟨.d tB x,[],[]⟩
def de.add:de.D→de.Y→de.X:=fun n y=>y
def de.L0.av:de.L0.D→Prop:=fun(n,m,l)=>zs n∧m=l.length∧l.length≤1000+0*n.toNat∧l.length+(jq 10 n).1.length≤100
def de.L0.F:de.L0.D→de.L0.Y:=fun(n,m,l)=>((jq 10 n).2,(l++(jq 10 n).1).length,l++(jq 10 n).1)
def de.av:de.D→Prop:=fun n=>zs n
def de.F:de.D→de.Y:=fun n=>mw n
noncomputable def de.G:ed:=fk (P:=Tryz.prog) []
noncomputable def de.L0.E:=bU.cD de.L0.st de.L0.av de.L0.add de.L0.F de.L0.out
noncomputable def de.L0.call:de.L0.D→Option de.L0.X:=dw de.L0.E de.L0.st
noncomputable def de.an:eQ:= {loops:=jB [(2,{bn:=[0,3],sites:=[14],iE:=[⟨3,[],14,140⟩]})],outs:=jA [(2,{bn:=[0,3],sites:=[14]},{bn:=[2]})],fC:=kf [(2,de.L0.E)],res:=[some tB]}
noncomputable def de.A:= @cY Tryz.prog de.G de.an 0 Tryz.f180 _ de.st
abbrev de.Ok:=dd @de.A de.av de.add de.F de.out
noncomputable def de.L0.R:= @cj Tryz.prog de.G de.an 0 Tryz.f180 0 _ de.L0.st
abbrev de.L0.Ok:=ew Tryz.prog de.G de.an 0 Tryz.f180 0 de.L0.st de.L0.av de.L0.add de.L0.F de.L0.out
theorem de.L0.run:bM de.L0.call de.L0.av de.L0.add de.L0.F:=eM (eL [.d ti,.n,.d tB] fun _=>by kernel_rfl)
theorem de.L0.aB:fQ @de.L0.R de.L0.st de.L0.av de.L0.add de.L0.F de.L0.bp de.L0.Ok:=fU
theorem de.L0.step{R:Type}(n_2:Int)(outL:Nat)(n14:(List Int))(kn:AS→Option R)(kx:Exit→AS→Option R):de.L0.R (n_2,outL,n14) kn kx=
  aG ((nv n_2 (128:Int))) (
   aG (decide (outL≤(List.length n14))) (
   aG (db (outL+1) 1) (
   kn (de.L0.st ((ke .i64 n_2 (128:Int)),(outL+1),((List.take outL n14)++ [(dR .u8 (bN .i64 (gT n_2 (128:Int)) (128:Int)))])))) none) none) (
   kx (de.L0.bp (n_2,outL,n14)).1 (de.L0.bp (n_2,outL,n14)).2):=by kernel_rfl
theorem de.eq{R:Type}(n:Int)(k:ba→Option R):de.A n k=
 ah (de.L0.call (n,0,([]:List Int))) fun x1=>
 aG (decide (x1.2.1≤(List.length x1.2.2))) (
 aG (db (x1.2.1+1) 1) (
 aG (decide (0=0∧(0+(x1.2.1+1))≤(List.length ((List.take x1.2.1 x1.2.2)++ [(dR .u8 x1.1)])))) (
 k (de.out (cut ((List.take x1.2.1 x1.2.2)++ [(dR .u8 x1.1)]) 0 (x1.2.1+1)))) none) none) none:=by kernel_rfl
theorem CP{n:Int}(h:zs n):dR .u8 (bN .i64 (gT n 128) 128)=n%128+128:=by
 have h1:=h.1
 rw[jL h.1,gF (by omega) (by omega),rN,fO]
 omega
theorem de.L0.ok:de.L0.Ok:=by
 refine de.L0.aB (fun(n,m,l)=>n.toNat) ?_
 rintro⟨n,m,l⟩ ⟨hn,rfl,hl,hz⟩
 have hn:zs n:=hn
 have hz:l.length+(jq 10 n).1.length≤100:=hz
 have h1:=hn.1
 have h2:=hn.2
 by_cases h:128≤n
 ·left
  have e:=wm h h2
  have hq:ke .i64 n 128=n / 128:=by
   rw[ke,Int.tdiv_eq_ediv_of_nonneg h1]
   exact mj (by omega) (by omega)
  have el:((n%128+128)::(jq 10 (n / 128)).1).length=(jq 10 (n / 128)).1.length+1:=List.length_cons
  rw[e]at hz
  have hz:l.length+((n%128+128)::(jq 10 (n / 128)).1).length≤100:=hz
  rw[el]at hz
  refine⟨(n / 128,l.length+1,l++ [n%128+128]),⟨⟨by omega,by omega⟩,by rw[List.length_append];rfl,by rw[List.length_append];simp only[List.length_cons,List.length_nil];omega,by rw[List.length_append];simp only[List.length_cons,List.length_nil];omega⟩,by simp only[];omega,?_,fun kn kx=> ?_⟩
  ·simp only[de.L0.add,de.L0.F,e,List.append_assoc,List.cons_append,List.nil_append]
  ·rw[de.L0.step,fF h,CP hn,hq]
   simp(disch:=omega) only[↓S1,↓if_pos,↓if_neg,if_pos,if_neg,if_true,if_false,S2,Nat.le_refl,List.take_length]
 ·right
  have e:jq 10 n=([],n):=by rw[jq,if_neg h]
  intro R kn kx
  rw[de.L0.step,eZ h]
  simp only[ag,de.L0.add,de.L0.F,e,List.append_nil]
theorem de.ok:de.Ok:=by
 intro n hn
 have hn:zs n:=hn
 have hl:=uE 10 n
 have e2:(128:Int)^(10+1)=151115727451828646838272:=rfl
 have hd:=wj 10 n hn.1 (by have:=hn.2;rw[e2];omega)
 have p:de.L0.av (n,0,[]):=⟨hn,rfl,by simp,by simp only[List.length_nil];omega⟩
 have hi:dR .u8 (jq 10 n).2=(jq 10 n).2:=by rw[rN,fO];omega
 rw[de.eq,de.L0.run p]
 simp only[aa,de.L0.add,de.L0.F,List.nil_append,hi,List.take_length,Nat.le_refl,decide_true,ae]
 rw[cS (by omega) (by omega)]
 simp only[ae,Nat.zero_add,List.length_append,List.length_cons,List.length_nil,Nat.le_refl,and_self,decide_true]
 rw[fb (by rw[List.length_append];rfl)]
 rfl
noncomputable def de.E:=Entry.cD [some ti] de.st de.av de.add de.F de.out
noncomputable def de.call:de.D→Option de.X:=bS de.E de.st
theorem de.run:bM de.call de.av de.add de.F:=dq (df [.d ti] fun _=>by kernel_rfl)
noncomputable def de.sg:SG Tryz.prog:=⟨180,aR,de.E,.fn 1 (by kernel_rfl) de.ok (And.intro (.cD de.L0.ok (by kernel_rfl)) trivial)⟩
def dS(b:List Int)(n:Int):List Int:=if n < 0 then b else b++mw n
theorem fm(b:List Int)(n:Int):(dS b n).length≤b.length+11:=by
 unfold dS
 have:=my n
 split
 ·omega
 ·rw[List.length_append];omega
abbrev eF.D:=Bs×Int
def eF.st:eF.D→SA:=fun(b,n)=>([.d tB b,.d ti n],[])
abbrev eF.Y:=Bs
abbrev eF.X:=Bs
def eF.out:eF.X→ba:=fun x=>⟨.d tB x,[],[]⟩
def eF.add:eF.D→eF.Y→eF.X:=fun(b,n) y=>y
def eF.av:eF.D→Prop:=fun(b,n)=>b.length≤90000000∧n≤9223372036854775807
def eF.F:eF.D→eF.Y:=fun(b,n)=>dS b n
noncomputable def eF.G:ed:=fk (P:=Tryz.prog) [dU.sg,de.sg]
noncomputable def eF.an:eQ:= {}
noncomputable def eF.A:= @cY Tryz.prog eF.G eF.an 0 Tryz.f123 _ eF.st
abbrev eF.Ok:=dd @eF.A eF.av eF.add eF.F eF.out
theorem eF.eq{R:Type}(b:Bs)(n:Int)(k:ba→Option R):eF.A (b,n) k=
  aG ((fM n (0:Int))) (
   ah (dU.call (b,([]:List Int))) fun x1=>
   k (eF.out x1)) (
   ah (de.call n) fun x2=>
   ah (dU.call (b,x2)) fun x3=>
   k (eF.out x3)):=by kernel_rfl
theorem eF.ok:eF.Ok:=by
 rintro⟨b,n⟩ ⟨hb,hn⟩
 have hb:b.length≤90000000:=hb
 have hn:n≤9223372036854775807:=hn
 rw[eF.eq]
 simp only[eF.add,eF.F,dS]
 by_cases h:n < 0
 ·rw[aW h,if_pos h,ae,dU.run (d:=(b,[])) (by show b.length+([]:List Int).length≤_;simp only[List.length_nil];omega)]
  simp only[aa,dU.add,dU.F,List.append_nil]
 ·have hl:=my n
  rw[aO h,if_neg h,ag,de.run (d:=n) ⟨by omega,hn⟩]
  simp only[aa,de.add,de.F]
  rw[dU.run (d:=(b,mw n)) (by show b.length+(mw n).length≤_;omega)]
  rfl
noncomputable def eF.E:=Entry.cD [some tB,some ti] eF.st eF.av eF.add eF.F eF.out
noncomputable def eF.call:eF.D→Option eF.X:=bS eF.E eF.st
theorem eF.run:bM eF.call eF.av eF.add eF.F:=dq (df [.d tB,.d ti] fun _=>by kernel_rfl)
noncomputable def eF.sg:SG Tryz.prog:=⟨123,aR,eF.E,.fn 0 (by kernel_rfl) eF.ok trivial⟩
abbrev eK.D:=Bs×Int
def eK.st:eK.D→SA:=fun(b,n)=>([.d tB b,.d tu n],[])
abbrev eK.Y:=Bs
abbrev eK.X:=Bs
def eK.out:eK.X→ba:=fun x=>⟨.d tB x,[],[]⟩
def eK.add:eK.D→eK.Y→eK.X:=fun(b,n) y=>y
def eK.av:eK.D→Prop:=fun(b,n)=>b.length≤90000000
def eK.F:eK.D→eK.Y:=fun(b,n)=>b++iQ n
noncomputable def eK.G:ed:=fk (P:=Tryz.prog) [dU.sg]
noncomputable def eK.an:eQ:= {loops:=jB [(3,{bn:=[0,1,5,7],sites:=[5,21]})],outs:=jA [(3,{bn:=[0,5],sites:=[5,21]},{bn:=[4],sites:=[5,21]})]}
noncomputable def eK.A:= @cY Tryz.prog eK.G eK.an 12 Tryz.f191 _ eK.st
abbrev eK.Ok:=dd @eK.A eK.av eK.add eK.F eK.out
theorem eK.eq{R:Type}(b:Bs)(n:Int)(k:ba→Option R):eK.A (b,n) k=
 ah (dU.call (b,[(dR .u8 (cg .u64 n (56:Int))),(dR .u8 (cg .u64 n (48:Int))),(dR .u8 (cg .u64 n (40:Int))),(dR .u8 (cg .u64 n (32:Int))),(dR .u8 (cg .u64 n (24:Int))),(dR .u8 (cg .u64 n (16:Int))),(dR .u8 (cg .u64 n (8:Int))),(dR .u8 (cg .u64 n (0:Int)))])) fun x1=>
 k (eK.out x1):=by kernel_rfl
theorem eK.ok:eK.Ok:=by
 rintro⟨b,n⟩ hb
 have hb:b.length≤90000000:=hb
 have p:dU.av (b,iQ n):=by show b.length+(iQ n).length≤_;rw[cq];omega
 have e:dU.call (b,[dR .u8 (cg .u64 n 56),dR .u8 (cg .u64 n 48),dR .u8 (cg .u64 n 40),dR .u8 (cg .u64 n 32),dR .u8 (cg .u64 n 24),dR .u8 (cg .u64 n 16),dR .u8 (cg .u64 n 8),dR .u8 (cg .u64 n 0)])=some (b++iQ n):=by
  rw[xV];exact dU.run p
 rw[eK.eq]
 refine Eq.trans (congrArg (fun x=>ah x _) e) ?_
 rfl
noncomputable def eK.E:=Entry.cD [some tB,some tu] eK.st eK.av eK.add eK.F eK.out
noncomputable def eK.call:eK.D→Option eK.X:=bS eK.E eK.st
theorem eK.run:bM eK.call eK.av eK.add eK.F:=dq (df [.d tB,.d tu] fun _=>by kernel_rfl)
noncomputable def eK.sg:SG Tryz.prog:=⟨191,aR,eK.E,.fn 1 (by kernel_rfl) eK.ok (And.intro (.none (by kernel_rfl)) trivial)⟩
set_option synthInstance.maxSize 5000
def HJ(r:GF):Prop:=r.1.length≤1000000000∧Bytes r.1
set_option synthInstance.maxSize 5000
set_option synthInstance.maxSize 5000
abbrev cT.D:=Int
def cT.st:cT.D→SA:=fun n=>([.d ti n],[])
abbrev cT.Y:=Bs
abbrev cT.X:=Bs
def cT.out:cT.X→ba:=fun x=>⟨.d tB x,[],[]⟩
def cT.add:cT.D→cT.Y→cT.X:=fun n y=>y
def cT.av:Nat→cT.D→Prop
 | 0=>fun _=>False
 |dep+1=>fun n=>0≤n∧n≤9223372036854775807∧n < 128^(dep+1)
def cT.F:cT.D→cT.Y:=fun n=>mw n
theorem Ar{n:Int}(h:n < 128):mw n=[n]:=by
 unfold mw
 rw[jq,if_neg (by omega)]
 rfl
theorem B8{n:Int}(h:128≤n)(h2:n≤9223372036854775807):mw n=(n%128+128)::mw (n / 128):=by
 unfold mw
 rw[wm h h2]
 rfl
theorem zo{n:Int}(h0:0≤n)(h:n < 256):dR .u8 n=n:=by rw[rN,fO];omega
theorem cT.inj:∀d d',cT.st d=cT.st d'→d=d':=df [.d ti] fun _=>by kernel_rfl
noncomputable def cT.R(dep:Nat):Entry:=Entry.of [some ti] cT.st (cT.av dep) (fun d=>cT.add d (cT.F d)) cT.out
noncomputable def cT.Fw(dep:Nat):cT.D→Option cT.X:=fun d=>(cT.R dep).run (cT.st d).1 (cT.st d).2
theorem cT.Ic{dep:Nat}{d:cT.D}(h:cT.av dep d):cT.Fw dep d=some (cT.add d (cT.F d)):=Entry.nV cT.inj h
noncomputable def cT.G(dep:Nat):ed:=AV 265 aR (cT.R dep) (fk (P:=Tryz.prog) [])
noncomputable def cT.an:eQ:= {bX:=[8,13],res:=[some tB]}
noncomputable def cT.A(dep:Nat):= @cY Tryz.prog (cT.G dep) cT.an 0 Tryz.f265 _ cT.st
theorem cT.eq{R:Type}(dep:Nat)(n:Int)(k:ba→Option R):cT.A dep n k=
  aG ((fM n (128:Int))) (
   k (cT.out [(dR .u8 n)])) (
   ah (cT.Fw dep (ke .i64 n (128:Int))) fun x1=>
   aG (db (1+(List.length x1)) 1) (
   aG (decide (0=0∧(0+(1+(List.length x1)))≤(List.length ([(bN .u8 (dR .u8 (gT n (128:Int))) (128:Int))]++x1)))) (
   k (cT.out (cut ([(bN .u8 (dR .u8 (gT n (128:Int))) (128:Int))]++x1) 0 (1+(List.length x1))))) none) none):=by kernel_rfl
theorem cT.ok:∀(dep:Nat) (d:cT.D),cT.av (dep+1) d→cT.A dep d some=some (cT.out (cT.add d (cT.F d))):=by
 rintro dep (n:Int) ⟨h0,h1,h2⟩
 have h0:0≤n:=h0
 have h1:n≤9223372036854775807:=h1
 have h2:n < 128^(dep+1):=h2
 rw[cT.eq]
 simp only[cT.add,cT.F]
 by_cases h:n < 128
 ·rw[aW h,ae,Ar h,zo h0 (by omega)]
 ·obtain⟨m,rfl⟩:∃m:Nat,n=m:=⟨n.toNat,by omega⟩
  cases dep with
  |zero=>exact absurd h2 h
  |succ dep=>
   have e:(128:Int)^(dep+1+1)=128^(dep+1)*128:=Int.pow_succ 128 (dep+1)
   have e1:ke .i64 (m:Int) (128:Int)=((m / 128:Nat):Int):=N.H2 (by omega)
   have e2:gT (m:Int) (128:Int)=((m%128:Nat):Int):=N.H4
   have e3:bN .u8 (dR .u8 ((m%128:Nat):Int)) (128:Int)=(m:Int)%128+128:=by
    rw[zo (by omega) (by omega)]
    show IntKind.u8.wrap _=_
    rw[wrap_u8,fO]
    omega
   have e4:((m / 128:Nat):Int)=(m:Int) / 128:=by omega
   have hl:=my ((m:Int) / 128)
   rw[aO h,ag,e1,e2,e3,e4,cT.Ic (dep:=dep+1) (d:=(m:Int) / 128) ⟨by show 0≤(m:Int) / 128;omega,by show(m:Int) / 128≤_;omega,by show(m:Int) / 128 < _;omega⟩]
   simp only[aa,cT.add,cT.F]
   rw[cS (by omega) (by omega),B8 (by omega) h1]
   have el:([(m:Int)%128+128]++mw ((m:Int) / 128)).length=1+(mw ((m:Int) / 128)).length:=by rw[List.length_append];rfl
   rw[aZ ⟨by trivial,by rw[el];omega⟩,fb el]
   rfl
noncomputable def cT.E:Entry:=cT.R 9
noncomputable def cT.call:cT.D→Option cT.X:=bS cT.E cT.st
theorem cT.run{d:cT.D}(h:cT.av 9 d):cT.call d=some (cT.add d (cT.F d)):=Entry.nV cT.inj h
theorem cT.Fx:∀dep,kD Tryz.prog 265 (cT.R dep)
 | 0=>kD.of (an:=cT.an) (N:=0) (fn:=Tryz.f265) (by kernel_rfl) (show Sound _ F0 from Sound.nil _) (by kernel_rfl) (by kernel_rfl) (by kernel_rfl) (vD.fn 0 (by kernel_rfl) trivial) (fun _ h=>False.elim h)
 |dep+1=>kD.of (an:=cT.an) (N:=0) (fn:=Tryz.f265) (by kernel_rfl) (show Sound _ (cT.G dep) from Sound.cons (cT.Fx dep) (Sound.fk (P:=Tryz.prog) [])) (by kernel_rfl) (by kernel_rfl) (by kernel_rfl) (vD.fn 0 (by kernel_rfl) trivial) (cT.ok dep)
noncomputable def cT.sg:SG Tryz.prog:=⟨265,aR,cT.E,cT.Fx 9⟩
abbrev du.D:=Bs×Int
def du.st:du.D→SA:=fun(b,n)=>([.d tB b,.d ti n],[])
abbrev du.Y:=Bs
abbrev du.X:=Bs
def du.out:du.X→ba:=fun x=>⟨.d tB x,[],[]⟩
def du.add:du.D→du.Y→du.X:=fun(b,n) y=>y
def du.av:du.D→Prop:=fun(b,n)=>b.length≤90000000∧n≤9223372036854775807
def du.F:du.D→du.Y:=fun(b,n)=>dS b n
noncomputable def du.G:ed:=fk (P:=Tryz.prog) [cT.sg]
noncomputable def du.an:eQ:= {bX:=[6],res:=[some tB]}
noncomputable def du.A:= @cY Tryz.prog du.G du.an 0 Tryz.f220 _ du.st
abbrev du.Ok:=dd @du.A du.av du.add du.F du.out
theorem du.eq{R:Type}(b:Bs)(n:Int)(k:ba→Option R):du.A (b,n) k=
  aG (db (0+(List.length b)) 1) (
  aG ((nv n (0:Int))) (
   ah (cT.call n) fun x1=>
   aG (decide ((0+(List.length b))≤(List.length ((List.take 0 (List.replicate 0 (0:Int)))++b)))) (
   aG (db ((0+(List.length b))+(List.length x1)) 1) (
   aG (decide (0=0∧(0+((0+(List.length b))+(List.length x1)))≤(List.length ((List.take (0+(List.length b)) ((List.take 0 (List.replicate 0 (0:Int)))++b))++x1)))) (
   k (du.out (cut ((List.take (0+(List.length b)) ((List.take 0 (List.replicate 0 (0:Int)))++b))++x1) 0 ((0+(List.length b))+(List.length x1))))) none) none) none) (
   aG (decide (0=0∧(0+(0+(List.length b)))≤(List.length ((List.take 0 (List.replicate 0 (0:Int)))++b)))) (
   k (du.out (cut ((List.take 0 (List.replicate 0 (0:Int)))++b) 0 (0+(List.length b))))) none)) none:=by kernel_rfl
theorem du.ok:du.Ok:=by
 rintro⟨b,n⟩ ⟨hb,hn⟩
 have hb:b.length≤90000000:=hb
 have hn:n≤9223372036854775807:=hn
 have e0:(List.take 0 (List.replicate 0 0):List Int)=[]:=rfl
 rw[du.eq]
 simp only[Nat.zero_add,e0,List.nil_append,du.add,du.F,dS,Nat.le_refl,and_self,decide_true,ae,fb,List.take_length]
 rw[cS (by omega) (by omega),ae]
 by_cases h:n≥0
 ·have hl:=my n
  rw[fF h,ae,if_neg (by omega),cT.run (d:=n) ⟨h,hn,by have e:(128:Int)^(8+1)=9223372036854775808:=rfl;rw[e];show n < _;omega⟩]
  simp only[aa,cT.add,cT.F]
  rw[cS (by omega) (by omega),aZ ⟨by trivial,by rw[List.length_append];omega⟩,fb (by rw[List.length_append])]
  rfl
 ·rw[eZ h,if_pos (by omega)];rfl
noncomputable def du.E:=Entry.cD [some tB,some ti] du.st du.av du.add du.F du.out
noncomputable def du.call:du.D→Option du.X:=bS du.E du.st
theorem du.run:bM du.call du.av du.add du.F:=dq (df [.d tB,.d ti] fun _=>by kernel_rfl)
noncomputable def du.sg:SG Tryz.prog:=⟨220,aR,du.E,.fn 0 (by kernel_rfl) du.ok trivial⟩
abbrev bu.L0.D:=Int×Nat×Int×(List Int)
def bu.L0.st:bu.L0.D→AS:=fun(n_2,outL,i,n7)=>⟨([.undef,.d tu n_2,.undef,.undef,.undef,.bH (.new 7 0) 0 [] 0 0 outL,.d ti i]++bl 17 []),[],(ch 7 ([[.obj 0 false (.vec 5 tb n7)]]++ch 16 []))⟩
abbrev bu.L0.Y0:=Nat×(List Int)
abbrev bu.L0.X0:=Nat×(List Int)
def bu.L0.bp:bu.L0.X0→Exit×AS:=fun x=>(.exit 0,⟨(bl 5 ([.bH (.new 7 0) 0 [] 0 0 x.1]++bl 18 [])),[],(ch 7 ([[.obj 0 false (.vec 5 tb x.2)]]++ch 16 []))⟩)
abbrev bu.L0.X:=bu.L0.X0
abbrev bu.L0.Y:=bu.L0.Y0
def bu.L0.out:bu.L0.X→Out (Exit×AS):=fun x=> .ok (bu.L0.bp x)
def bu.L0.add:bu.L0.D→bu.L0.Y→bu.L0.X:=fun(n_2,outL,i,n7) y=>y
abbrev bu.D:=Bs×Int
def bu.st:bu.D→SA:=fun(b,n)=>([.d tB b,.d tu n],[])
abbrev bu.Y:=Bs
abbrev bu.X:=Bs
def bu.out:bu.X→ba:=fun x=>⟨.d tB x,[],[]⟩
def bu.add:bu.D→bu.Y→bu.X:=fun(b,n) y=>y
def bu.L0.av:bu.L0.D→Prop:=fun(n,m,i,l)=>m=l.length∧∃j:Nat,j≤8∧i=7 - (j:Int)∧l.length≤100000000+j
def bu.L0.F:bu.L0.D→bu.L0.Y:=fun(n,m,i,l)=>(m+(i+1).toNat,l++(iQ n).drop (7 - i).toNat)
def bu.av:bu.D→Prop:=fun(b,n)=>b.length≤90000000
def bu.F:bu.D→bu.Y:=fun(b,n)=>b++iQ n
noncomputable def bu.G:ed:=fk (P:=Tryz.prog) []
noncomputable def bu.L0.E:=bU.cD bu.L0.st bu.L0.av bu.L0.add bu.L0.F bu.L0.out
noncomputable def bu.L0.call:bu.L0.D→Option bu.L0.X:=dw bu.L0.E bu.L0.st
noncomputable def bu.an:eQ:= {bX:=[7],loops:=jB [(3,{bn:=[1,5,6],sites:=[7],iE:=[⟨5,[],7,140⟩]})],outs:=jA [(3,{bn:=[5],sites:=[7]},{bn:=[4]})],fC:=kf [(3,bu.L0.E)],res:=[some tB]}
noncomputable def bu.A:= @cY Tryz.prog bu.G bu.an 0 Tryz.f266 _ bu.st
abbrev bu.Ok:=dd @bu.A bu.av bu.add bu.F bu.out
noncomputable def bu.L0.R:= @cj Tryz.prog bu.G bu.an 0 Tryz.f266 0 _ bu.L0.st
abbrev bu.L0.Ok:=ew Tryz.prog bu.G bu.an 0 Tryz.f266 0 bu.L0.st bu.L0.av bu.L0.add bu.L0.F bu.L0.out
theorem bu.L0.run:bM bu.L0.call bu.L0.av bu.L0.add bu.L0.F:=eM (eL [.d tu,.n,.d ti,.d tB] fun _=>by kernel_rfl)
theorem bu.L0.aB:fQ @bu.L0.R bu.L0.st bu.L0.av bu.L0.add bu.L0.F bu.L0.bp bu.L0.Ok:=fU
theorem bu.L0.step{R:Type}(n_2:Int)(outL:Nat)(i:Int)(n7:(List Int))(kn:AS→Option R)(kx:Exit→AS→Option R):bu.L0.R (n_2,outL,i,n7) kn kx=
  aG ((nv i (0:Int))) (
   aG (iC (dR .u64 (fq .i64 (8:Int) i))) (
   aG (decide (outL≤(List.length n7))) (
   aG (db (outL+1) 1) (
   kn (bu.L0.st (n_2,(outL+1),(da .i64 i (1:Int)),((List.take outL n7)++ [(dR .u8 (cg .u64 n_2 (dR .u64 (fq .i64 (8:Int) i))))])))) none) none) none) (
   kx (bu.L0.bp (outL,n7)).1 (bu.L0.bp (outL,n7)).2):=by kernel_rfl
theorem bu.eq{R:Type}(b:Bs)(n:Int)(k:ba→Option R):bu.A (b,n) k=
 aG (db (0+(List.length b)) 1) (
 ah (bu.L0.call (n,(0+(List.length b)),(7:Int),((List.take 0 (List.replicate 0 (0:Int)))++b))) fun x1=>
 aG (decide (0=0∧(0+x1.1)≤(List.length x1.2))) (
 k (bu.out (cut x1.2 0 x1.1))) none) none:=by kernel_rfl
theorem bu.L0.ok:bu.L0.Ok:=by
 refine bu.L0.aB (fun(n,m,i,l)=>(i+1).toNat) ?_
 rintro⟨n,m,i,l⟩ ⟨rfl,j,hj,rfl,hl⟩
 have hl:l.length≤100000000+j:=hl
 have e1:(7 - (7 - (j:Int))).toNat=j:=by omega
 by_cases h:j < 8
 ·left
  have e2:da .i64 (7 - (j:Int)) 1=7 - ((j+1:Nat):Int):=by rw[eS (by omega) (by omega)];omega
  have e3:(7 - (7 - ((j+1:Nat):Int))).toNat=j+1:=by omega
  have e4:fq .i64 8 (7 - (j:Int))=((56 - 8*j:Nat):Int):=by rw[oJ (by omega) (by omega)];omega
  have e5:dR .u64 ((56 - 8*j:Nat):Int)=((56 - 8*j:Nat):Int):=by rw[s7,fO];omega
  refine⟨(n,l.length+1,7 - ((j+1:Nat):Int),l++ [n / 2^(56 - 8*j)%256]),⟨by rw[List.length_append];rfl,j+1,by omega,rfl,by rw[List.length_append];show l.length+1≤_;omega⟩,by simp only;omega,?_,fun kn kx=> ?_⟩
  ·simp only[bu.L0.add,bu.L0.F,e1,e3,xU n j h,List.append_assoc,List.singleton_append]
   rw[show l.length+1+(7 - ((j+1:Nat):Int)+1).toNat=l.length+(7 - (j:Int)+1).toNat by omega]
  ·rw[bu.L0.step,fF (by omega),e4,e5,lu (by omega),uU n _ (by omega),e2,aZ (Nat.le_refl _),cS (by omega) (by omega),List.take_length]
   rfl
 ·right
  obtain rfl:j=8:=by omega
  intro R kn kx
  rw[bu.L0.step,eZ (by omega),ag]
  simp only[bu.L0.add,bu.L0.F,e1]
  rw[List.drop_of_length_le (by rw[cq];omega),List.append_nil]
  rfl
theorem bu.ok:bu.Ok:=by
 rintro⟨b,n⟩ hb
 have hb:b.length≤90000000:=hb
 have e0:(List.take 0 (List.replicate 0 0):List Int)=[]:=rfl
 rw[bu.eq]
 simp only[Nat.zero_add,e0,List.nil_append]
 rw[cS (by omega) (by omega),ae,bu.L0.run (d:=(n,b.length,7,b)) ⟨rfl,0,by omega,rfl,by omega⟩]
 simp only[aa,bu.L0.add,bu.L0.F]
 rw[show(7 - (7:Int)).toNat=0 from rfl,show((7:Int)+1).toNat=8 from rfl,List.drop_zero]
 have el:(b++iQ n).length=b.length+8:=by rw[List.length_append,cq]
 rw[aZ ⟨by trivial,by rw[el];omega⟩,fb el]
 rfl
noncomputable def bu.E:=Entry.cD [some tB,some tu] bu.st bu.av bu.add bu.F bu.out
noncomputable def bu.call:bu.D→Option bu.X:=bS bu.E bu.st
theorem bu.run:bM bu.call bu.av bu.add bu.F:=dq (df [.d tB,.d tu] fun _=>by kernel_rfl)
noncomputable def bu.sg:SG Tryz.prog:=⟨266,aR,bu.E,.fn 1 (by kernel_rfl) bu.ok (And.intro (.cD bu.L0.ok (by kernel_rfl)) trivial)⟩
set_option synthInstance.maxSize 5000
def nj(l:List Int):Prop:=∀x∈l,gY x
def E6(b:ik):Prop:=nj b.1∧gY b.2.2.2.1
def u9(l:Lk):Prop:=∀b∈l.1,E6 b
def rM(n:Int):Bool:=decide (0≤n∧n≤1048576)
def lj(b:ik):Bool:=decide (b.1.length≤12) && (b.1.all ju && (rM b.2.1 && (rM b.2.2.1 && (decide (b.2.2.2.1=0) || ju b.2.2.2.1))))
def iT(l:Lk):Bool:=l.1.all lj && decide (0 < l.1.length∧l.1.length≤4)
def lX:List Int→Int→Int⊕Unit
 |[],_=> .inr ()
 |p::ps,i=>if ju p then lX ps (i+1) else .inl i
def AL(l:List Int):Int:=match lX l 0 with | .inl i=>i | .inr _=> -1
theorem sq:∀(l:List Int) (i:Int),0≤i→(match lX l i with | .inl i=>decide (i≥0) | .inr _=>false)= !(l.all ju)
 |[],_,_=>rfl
 |p::ps,i,h=>by
  rw[lX,List.all_cons]
  cases hp:ju p
  ·simp[h]
  ·simp only[if_true,Bool.true_and]
   exact sq ps (i+1) (by omega)
theorem Bm(l:List Int):nv (AL l) 0= !(l.all ju):=by
 have:=sq l 0 (by omega)
 unfold AL nv
 cases h:lX l 0
 ·rw[h]at this;exact this
 ·rw[h]at this;rw[←this];rfl
abbrev fG.D:=Int
def fG.st:fG.D→SA:=fun p=>([.d tu p],[])
abbrev fG.Y:=Bool
abbrev fG.X:=Bool
def fG.out:fG.X→ba:=fun x=>⟨.d .bool x,[],[]⟩
def fG.add:fG.D→fG.Y→fG.X:=fun p y=>y
def fG.av:fG.D→Prop:=fun p=>gY p
def fG.F:fG.D→fG.Y:=fun p=> !ju p
noncomputable def fG.G:ed:=fk (P:=Tryz.prog) [cP.sg]
noncomputable def fG.an:eQ:= {}
noncomputable def fG.A:= @cY Tryz.prog fG.G fG.an 0 Tryz.f150 _ fG.st
abbrev fG.Ok:=dd @fG.A fG.av fG.add fG.F fG.out
theorem fG.eq{R:Type}(p:Int)(k:ba→Option R):fG.A p k=
 ah (cP.call p) fun x1=>
 k (fG.out (!x1)):=by kernel_rfl
theorem fG.ok:fG.Ok:=by
 intro p hp
 rw[fG.eq,cP.run (d:=p) hp]
 rfl
noncomputable def fG.E:=Entry.cD [some tu] fG.st fG.av fG.add fG.F fG.out
noncomputable def fG.call:fG.D→Option fG.X:=bS fG.E fG.st
theorem fG.run:bM fG.call fG.av fG.add fG.F:=dq (df [.d tu] fun _=>by kernel_rfl)
noncomputable def fG.sg:SG Tryz.prog:=⟨150,aR,fG.E,.fn 0 (by kernel_rfl) fG.ok trivial⟩
abbrev bk.L0.D:=Bs×Int×Int
def bk.L0.st:bk.L0.D→AS:=fun(sv_2,t7,t8)=>⟨([.d tU sv_2,.fn 150 (.nil)]++bl 5 ([.d ti t7,.d ti t8]++bl 10 [])),[],(List.replicate 19 [])⟩
abbrev bk.L0.Y0:=Int
abbrev bk.L0.X0:=Int
def bk.L0.bp:bk.L0.X0→Exit×AS:=fun x=>(.ret,⟨(bl 4 ([.d ti x]++bl 14 [])),[],(List.replicate 19 [])⟩)
abbrev bk.L0.Y1:=Unit
abbrev bk.L0.X1:=Unit
def bk.L0.fA:bk.L0.X1→Exit×AS:=fun x=>(.exit 0,⟨(bl 19 []),[],(List.replicate 19 [])⟩)
abbrev bk.L0.X:=(bk.L0.X0)⊕(bk.L0.X1)
abbrev bk.L0.Y:=(bk.L0.Y0)⊕(bk.L0.Y1)
def bk.L0.out:bk.L0.X→Out (Exit×AS):=fun x=> .br x.isLeft (.get x.getLeft? fun a=> .ok (bk.L0.bp a)) (.get x.getRight? fun b=> .ok (bk.L0.fA b))
def bk.L0.add:bk.L0.D→bk.L0.Y→bk.L0.X:=fun(sv_2,t7,t8) y=>match y with | .inl y=> .inl y | .inr z=> .inr (z)
abbrev bk.D:=Bs
def bk.st:bk.D→SA:=fun sv=>([.d tU sv,.fn 150 (.nil)],[])
abbrev bk.Y:=Int
abbrev bk.X:=Int
def bk.out:bk.X→ba:=fun x=>⟨.d ti x,[],[]⟩
def bk.add:bk.D→bk.Y→bk.X:=fun sv y=>y
def bk.L0.av:bk.L0.D→Prop:=fun(l,n,i)=>nj l∧l.length≤1000000000∧n=l.length∧∃k:Nat,k≤l.length∧i=k
def bk.L0.F:bk.L0.D→bk.L0.Y:=fun(l,n,i)=>lX (l.drop i.toNat) i
def bk.av:bk.D→Prop:=fun l=>nj l∧l.length≤1000000000
def bk.F:bk.D→bk.Y:=fun l=>AL l
noncomputable def bk.G:ed:=fk (P:=Tryz.prog) [fG.sg]
noncomputable def bk.L0.E:=bU.cD bk.L0.st bk.L0.av bk.L0.add bk.L0.F bk.L0.out
noncomputable def bk.L0.call:bk.L0.D→Option bk.L0.X:=dw bk.L0.E bk.L0.st
noncomputable def bk.an:eQ:= {loops:=jB [(2,{bn:=[0,1,7,8]})],outs:=jA [(2,{},{bn:=[4]})],fC:=kf [(2,bk.L0.E)]}
noncomputable def bk.A:= @cY Tryz.prog bk.G bk.an 0 Tryz.f205 _ bk.st
abbrev bk.Ok:=dd @bk.A bk.av bk.add bk.F bk.out
noncomputable def bk.L0.R:= @cj Tryz.prog bk.G bk.an 0 Tryz.f205 0 _ bk.L0.st
abbrev bk.L0.Ok:=ew Tryz.prog bk.G bk.an 0 Tryz.f205 0 bk.L0.st bk.L0.av bk.L0.add bk.L0.F bk.L0.out
theorem bk.L0.run:bM bk.L0.call bk.L0.av bk.L0.add bk.L0.F:=eM (eL [.d tU,.d ti,.d ti] fun _=>by kernel_rfl)
theorem bk.L0.aB:kC @bk.L0.R bk.L0.st bk.L0.av bk.L0.add bk.L0.F bk.L0.out bk.L0.Ok:=kL
theorem bk.L0.step{R:Type}(sv_2:Bs)(t7:Int)(t8:Int)(kn:AS→Option R)(kx:Exit→AS→Option R):bk.L0.R (sv_2,t7,t8) kn kx=
  aG ((fM t8 t7)) (
   aG (eI t8 (((List.length sv_2):Nat):Int)) (
   ah (fG.call (nth tu sv_2 (Int.toNat t8))) fun x1=>
   aG (x1) (
    kx (bk.L0.bp t8).1 (bk.L0.bp t8).2) (
    kn (bk.L0.st (sv_2,t7,(bN .i64 t8 (1:Int)))))) none) (
   kx (bk.L0.fA ()).1 (bk.L0.fA ()).2):=by kernel_rfl
theorem bk.eq{R:Type}(sv:Bs)(k:ba→Option R):bk.A sv k=
  ah (bk.L0.call (sv,(((List.length sv):Nat):Int),(0:Int))) fun x2=>
  aG (x2.isLeft) (
   ah (x2.getLeft?) fun a3=>
   k (bk.out a3)) (
   ah (x2.getRight?) fun b4=>
   k (bk.out (-1:Int))):=by kernel_rfl
theorem bk.L0.ok:bk.L0.Ok:=by
 refine bk.L0.aB (fun(l,n,i)=>l.length - i.toNat) ?_
 rintro⟨l,n,i⟩ ⟨hl,hb,rfl,k,hk,rfl⟩
 have hb:l.length≤1000000000:=hb
 have hk:k≤l.length:=hk
 by_cases h:k < l.length
 ·have hx:=hl _ (List.getElem_mem h)
  have n1:nth (.int .u64) l k=l[k]:=cn (t:= .int .u64) h
  have hd:lX (l.drop k) k=if ju l[k] then lX (l.drop (k+1)) ((k+1:Nat):Int) else .inl (k:Int):=by rw[List.drop_eq_getElem_cons h];rfl
  cases hp:ju l[k]
  ·right
   refine⟨bk.L0.bp (k:Int),?_,fun kn kx=> ?_⟩
   ·simp only[bk.L0.add,bk.L0.F,Int.toNat_natCast,hd,hp,Bool.false_eq_true,if_false]
    rfl
   ·rw[bk.L0.step]
    simp(disch:=omega) only[↓S1,↓if_pos,↓if_neg,if_pos,if_neg,if_true,if_false,S2,n1]
    rw[fG.run (d:=l[k]) hx]
    simp only[aa,fG.add,fG.F,hp,Bool.not_false,ae]
  ·left
   refine⟨(l,l.length,((k+1:Nat):Int)),⟨hl,hb,rfl,k+1,by omega,rfl⟩,by simp only[Int.toNat_natCast];omega,?_,fun kn kx=> ?_⟩
   ·simp only[bk.L0.add,bk.L0.F,Int.toNat_natCast,hd,hp,if_true]
   ·rw[bk.L0.step]
    simp(disch:=omega) only[↓S1,↓if_pos,↓if_neg,if_pos,if_neg,if_true,if_false,S2,n1]
    rw[fG.run (d:=l[k]) hx]
    simp only[aa,fG.add,fG.F,hp,Bool.not_true,ag]
 ·right
  obtain rfl:k=l.length:=by omega
  refine⟨bk.L0.fA (),?_,fun kn kx=> ?_⟩
  ·simp only[bk.L0.add,bk.L0.F,Int.toNat_natCast,List.drop_length]
   rfl
  ·rw[bk.L0.step]
   simp(disch:=omega) only[↓S1,↓if_pos,↓if_neg,if_pos,if_neg,if_true,if_false,S2]
theorem bk.ok:bk.Ok:=by
 rintro l ⟨hl,hb⟩
 rw[bk.eq,bk.L0.run (d:=(l,l.length,0)) ⟨hl,hb,rfl,0,by omega,rfl⟩]
 simp only[aa,bk.L0.add,bk.L0.F,Int.toNat_zero,List.drop_zero,bk.add,bk.F,AL]
 cases lX l 0 <;> rfl
noncomputable def bk.E:=Entry.cD [some tU,none] bk.st bk.av bk.add bk.F bk.out
noncomputable def bk.call:bk.D→Option bk.X:=bS bk.E bk.st
theorem bk.run:bM bk.call bk.av bk.add bk.F:=dq (df [.d tU] fun _=>by kernel_rfl)
noncomputable def bk.sg:SG Tryz.prog:=⟨205,aR,bk.E,.fn 1 (by kernel_rfl) bk.ok (And.intro (.cD bk.L0.ok (by kernel_rfl)) trivial)⟩
abbrev bZ.D:=Bs
def bZ.st:bZ.D→SA:=fun sv=>([.d tU sv,.fn 150 (.nil)],[])
abbrev bZ.Y:=Bool
abbrev bZ.X:=Bool
def bZ.out:bZ.X→ba:=fun x=>⟨.d .bool x,[],[]⟩
def bZ.add:bZ.D→bZ.Y→bZ.X:=fun sv y=>y
def bZ.av:bZ.D→Prop:=fun l=>nj l∧l.length≤1000000000
def bZ.F:bZ.D→bZ.Y:=fun l=> !(l.all ju)
noncomputable def bZ.G:ed:=fk (P:=Tryz.prog) [bk.sg]
noncomputable def bZ.an:eQ:= {}
noncomputable def bZ.A:= @cY Tryz.prog bZ.G bZ.an 0 Tryz.f152 _ bZ.st
abbrev bZ.Ok:=dd @bZ.A bZ.av bZ.add bZ.F bZ.out
theorem bZ.eq{R:Type}(sv:Bs)(k:ba→Option R):bZ.A sv k=
 ah (bk.call sv) fun x1=>
 k (bZ.out (nv x1 (0:Int))):=by kernel_rfl
theorem bZ.ok:bZ.Ok:=by
 rintro l ⟨hl,hb⟩
 rw[bZ.eq,bk.run (d:=l) ⟨hl,hb⟩]
 simp only[aa,bk.add,bk.F,Bm]
 rfl
noncomputable def bZ.E:=Entry.cD [some tU,none] bZ.st bZ.av bZ.add bZ.F bZ.out
noncomputable def bZ.call:bZ.D→Option bZ.X:=bS bZ.E bZ.st
theorem bZ.run:bM bZ.call bZ.av bZ.add bZ.F:=dq (df [.d tU] fun _=>by kernel_rfl)
noncomputable def bZ.sg:SG Tryz.prog:=⟨152,aR,bZ.E,.fn 0 (by kernel_rfl) bZ.ok trivial⟩
abbrev cF.D:=Int
def cF.st:cF.D→SA:=fun n=>([.d ti n],[])
abbrev cF.Y:=Bool
abbrev cF.X:=Bool
def cF.out:cF.X→ba:=fun x=>⟨.d .bool x,[],[]⟩
def cF.add:cF.D→cF.Y→cF.X:=fun n y=>y
def cF.av:cF.D→Prop:=fun _=>True
def cF.F:cF.D→cF.Y:=fun n=>rM n
noncomputable def cF.G:ed:=fk (P:=Tryz.prog) []
noncomputable def cF.an:eQ:= {}
noncomputable def cF.A:= @cY Tryz.prog cF.G cF.an 0 Tryz.f153 _ cF.st
abbrev cF.Ok:=dd @cF.A cF.av cF.add cF.F cF.out
theorem cF.eq{R:Type}(n:Int)(k:ba→Option R):cF.A n k=
  aG ((nv n (0:Int))) (
   k (cF.out (zr n (1048576:Int)))) (
   k (cF.out false)):=by kernel_rfl
theorem cF.ok:cF.Ok:=by
 intro n _
 rw[cF.eq]
 simp only[cF.add,cF.F,rM]
 by_cases h:0≤n
 ·rw[fF h,ae]
  by_cases h2:n≤1048576
  ·rw[kh h2,aZ ⟨h,h2⟩]
  ·rw[iM h2,bo (fun x=>h2 x.2)]
 ·rw[eZ h,ag,bo (fun x=>h x.1)]
noncomputable def cF.E:=Entry.cD [some ti] cF.st cF.av cF.add cF.F cF.out
noncomputable def cF.call:cF.D→Option cF.X:=bS cF.E cF.st
theorem cF.run:bM cF.call cF.av cF.add cF.F:=dq (df [.d ti] fun _=>by kernel_rfl)
noncomputable def cF.sg:SG Tryz.prog:=⟨153,aR,cF.E,.fn 0 (by kernel_rfl) cF.ok trivial⟩
set_option synthInstance.maxSize 5000
abbrev aQ.L0.D:=Lk×(List ik)×Int×Int
def aQ.L0.st:aQ.L0.D→AS:=fun(l_2,t7,t8,t9)=>⟨([.undef,.ej ql l_2,.undef,.fn 150 (.nil),.undef,.undef,.undef,.d (.slice fX) t7,.d ti t8,.d ti t9]++bl 47 []),[],(List.replicate 57 [])⟩
abbrev aQ.L0.Y0:=Unit
abbrev aQ.L0.X0:=Unit
def aQ.L0.bp:aQ.L0.X0→Exit×AS:=fun x=>(.ret,⟨([.undef,.undef,.d .bool false]++bl 54 []),[],(List.replicate 57 [])⟩)
abbrev aQ.L0.Y1:=Unit
abbrev aQ.L0.X1:=Lk
def aQ.L0.fA:aQ.L0.X1→Exit×AS:=fun x=>(.exit 0,⟨([.undef,.ej ql x]++bl 55 []),[],(List.replicate 57 [])⟩)
abbrev aQ.L0.X:=(aQ.L0.X0)⊕(aQ.L0.X1)
abbrev aQ.L0.Y:=(aQ.L0.Y0)⊕(aQ.L0.Y1)
def aQ.L0.out:aQ.L0.X→Out (Exit×AS):=fun x=> .br x.isLeft (.get x.getLeft? fun a=> .ok (aQ.L0.bp a)) (.get x.getRight? fun b=> .ok (aQ.L0.fA b))
def aQ.L0.add:aQ.L0.D→aQ.L0.Y→aQ.L0.X:=fun(l_2,t7,t8,t9) y=>match y with | .inl y=> .inl y | .inr z=> .inr (l_2)
abbrev aQ.D:=Lk
def aQ.st:aQ.D→SA:=fun l=>([.d ql l],[])
abbrev aQ.Y:=Bool
abbrev aQ.X:=Bool
def aQ.out:aQ.X→ba:=fun x=>⟨.d .bool x,[],[]⟩
def aQ.add:aQ.D→aQ.Y→aQ.X:=fun l y=>y
def aQ.L0.av:aQ.L0.D→Prop:=fun(l,bs,n,i)=>(∀b∈bs,E6 b)∧bs.length≤9223372036854775807∧n=bs.length∧∃k:Nat,k≤bs.length∧i=k
def aQ.L0.F:aQ.L0.D→aQ.L0.Y:=fun(l,bs,n,i)=>if(bs.drop i.toNat).all lj then .inr () else .inl ()
def aQ.av:aQ.D→Prop:=fun l=>u9 l∧l.1.length≤9223372036854775807
def aQ.F:aQ.D→aQ.Y:=fun l=>iT l
noncomputable def aQ.G:ed:=fk (P:=Tryz.prog) [bZ.sg,cF.sg,fG.sg]
noncomputable def aQ.L0.E:=bU.cD aQ.L0.st aQ.L0.av aQ.L0.add aQ.L0.F aQ.L0.out
noncomputable def aQ.L0.call:aQ.L0.D→Option aQ.L0.X:=dw aQ.L0.E aQ.L0.st
noncomputable def aQ.an:eQ:= {loops:=jB [(3,{bn:=[1,3,7,8,9]})],outs:=jA [(3,{bn:=[1]},{bn:=[2]})],fC:=kf [(3,aQ.L0.E)]}
noncomputable def aQ.A:= @cY Tryz.prog aQ.G aQ.an 0 Tryz.f77 _ aQ.st
abbrev aQ.Ok:=dd @aQ.A aQ.av aQ.add aQ.F aQ.out
noncomputable def aQ.L0.R:= @cj Tryz.prog aQ.G aQ.an 0 Tryz.f77 0 _ aQ.L0.st
abbrev aQ.L0.Ok:=ew Tryz.prog aQ.G aQ.an 0 Tryz.f77 0 aQ.L0.st aQ.L0.av aQ.L0.add aQ.L0.F aQ.L0.out
theorem aQ.L0.run:bM aQ.L0.call aQ.L0.av aQ.L0.add aQ.L0.F:=eM (eL [.d ql,.d (.slice fX),.d ti,.d ti] fun _=>by kernel_rfl)
theorem aQ.L0.aB:kC @aQ.L0.R aQ.L0.st aQ.L0.av aQ.L0.add aQ.L0.F aQ.L0.out aQ.L0.Ok:=kL
theorem aQ.L0.step{R:Type}(l_2:Lk)(t7:(List ik))(t8:Int)(t9:Int)(kn:AS→Option R)(kx:Exit→AS→Option R):aQ.L0.R (l_2,t7,t8,t9) kn kx=
  aG ((fM t9 t8)) (
   aG (eI t9 (((List.length t7):Nat):Int)) (
   aG ((nN (((List.length (nth fX t7 (Int.toNat t9)).1):Nat):Int) (12:Int))) (
    kx (aQ.L0.bp ()).1 (aQ.L0.bp ()).2) (
    ah (bZ.call (nth fX t7 (Int.toNat t9)).1) fun x1=>
    aG (x1) (
     kx (aQ.L0.bp ()).1 (aQ.L0.bp ()).2) (
     ah (cF.call (nth fX t7 (Int.toNat t9)).2.1) fun x2=>
     aG ((!x2)) (
      kx (aQ.L0.bp ()).1 (aQ.L0.bp ()).2) (
      ah (cF.call (nth fX t7 (Int.toNat t9)).2.2.1) fun x3=>
      aG ((!x3)) (
       kx (aQ.L0.bp ()).1 (aQ.L0.bp ()).2) (
       aG ((mM (nth fX t7 (Int.toNat t9)).2.2.2.1 (0:Int))) (
        ah (fG.call (nth fX t7 (Int.toNat t9)).2.2.2.1) fun x4=>
        aG (x4) (
         kx (aQ.L0.bp ()).1 (aQ.L0.bp ()).2) (
         kn (aQ.L0.st (l_2,t7,t8,(bN .i64 t9 (1:Int)))))) (
        kn (aQ.L0.st (l_2,t7,t8,(bN .i64 t9 (1:Int)))))))))) none) (
   kx (aQ.L0.fA l_2).1 (aQ.L0.fA l_2).2):=by kernel_rfl
theorem aQ.eq{R:Type}(l:Lk)(k:ba→Option R):aQ.A l k=
  ah (aQ.L0.call (l,l.1,(((List.length l.1):Nat):Int),(0:Int))) fun x5=>
  aG (x5.isLeft) (
   ah (x5.getLeft?) fun a6=>
   k (aQ.out false)) (
   ah (x5.getRight?) fun b7=>
   aG ((nN (((List.length b7.1):Nat):Int) (0:Int))) (
    k (aQ.out (zr (((List.length b7.1):Nat):Int) (4:Int)))) (
    k (aQ.out false))):=by kernel_rfl
theorem aQ.L0.ok:aQ.L0.Ok:=by
 refine aQ.L0.aB (fun(l,bs,n,i)=>bs.length - i.toNat) ?_
 rintro⟨l,bs,n,i⟩ ⟨hl,hb,rfl,k,hk,rfl⟩
 have hb:bs.length≤9223372036854775807:=hb
 have hk:k≤bs.length:=hk
 by_cases h:k < bs.length
 ·have hx:E6 bs[k]:=hl _ (List.getElem_mem h)
  have n1:nth (.pair (.slice (.int .u64)) (.pair (.int .i64) (.pair (.int .i64) (.pair (.int .u64) .unit)))) bs k=bs[k]:=cn (t:=(.pair (.slice (.int .u64)) (.pair (.int .i64) (.pair (.int .i64) (.pair (.int .u64) .unit))))) h
  have hd:(bs.drop k).all lj=(lj bs[k] && (bs.drop (k+1)).all lj):=by rw[List.drop_eq_getElem_cons h,List.all_cons]
  have step:∀ {R:Type} (kn:AS→Option R) (kx:Exit→AS→Option R),aQ.L0.R (l,bs,(bs.length:Int),(k:Int)) kn kx=aG (lj bs[k]) (kn (aQ.L0.st (l,bs,(bs.length:Int),((k+1:Nat):Int)))) (kx (aQ.L0.bp ()).1 (aQ.L0.bp ()).2):=by
   intro R kn kx
   rw[aQ.L0.step,aW (by omega),bm (by omega) (by omega),Int.toNat_natCast,n1,N.j5 (by omega)]
   obtain⟨⟨ks,af,dl,sc,u⟩,hbk⟩:∃b,bs[k]=b:=⟨_,rfl⟩
   rw[hbk]at hx ⊢
   have h1:nj ks:=hx.1
   have h2:gY sc:=hx.2
   simp only[ae,lj]
   by_cases hk:ks.length≤12
   ·rw[dI (by omega),bZ.run (d:=ks) ⟨h1,by omega⟩,cF.run (d:=af) trivial,cF.run (d:=dl) trivial,fG.run (d:=sc) h2,aZ hk]
    simp only[ag,aa,bZ.add,bZ.F,cF.add,cF.F,fG.add,fG.F,Bool.true_and]
    cases ks.all ju
    ·rfl
    cases rM af
    ·rfl
    cases rM dl
    ·rfl
    by_cases hs:sc=0
    ·rw[ct hs,aZ hs];rfl
    ·rw[fg hs,bo hs]
     cases ju sc <;> rfl
   ·rw[dY (by omega),bo hk];rfl
  cases hp:lj bs[k]
  ·right
   refine⟨aQ.L0.bp (),?_,fun kn kx=> ?_⟩
   ·simp only[aQ.L0.add,aQ.L0.F,Int.toNat_natCast,hd,hp,Bool.false_and,Bool.false_eq_true,if_false]
    rfl
   ·rw[step,hp,ag]
  ·left
   refine⟨(l,bs,bs.length,((k+1:Nat):Int)),⟨hl,hb,rfl,k+1,by omega,rfl⟩,by simp only[Int.toNat_natCast];omega,?_,fun kn kx=> ?_⟩
   ·simp only[aQ.L0.add,aQ.L0.F,Int.toNat_natCast,hd,hp,Bool.true_and]
   ·rw[step,hp,ae]
 ·right
  obtain rfl:k=bs.length:=by omega
  refine⟨aQ.L0.fA l,?_,fun kn kx=> ?_⟩
  ·simp only[aQ.L0.add,aQ.L0.F,Int.toNat_natCast,List.drop_length]
   rfl
  ·rw[aQ.L0.step]
   simp(disch:=omega) only[↓S1,↓if_pos,↓if_neg,if_pos,if_neg,if_true,if_false,S2]
theorem aQ.ok:aQ.Ok:=by
 rintro l ⟨hl,hb⟩
 have hb:l.1.length≤9223372036854775807:=hb
 rw[aQ.eq,aQ.L0.run (d:=(l,l.1,l.1.length,0)) ⟨hl,hb,rfl,0,by omega,rfl⟩]
 simp only[aa,aQ.L0.add,aQ.L0.F,Int.toNat_zero,List.drop_zero,aQ.add,aQ.F,iT]
 cases l.1.all lj
 ·rfl
 ·simp only[if_true,Bool.true_and]
  show aG (nN _ _) _ _=_
  by_cases h0:0 < l.1.length
  ·rw[dY (by omega)]
   by_cases h4:l.1.length≤4
   ·rw[kh (by omega),aZ ⟨h0,h4⟩];rfl
   ·rw[iM (by omega),bo (fun x=>h4 x.2)];rfl
  ·rw[dI (by omega),bo (fun x=>h0 x.1)];rfl
noncomputable def aQ.E:=Entry.cD [some ql] aQ.st aQ.av aQ.add aQ.F aQ.out
noncomputable def aQ.call:aQ.D→Option aQ.X:=bS aQ.E aQ.st
theorem aQ.run:bM aQ.call aQ.av aQ.add aQ.F:=dq (df [.d ql] fun _=>by kernel_rfl)
noncomputable def aQ.sg:SG Tryz.prog:=⟨77,aR,aQ.E,.fn 1 (by kernel_rfl) aQ.ok (And.intro (.cD aQ.L0.ok (by kernel_rfl)) trivial)⟩
def j4(m:List Int):List Int→List Sg→Bool
 |[],_=>true
 |p::ps,ss=>iX p m 1 (ss.headD (0,0,())) && j4 m ps ss.tail
def kb(l:Lk)(w:so)(m:List Int)(height age:Int):Int:=
 if iT l=false∨w.1 < 0∨w.1≥l.1.length then 1
 else
  let b:=nth (.pair (.slice (.int .u64)) (.pair (.int .i64) (.pair (.int .i64) (.pair (.int .u64) .unit)))) l.1 w.1.toNat
  if height < b.2.1∨age < b.2.2.1 then 11
  else if b.2.2.2.1≠0∧e7 w.2.2.1≠b.2.2.2.1 then 23
  else if w.2.1.length≠b.1.length then 7
  else if j4 m b.1 w.2.1 then 0 else 7
theorem wD(m:List Int)(ks:List Int)(ss:List Sg)(h:ss.length=ks.length)(k:Nat)(hk:k < ks.length):j4 m (ks.drop k) (ss.drop k)=(iX ks[k] m 1 (ss[k]'(by omega)) && j4 m (ks.drop (k+1)) (ss.drop (k+1))):=by
 rw[List.drop_eq_getElem_cons hk,List.drop_eq_getElem_cons (by omega:k < ss.length)]
 rfl
def vb(w:so):Prop:=(∀s∈w.2.1,E9 s)∧gY w.2.2.1
abbrev bF.L0.D:=so×Bs×Bs×Int×Int
def bF.L0.st:bF.L0.D→AS:=fun(wv_2,m_2,t68,t69,t70)=>⟨(bl 6 ([.ej xE wv_2,.ej tH m_2]++bl 60 ([.d tU t68,.d ti t69,.d ti t70]++bl 14 []))),[],(List.replicate 85 [])⟩
abbrev bF.L0.Y0:=Unit
abbrev bF.L0.X0:=Unit
def bF.L0.bp:bF.L0.X0→Exit×AS:=fun x=>(.ret,⟨(bl 10 ([.d ti (7:Int)]++bl 74 [])),[],(List.replicate 85 [])⟩)
abbrev bF.L0.Y1:=Unit
abbrev bF.L0.X1:=Unit
def bF.L0.fA:bF.L0.X1→Exit×AS:=fun x=>(.exit 1,⟨(bl 85 []),[],(List.replicate 85 [])⟩)
abbrev bF.L0.X:=(bF.L0.X0)⊕(bF.L0.X1)
abbrev bF.L0.Y:=(bF.L0.Y0)⊕(bF.L0.Y1)
def bF.L0.out:bF.L0.X→Out (Exit×AS):=fun x=> .br x.isLeft (.get x.getLeft? fun a=> .ok (bF.L0.bp a)) (.get x.getRight? fun b=> .ok (bF.L0.fA b))
def bF.L0.add:bF.L0.D→bF.L0.Y→bF.L0.X:=fun(wv_2,m_2,t68,t69,t70) y=>match y with | .inl y=> .inl y | .inr z=> .inr (z)
abbrev bF.D:=Lk×so×Bs×Int×Int
def bF.st:bF.D→SA:=fun(l,wv,m,height,age)=>([.d ql l,.d xE wv,.d tH m,.d ti height,.d ti age],[])
abbrev bF.Y:=Int
abbrev bF.X:=Int
def bF.out:bF.X→ba:=fun x=>⟨.d ti x,[],[]⟩
def bF.add:bF.D→bF.Y→bF.X:=fun(l,wv,m,height,age) y=>y
def bF.L0.av:bF.L0.D→Prop:=fun(w,m,ks,n,i)=>vb w∧Sm m∧nj ks∧ks.length≤1000000000∧w.2.1.length=ks.length∧n=ks.length∧∃k:Nat,k≤ks.length∧i=k
def bF.L0.F:bF.L0.D→bF.L0.Y:=fun(w,m,ks,n,i)=>if j4 m (ks.drop i.toNat) (w.2.1.drop i.toNat) then .inr () else .inl ()
def bF.av:bF.D→Prop:=fun(l,w,m,h,a)=>u9 l∧l.1.length≤9223372036854775807∧vb w∧Sm m
def bF.F:bF.D→bF.Y:=fun(l,w,m,h,a)=>kb l w m h a
noncomputable def bF.G:ed:=fk (P:=Tryz.prog) [aQ.sg,dP.sg,cX.sg]
noncomputable def bF.L0.E:=bU.cD bF.L0.st bF.L0.av bF.L0.add bF.L0.F bF.L0.out
noncomputable def bF.L0.call:bF.L0.D→Option bF.L0.X:=dw bF.L0.E bF.L0.st
noncomputable def bF.an:eQ:= {loops:=jB [(11,{bn:=[6,7,68,69,70]})],outs:=jA [(11,{},{bn:=[10]})],fC:=kf [(11,bF.L0.E)]}
noncomputable def bF.A:= @cY Tryz.prog bF.G bF.an 0 Tryz.f84 _ bF.st
abbrev bF.Ok:=dd @bF.A bF.av bF.add bF.F bF.out
noncomputable def bF.L0.R:= @cj Tryz.prog bF.G bF.an 0 Tryz.f84 0 _ bF.L0.st
abbrev bF.L0.Ok:=ew Tryz.prog bF.G bF.an 0 Tryz.f84 0 bF.L0.st bF.L0.av bF.L0.add bF.L0.F bF.L0.out
theorem bF.L0.run:bM bF.L0.call bF.L0.av bF.L0.add bF.L0.F:=eM (eL [.d xE,.d tH,.d tU,.d ti,.d ti] fun _=>by kernel_rfl)
theorem bF.L0.aB:kC @bF.L0.R bF.L0.st bF.L0.av bF.L0.add bF.L0.F bF.L0.out bF.L0.Ok:=kL
theorem bF.L0.step{R:Type}(wv_2:so)(m_2:Bs)(t68:Bs)(t69:Int)(t70:Int)(kn:AS→Option R)(kx:Exit→AS→Option R):bF.L0.R (wv_2,m_2,t68,t69,t70) kn kx=
  aG ((fM t70 t69)) (
   aG (eI t70 (((List.length t68):Nat):Int)) (
   aG (eI t70 (((List.length wv_2.2.1):Nat):Int)) (
   ah (cX.call ((nth tu t68 (Int.toNat t70)),m_2,(nth sJ wv_2.2.1 (Int.toNat t70)))) fun x1=>
   aG ((!x1)) (
    kx (bF.L0.bp ()).1 (bF.L0.bp ()).2) (
    kn (bF.L0.st (wv_2,m_2,t68,t69,(bN .i64 t70 (1:Int)))))) none) none) (
   kx (bF.L0.fA ()).1 (bF.L0.fA ()).2):=by kernel_rfl
theorem bF.eq{R:Type}(l:Lk)(wv:so)(m:Bs)(height:Int)(age:Int)(k:ba→Option R):bF.A (l,wv,m,height,age) k=
  ah (aQ.call l) fun x1=>
  aG ((!x1)) (
   k (bF.out (1:Int))) (
   aG ((fM wv.1 (0:Int))) (
    k (bF.out (1:Int))) (
    aG ((nv wv.1 (((List.length l.1):Nat):Int))) (
     k (bF.out (1:Int))) (
     aG (eI wv.1 (((List.length l.1):Nat):Int)) (
     aG ((fM height (nth fX l.1 (Int.toNat wv.1)).2.1)) (
      k (bF.out (11:Int))) (
      aG ((fM age (nth fX l.1 (Int.toNat wv.1)).2.2.1)) (
       k (bF.out (11:Int))) (
       aG ((mM (nth fX l.1 (Int.toNat wv.1)).2.2.2.1 (0:Int))) (
        ah (dP.call wv.2.2.1) fun x2=>
        aG ((mM x2 (nth fX l.1 (Int.toNat wv.1)).2.2.2.1)) (
         k (bF.out (23:Int))) (
         aG ((mM (((List.length wv.2.1):Nat):Int) (((List.length (nth fX l.1 (Int.toNat wv.1)).1):Nat):Int))) (
          k (bF.out (7:Int))) (
          ah (bF.L0.call (wv,m,(nth fX l.1 (Int.toNat wv.1)).1,(((List.length (nth fX l.1 (Int.toNat wv.1)).1):Nat):Int),(0:Int))) fun x4=>
          aG (x4.isLeft) (
           ah (x4.getLeft?) fun a5=>
           k (bF.out (7:Int))) (
           ah (x4.getRight?) fun b6=>
           k (bF.out (0:Int)))))) (
        aG ((mM (((List.length wv.2.1):Nat):Int) (((List.length (nth fX l.1 (Int.toNat wv.1)).1):Nat):Int))) (
         k (bF.out (7:Int))) (
         ah (bF.L0.call (wv,m,(nth fX l.1 (Int.toNat wv.1)).1,(((List.length (nth fX l.1 (Int.toNat wv.1)).1):Nat):Int),(0:Int))) fun x7=>
         aG (x7.isLeft) (
          ah (x7.getLeft?) fun a8=>
          k (bF.out (7:Int))) (
          ah (x7.getRight?) fun b9=>
          k (bF.out (0:Int)))))))) none))):=by kernel_rfl
theorem bF.L0.ok:bF.L0.Ok:=by
 refine bF.L0.aB (fun(w,m,ks,n,i)=>ks.length - i.toNat) ?_
 rintro⟨w,m,ks,n,i⟩ ⟨hw,hm,hl,hb,hs,rfl,k,hk,rfl⟩
 have hb:ks.length≤1000000000:=hb
 have hk:k≤ks.length:=hk
 have hs:w.2.1.length=ks.length:=hs
 by_cases h:k < ks.length
 ·have hx:=hl _ (List.getElem_mem h)
  have hy:=hw.1 _ (List.getElem_mem (by omega:k < w.2.1.length))
  have n1:nth (.int .u64) ks k=ks[k]:=cn (t:= .int .u64) h
  have n2:nth (.pair (.int .u64) (.pair (.int .u64) .unit)) w.2.1 k=w.2.1[k]'(by omega):=cn (t:=(.pair (.int .u64) (.pair (.int .u64) .unit))) (by omega)
  have hd:=wD m ks w.2.1 hs k h
  have step:∀ {R:Type} (kn:AS→Option R) (kx:Exit→AS→Option R),bF.L0.R (w,m,ks,(ks.length:Int),(k:Int)) kn kx=aG (iX ks[k] m 1 (w.2.1[k]'(by omega))) (kn (bF.L0.st (w,m,ks,(ks.length:Int),((k+1:Nat):Int)))) (kx (bF.L0.bp ()).1 (bF.L0.bp ()).2):=by
   intro R kn kx
   rw[bF.L0.step,aW (by omega),bm (by omega) (by omega),bm (by omega) (by omega),Int.toNat_natCast,n1,n2,N.j5 (by omega),cX.run (d:=(ks[k],m,w.2.1[k]'(by omega))) ⟨hx,hm,hy⟩]
   simp only[ae,aa,cX.add,cX.F]
   cases iX ks[k] m 1 (w.2.1[k]'(by omega)) <;> rfl
  cases hp:iX ks[k] m 1 (w.2.1[k]'(by omega))
  ·right
   refine⟨bF.L0.bp (),?_,fun kn kx=> ?_⟩
   ·simp only[bF.L0.add,bF.L0.F,Int.toNat_natCast,hd,hp,Bool.false_and,Bool.false_eq_true,if_false]
    rfl
   ·rw[step,hp,ag]
  ·left
   refine⟨(w,m,ks,ks.length,((k+1:Nat):Int)),⟨hw,hm,hl,hb,hs,rfl,k+1,by omega,rfl⟩,by simp only[Int.toNat_natCast];omega,?_,fun kn kx=> ?_⟩
   ·simp only[bF.L0.add,bF.L0.F,Int.toNat_natCast,hd,hp,Bool.true_and]
   ·rw[step,hp,ae]
 ·right
  obtain rfl:k=ks.length:=by omega
  refine⟨bF.L0.fA (),?_,fun kn kx=> ?_⟩
  ·simp only[bF.L0.add,bF.L0.F,Int.toNat_natCast,List.drop_length]
   rfl
  ·rw[bF.L0.step]
   simp(disch:=omega) only[↓S1,↓if_pos,↓if_neg,if_pos,if_neg,if_true,if_false,S2]
theorem v7{l:Lk}(h:iT l=true){b:ik}(hb:b∈l.1):b.1.length≤12:=by
 unfold iT at h
 rw[Bool.and_eq_true,List.all_eq_true]at h
 have:=h.1 b hb
 unfold lj at this
 rw[Bool.and_eq_true]at this
 simpa using this.1
theorem bF.ok:bF.Ok:=by
  rintro⟨l,w,m,h,a⟩ ⟨hl,hb,hw,hm⟩
  have hl:u9 l:=hl
  have hb:l.1.length≤9223372036854775807:=hb
  have hw:vb w:=hw
  have hm:Sm m:=hm
  rw[bF.eq,aQ.run (d:=l) ⟨hl,hb⟩]
  simp only[aa,aQ.add,aQ.F,bF.add,bF.F,kb]
  cases hok:iT l
  · rw[if_pos (Or.inl rfl)];rfl
  by_cases h0:w.1 < 0
  · rw[aW h0,if_pos (Or.inr (Or.inl h0))];rfl
  by_cases h1:w.1≥l.1.length
  · rw[aO h0,fF h1,if_pos (Or.inr (Or.inr h1))];rfl
  rw[aO h0,eZ h1,bm (by omega) (by omega),if_neg (by simp[h0];omega)]
  have hn:w.1.toNat < l.1.length:=by omega
  have n1:nth (.pair (.slice (.int .u64)) (.pair (.int .i64) (.pair (.int .i64) (.pair (.int .u64) .unit)))) l.1 w.1.toNat=l.1[w.1.toNat]:=cn (t:=(.pair (.slice (.int .u64)) (.pair (.int .i64) (.pair (.int .i64) (.pair (.int .u64) .unit))))) hn
  rw[n1]
  have hx:E6 l.1[w.1.toNat]:=hl _ (List.getElem_mem hn)
  have hkl:=v7 hok (List.getElem_mem hn)
  obtain⟨⟨ks,af,dl,sc,u⟩,hbk⟩:∃b,l.1[w.1.toNat]=b:=⟨_,rfl⟩
  rw[hbk]at hx hkl ⊢
  have hks:nj ks:=hx.1
  have hkl:ks.length≤12:=hkl
  simp only[Bool.not_true,ag,ae]
  by_cases e1:h < af
  · rw[aW e1,if_pos (Or.inl e1)];rfl
  by_cases e2:a < dl
  · rw[aO e1,aW e2,if_pos (Or.inr e2)];rfl
  rw[aO e1,aO e2,if_neg (by simp[e1,e2]),dP.run (d:=w.2.2.1) hw.2]
  simp only[ag,aa,dP.add,dP.F]
  have last:aG (mM ((w.2.1.length:Nat):Int) ((ks.length:Nat):Int)) (some (bF.out (7:Int))) (
          ah (bF.L0.call (w,m,ks,((ks.length:Nat):Int),(0:Int))) fun x4=>
          aG (x4.isLeft) (ah (x4.getLeft?) fun a5=>some (bF.out (7:Int))) (ah (x4.getRight?) fun b6=>some (bF.out (0:Int))))=some (bF.out (if w.2.1.length≠ks.length then 7 else if j4 m ks w.2.1 then 0 else 7)):=by
    by_cases e3:w.2.1.length=ks.length
    · rw[ct (by omega),if_neg (by simp[e3]),ag,bF.L0.run (d:=(w,m,ks,ks.length,0)) ⟨hw,hm,hks,by show ks.length≤1000000000;omega,e3,rfl,0,by omega,rfl⟩]
      simp only[aa,bF.L0.add,bF.L0.F,Int.toNat_zero,List.drop_zero]
      cases j4 m ks w.2.1 <;> rfl
    · rw[fg (by omega),if_pos e3];rfl
  by_cases e4:sc=0
  · rw[ct e4,if_neg (by simp[e4]),ag]
    exact last
  · rw[fg e4,ae]
    by_cases e5:e7 w.2.2.1=sc
    · rw[ct e5,if_neg (by simp[e5]),ag]
      exact last
    · rw[fg e5,if_pos ⟨e4,e5⟩];rfl
noncomputable def bF.E:=Entry.cD [some ql,some xE,some tH,some ti,some ti] bF.st bF.av bF.add bF.F bF.out
noncomputable def bF.call:bF.D→Option bF.X:=bS bF.E bF.st
theorem bF.run:bM bF.call bF.av bF.add bF.F:=dq (df [.d ql,.d xE,.d tB,.d ti,.d ti] fun _=>by kernel_rfl)
noncomputable def bF.sg:SG Tryz.prog:=⟨84,aR,bF.E,.fn 1 (by kernel_rfl) bF.ok (And.intro (.cD bF.L0.ok (by kernel_rfl)) trivial)⟩
set_option synthInstance.maxSize 5000
abbrev dj.D:=Bs
def dj.st:dj.D→SA:=fun sv=>([.d tU sv],[])
abbrev dj.Y:=Bs
abbrev dj.X:=Bs
def dj.out:dj.X→ba:=fun x=>⟨.d tU x,[],[]⟩
def dj.add:dj.D→dj.Y→dj.X:=fun sv y=>y
def dj.av:dj.D→Prop:=fun l=>l.length≤1000000
def dj.F:dj.D→dj.Y:=fun l=>l
noncomputable def dj.G:ed:=fk (P:=Tryz.prog) []
noncomputable def dj.an:eQ:= {bX:=[5],res:=[some tU]}
noncomputable def dj.A:= @cY Tryz.prog dj.G dj.an 0 Tryz.f142 _ dj.st
abbrev dj.Ok:=dd @dj.A dj.av dj.add dj.F dj.out
theorem dj.eq{R:Type}(sv:Bs)(k:ba→Option R):dj.A sv k=
  aG (decide (0 < (List.length sv))) (
   aG (db (0+(List.length sv)) 8) (
   aG (decide (0=0∧(0+(0+(List.length sv)))≤(List.length ((List.take 0 (List.replicate 0 (0:Int)))++sv)))) (
   k (dj.out (cut ((List.take 0 (List.replicate 0 (0:Int)))++sv) 0 (0+(List.length sv))))) none) none) (
   nd (
    k (dj.out ([]:List Int))) (
    aG (db (0+(List.length sv)) 8) (
    aG (decide (0=0∧(0+(0+(List.length sv)))≤(List.length ((List.take 0 (List.replicate 0 (0:Int)))++sv)))) (
    k (dj.out (cut ((List.take 0 (List.replicate 0 (0:Int)))++sv) 0 (0+(List.length sv))))) none) none)):=by kernel_rfl
theorem dj.ok:dj.Ok:=by
 intro l hl
 have hl:l.length≤1000000:=hl
 have hr:db l.length 8=true:=cS (by omega) (by omega)
 have e0:(List.take 0 (List.replicate 0 0):List Int)=[]:=rfl
 rw[dj.eq]
 simp only[Nat.zero_add,hr,ae,e0,List.nil_append,Nat.le_refl,and_self,decide_true,fb,dj.add,dj.F]
 by_cases h:0 < l.length
 ·simp only[aZ h,ae]
 ·have:l=[]:=List.eq_nil_of_length_eq_zero (by omega)
  subst this
  simp only[List.length_nil,nU,bo (Nat.lt_irrefl 0),ag]
noncomputable def dj.E:=Entry.cD [some tU] dj.st dj.av dj.add dj.F dj.out
noncomputable def dj.call:dj.D→Option dj.X:=bS dj.E dj.st
theorem dj.run:bM dj.call dj.av dj.add dj.F:=dq (df [.d tU] fun _=>by kernel_rfl)
noncomputable def dj.sg:SG Tryz.prog:=⟨142,aR,dj.E,.fn 0 (by kernel_rfl) dj.ok trivial⟩
def Bk(l:List Int):Lk:=([(l,0,0,0,())],())
abbrev gu.D:=Bs
def gu.st:gu.D→SA:=fun l=>([.d tU l],[])
abbrev gu.Y:=Lk
abbrev gu.X:=Lk
def gu.out:gu.X→ba:=fun x=>⟨.d ql x,[],[]⟩
def gu.add:gu.D→gu.Y→gu.X:=fun l y=>y
def gu.av:gu.D→Prop:=fun l=>l.length≤1000000
def gu.F:gu.D→gu.Y:=fun l=>Bk l
noncomputable def gu.G:ed:=fk (P:=Tryz.prog) [dj.sg]
noncomputable def gu.an:eQ:= {}
noncomputable def gu.A:= @cY Tryz.prog gu.G gu.an 0 Tryz.f71 _ gu.st
abbrev gu.Ok:=dd @gu.A gu.av gu.add gu.F gu.out
theorem gu.eq{R:Type}(l:Bs)(k:ba→Option R):gu.A l k=
 ah (dj.call l) fun x1=>
 k (gu.out ([(x1,((0:Int),((0:Int),((0:Int),()))))],())):=by kernel_rfl
theorem gu.ok:gu.Ok:=by
 intro l hl
 rw[gu.eq,dj.run (d:=l) hl]
 rfl
noncomputable def gu.E:=Entry.cD [some tU] gu.st gu.av gu.add gu.F gu.out
noncomputable def gu.call:gu.D→Option gu.X:=bS gu.E gu.st
theorem gu.run:bM gu.call gu.av gu.add gu.F:=dq (df [.d tU] fun _=>by kernel_rfl)
noncomputable def gu.sg:SG Tryz.prog:=⟨71,aR,gu.E,.fn 0 (by kernel_rfl) gu.ok trivial⟩
abbrev gk.D:=Int
def gk.st:gk.D→SA:=fun p=>([.d tu p],[])
abbrev gk.Y:=Lk
abbrev gk.X:=Lk
def gk.out:gk.X→ba:=fun x=>⟨.d ql x,[],[]⟩
def gk.add:gk.D→gk.Y→gk.X:=fun p y=>y
def gk.av:gk.D→Prop:=fun _=>True
def gk.F:gk.D→gk.Y:=fun p=>Bk [p]
noncomputable def gk.G:ed:=fk (P:=Tryz.prog) [gu.sg]
noncomputable def gk.an:eQ:= {}
noncomputable def gk.A:= @cY Tryz.prog gk.G gk.an 0 Tryz.f17 _ gk.st
abbrev gk.Ok:=dd @gk.A gk.av gk.add gk.F gk.out
theorem gk.eq{R:Type}(p:Int)(k:ba→Option R):gk.A p k=
 ah (gu.call [p]) fun x1=>
 k (gk.out x1):=by kernel_rfl
theorem gk.ok:gk.Ok:=by
 intro p _
 rw[gk.eq,gu.run (d:=[p]) (by show [p].length≤_;simp)]
 rfl
noncomputable def gk.E:=Entry.cD [some tu] gk.st gk.av gk.add gk.F gk.out
noncomputable def gk.call:gk.D→Option gk.X:=bS gk.E gk.st
theorem gk.run:bM gk.call gk.av gk.add gk.F:=dq (df [.d tu] fun _=>by kernel_rfl)
noncomputable def gk.sg:SG Tryz.prog:=⟨17,aR,gk.E,.fn 0 (by kernel_rfl) gk.ok trivial⟩
set_option synthInstance.maxSize 5000
end Go.Ab
