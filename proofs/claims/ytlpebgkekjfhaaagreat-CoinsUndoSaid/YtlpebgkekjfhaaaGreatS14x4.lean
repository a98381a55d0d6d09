/-
  Made short by a program of mine (wip/tools/mini.py).
-/
import Derived.Test.YtlpebgkekjfhaaaGreatS14x3
import Derived.Test.YtlpebgkekjfhaaaGreatProg
set_option linter.unusedVariables false
set_option linter.unusedSimpArgs false
namespace Go.Ab
open Go.Proofs
set_option maxRecDepth 100000
set_option linter.unusedVariables false
set_option linter.unusedSimpArgs false
set_option synthInstance.maxSize 5000
abbrev binary.D:=Bs
def binary.st:binary.D→SA:=fun b=>([.d tB b],[])
abbrev binary.Y:=Int
abbrev binary.X:=Int
def binary.out:binary.X→aX:=fun x=>⟨.d (.int .u32) x,[],[]⟩
def binary.add:binary.D→binary.Y→binary.X:=fun b y=>y
def binary.az:binary.D→Prop:=fun b=>4≤b.length
def binary.F:binary.D→binary.Y:=fun b=>vw (Fm (b.getD 0 0) (b.getD 1 0) (b.getD 2 0) (b.getD 3 0))
noncomputable def binary.G:dG:=eT (P:=Tryz.prog) []
noncomputable def binary.an:dX:= {}
noncomputable def binary.A:= @cR Tryz.prog binary.G binary.an 0 Tryz.f277 _ binary.st
abbrev binary.Ok:=cS @binary.A binary.az binary.add binary.F binary.out
theorem binary.eq{R:Type}(b:Bs)(k:aX→Option R):binary.A b k=
 aP (fo (0:Int) (((List.length b):Nat):Int)) (
 aP (fo (1:Int) (((List.length b):Nat):Int)) (
 aP (fo (2:Int) (((List.length b):Nat):Int)) (
 aP (fo (3:Int) (((List.length b):Nat):Int)) (
 k (binary.out (cQ .or .u32 (cQ .or .u32 (cQ .or .u32 (iM .u32 (dz .u32 (nth tb b 0)) (24:Int)) (iM .u32 (dz .u32 (nth tb b 1)) (16:Int))) (iM .u32 (dz .u32 (nth tb b 2)) (8:Int))) (dz .u32 (nth tb b 3))))) none) none) none) none:=by kernel_rfl
theorem binary.ok:binary.Ok:=by
 intro b h
 have h:4≤b.length:=h
 rw[binary.eq,bu (by omega) (by omega),bu (by omega) (by omega),bu (by omega) (by omega),bu (by omega) (by omega)]
 simp only[ak,Ct,wb,mN]
 rfl
noncomputable def binary.E:=Entry.cM [some tB] binary.st binary.az binary.add binary.F binary.out
noncomputable def binary.call:binary.D→Option binary.X:=bP binary.E binary.st
theorem binary.run:bK binary.call binary.az binary.add binary.F:=de (cW [.d tB] fun _=>by kernel_rfl)
noncomputable def binary.sg:SG Tryz.prog:=⟨277,aV,binary.E,.fn 0 (by kernel_rfl) binary.ok trivial⟩
abbrev bS.D:=Int×Int
def bS.st:bS.D→SA:=fun(x,kv)=>([.d (.int .u32) x,.d ti kv],[])
abbrev bS.Y:=Int
abbrev bS.X:=Int
def bS.out:bS.X→aX:=fun x=>⟨.d (.int .u32) x,[],[]⟩
def bS.add:bS.D→bS.Y→bS.X:=fun(x,kv) y=>y
def rl(w:W)(k:Nat):W:=w <<< k ||| w >>> (32 - k)
def bS.az:bS.D→Prop:=fun(x,k)=>0≤x∧x < 4294967296
def bS.F:bS.D→bS.Y:=fun(x,k)=>vw (rl (BitVec.ofInt 32 x) (k%32).toNat)
noncomputable def bS.G:dG:=eT (P:=Tryz.prog) []
noncomputable def bS.an:dX:= {}
noncomputable def bS.A:= @cR Tryz.prog bS.G bS.an 0 Tryz.f248 _ bS.st
abbrev bS.Ok:=cS @bS.A bS.az bS.add bS.F bS.out
theorem bS.eq{R:Type}(x:Int)(kv:Int)(k:aX→Option R):bS.A (x,kv) k=
 aP (iD (cQ .and .u64 (dz .u64 kv) (31:Int))) (
 aP (iD (cI .u64 (32:Int) (cQ .and .u64 (dz .u64 kv) (31:Int)))) (
 k (bS.out (cQ .or .u32 (iM .u32 x (cQ .and .u64 (dz .u64 kv) (31:Int))) (bC .u32 x (cI .u64 (32:Int) (cQ .and .u64 (dz .u64 kv) (31:Int))))))) none) none:=by kernel_rfl
theorem EH(k:Int):cQ .and .u64 (dz .u64 k) 31=k%32:=by
 have e:(31:Int)=vw (31:BitVec 64):=rfl
 rw[Cu,e,ze]
 simp only
 have:(31:BitVec 64)=BitVec.ofNat 64 (2^5 - 1):=rfl
 unfold vw
 rw[BitVec.toNat_and,BitVec.toNat_ofInt,show(31:BitVec 64).toNat=2^5 - 1 from rfl,Nat.and_two_pow_sub_one_eq_mod]
 omega
theorem bS.ok:bS.Ok:=by
 rintro⟨x,k⟩ ⟨h1,h2⟩
 have e1:cI .u64 32 (k%32)=32 - k%32:=by
  unfold cI
  rw[wrap_u64,fQ]
  omega
 have hx:x=vw (BitVec.ofInt 32 x):=by rw[fQ];omega
 rw[bS.eq,EH,e1,kJ (by omega),kJ (by omega)]
 simp only[ak]
 have e2:cQ .or .u32 (iM .u32 x (k%32)) (bC .u32 x (32 - k%32))=vw (rl (BitVec.ofInt 32 x) (k%32).toNat):=by
  conv=>lhs;rw[hx]
  rw[wb,rF,mN]
  simp only[rl]
  congr 3
  omega
 rw[e2]
 rfl
noncomputable def bS.E:=Entry.cM [some (.int .u32),some ti] bS.st bS.az bS.add bS.F bS.out
noncomputable def bS.call:bS.D→Option bS.X:=bP bS.E bS.st
theorem bS.run:bK bS.call bS.az bS.add bS.F:=de (cW [.d (.int .u32),.d ti] fun _=>by kernel_rfl)
noncomputable def bS.sg:SG Tryz.prog:=⟨248,aV,bS.E,.fn 0 (by kernel_rfl) bS.ok trivial⟩
theorem bS.at(w:W)(k:Int):bS.call (vw w,k)=some (vw (rl w (k%32).toNat)):=by
 have h:bS.az (vw w,k):=⟨ue w,by have:=Dq w;simpa using this⟩
 rw[bS.run h]
 show some (vw (rl (BitVec.ofInt 32 (vw w)) (k%32).toNat))=_
 rw[jr]
abbrev table.D:=Unit
def table.st:table.D→SA:=fun _=>([],[])
abbrev table.Y:=(List Int)
abbrev table.X:=(List Int)
def table.out:table.X→aX:=fun x=>⟨.d (.arr 64 (.int .u32)) x,[],[]⟩
def table.add:table.D→table.Y→table.X:=fun _ y=>y
def table.az:table.D→Prop:=fun _=>True
def table.F:table.D→table.Y:=fun _=>wc
noncomputable def table.G:dG:=eT (P:=Tryz.prog) []
noncomputable def table.an:dX:= {}
noncomputable def table.A:= @cR Tryz.prog table.G table.an 0 Tryz.f247 _ table.st
abbrev table.Ok:=cS @table.A table.az table.add table.F table.out
theorem table.eq{R:Type}(k:aX→Option R):table.A () k=
 k (table.out [(1116352408:Int),(1899447441:Int),(3049323471:Int),(3921009573:Int),(961987163:Int),(1508970993:Int),(2453635748:Int),(2870763221:Int),(3624381080:Int),(310598401:Int),(607225278:Int),(1426881987:Int),(1925078388:Int),(2162078206:Int),(2614888103:Int),(3248222580:Int),(3835390401:Int),(4022224774:Int),(264347078:Int),(604807628:Int),(770255983:Int),(1249150122:Int),(1555081692:Int),(1996064986:Int),(2554220882:Int),(2821834349:Int),(2952996808:Int),(3210313671:Int),(3336571891:Int),(3584528711:Int),(113926993:Int),(338241895:Int),(666307205:Int),(773529912:Int),(1294757372:Int),(1396182291:Int),(1695183700:Int),(1986661051:Int),(2177026350:Int),(2456956037:Int),(2730485921:Int),(2820302411:Int),(3259730800:Int),(3345764771:Int),(3516065817:Int),(3600352804:Int),(4094571909:Int),(275423344:Int),(430227734:Int),(506948616:Int),(659060556:Int),(883997877:Int),(958139571:Int),(1322822218:Int),(1537002063:Int),(1747873779:Int),(1955562222:Int),(2024104815:Int),(2227730452:Int),(2361852424:Int),(2428436474:Int),(2756734187:Int),(3204031479:Int),(3329325298:Int)]):=by kernel_rfl
theorem table.ok:table.Ok:=by
 intro d _
 rw[table.eq]
 rfl
noncomputable def table.E:=Entry.cM [] table.st table.az table.add table.F table.out
noncomputable def table.call:table.D→Option table.X:=bP table.E table.st
theorem table.run:bK table.call table.az table.add table.F:=de (cW [] fun _=>by kernel_rfl)
noncomputable def table.sg:SG Tryz.prog:=⟨247,aV,table.E,.fn 0 (by kernel_rfl) table.ok trivial⟩
abbrev first.D:=Unit
def first.st:first.D→SA:=fun _=>([],[])
abbrev first.Y:=(List Int)
abbrev first.X:=(List Int)
def first.out:first.X→aX:=fun x=>⟨.d (.arr 8 (.int .u32)) x,[],[]⟩
def first.add:first.D→first.Y→first.X:=fun _ y=>y
def first.az:first.D→Prop:=fun _=>True
def first.F:first.D→first.Y:=fun _=>kf.l
noncomputable def first.G:dG:=eT (P:=Tryz.prog) []
noncomputable def first.an:dX:= {}
noncomputable def first.A:= @cR Tryz.prog first.G first.an 0 Tryz.f201 _ first.st
abbrev first.Ok:=cS @first.A first.az first.add first.F first.out
theorem first.eq{R:Type}(k:aX→Option R):first.A () k=
 k (first.out [(1779033703:Int),(3144134277:Int),(1013904242:Int),(2773480762:Int),(1359893119:Int),(2600822924:Int),(528734635:Int),(1541459225:Int)]):=by kernel_rfl
theorem first.ok:first.Ok:=by
 intro d _
 rw[first.eq]
 rfl
noncomputable def first.E:=Entry.cM [] first.st first.az first.add first.F first.out
noncomputable def first.call:first.D→Option first.X:=bP first.E first.st
theorem first.run:bK first.call first.az first.add first.F:=de (cW [] fun _=>by kernel_rfl)
noncomputable def first.sg:SG Tryz.prog:=⟨201,aV,first.E,.fn 0 (by kernel_rfl) first.ok trivial⟩
set_option synthInstance.maxSize 5000
abbrev schedule.L0.D:=Bs×Int×(List Int)
def schedule.L0.st:schedule.L0.D→AS:=fun(b_2,t8,n2)=>⟨([.d tB b_2,.undef,.ptr (.new 2 0) 0 [] 0]++bl 5 ([.d ti t8]++bl 52 [])),[],([[],[],[.obj 0 false (.d (.arr 64 (.int .u32)) n2)]]++cj 58 [])⟩
abbrev schedule.L0.Y0:=(List Int)
abbrev schedule.L0.X0:=(List Int)
def schedule.L0.bE:schedule.L0.X0→Exit×AS:=fun x=>(.exit 0,⟨([.undef,.undef,.ptr (.new 2 0) 0 [] 0]++bl 58 []),[],([[],[],[.obj 0 false (.d (.arr 64 (.int .u32)) x)]]++cj 58 [])⟩)
abbrev schedule.L0.X:=schedule.L0.X0
abbrev schedule.L0.Y:=schedule.L0.Y0
def schedule.L0.out:schedule.L0.X→Out (Exit×AS):=fun x=> .ok (schedule.L0.bE x)
def schedule.L0.add:schedule.L0.D→schedule.L0.Y→schedule.L0.X:=fun(b_2,t8,n2) y=>y
abbrev schedule.D:=Bs
def schedule.st:schedule.D→SA:=fun b=>([.d tB b],[])
abbrev schedule.Y:=(List Int)
abbrev schedule.X:=(List Int)
def schedule.out:schedule.X→aX:=fun x=>⟨.d (.arr 64 (.int .u32)) x,[],[]⟩
def schedule.add:schedule.D→schedule.Y→schedule.X:=fun b y=>y
def wl(l:List W):List Int:=l.map vw
def mi(l:List W):List Int:=wl l++List.replicate (64 - l.length) 0
def lX(b:List Int)(k:Nat):List W:=if k≤16 then(words b).take k else Ff (words b) (k - 16)
def schedule.L0.az:schedule.L0.D→Prop:=fun(b,t8,n2)=>64≤b.length∧∃k:Nat,k≤64∧t8=k∧n2=mi (lX b k)
def schedule.L0.F:schedule.L0.D→schedule.L0.Y:=fun(b,t8,n2)=>wl (sched b)
def schedule.az:schedule.D→Prop:=fun b=>64≤b.length
def schedule.F:schedule.D→schedule.Y:=fun b=>wl (sched b)
noncomputable def schedule.G:dG:=eT (P:=Tryz.prog) [binary.sg,bS.sg]
noncomputable def schedule.L0.E:=bW.cM schedule.L0.st schedule.L0.az schedule.L0.add schedule.L0.F schedule.L0.out
noncomputable def schedule.L0.call:schedule.L0.D→Option schedule.L0.X:=dF schedule.L0.E schedule.L0.st
noncomputable def schedule.an:dX:= {loops:=l7 [(2,{bn:=[0,2,8],sites:=[2]})],outs:=l6 [(2,{bn:=[2],sites:=[2]},{bn:=[2]})],fK:=mU [(2,schedule.L0.E)]}
noncomputable def schedule.A:= @cR Tryz.prog schedule.G schedule.an 0 Tryz.f246 _ schedule.st
abbrev schedule.Ok:=cS @schedule.A schedule.az schedule.add schedule.F schedule.out
noncomputable def schedule.L0.R:= @cz Tryz.prog schedule.G schedule.an 0 Tryz.f246 0 _ schedule.L0.st
abbrev schedule.L0.Ok:=eK Tryz.prog schedule.G schedule.an 0 Tryz.f246 0 schedule.L0.st schedule.L0.az schedule.L0.add schedule.L0.F schedule.L0.out
theorem schedule.L0.run:bK schedule.L0.call schedule.L0.az schedule.L0.add schedule.L0.F:=eU (eQ [.d tB,.d ti,.d (.slice (.int .u32))] fun _=>by kernel_rfl)
theorem schedule.L0.aK:fZ @schedule.L0.R schedule.L0.st schedule.L0.az schedule.L0.add schedule.L0.F schedule.L0.bE schedule.L0.Ok:=gv
theorem schedule.L0.step{R:Type}(b_2:Bs)(t8:Int)(n2:(List Int))(kn:AS→Option R)(kx:Exit→AS→Option R):schedule.L0.R (b_2,t8,n2) kn kx=
  aP ((gE t8 (64:Int))) (
   aP ((gE t8 (16:Int))) (
    aP (inc (ff .i64 (4:Int) t8) (((List.length b_2):Nat):Int)) (
    au (binary.call (cut b_2 (Int.toNat (ff .i64 (4:Int) t8)) ((List.length b_2) - (Int.toNat (ff .i64 (4:Int) t8))))) fun x1=>
    aP (fo t8 (64:Int)) (
    aP (decide ((Int.toNat t8) < (List.length n2))) (
    aP (decide ((((Int.toNat t8)*1)+0)=(0+((Int.toNat t8)*1)))) (
    aP (decide ((Int.toNat t8) < (List.length n2))) (
    kn (schedule.L0.st (b_2,(b8 .i64 t8 (1:Int)),(List.set n2 (Int.toNat t8) x1)))) none) none) none) none) none) (
    aP (fo (cI .i64 t8 (15:Int)) (64:Int)) (
    aP (decide ((Int.toNat (cI .i64 t8 (15:Int))) < (List.length n2))) (
    aP (decide ((((Int.toNat (cI .i64 t8 (15:Int)))*1)+0)=(0+((Int.toNat (cI .i64 t8 (15:Int)))*1)))) (
    aP (fo (cI .i64 t8 (2:Int)) (64:Int)) (
    aP (decide ((Int.toNat (cI .i64 t8 (2:Int))) < (List.length n2))) (
    aP (decide ((((Int.toNat (cI .i64 t8 (2:Int)))*1)+0)=(0+((Int.toNat (cI .i64 t8 (2:Int)))*1)))) (
    au (bS.call ((nth (.int .u32) n2 (Int.toNat (cI .i64 t8 (15:Int)))),(-7:Int))) fun x2=>
    au (bS.call ((nth (.int .u32) n2 (Int.toNat (cI .i64 t8 (15:Int)))),(-18:Int))) fun x3=>
    au (bS.call ((nth (.int .u32) n2 (Int.toNat (cI .i64 t8 (2:Int)))),(-17:Int))) fun x4=>
    au (bS.call ((nth (.int .u32) n2 (Int.toNat (cI .i64 t8 (2:Int)))),(-19:Int))) fun x5=>
    aP (fo (cI .i64 t8 (16:Int)) (64:Int)) (
    aP (decide ((Int.toNat (cI .i64 t8 (16:Int))) < (List.length n2))) (
    aP (decide ((((Int.toNat (cI .i64 t8 (16:Int)))*1)+0)=(0+((Int.toNat (cI .i64 t8 (16:Int)))*1)))) (
    aP (fo (cI .i64 t8 (7:Int)) (64:Int)) (
    aP (decide ((Int.toNat (cI .i64 t8 (7:Int))) < (List.length n2))) (
    aP (decide ((((Int.toNat (cI .i64 t8 (7:Int)))*1)+0)=(0+((Int.toNat (cI .i64 t8 (7:Int)))*1)))) (
    aP (fo t8 (64:Int)) (
    aP (decide ((Int.toNat t8) < (List.length n2))) (
    aP (decide ((((Int.toNat t8)*1)+0)=(0+((Int.toNat t8)*1)))) (
    aP (decide ((Int.toNat t8) < (List.length n2))) (
    kn (schedule.L0.st (b_2,(b8 .i64 t8 (1:Int)),(List.set n2 (Int.toNat t8) (b8 .u32 (b8 .u32 (b8 .u32 (nth (.int .u32) n2 (Int.toNat (cI .i64 t8 (16:Int)))) (cQ .xor .u32 (cQ .xor .u32 x2 x3) (bC .u32 (nth (.int .u32) n2 (Int.toNat (cI .i64 t8 (15:Int)))) (3:Int)))) (nth (.int .u32) n2 (Int.toNat (cI .i64 t8 (7:Int))))) (cQ .xor .u32 (cQ .xor .u32 x4 x5) (bC .u32 (nth (.int .u32) n2 (Int.toNat (cI .i64 t8 (2:Int)))) (10:Int)))))))) none) none) none) none) none) none) none) none) none) none) none) none) none) none) none) none)) (
   kx (schedule.L0.bE n2).1 (schedule.L0.bE n2).2):=by kernel_rfl
theorem schedule.eq{R:Type}(b:Bs)(k:aX→Option R):schedule.A b k=
 au (schedule.L0.call (b,(0:Int),(List.replicate 64 (0:Int)))) fun x6=>
 k (schedule.out x6):=by kernel_rfl
theorem w8(b:List Int)(k:Nat)(h:k≤64):(lX b k).length=k:=by
 unfold lX
 split
 ·simp[iL];omega
 ·rw[oc,iL];omega
theorem C3(b:List Int):lX b 64=sched b:=rfl
theorem Am(b:List Int)(k:Nat)(h:k < 16):lX b (k+1)=lX b k++ [be b k]:=by
 unfold lX
 rw[if_pos (by omega),if_pos (by omega),List.take_succ_eq_append_getElem (by rw[iL];exact h)]
 simp[words]
theorem B5(b:List Int)(k:Nat)(h:16≤k):lX b (k+1)=ext (lX b k):=by
 unfold lX
 rw[if_neg (by omega)]
 by_cases h16:k=16
 ·subst h16
  rw[if_pos (by omega),List.take_of_length_le (by rw[iL];omega)]
  rfl
 ·rw[if_neg (by omega),show k+1 - 16=(k - 16)+1 by omega]
  rfl
theorem ur(l:List W)(h:l.length≤64):(mi l).length=64:=by simp[mi,wl];omega
theorem mM(l:List W)(i:Nat)(h:i < l.length):nth (.int .u32) (mi l) i=vw (l.getD i 0):=by
 unfold nth mi wl
 rw[List.getD_eq_getElem?_getD,List.getElem?_append_left (by simpa using h)]
 simp[h]
theorem tl(l:List W)(w:W)(h:l.length < 64):(mi l).set l.length (vw w)=mi (l++ [w]):=by
 unfold mi wl
 rw[List.set_append_right _ _ (by simp)]
 simp only[List.length_map,Nat.sub_self,List.map_append,List.length_append,List.length_cons,List.length_nil]
 rw[show 64 - l.length=(64 - (l.length+(0+1)))+1 by omega,List.replicate_succ,List.set_cons_zero]
 simp
theorem xk(l:List W)(h:l.length=64):mi l=wl l:=by simp[mi,h]
theorem Du(b:List Int)(k:Nat)(h:4*k+4≤b.length):Fm ((cut b (4*k) (b.length - 4*k)).getD 0 0) ((cut b (4*k) (b.length - 4*k)).getD 1 0) ((cut b (4*k) (b.length - 4*k)).getD 2 0) ((cut b (4*k) (b.length - 4*k)).getD 3 0)=be b k:=by
 have e:∀j,j < 4→(cut b (4*k) (b.length - 4*k)).getD j 0=b.getD (4*k+j) 0:=fun j hj=>by
  unfold cut
  rw[List.getD_eq_getElem?_getD,List.getD_eq_getElem?_getD,List.getElem?_take_of_lt (by omega),List.getElem?_drop]
 unfold be
 rw[e 0 (by omega),e 1 (by omega),e 2 (by omega),e 3 (by omega),Nat.add_zero]
theorem schedule.L0.ok:schedule.L0.Ok:=by
 refine schedule.L0.aK (fun(b,t8,n2)=>64 - t8.toNat) ?_
 rintro⟨b,t8,n2⟩ ⟨hb,k,hk,rfl,rfl⟩
 have hwl:=w8 b k hk
 have hal:=ur (lX b k) (by omega)
 by_cases h:k < 64
 ·left
  refine⟨(b,((k+1:Nat):Int),mi (lX b (k+1))),⟨hb,k+1,by omega,rfl,rfl⟩,by simp;omega,rfl,fun kn kx=> ?_⟩
  have e1:b8 .i64 (k:Int) 1=((k+1:Nat):Int):=by rw[fM (by omega) (by omega)];omega
  have e2:Int.toNat (k:Int)=k:=by omega
  rw[schedule.L0.step,bq (by omega)]
  simp only[ak,e1,e2,hal,Nat.mul_one,Nat.zero_add,Nat.add_zero,decide_true]
  by_cases h16:k < 16
  ·have e3:ff .i64 4 (k:Int)=((4*k:Nat):Int):=by rw[oE (by omega) (by omega)];omega
   have e4:Int.toNat ((4*k:Nat):Int)=4*k:=by omega
   rw[bq (by omega),e3,lp (by omega) (by omega),e4,bu (by omega) (by omega),aW h]
   have hp:binary.az (cut b (4*k) (b.length - 4*k)):=by
    show 4≤_
    rw[lD (by omega)];omega
   simp only[ak,binary.run hp,aa]
   have e5:binary.add (cut b (4*k) (b.length - 4*k)) (binary.F (cut b (4*k) (b.length - 4*k)))=vw (be b k):=by
    show vw (Fm _ _ _ _)=_
    rw[Du b k (by omega)]
   have e6:=tl (lX b k) (be b k) (by omega)
   rw[hwl]at e6
   rw[e5,e6,Am b k h16]
  ·have a15:Int.toNat (cI .i64 (k:Int) 15)=k - 15:=by rw[dT (by omega) (by omega)];omega
   have a2:Int.toNat (cI .i64 (k:Int) 2)=k - 2:=by rw[dT (by omega) (by omega)];omega
   have a16:Int.toNat (cI .i64 (k:Int) 16)=k - 16:=by rw[dT (by omega) (by omega)];omega
   have a7:Int.toNat (cI .i64 (k:Int) 7)=k - 7:=by rw[dT (by omega) (by omega)];omega
   have i15:fo (cI .i64 (k:Int) 15) 64=true:=bu (by rw[dT (by omega) (by omega)];omega) (by rw[dT (by omega) (by omega)];omega)
   have i2:fo (cI .i64 (k:Int) 2) 64=true:=bu (by rw[dT (by omega) (by omega)];omega) (by rw[dT (by omega) (by omega)];omega)
   have i16:fo (cI .i64 (k:Int) 16) 64=true:=bu (by rw[dT (by omega) (by omega)];omega) (by rw[dT (by omega) (by omega)];omega)
   have i7:fo (cI .i64 (k:Int) 7) 64=true:=bu (by rw[dT (by omega) (by omega)];omega) (by rw[dT (by omega) (by omega)];omega)
   have i0:fo (k:Int) 64=true:=bu (by omega) (by omega)
   have d15:decide (k - 15 < 64)=true:=aW (by omega)
   have d2:decide (k - 2 < 64)=true:=aW (by omega)
   have d16:decide (k - 16 < 64)=true:=aW (by omega)
   have d7:decide (k - 7 < 64)=true:=aW (by omega)
   have d0:decide (k < 64)=true:=aW h
   rw[bm (by omega)]
   simp only[ak,aw,a15,a2,a16,a7,i15,i2,i16,i7,i0,d15,d2,d16,d7,d0,mM (lX b k) (k - 15) (by omega),mM (lX b k) (k - 2) (by omega),mM (lX b k) (k - 16) (by omega),mM (lX b k) (k - 7) (by omega),bS.at,aa,mN,rF,rr]
   have e6:=tl (lX b k) (Di (lX b k) k) (by omega)
   rw[hwl]at e6
   rw[B5 b k (by omega),ext,hwl,←e6]
   rfl
 ·right
  obtain rfl:k=64:=by omega
  intro R kn kx
  rw[schedule.L0.step,bm (by omega),xk _ hwl,C3]
  simp only[aw,schedule.L0.add,schedule.L0.F]
theorem schedule.ok:schedule.Ok:=by
 intro b hb
 have hp:schedule.L0.az (b,0,List.replicate 64 0):=⟨hb,0,by omega,rfl,rfl⟩
 rw[schedule.eq,schedule.L0.run hp]
 simp only[aa,schedule.L0.add,schedule.L0.F,schedule.add,schedule.F]
noncomputable def schedule.E:=Entry.cM [some tB] schedule.st schedule.az schedule.add schedule.F schedule.out
noncomputable def schedule.call:schedule.D→Option schedule.X:=bP schedule.E schedule.st
theorem schedule.run:bK schedule.call schedule.az schedule.add schedule.F:=de (cW [.d tB] fun _=>by kernel_rfl)
noncomputable def schedule.sg:SG Tryz.prog:=⟨246,aV,schedule.E,.fn 1 (by kernel_rfl) schedule.ok (And.intro (.cM schedule.L0.ok (by kernel_rfl)) trivial)⟩
set_option synthInstance.maxSize 5000
abbrev mix.L0.D:=(List Int)×Int×(List Int)×(List Int)×(List Int)×(List Int)
def mix.L0.st:mix.L0.D→AS:=fun(h_2,t18,n4,n5,n6,n7)=>⟨([.undef,.undef,.eH (.arr 8 (.int .u32)) h_2,.undef,.ptr (.new 4 0) 0 [] 0,.ptr (.new 5 0) 0 [] 0,.ptr (.new 6 0) 0 [] 0,.ptr (.new 7 0) 0 [] 0]++bl 10 ([.d ti t18]++bl 98 [])),[],(cj 4 ([[.obj 0 false (.d (.arr 8 (.int .u32)) n4)],[.obj 0 false (.d (.arr 64 (.int .u32)) n5)],[.obj 0 false (.d (.arr 64 (.int .u32)) n6)],[.obj 0 false (.d (.arr 8 (.int .u32)) n7)]]++cj 109 []))⟩
abbrev mix.L0.Y0:=(List Int)
abbrev mix.L0.X0:=((List Int)×(List Int))×((List Int))
def mix.L0.bE:mix.L0.X0→Exit×AS:=fun x=>(.exit 0,⟨([.undef,.undef,.eH (.arr 8 (.int .u32)) x.1.1,.undef,.ptr (.new 4 0) 0 [] 0,.undef,.undef,.ptr (.new 7 0) 0 [] 0]++bl 109 []),[],(cj 4 ([[.obj 0 false (.d (.arr 8 (.int .u32)) x.1.2)],[],[],[.obj 0 false (.d (.arr 8 (.int .u32)) x.2)]]++cj 109 []))⟩)
abbrev mix.L0.X:=mix.L0.X0
abbrev mix.L0.Y:=mix.L0.Y0
def mix.L0.out:mix.L0.X→Out (Exit×AS):=fun x=> .ok (mix.L0.bE x)
def mix.L0.add:mix.L0.D→mix.L0.Y→mix.L0.X:=fun(h_2,t18,n4,n5,n6,n7) y=>((h_2,n4),y)
abbrev mix.L1.D:=(List Int)×Int×(List Int)×(List Int)
def mix.L1.st:mix.L1.D→AS:=fun(h_3,t104,n4_2,n7_2)=>⟨([.undef,.undef,.eH (.arr 8 (.int .u32)) h_3,.undef,.ptr (.new 4 0) 0 [] 0,.undef,.undef,.ptr (.new 7 0) 0 [] 0]++bl 96 ([.d ti t104]++bl 12 [])),[],(cj 4 ([[.obj 0 false (.d (.arr 8 (.int .u32)) n4_2)],[],[],[.obj 0 false (.d (.arr 8 (.int .u32)) n7_2)]]++cj 109 []))⟩
abbrev mix.L1.Y0:=(List Int)
abbrev mix.L1.X0:=((List Int))×((List Int))
def mix.L1.bE:mix.L1.X0→Exit×AS:=fun x=>(.exit 2,⟨(bl 4 ([.ptr (.new 4 0) 0 [] 0,.undef,.undef,.ptr (.new 7 0) 0 [] 0]++bl 109 [])),[],(cj 4 ([[.obj 0 false (.d (.arr 8 (.int .u32)) x.1)],[],[],[.obj 0 false (.d (.arr 8 (.int .u32)) x.2)]]++cj 109 []))⟩)
abbrev mix.L1.X:=mix.L1.X0
abbrev mix.L1.Y:=mix.L1.Y0
def mix.L1.out:mix.L1.X→Out (Exit×AS):=fun x=> .ok (mix.L1.bE x)
def mix.L1.add:mix.L1.D→mix.L1.Y→mix.L1.X:=fun(h_3,t104,n4_2,n7_2) y=>(n4_2,y)
abbrev mix.D:=(List Int)×Bs
def mix.st:mix.D→SA:=fun(h,b)=>([.d (.arr 8 (.int .u32)) h,.d tB b],[])
abbrev mix.Y:=(List Int)
abbrev mix.X:=(List Int)
def mix.out:mix.X→aX:=fun x=>⟨.d (.arr 8 (.int .u32)) x,[],[]⟩
def mix.add:mix.D→mix.Y→mix.X:=fun(h,b) y=>y
def Ai(l:List Int):St:=⟨BitVec.ofInt 32 (l.getD 0 0),BitVec.ofInt 32 (l.getD 1 0),BitVec.ofInt 32 (l.getD 2 0),BitVec.ofInt 32 (l.getD 3 0),BitVec.ofInt 32 (l.getD 4 0),BitVec.ofInt 32 (l.getD 5 0),BitVec.ofInt 32 (l.getD 6 0),BitVec.ofInt 32 (l.getD 7 0)⟩
theorem kr(s:St):Ai s.l=s:=by
 obtain⟨a,b,c,d,e,f,g,h⟩:=s
 simp[Ai,St.l,jr]
def Ek(l:List Int):List W:=l.map (BitVec.ofInt 32)
theorem y5(l:List W):Ek (wl l)=l:=by
 unfold Ek wl
 rw[List.map_map]
 have:(BitVec.ofInt 32∘vw)=(id:W→W):=by funext w;exact jr w
 rw[this,List.map_id]
def mix.L0.az:mix.L0.D→Prop:=fun(h,t,n4,n5,n6,n7)=>∃(s:St) (ws:List W) (k:Nat),h=s.l∧n5=wl ws∧ws.length=64∧k≤64∧t=k∧n6=wc∧n7=(rounds ws s k).l
def mix.L0.F:mix.L0.D→mix.L0.Y:=fun(h,t,n4,n5,n6,n7)=>(rounds (Ek n5) (Ai h) 64).l
def mix.L1.az:mix.L1.D→Prop:=fun(h,t,n4,n7)=>n7.length=8∧∃k:Nat,k≤8∧t=k
def mix.L1.F:mix.L1.D→mix.L1.Y:=fun(h,t,n4,n7)=>from_ (fun i x=>b8 .u32 x (nth (.int .u32) h i)) t.toNat n7
def mix.az:mix.D→Prop:=fun(h,b)=>(∃s:St,h=s.l)∧64≤b.length
def mix.F:mix.D→mix.Y:=fun(h,b)=>(zO (Ai h) b).l
noncomputable def mix.G:dG:=eT (P:=Tryz.prog) [schedule.sg,table.sg,bS.sg]
noncomputable def mix.L0.E:=bW.cM mix.L0.st mix.L0.az mix.L0.add mix.L0.F mix.L0.out
noncomputable def mix.L0.call:mix.L0.D→Option mix.L0.X:=dF mix.L0.E mix.L0.st
noncomputable def mix.L1.E:=bW.cM mix.L1.st mix.L1.az mix.L1.add mix.L1.F mix.L1.out
noncomputable def mix.L1.call:mix.L1.D→Option mix.L1.X:=dF mix.L1.E mix.L1.st
noncomputable def mix.an:dX:= {loops:=l7 [(4,{bn:=[2,4,5,6,7,18],sites:=[4,5,6,7]}),(13,{bn:=[2,4,7,104],sites:=[4,7]})],outs:=l6 [(4,{bn:=[2,4,7],sites:=[4,7]},{bn:=[4]}),(13,{bn:=[4,7],sites:=[4,7]},{bn:=[4]})],fK:=mU [(4,mix.L0.E),(13,mix.L1.E)]}
noncomputable def mix.A:= @cR Tryz.prog mix.G mix.an 0 Tryz.f202 _ mix.st
abbrev mix.Ok:=cS @mix.A mix.az mix.add mix.F mix.out
noncomputable def mix.L0.R:= @cz Tryz.prog mix.G mix.an 0 Tryz.f202 0 _ mix.L0.st
abbrev mix.L0.Ok:=eK Tryz.prog mix.G mix.an 0 Tryz.f202 0 mix.L0.st mix.L0.az mix.L0.add mix.L0.F mix.L0.out
noncomputable def mix.L1.R:= @cz Tryz.prog mix.G mix.an 0 Tryz.f202 1 _ mix.L1.st
abbrev mix.L1.Ok:=eK Tryz.prog mix.G mix.an 0 Tryz.f202 1 mix.L1.st mix.L1.az mix.L1.add mix.L1.F mix.L1.out
theorem mix.L0.run:bK mix.L0.call mix.L0.az mix.L0.add mix.L0.F:=eU (eQ [.d (.arr 8 (.int .u32)),.d ti,.d (.slice (.int .u32)),.d (.slice (.int .u32)),.d (.slice (.int .u32)),.d (.slice (.int .u32))] fun _=>by kernel_rfl)
theorem mix.L0.aK:fZ @mix.L0.R mix.L0.st mix.L0.az mix.L0.add mix.L0.F mix.L0.bE mix.L0.Ok:=gv
theorem mix.L0.step{R:Type}(h_2:(List Int))(t18:Int)(n4:(List Int))(n5:(List Int))(n6:(List Int))(n7:(List Int))(kn:AS→Option R)(kx:Exit→AS→Option R):mix.L0.R (h_2,t18,n4,n5,n6,n7) kn kx=
  aP ((gE t18 (64:Int))) (
   aP (decide (4 < (List.length n7))) (
   au (bS.call ((nth (.int .u32) n7 4),(-6:Int))) fun x1=>
   aP (decide (4 < (List.length n7))) (
   au (bS.call ((nth (.int .u32) n7 4),(-11:Int))) fun x2=>
   aP (decide (4 < (List.length n7))) (
   au (bS.call ((nth (.int .u32) n7 4),(-25:Int))) fun x3=>
   aP (decide (7 < (List.length n7))) (
   aP (decide (6 < (List.length n7))) (
   aP (decide (4 < (List.length n7))) (
   aP (decide (5 < (List.length n7))) (
   aP (decide (6 < (List.length n7))) (
   aP (fo t18 (64:Int)) (
   aP (decide ((Int.toNat t18) < (List.length n6))) (
   aP (decide ((((Int.toNat t18)*1)+0)=(0+((Int.toNat t18)*1)))) (
   aP (fo t18 (64:Int)) (
   aP (decide ((Int.toNat t18) < (List.length n5))) (
   aP (decide ((((Int.toNat t18)*1)+0)=(0+((Int.toNat t18)*1)))) (
   aP (decide (0 < (List.length n7))) (
   au (bS.call ((nth (.int .u32) n7 0),(-2:Int))) fun x4=>
   aP (decide (0 < (List.length n7))) (
   au (bS.call ((nth (.int .u32) n7 0),(-13:Int))) fun x5=>
   aP (decide (0 < (List.length n7))) (
   au (bS.call ((nth (.int .u32) n7 0),(-22:Int))) fun x6=>
   aP (decide (0 < (List.length n7))) (
   aP (decide (1 < (List.length n7))) (
   aP (decide (2 < (List.length n7))) (
   aP (decide (0 < (List.length n7))) (
   aP (decide (1 < (List.length n7))) (
   aP (decide (0 < (List.length n7))) (
   aP (decide (1 < (List.length n7))) (
   aP (decide (2 < (List.length n7))) (
   aP (decide (3 < (List.length n7))) (
   aP (decide (4 < (List.length n7))) (
   aP (decide (5 < (List.length n7))) (
   aP (decide (6 < (List.length n7))) (
   kn (mix.L0.st (h_2,(b8 .i64 t18 (1:Int)),n4,n5,n6,[(b8 .u32 (b8 .u32 (b8 .u32 (b8 .u32 (b8 .u32 (b8 .u32 (nth (.int .u32) n7 7) (cQ .xor .u32 (cQ .xor .u32 x1 x2) x3)) (cQ .xor .u32 (nth (.int .u32) n7 6) (cQ .and .u32 (nth (.int .u32) n7 4) (cQ .xor .u32 (nth (.int .u32) n7 5) (nth (.int .u32) n7 6))))) (nth (.int .u32) n6 (Int.toNat t18))) (nth (.int .u32) n5 (Int.toNat t18))) (cQ .xor .u32 (cQ .xor .u32 x4 x5) x6)) (cQ .or .u32 (cQ .and .u32 (nth (.int .u32) n7 0) (nth (.int .u32) n7 1)) (cQ .and .u32 (nth (.int .u32) n7 2) (cQ .or .u32 (nth (.int .u32) n7 0) (nth (.int .u32) n7 1))))),(nth (.int .u32) n7 0),(nth (.int .u32) n7 1),(nth (.int .u32) n7 2),(b8 .u32 (nth (.int .u32) n7 3) (b8 .u32 (b8 .u32 (b8 .u32 (b8 .u32 (nth (.int .u32) n7 7) (cQ .xor .u32 (cQ .xor .u32 x1 x2) x3)) (cQ .xor .u32 (nth (.int .u32) n7 6) (cQ .and .u32 (nth (.int .u32) n7 4) (cQ .xor .u32 (nth (.int .u32) n7 5) (nth (.int .u32) n7 6))))) (nth (.int .u32) n6 (Int.toNat t18))) (nth (.int .u32) n5 (Int.toNat t18)))),(nth (.int .u32) n7 4),(nth (.int .u32) n7 5),(nth (.int .u32) n7 6)]))) none) none) none) none) none) none) none) none) none) none) none) none) none) none) none) none) none) none) none) none) none) none) none) none) none) none) none) none) none) (
   kx (mix.L0.bE ((h_2,n4),n7)).1 (mix.L0.bE ((h_2,n4),n7)).2):=by kernel_rfl
theorem mix.L1.run:bK mix.L1.call mix.L1.az mix.L1.add mix.L1.F:=eU (eQ [.d (.arr 8 (.int .u32)),.d ti,.d (.slice (.int .u32)),.d (.slice (.int .u32))] fun _=>by kernel_rfl)
theorem mix.L1.aK:fZ @mix.L1.R mix.L1.st mix.L1.az mix.L1.add mix.L1.F mix.L1.bE mix.L1.Ok:=gv
theorem mix.L1.step{R:Type}(h_3:(List Int))(t104:Int)(n4_2:(List Int))(n7_2:(List Int))(kn:AS→Option R)(kx:Exit→AS→Option R):mix.L1.R (h_3,t104,n4_2,n7_2) kn kx=
  aP ((gE t104 (8:Int))) (
   aP (fo t104 (8:Int)) (
   aP (decide ((Int.toNat t104) < (List.length n7_2))) (
   aP (decide ((((Int.toNat t104)*1)+0)=(0+((Int.toNat t104)*1)))) (
   aP (fo t104 (8:Int)) (
   aP (fo t104 (8:Int)) (
   aP (decide ((Int.toNat t104) < (List.length n7_2))) (
   aP (decide ((((Int.toNat t104)*1)+0)=(0+((Int.toNat t104)*1)))) (
   aP (decide ((Int.toNat t104) < (List.length n7_2))) (
   kn (mix.L1.st (h_3,(b8 .i64 t104 (1:Int)),n4_2,(List.set n7_2 (Int.toNat t104) (b8 .u32 (nth (.int .u32) n7_2 (Int.toNat t104)) (nth (.int .u32) h_3 (Int.toNat t104))))))) none) none) none) none) none) none) none) none) (
   kx (mix.L1.bE (n4_2,n7_2)).1 (mix.L1.bE (n4_2,n7_2)).2):=by kernel_rfl
theorem mix.eq{R:Type}(h:(List Int))(b:Bs)(k:aX→Option R):mix.A (h,b) k=
 au (schedule.call b) fun x1=>
 au (table.call ()) fun x2=>
 au (mix.L0.call (h,(0:Int),(List.replicate 8 (0:Int)),x1,x2,h)) fun x9=>
 au (mix.L1.call (x9.1.1,(0:Int),x9.1.2,x9.2)) fun x10=>
 k (mix.out x10.2):=by kernel_rfl
theorem St.Bb(s:St):s.l.length=8:=rfl
theorem we:wc.length=64:=rfl
theorem Ba(k:Nat)(h:k < 64):nth (.int .u32) wc k=vw (kw k):=by
 have hh:∀k:Fin 64,nth (.int .u32) wc k.val=vw (kw k.val):=by decide+kernel
 exact hh ⟨k,h⟩
theorem El(ws:List W)(k:Nat)(h:k < ws.length):nth (.int .u32) (wl ws) k=vw (ws.getD k 0):=by
 unfold nth wl
 simp[h]
theorem Gk(w:W):rl w ((-6:Int)%32).toNat=ng w 6:=rfl
theorem FU(w:W):rl w ((-11:Int)%32).toNat=ng w 11:=rfl
theorem FX(w:W):rl w ((-25:Int)%32).toNat=ng w 25:=rfl
theorem Gj(w:W):rl w ((-2:Int)%32).toNat=ng w 2:=rfl
theorem FV(w:W):rl w ((-13:Int)%32).toNat=ng w 13:=rfl
theorem FW(w:W):rl w ((-22:Int)%32).toNat=ng w 22:=rfl
theorem n0(s:St):nth (.int .u32) s.l 0=vw s.a:=rfl
theorem n1(s:St):nth (.int .u32) s.l 1=vw s.b:=rfl
theorem n2(s:St):nth (.int .u32) s.l 2=vw s.c:=rfl
theorem n3(s:St):nth (.int .u32) s.l 3=vw s.d:=rfl
theorem n4(s:St):nth (.int .u32) s.l 4=vw s.e:=rfl
theorem n5(s:St):nth (.int .u32) s.l 5=vw s.f:=rfl
theorem n6(s:St):nth (.int .u32) s.l 6=vw s.g:=rfl
theorem n7(s:St):nth (.int .u32) s.l 7=vw s.h:=rfl
theorem mix.L0.ok:mix.L0.Ok:=by
 refine mix.L0.aK (fun(h,t,n4,n5,n6,n7)=>64 - t.toNat) ?_
 rintro⟨h,t,m4,m5,m6,m7⟩ ⟨s,ws,k,rfl,rfl,hw,hk,rfl,rfl,rfl⟩
 by_cases hlt:k < 64
 ·left
  refine⟨(s.l,((k+1:Nat):Int),m4,wl ws,wc,(rounds ws s (k+1)).l),⟨s,ws,k+1,rfl,rfl,hw,by omega,rfl,rfl,rfl⟩,by simp;omega,rfl,fun kn kx=> ?_⟩
  have e1:b8 .i64 (k:Int) 1=((k+1:Nat):Int):=by rw[fM (by omega) (by omega)];omega
  have e2:Int.toNat (k:Int)=k:=by omega
  have hwl:(wl ws).length=64:=by simp[wl,hw]
  have d0:decide (k < 64)=true:=aW hlt
  have i0:fo (k:Int) 64=true:=bu (by omega) (by omega)
  rw[mix.L0.step,bq (by omega)]
  generalize hv:rounds ws s k=v
  simp only[e1,e2,Nat.mul_one,Nat.zero_add,Nat.add_zero,decide_true,ak,St.Bb,Nat.reduceLT,we,hwl,d0,i0,n0,n1,n2,n3,n4,n5,n6,n7,bS.at,aa,Ba k hlt,El ws k (by omega),mN,rr,Gk,FU,FX,Gj,FV,FW]
  show kn _=kn (mix.L0.st (s.l,((k+1:Nat):Int),m4,wl ws,wc,(Gc (rounds ws s k) (kw k) (ws.getD k 0)).l))
  rw[hv]
  rfl
 ·right
  obtain rfl:k=64:=by omega
  intro R kn kx
  rw[mix.L0.step,bm (by omega)]
  simp only[aw,mix.L0.add,mix.L0.F,y5,kr]
theorem mix.L1.ok:mix.L1.Ok:=by
 refine mix.L1.aK (fun(h,t,n4,n7)=>8 - t.toNat) ?_
 rintro⟨h,t,m4,m7⟩ ⟨hl,k,hk,rfl⟩
 have hl:m7.length=8:=hl
 have e2:Int.toNat (k:Int)=k:=by omega
 have e3:Int.toNat ((k+1:Nat):Int)=k+1:=by omega
 by_cases hlt:k < 8
 ·left
  have e1:b8 .i64 (k:Int) 1=((k+1:Nat):Int):=by rw[fM (by omega) (by omega)];omega
  have hn:nth (.int .u32) m7 k=m7[k]:=cX (t:= .int .u32) (by omega)
  refine⟨(h,((k+1:Nat):Int),m4,m7.set k (b8 .u32 m7[k] (nth (.int .u32) h k))),⟨by simpa using hl,k+1,by omega,rfl⟩,by simp;omega,?_,fun kn kx=> ?_⟩
  ·simp only[mix.L1.add,mix.L1.F,e2,e3]
   rw[tC (fun i x=>b8 .u32 x (nth (.int .u32) h i)) m7 k (by omega)]
  ·have d0:decide (k < 8)=true:=aW hlt
   have i0:fo (k:Int) 8=true:=bu (by omega) (by omega)
   rw[mix.L1.step,bq (by omega)]
   simp only[e1,e2,Nat.mul_one,Nat.zero_add,Nat.add_zero,decide_true,ak,hl,d0,i0,hn]
 ·right
  obtain rfl:k=8:=by omega
  intro R kn kx
  rw[mix.L1.step,bm (by omega)]
  simp only[aw,mix.L1.add,mix.L1.F,e2]
  rw[vV _ _ _ (by omega)]
theorem mix.ok:mix.Ok:=by
 rintro⟨h,b⟩ ⟨⟨s,rfl⟩,hb⟩
 have hs:schedule.az b:=hb
 have hsl:(sched b).length=64:=by unfold sched;rw[oc,iL]
 have hp:mix.L0.az (s.l,0,List.replicate 8 0,wl (sched b),wc,s.l):=⟨s,sched b,0,rfl,rfl,hsl,by omega,rfl,rfl,rfl⟩
 rw[mix.eq,schedule.run hs]
 simp only[aa,table.run (d:=()) trivial,schedule.add,schedule.F,table.add,table.F,mix.L0.run hp,mix.L0.add,mix.L0.F,y5,kr]
 have hp1:mix.L1.az (s.l,0,List.replicate 8 0,(rounds (sched b) s 64).l):=⟨rfl,0,by omega,rfl⟩
 simp only[mix.L1.run hp1,aa,mix.L1.add,mix.L1.F,mix.add,mix.F,kr]
 unfold zO
 generalize rounds (sched b) s 64=v
 obtain⟨a1,b1,c1,d1,f1,g1,h1,i1⟩:=v
 simp only[St.l,from_,List.mapIdx_cons,List.mapIdx_nil,Int.toNat_zero,Nat.not_lt_zero,if_false,Nat.zero_add,Nat.reduceAdd]
 simp only[nth,List.getD_cons_zero,List.getD_cons_succ,rr]
noncomputable def mix.E:=Entry.cM [some (.arr 8 (.int .u32)),some tB] mix.st mix.az mix.add mix.F mix.out
noncomputable def mix.call:mix.D→Option mix.X:=bP mix.E mix.st
theorem mix.run:bK mix.call mix.az mix.add mix.F:=de (cW [.d (.slice (.int .u32)),.d tB] fun _=>by kernel_rfl)
noncomputable def mix.sg:SG Tryz.prog:=⟨202,aV,mix.E,.fn 2 (by kernel_rfl) mix.ok (And.intro (.cM mix.L0.ok (by kernel_rfl)) (And.intro (.cM mix.L1.ok (by kernel_rfl)) trivial))⟩
set_option synthInstance.maxSize 5000
theorem iu(n:Int)(k:Int)(h0:0≤k)(h1:k≤64):dz .u8 (bC .i64 n k)=n / 2^k.toNat%256:=by
 rw[uH,fQ,bC]
 have e:min k.toNat IntKind.i64.bits=k.toNat:=by simp only[IntKind.bits];omega
 rw[e,Int.fdiv_eq_ediv_of_nonneg _ (Int.le_of_lt (Int.pow_pos (by omega)))]
 rfl
theorem lv{n:Nat}(h:n≤140737488355328):dw n 1=true:=eG (by omega) (by omega)
abbrev cg.D:=Bs
def cg.st:cg.D→SA:=fun sv=>([.d tB sv],[])
abbrev cg.Y:=Nat×(List Int)
abbrev cg.X:=Nat×(List Int)
def cg.out:cg.X→aX:=fun x=>⟨.bp (.new 0 0) 0 [] 0 0 x.1,[],[.obj 0 false (.vec 5 tb x.2)]⟩
def cg.add:cg.D→cg.Y→cg.X:=fun sv y=>y
def cg.az:cg.D→Prop:=fun b=>b.length≤140737488355328
def cg.F:cg.D→cg.Y:=fun b=>(b.length,b)
noncomputable def cg.G:dG:=eT (P:=Tryz.prog) []
noncomputable def cg.an:dX:= {bk:=[5],kk:=[⟨2,[],5,140⟩]}
noncomputable def cg.A:= @cR Tryz.prog cg.G cg.an 0 Tryz.f200 _ cg.st
abbrev cg.Ok:=cS @cg.A cg.az cg.add cg.F cg.out
theorem cg.eq{R:Type}(sv:Bs)(k:aX→Option R):cg.A sv k=
  aP (decide (0 < (List.length sv))) (
   aP (dw (0+(List.length sv)) 1) (
   k (cg.out ((0+(List.length sv)),((List.take 0 (List.replicate 0 (0:Int)))++sv)))) none) (
   nd (
    k (cg.out (0,([]:List Int)))) (
    aP (dw (0+(List.length sv)) 1) (
    k (cg.out ((0+(List.length sv)),((List.take 0 (List.replicate 0 (0:Int)))++sv)))) none)):=by kernel_rfl
theorem cg.ok:cg.Ok:=by
 intro b hb
 have hr:dw b.length 1=true:=lv hb
 rw[cg.eq]
 have e0:(List.take 0 (List.replicate 0 0):List Int)=[]:=rfl
 simp only[Nat.zero_add,hr,ak,e0,List.nil_append,cg.add,cg.F]
 by_cases h:0 < b.length
 ·simp only[aW h,ak]
 ·have:b=[]:=List.eq_nil_of_length_eq_zero (by omega)
  subst this
  simp only[List.length_nil,lQ,bw (Nat.lt_irrefl 0),aw]
noncomputable def cg.E:=Entry.cM [some tB] cg.st cg.az cg.add cg.F cg.out
noncomputable def cg.call:cg.D→Option cg.X:=bP cg.E cg.st
theorem cg.run:bK cg.call cg.az cg.add cg.F:=de (cW [.d tB] fun _=>by kernel_rfl)
noncomputable def cg.sg:SG Tryz.prog:=⟨200,aV,cg.E,.fn 0 (by kernel_rfl) cg.ok trivial⟩
abbrev du.D:=Int
def du.st:du.D→SA:=fun n=>([.dv,.d ti n],[])
abbrev du.Y:=Nat×(List Int)
abbrev du.X:=Nat×(List Int)
def du.out:du.X→aX:=fun x=>⟨.bp (.new 0 0) 0 [] 0 0 x.1,[],[.obj 0 false (.vec 5 tb x.2)]⟩
def du.add:du.D→du.Y→du.X:=fun n y=>y
def du.az:du.D→Prop:=fun _=>True
def du.F:du.D→du.Y:=fun n=>(8,kB n)
noncomputable def du.G:dG:=eT (P:=Tryz.prog) []
noncomputable def du.an:dX:= {loops:=l7 [(2,{bn:=[0,1,5],sites:=[16]})],outs:=l6 [(2,{bn:=[0],sites:=[16]},{bn:=[4],sites:=[16]})],kk:=[⟨4,[],16,140⟩]}
noncomputable def du.A:= @cR Tryz.prog du.G du.an 12 Tryz.f143 _ du.st
abbrev du.Ok:=cS @du.A du.az du.add du.F du.out
theorem du.eq{R:Type}(n:Int)(k:aX→Option R):du.A n k=
 k (du.out (8,[(dz .u8 (bC .i64 n (56:Int))),(dz .u8 (bC .i64 n (48:Int))),(dz .u8 (bC .i64 n (40:Int))),(dz .u8 (bC .i64 n (32:Int))),(dz .u8 (bC .i64 n (24:Int))),(dz .u8 (bC .i64 n (16:Int))),(dz .u8 (bC .i64 n (8:Int))),(dz .u8 (bC .i64 n (0:Int)))])):=by kernel_rfl
theorem xl(n:Int): [dz .u8 (bC .i64 n 56),dz .u8 (bC .i64 n 48),dz .u8 (bC .i64 n 40),dz .u8 (bC .i64 n 32),dz .u8 (bC .i64 n 24),dz .u8 (bC .i64 n 16),dz .u8 (bC .i64 n 8),dz .u8 (bC .i64 n 0)]=kB n:=by
 rw[iu n 56 (by omega) (by omega),iu n 48 (by omega) (by omega),iu n 40 (by omega) (by omega),iu n 32 (by omega) (by omega),iu n 24 (by omega) (by omega),iu n 16 (by omega) (by omega),iu n 8 (by omega) (by omega),iu n 0 (by omega) (by omega)]
 simp[kB]
theorem du.ok:du.Ok:=by
 intro n _
 rw[du.eq,xl]
 rfl
noncomputable def du.E:=Entry.cM [none,some ti] du.st du.az du.add du.F du.out
noncomputable def du.call:du.D→Option du.X:=bP du.E du.st
theorem du.run:bK du.call du.az du.add du.F:=de (cW [.d ti] fun _=>by kernel_rfl)
noncomputable def du.sg:SG Tryz.prog:=⟨143,zT,du.E,.fn 1 (by kernel_rfl) du.ok (And.intro (.none (by kernel_rfl)) trivial)⟩
abbrev cJ.D:=Nat×Int×Bs
def cJ.st:cJ.D→SA:=fun(bL,n,o0)=>([.bp (.cG 0) 0 [] 0 0 bL,.d ti n],[.obj 0 false (.vec 5 tb o0)])
abbrev cJ.Y:=Nat×(List Int)
abbrev cJ.X:=Nat×(List Int)
def cJ.out:cJ.X→aX:=fun x=>⟨.bp (.cG 0) 8 [] 0 0 x.1,[.obj 8 false (.vec 5 tb x.2)],[]⟩
def cJ.add:cJ.D→cJ.Y→cJ.X:=fun(bL,n,o0) y=>y
def cJ.az:cJ.D→Prop:=fun(m,n,l)=>m=l.length∧l.length≤140737488355320
def cJ.F:cJ.D→cJ.Y:=fun(m,n,l)=>(l.length+8,l++kB n)
noncomputable def cJ.G:dG:=eT (P:=Tryz.prog) []
noncomputable def cJ.an:dX:= {loops:=l7 [(2,{bn:=[0,1,5],sites:=[16]})],outs:=l6 [(2,{bn:=[0],sites:=[16]},{bn:=[4],sites:=[16]})]}
noncomputable def cJ.A:= @cR Tryz.prog cJ.G cJ.an 12 Tryz.f143 _ cJ.st
abbrev cJ.Ok:=cS @cJ.A cJ.az cJ.add cJ.F cJ.out
theorem cJ.eq{R:Type}(bL:Nat)(n:Int)(o0:Bs)(k:aX→Option R):cJ.A (bL,n,o0) k=
 aP (decide (bL≤(List.length o0))) (
 aP (dw (bL+1) 1) (
 aP (decide ((bL+1)≤(List.length ((List.take bL o0)++ [(dz .u8 (bC .i64 n (56:Int)))])))) (
 aP (dw ((bL+1)+1) 1) (
 aP (decide (((bL+1)+1)≤(List.length ((List.take (bL+1) ((List.take bL o0)++ [(dz .u8 (bC .i64 n (56:Int)))]))++ [(dz .u8 (bC .i64 n (48:Int)))])))) (
 aP (dw (((bL+1)+1)+1) 1) (
 aP (decide ((((bL+1)+1)+1)≤(List.length ((List.take ((bL+1)+1) ((List.take (bL+1) ((List.take bL o0)++ [(dz .u8 (bC .i64 n (56:Int)))]))++ [(dz .u8 (bC .i64 n (48:Int)))]))++ [(dz .u8 (bC .i64 n (40:Int)))])))) (
 aP (dw ((((bL+1)+1)+1)+1) 1) (
 aP (decide (((((bL+1)+1)+1)+1)≤(List.length ((List.take (((bL+1)+1)+1) ((List.take ((bL+1)+1) ((List.take (bL+1) ((List.take bL o0)++ [(dz .u8 (bC .i64 n (56:Int)))]))++ [(dz .u8 (bC .i64 n (48:Int)))]))++ [(dz .u8 (bC .i64 n (40:Int)))]))++ [(dz .u8 (bC .i64 n (32:Int)))])))) (
 aP (dw (((((bL+1)+1)+1)+1)+1) 1) (
 aP (decide ((((((bL+1)+1)+1)+1)+1)≤(List.length ((List.take ((((bL+1)+1)+1)+1) ((List.take (((bL+1)+1)+1) ((List.take ((bL+1)+1) ((List.take (bL+1) ((List.take bL o0)++ [(dz .u8 (bC .i64 n (56:Int)))]))++ [(dz .u8 (bC .i64 n (48:Int)))]))++ [(dz .u8 (bC .i64 n (40:Int)))]))++ [(dz .u8 (bC .i64 n (32:Int)))]))++ [(dz .u8 (bC .i64 n (24:Int)))])))) (
 aP (dw ((((((bL+1)+1)+1)+1)+1)+1) 1) (
 aP (decide (((((((bL+1)+1)+1)+1)+1)+1)≤(List.length ((List.take (((((bL+1)+1)+1)+1)+1) ((List.take ((((bL+1)+1)+1)+1) ((List.take (((bL+1)+1)+1) ((List.take ((bL+1)+1) ((List.take (bL+1) ((List.take bL o0)++ [(dz .u8 (bC .i64 n (56:Int)))]))++ [(dz .u8 (bC .i64 n (48:Int)))]))++ [(dz .u8 (bC .i64 n (40:Int)))]))++ [(dz .u8 (bC .i64 n (32:Int)))]))++ [(dz .u8 (bC .i64 n (24:Int)))]))++ [(dz .u8 (bC .i64 n (16:Int)))])))) (
 aP (dw (((((((bL+1)+1)+1)+1)+1)+1)+1) 1) (
 aP (decide ((((((((bL+1)+1)+1)+1)+1)+1)+1)≤(List.length ((List.take ((((((bL+1)+1)+1)+1)+1)+1) ((List.take (((((bL+1)+1)+1)+1)+1) ((List.take ((((bL+1)+1)+1)+1) ((List.take (((bL+1)+1)+1) ((List.take ((bL+1)+1) ((List.take (bL+1) ((List.take bL o0)++ [(dz .u8 (bC .i64 n (56:Int)))]))++ [(dz .u8 (bC .i64 n (48:Int)))]))++ [(dz .u8 (bC .i64 n (40:Int)))]))++ [(dz .u8 (bC .i64 n (32:Int)))]))++ [(dz .u8 (bC .i64 n (24:Int)))]))++ [(dz .u8 (bC .i64 n (16:Int)))]))++ [(dz .u8 (bC .i64 n (8:Int)))])))) (
 aP (dw ((((((((bL+1)+1)+1)+1)+1)+1)+1)+1) 1) (
 k (cJ.out (((((((((bL+1)+1)+1)+1)+1)+1)+1)+1),((List.take (((((((bL+1)+1)+1)+1)+1)+1)+1) ((List.take ((((((bL+1)+1)+1)+1)+1)+1) ((List.take (((((bL+1)+1)+1)+1)+1) ((List.take ((((bL+1)+1)+1)+1) ((List.take (((bL+1)+1)+1) ((List.take ((bL+1)+1) ((List.take (bL+1) ((List.take bL o0)++ [(dz .u8 (bC .i64 n (56:Int)))]))++ [(dz .u8 (bC .i64 n (48:Int)))]))++ [(dz .u8 (bC .i64 n (40:Int)))]))++ [(dz .u8 (bC .i64 n (32:Int)))]))++ [(dz .u8 (bC .i64 n (24:Int)))]))++ [(dz .u8 (bC .i64 n (16:Int)))]))++ [(dz .u8 (bC .i64 n (8:Int)))]))++ [(dz .u8 (bC .i64 n (0:Int)))])))) none) none) none) none) none) none) none) none) none) none) none) none) none) none) none) none:=by kernel_rfl
theorem cJ.ok:cJ.Ok:=by
 rintro⟨m,n,l⟩ ⟨rfl,hl⟩
 have hl:l.length≤140737488355320:=hl
 rw[cJ.eq]
 simp only[Nat.le_refl,decide_true,ak,List.take_of_length_le,List.length_append,List.length_cons,List.length_nil,Nat.zero_add]
 rw[lv (by omega),lv (by omega),lv (by omega),lv (by omega),lv (by omega),lv (by omega),lv (by omega),lv (by omega)]
 simp only[ak,cJ.add,cJ.F,←xl,List.append_assoc,List.cons_append,List.nil_append]
noncomputable def cJ.E:=Entry.cM [none,some ti] cJ.st cJ.az cJ.add cJ.F cJ.out
noncomputable def cJ.call:cJ.D→Option cJ.X:=bP cJ.E cJ.st
theorem cJ.run:bK cJ.call cJ.az cJ.add cJ.F:=de (cW [.n,.d ti,.d tB] fun _=>by kernel_rfl)
noncomputable def cJ.sg:SG Tryz.prog:=⟨143,tY,cJ.E,.fn 1 (by kernel_rfl) cJ.ok (And.intro (.none (by kernel_rfl)) trivial)⟩
set_option synthInstance.maxSize 5000
abbrev aA.L0.D:=Bs×Nat×Bs×(List Int)
def aA.L0.st:aA.L0.D→AS:=fun(b_2,endL,n2,n14)=>⟨([.d tB b_2,.undef,.ptr (.new 2 0) 0 [] 0,.bp (.new 14 0) 0 [] 0 0 endL]++bl 61 []),[],([[],[],[.obj 0 false (.d tH n2)]]++cj 11 ([[.obj 0 false (.vec 5 tb n14)]]++cj 50 []))⟩
abbrev aA.L0.Y0:=Nat×(List Int)
abbrev aA.L0.X0:=(Bs×Bs)×(Nat×(List Int))
def aA.L0.bE:aA.L0.X0→Exit×AS:=fun x=>(.exit 0,⟨([.d tB x.1.1,.undef,.ptr (.new 2 0) 0 [] 0,.bp (.new 14 0) 0 [] 0 0 x.2.1]++bl 61 []),[],([[],[],[.obj 0 false (.d tH x.1.2)]]++cj 11 ([[.obj 0 false (.vec 5 tb x.2.2)]]++cj 50 []))⟩)
abbrev aA.L0.X:=aA.L0.X0
abbrev aA.L0.Y:=aA.L0.Y0
def aA.L0.out:aA.L0.X→Out (Exit×AS):=fun x=> .ok (aA.L0.bE x)
def aA.L0.add:aA.L0.D→aA.L0.Y→aA.L0.X:=fun(b_2,endL,n2,n14) y=>((b_2,n2),y)
abbrev aA.L1.D:=Bs×Nat×Bs×(List Int)×(List Int)
def aA.L1.st:aA.L1.D→AS:=fun(b_3,endL_2,n2_2,n4,n14_2)=>⟨([.d tB b_3,.undef,.ptr (.new 2 0) 0 [] 0,.bp (.new 14 0) 8 [] 0 0 endL_2,.ptr (.new 4 0) 0 [] 0]++bl 60 []),[],([[],[],[.obj 0 false (.d tH n2_2)],[],[.obj 0 false (.d (.arr 8 (.int .u32)) n4)]]++cj 9 ([[.obj 8 false (.vec 5 tb n14_2)]]++cj 50 []))⟩
abbrev aA.L1.Y0:=(List Int)
abbrev aA.L1.X0:=(Nat×Bs×(List Int))×((List Int))
def aA.L1.bE:aA.L1.X0→Exit×AS:=fun x=>(.exit 2,⟨([.undef,.undef,.ptr (.new 2 0) 0 [] 0,.bp (.new 14 0) 8 [] 0 0 x.1.1,.ptr (.new 4 0) 0 [] 0]++bl 60 []),[],([[],[],[.obj 0 false (.d tH x.1.2.1)],[],[.obj 0 false (.d (.arr 8 (.int .u32)) x.2)]]++cj 9 ([[.obj 8 false (.vec 5 tb x.1.2.2)]]++cj 50 []))⟩)
abbrev aA.L1.X:=aA.L1.X0
abbrev aA.L1.Y:=aA.L1.Y0
def aA.L1.out:aA.L1.X→Out (Exit×AS):=fun x=> .ok (aA.L1.bE x)
def aA.L1.add:aA.L1.D→aA.L1.Y→aA.L1.X:=fun(b_3,endL_2,n2_2,n4,n14_2) y=>((endL_2,n2_2,n14_2),y)
abbrev aA.L2.D:=Bs×Bs×(List Int)
def aA.L2.st:aA.L2.D→AS:=fun(endv,n2_3,n4_2)=>⟨([.undef,.undef,.ptr (.new 2 0) 0 [] 0,.d tB endv,.ptr (.new 4 0) 0 [] 0]++bl 60 []),[],([[],[],[.obj 0 false (.d tH n2_3)],[],[.obj 0 false (.d (.arr 8 (.int .u32)) n4_2)]]++cj 60 [])⟩
abbrev aA.L2.Y0:=(List Int)
abbrev aA.L2.X0:=(Bs)×((List Int))
def aA.L2.bE:aA.L2.X0→Exit×AS:=fun x=>(.exit 4,⟨([.undef,.undef,.ptr (.new 2 0) 0 [] 0,.undef,.ptr (.new 4 0) 0 [] 0]++bl 60 []),[],([[],[],[.obj 0 false (.d tH x.1)],[],[.obj 0 false (.d (.arr 8 (.int .u32)) x.2)]]++cj 60 [])⟩)
abbrev aA.L2.X:=aA.L2.X0
abbrev aA.L2.Y:=aA.L2.Y0
def aA.L2.out:aA.L2.X→Out (Exit×AS):=fun x=> .ok (aA.L2.bE x)
def aA.L2.add:aA.L2.D→aA.L2.Y→aA.L2.X:=fun(endv,n2_3,n4_2) y=>(n2_3,y)
abbrev aA.L3.D:=Int×Bs×(List Int)
def aA.L3.st:aA.L3.D→AS:=fun(t48,n2_4,n4_3)=>⟨([.undef,.undef,.ptr (.new 2 0) 0 [] 0,.undef,.ptr (.new 4 0) 0 [] 0]++bl 43 ([.d ti t48]++bl 16 [])),[],([[],[],[.obj 0 false (.d tH n2_4)],[],[.obj 0 false (.d (.arr 8 (.int .u32)) n4_3)]]++cj 60 [])⟩
abbrev aA.L3.Y0:=Bs
abbrev aA.L3.X0:=Bs
def aA.L3.bE:aA.L3.X0→Exit×AS:=fun x=>(.exit 6,⟨([.undef,.undef,.ptr (.new 2 0) 0 [] 0]++bl 62 []),[],([[],[],[.obj 0 false (.d tH x)]]++cj 62 [])⟩)
abbrev aA.L3.X:=aA.L3.X0
abbrev aA.L3.Y:=aA.L3.Y0
def aA.L3.out:aA.L3.X→Out (Exit×AS):=fun x=> .ok (aA.L3.bE x)
def aA.L3.add:aA.L3.D→aA.L3.Y→aA.L3.X:=fun(t48,n2_4,n4_3) y=>y
abbrev aA.D:=Bs
def aA.st:aA.D→SA:=fun b=>([.d tB b],[])
abbrev aA.Y:=Bs
abbrev aA.X:=Bs
def aA.out:aA.X→aX:=fun x=>⟨.d tH x,[],[]⟩
def aA.add:aA.D→aA.Y→aA.X:=fun b y=>y
def zc(n:Nat):Nat:=(120 - n%64)%64
def aA.L0.az:aA.L0.D→Prop:=fun(b,m,n2,l)=>m=l.length∧l.length+zc l.length≤140737488355328
def aA.L0.F:aA.L0.D→aA.L0.Y:=fun(b,m,n2,l)=>(l.length+zc l.length,l++List.replicate (zc l.length) 0)
def aA.L1.az:aA.L1.D→Prop:=fun(b,m,n2,h,l)=>∃s:St,h=s.l
def aA.L1.F:aA.L1.D→aA.L1.Y:=fun(b,m,n2,h,l)=>(blocks (Ai h) b).l
def aA.L2.az:aA.L2.D→Prop:=fun(b,n2,h)=>b.length%64=0∧∃s:St,h=s.l
def aA.L2.F:aA.L2.D→aA.L2.Y:=fun(b,n2,h)=>(blocks (Ai h) b).l
def tp(h:List Int)(i:Nat)(_:Int):Int:=dz .u8 (bC .u32 (nth (.int .u32) h (i / 4)) ((24 - 8*(i%4):Nat):Int))
def aA.L3.az:aA.L3.D→Prop:=fun(t,n2,h)=>n2.length=32∧h.length=8∧∃k:Nat,k≤32∧t=k
def aA.L3.F:aA.L3.D→aA.L3.Y:=fun(t,n2,h)=>from_ (tp h) t.toNat n2
def aA.az:aA.D→Prop:=fun b=>b.length≤140737488350000
def aA.F:aA.D→aA.Y:=fun b=>Ex b
noncomputable def aA.G:dG:=eT (P:=Tryz.prog) [cg.sg,cJ.sg,first.sg,mix.sg]
noncomputable def aA.L0.E:=bW.cM aA.L0.st aA.L0.az aA.L0.add aA.L0.F aA.L0.out
noncomputable def aA.L0.call:aA.L0.D→Option aA.L0.X:=dF aA.L0.E aA.L0.st
noncomputable def aA.L1.E:=bW.cM aA.L1.st aA.L1.az aA.L1.add aA.L1.F aA.L1.out
noncomputable def aA.L1.call:aA.L1.D→Option aA.L1.X:=dF aA.L1.E aA.L1.st
noncomputable def aA.L2.E:=bW.cM aA.L2.st aA.L2.az aA.L2.add aA.L2.F aA.L2.out
noncomputable def aA.L2.call:aA.L2.D→Option aA.L2.X:=dF aA.L2.E aA.L2.st
noncomputable def aA.L3.E:=bW.cM aA.L3.st aA.L3.az aA.L3.add aA.L3.F aA.L3.out
noncomputable def aA.L3.call:aA.L3.D→Option aA.L3.X:=dF aA.L3.E aA.L3.st
noncomputable def aA.an:dX:= {loops:=l7 [(2,{bn:=[0,2,3],sites:=[2,14],kk:=[⟨3,[],14,140⟩]}),(6,{bn:=[0,2,3,4],sites:=[2,4,14]}),(9,{bn:=[2,3,4],sites:=[2,4],data:=[(3,tB)]}),(13,{bn:=[2,4,48],sites:=[2,4]})],outs:=l6 [(2,{bn:=[0,2,3],sites:=[2,14]},{bn:=[2]}),(6,{bn:=[2,3,4],sites:=[2,4,14]},{bn:=[2]}),(9,{bn:=[2,4],sites:=[2,4]},{bn:=[2]}),(13,{bn:=[2],sites:=[2]},{bn:=[2]})],fK:=mU [(2,aA.L0.E),(6,aA.L1.E),(9,aA.L2.E),(13,aA.L3.E)]}
noncomputable def aA.A:= @cR Tryz.prog aA.G aA.an 0 Tryz.f144 _ aA.st
abbrev aA.Ok:=cS @aA.A aA.az aA.add aA.F aA.out
noncomputable def aA.L0.R:= @cz Tryz.prog aA.G aA.an 0 Tryz.f144 0 _ aA.L0.st
abbrev aA.L0.Ok:=eK Tryz.prog aA.G aA.an 0 Tryz.f144 0 aA.L0.st aA.L0.az aA.L0.add aA.L0.F aA.L0.out
noncomputable def aA.L1.R:= @cz Tryz.prog aA.G aA.an 0 Tryz.f144 1 _ aA.L1.st
abbrev aA.L1.Ok:=eK Tryz.prog aA.G aA.an 0 Tryz.f144 1 aA.L1.st aA.L1.az aA.L1.add aA.L1.F aA.L1.out
noncomputable def aA.L2.R:= @cz Tryz.prog aA.G aA.an 0 Tryz.f144 2 _ aA.L2.st
abbrev aA.L2.Ok:=eK Tryz.prog aA.G aA.an 0 Tryz.f144 2 aA.L2.st aA.L2.az aA.L2.add aA.L2.F aA.L2.out
noncomputable def aA.L3.R:= @cz Tryz.prog aA.G aA.an 0 Tryz.f144 3 _ aA.L3.st
abbrev aA.L3.Ok:=eK Tryz.prog aA.G aA.an 0 Tryz.f144 3 aA.L3.st aA.L3.az aA.L3.add aA.L3.F aA.L3.out
theorem aA.L0.run:bK aA.L0.call aA.L0.az aA.L0.add aA.L0.F:=eU (eQ [.d tB,.n,.d tB,.d tB] fun _=>by kernel_rfl)
theorem aA.L0.aK:fZ @aA.L0.R aA.L0.st aA.L0.az aA.L0.add aA.L0.F aA.L0.bE aA.L0.Ok:=gv
theorem aA.L0.step{R:Type}(b_2:Bs)(endL:Nat)(n2:Bs)(n14:(List Int))(kn:AS→Option R)(kx:Exit→AS→Option R):aA.L0.R (b_2,endL,n2,n14) kn kx=
  aP ((tJ (jZ ((endL:Nat):Int) (64:Int)) (56:Int))) (
   aP (decide (endL≤(List.length n14))) (
   aP (dw (endL+1) 1) (
   kn (aA.L0.st (b_2,(endL+1),n2,((List.take endL n14)++ [(0:Int)])))) none) none) (
   kx (aA.L0.bE ((b_2,n2),(endL,n14))).1 (aA.L0.bE ((b_2,n2),(endL,n14))).2):=by kernel_rfl
theorem aA.L1.run:bK aA.L1.call aA.L1.az aA.L1.add aA.L1.F:=eU (eQ [.d tB,.n,.d tB,.d (.slice (.int .u32)),.d tB] fun _=>by kernel_rfl)
theorem aA.L1.aK:fZ @aA.L1.R aA.L1.st aA.L1.az aA.L1.add aA.L1.F aA.L1.bE aA.L1.Ok:=gv
theorem aA.L1.step{R:Type}(b_3:Bs)(endL_2:Nat)(n2_2:Bs)(n4:(List Int))(n14_2:(List Int))(kn:AS→Option R)(kx:Exit→AS→Option R):aA.L1.R (b_3,endL_2,n2_2,n4,n14_2) kn kx=
  aP ((nf (((List.length b_3):Nat):Int) (64:Int))) (
   aP (inc (64:Int) (((List.length b_3):Nat):Int)) (
   au (mix.call (n4,(cut b_3 0 64))) fun x1=>
   aP (inc (64:Int) (((List.length b_3):Nat):Int)) (
   kn (aA.L1.st ((cut b_3 64 ((List.length b_3) - 64)),endL_2,n2_2,x1,n14_2))) none) none) (
   kx (aA.L1.bE ((endL_2,n2_2,n14_2),n4)).1 (aA.L1.bE ((endL_2,n2_2,n14_2),n4)).2):=by kernel_rfl
theorem aA.L2.run:bK aA.L2.call aA.L2.az aA.L2.add aA.L2.F:=eU (eQ [.d tB,.d tB,.d (.slice (.int .u32))] fun _=>by kernel_rfl)
theorem aA.L2.aK:fZ @aA.L2.R aA.L2.st aA.L2.az aA.L2.add aA.L2.F aA.L2.bE aA.L2.Ok:=gv
theorem aA.L2.step{R:Type}(endv:Bs)(n2_3:Bs)(n4_2:(List Int))(kn:AS→Option R)(kx:Exit→AS→Option R):aA.L2.R (endv,n2_3,n4_2) kn kx=
  aP ((pZ (((List.length endv):Nat):Int) (0:Int))) (
   aP (inc (64:Int) (((List.length endv):Nat):Int)) (
   au (mix.call (n4_2,(cut endv 0 64))) fun x1=>
   aP (inc (64:Int) (((List.length endv):Nat):Int)) (
   kn (aA.L2.st ((cut endv 64 ((List.length endv) - 64)),n2_3,x1))) none) none) (
   kx (aA.L2.bE (n2_3,n4_2)).1 (aA.L2.bE (n2_3,n4_2)).2):=by kernel_rfl
theorem aA.L3.run:bK aA.L3.call aA.L3.az aA.L3.add aA.L3.F:=eU (eQ [.d ti,.d tB,.d (.slice (.int .u32))] fun _=>by kernel_rfl)
theorem aA.L3.aK:fZ @aA.L3.R aA.L3.st aA.L3.az aA.L3.add aA.L3.F aA.L3.bE aA.L3.Ok:=gv
theorem aA.L3.step{R:Type}(t48:Int)(n2_4:Bs)(n4_3:(List Int))(kn:AS→Option R)(kx:Exit→AS→Option R):aA.L3.R (t48,n2_4,n4_3) kn kx=
  aP ((gE t48 (32:Int))) (
   aP (fo (kT .i64 t48 (4:Int)) (8:Int)) (
   aP (decide ((Int.toNat (kT .i64 t48 (4:Int))) < (List.length n4_3))) (
   aP (decide ((((Int.toNat (kT .i64 t48 (4:Int)))*1)+0)=(0+((Int.toNat (kT .i64 t48 (4:Int)))*1)))) (
   aP (iD (cI .i64 (24:Int) (ff .i64 (8:Int) (jZ t48 (4:Int))))) (
   aP (fo t48 (32:Int)) (
   aP (decide ((Int.toNat t48) < (List.length n2_4))) (
   aP (decide ((((Int.toNat t48)*1)+0)=(0+((Int.toNat t48)*1)))) (
   aP (decide ((Int.toNat t48) < (List.length n2_4))) (
   kn (aA.L3.st ((b8 .i64 t48 (1:Int)),(List.set n2_4 (Int.toNat t48) (dz .u8 (bC .u32 (nth (.int .u32) n4_3 (Int.toNat (kT .i64 t48 (4:Int)))) (cI .i64 (24:Int) (ff .i64 (8:Int) (jZ t48 (4:Int))))))),n4_3))) none) none) none) none) none) none) none) none) (
   kx (aA.L3.bE n2_4).1 (aA.L3.bE n2_4).2):=by kernel_rfl
theorem aA.eq{R:Type}(b:Bs)(k:aX→Option R):aA.A b k=
 aP (inc (cI .i64 (((List.length b):Nat):Int) (jZ (((List.length b):Nat):Int) (64:Int))) (((List.length b):Nat):Int)) (
 au (cg.call (cut b (Int.toNat (cI .i64 (((List.length b):Nat):Int) (jZ (((List.length b):Nat):Int) (64:Int)))) ((List.length b) - (Int.toNat (cI .i64 (((List.length b):Nat):Int) (jZ (((List.length b):Nat):Int) (64:Int))))))) fun x1=>
 aP (decide (x1.1≤(List.length x1.2))) (
 aP (dw (x1.1+1) 1) (
 au (aA.L0.call (b,(x1.1+1),(List.replicate 32 (0:Int)),((List.take x1.1 x1.2)++ [(128:Int)]))) fun x2=>
 au (cJ.call (x2.2.1,(ff .i64 (8:Int) (((List.length x2.1.1):Nat):Int)),x2.2.2)) fun x3=>
 au (first.call ()) fun x4=>
 au (aA.L1.call (x2.1.1,x3.1,x2.1.2,x4,x3.2)) fun x6=>
 aP (decide (0=0∧(0+x6.1.1)≤(List.length x6.1.2.2))) (
 au (aA.L2.call ((cut x6.1.2.2 0 x6.1.1),x6.1.2.1,x6.2)) fun x9=>
 au (aA.L3.call ((0:Int),x9.1,x9.2)) fun x10=>
 k (aA.out x10)) none) none) none) none:=by kernel_rfl
theorem aA.L0.ok:aA.L0.Ok:=by
 refine aA.L0.aK (fun(b,m,n2,l)=>zc l.length) ?_
 rintro⟨b,m,n2,l⟩ ⟨rfl,hl⟩
 have hl:l.length+zc l.length≤140737488355328:=hl
 have hr:jZ ((l.length:Nat):Int) 64=((l.length%64:Nat):Int):=by
  unfold jZ
  rw[Int.tmod_eq_emod_of_nonneg (by omega)]
  omega
 by_cases h:l.length%64=56
 ·right
  intro R kn kx
  have hz:zc l.length=0:=by unfold zc;omega
  rw[aA.L0.step,hr,eY (by omega)]
  simp only[aw,aA.L0.add,aA.L0.F,hz,Nat.add_zero,List.replicate_zero,List.append_nil]
 ·left
  have hz:zc l.length=zc (l.length+1)+1:=by unfold zc;omega
  refine⟨(b,l.length+1,n2,l++ [0]),⟨by simp,by simp only[List.length_append,List.length_cons,List.length_nil,Nat.zero_add];omega⟩,by simp only[List.length_append,List.length_cons,List.length_nil,Nat.zero_add];omega,?_,fun kn kx=> ?_⟩
  ·simp only[aA.L0.add,aA.L0.F,List.length_append,List.length_cons,List.length_nil,Nat.zero_add,hz,List.append_assoc,List.cons_append,List.nil_append,List.replicate_succ]
   rw[show l.length+1+zc (l.length+1)=l.length+(zc (l.length+1)+1) by omega]
  ·rw[aA.L0.step,hr,gh (by omega),lv (by omega)]
   simp only[ak,Nat.le_refl,decide_true,List.take_length]
theorem aA.L1.ok:aA.L1.Ok:=by
 refine aA.L1.aK (fun(b,m,n2,h,l)=>b.length) ?_
 rintro⟨b,m,n2,h,l⟩ ⟨s,rfl⟩
 by_cases hb:64≤b.length
 ·left
  have e1:cut b 64 (b.length - 64)=b.drop 64:=by unfold cut;rw[List.take_of_length_le (by simp)]
  have e2:cut b 0 64=b.take 64:=rfl
  have hp:mix.az (s.l,b.take 64):=⟨⟨s,rfl⟩,by simp;omega⟩
  refine⟨(b.drop 64,m,n2,(zO s (b.take 64)).l,l),⟨_,rfl⟩,by simp;omega,?_,fun kn kx=> ?_⟩
  ·simp only[aA.L1.add,aA.L1.F,kr]
   rw[pV s b hb]
  ·rw[aA.L1.step,fi (by omega),lp (by omega) (by omega),e1,e2]
   simp only[ak,mix.run hp,aa,mix.add,mix.F,kr]
 ·right
  intro R kn kx
  rw[aA.L1.step,eh (by omega)]
  simp only[aw,aA.L1.add,aA.L1.F,kr]
  rw[nD s b (by omega)]
theorem aA.L2.ok:aA.L2.Ok:=by
 refine aA.L2.aK (fun(b,n2,h)=>b.length) ?_
 rintro⟨b,n2,h⟩ ⟨hm,s,rfl⟩
 have hm:b.length%64=0:=hm
 by_cases hb:0 < b.length
 ·left
  have e1:cut b 64 (b.length - 64)=b.drop 64:=by unfold cut;rw[List.take_of_length_le (by simp)]
  have e2:cut b 0 64=b.take 64:=rfl
  have hp:mix.az (s.l,b.take 64):=⟨⟨s,rfl⟩,by simp;omega⟩
  refine⟨(b.drop 64,n2,(zO s (b.take 64)).l),⟨by simp;omega,_,rfl⟩,by simp;omega,?_,fun kn kx=> ?_⟩
  ·simp only[aA.L2.add,aA.L2.F,kr]
   rw[pV s b (by omega)]
  ·rw[aA.L2.step,dZ (by omega),lp (by omega) (by omega),e1,e2]
   simp only[ak,mix.run hp,aa,mix.add,mix.F,kr]
 ·right
  intro R kn kx
  rw[aA.L2.step,dS (by omega)]
  simp only[aw,aA.L2.add,aA.L2.F,kr]
  rw[nD s b (by omega)]
theorem aA.L3.ok:aA.L3.Ok:=by
 refine aA.L3.aK (fun(t,n2,h)=>32 - t.toNat) ?_
 rintro⟨t,m,h⟩ ⟨hl,h8,k,hk,rfl⟩
 have hl:m.length=32:=hl
 have h8:h.length=8:=h8
 have e2:Int.toNat (k:Int)=k:=by omega
 have e3:Int.toNat ((k+1:Nat):Int)=k+1:=by omega
 by_cases hlt:k < 32
 ·left
  have e1:b8 .i64 (k:Int) 1=((k+1:Nat):Int):=by rw[fM (by omega) (by omega)];omega
  have q4:kT .i64 (k:Int) 4=((k / 4:Nat):Int):=by
   have:(k:Int).tdiv 4=((k / 4:Nat):Int):=by rw[Int.tdiv_eq_ediv_of_nonneg (by omega)];omega
   unfold kT
   rw[this,kg (by omega) (by omega)]
  have r4:jZ (k:Int) 4=((k%4:Nat):Int):=by
   unfold jZ
   rw[Int.tmod_eq_emod_of_nonneg (by omega)]
   omega
  have s4:cI .i64 24 (ff .i64 8 ((k%4:Nat):Int))=((24 - 8*(k%4):Nat):Int):=by
   rw[oE (by omega) (by omega),dT (by omega) (by omega)]
   omega
  have e4:Int.toNat ((k / 4:Nat):Int)=k / 4:=by omega
  refine⟨(((k+1:Nat):Int),m.set k (tp h k m[k]),h),⟨by simpa using hl,h8,k+1,by omega,rfl⟩,by simp;omega,?_,fun kn kx=> ?_⟩
  ·simp only[aA.L3.add,aA.L3.F,e2,e3]
   rw[tC (tp h) m k (by omega)]
  ·have d0:decide (k < 32)=true:=aW hlt
   have d1:decide (k / 4 < 8)=true:=aW (by omega)
   rw[aA.L3.step,bq (by omega),q4,r4,s4,bu (by omega) (by omega),bu (by omega) (by omega),kJ (by omega)]
   simp only[e1,e2,e4,Nat.mul_one,Nat.zero_add,Nat.add_zero,decide_true,ak,hl,h8,d0,d1,tp]
 ·right
  obtain rfl:k=32:=by omega
  intro R kn kx
  rw[aA.L3.step,bm (by omega)]
  simp only[aw,aA.L3.add,aA.L3.F,e2]
  rw[vV _ _ _ (by omega)]
theorem zW(w:W):BitVec.ofInt 8 (vw w)=w.setWidth 8:=by
 apply BitVec.eq_of_toNat_eq
 rw[BitVec.toNat_ofInt,BitVec.toNat_setWidth]
 unfold vw
 omega
theorem Dy(w:W)(k:Int):dz .u8 (bC .u32 (vw w) k)=vw ((w >>> k.toNat).setWidth 8):=by
 rw[rF,uH,zW]
theorem CN(s:St):from_ (tp s.l) 0 (List.replicate 32 0)=CM s:=by
 rw[rj]
 simp only[List.range_eq_range',List.range',List.map_cons,List.map_nil,tp,Nat.reduceAdd,Nat.reduceDiv,Nat.reduceMod,Nat.reduceMul,Nat.reduceSub,n0,n1,n2,n3,n4,n5,n6,n7,Dy]
 rfl
theorem aA.ok:aA.Ok:=by
 intro b hb
 have hb:b.length≤140737488350000:=hb
 have hr:jZ ((b.length:Nat):Int) 64=((b.length%64:Nat):Int):=by
  unfold jZ
  rw[Int.tmod_eq_emod_of_nonneg (by omega)]
  omega
 have hs:cI .i64 ((b.length:Nat):Int) ((b.length%64:Nat):Int)=((b.length - b.length%64:Nat):Int):=by
  rw[dT (by omega) (by omega)];omega
 have hn:Int.toNat ((b.length - b.length%64:Nat):Int)=b.length - b.length%64:=by omega
 have hm:ff .i64 8 ((b.length:Nat):Int)=8*(b.length:Int):=oE (by omega) (by omega)
 generalize hq:b.length - b.length%64=q at hs hn
 have hc:cut b q (b.length - q)=b.drop q:=by unfold cut;rw[List.take_of_length_le (by simp)]
 have hcl:(b.drop q).length=b.length%64:=by simp;omega
 have p1:cg.az (b.drop q):=by show(b.drop q).length≤_;omega
 rw[aA.eq,hr,hs,lp (by omega) (by omega),hn,hc]
 simp only[ak,cg.run p1,aa,cg.add,cg.F,Nat.le_refl,decide_true,List.take_length]
 have p2:aA.L0.az (b,(b.drop q).length+1,List.replicate 32 0,b.drop q++ [128]):=by
  refine⟨by simp,?_⟩
  simp only[List.length_append,List.length_cons,List.length_nil,zc]
  omega
 have hz:zc (b.drop q++ [128]).length=oR b.length:=by
  simp only[List.length_append,List.length_cons,List.length_nil,zc,oR]
  omega
 rw[lv (by omega)]
 simp only[ak,aA.L0.run p2,aa,aA.L0.add,aA.L0.F,hm,hz]
 have hlen:(b.drop q++ [128]).length+oR b.length=(b.drop q++ [128]++List.replicate (oR b.length) 0).length:=by rw[@List.length_append _ (b.drop q++ [128]),List.length_replicate]
 have p3:cJ.az ((b.drop q++ [128]).length+oR b.length,8*(b.length:Int),b.drop q++ [128]++List.replicate (oR b.length) 0):=by
  refine⟨hlen,?_⟩
  simp only[List.length_append,List.length_cons,List.length_nil,List.length_replicate,oR]
  omega
 have p4:aA.L1.az (b,(b.drop q++ [128]++List.replicate (oR b.length) 0).length+8,List.replicate 32 0,kf.l,b.drop q++ [128]++List.replicate (oR b.length) 0++kB (8*(b.length:Int))):=⟨kf,rfl⟩
 simp only[cJ.run p3,aa,cJ.add,cJ.F,first.run (d:=()) trivial,first.add,first.F,aA.L1.run p4,aA.L1.add,aA.L1.F,kr]
 generalize he:b.drop q++ [128]++List.replicate (oR b.length) 0++kB (8*(b.length:Int))=e
 have hel:(b.drop q++ [128]++List.replicate (oR b.length) 0).length+8=e.length:=by rw[←he,@List.length_append _ _ (kB _),df]
 have hem:e.length%64=0:=by
  rw[←hel]
  simp only[List.length_append,List.length_cons,List.length_nil,List.length_replicate,oR,hcl]
  omega
 have hce:cut e 0 ((b.drop q++ [128]++List.replicate (oR b.length) 0).length+8)=e:=by
  rw[hel];unfold cut;rw[List.drop_zero,List.take_length]
 rw[hce,hel,aW ⟨trivial,by omega⟩]
 have p5:aA.L2.az (e,List.replicate 32 0,(blocks kf b).l):=⟨hem,blocks kf b,rfl⟩
 have p6:aA.L3.az (0,List.replicate 32 0,(blocks (blocks kf b) e).l):=⟨rfl,rfl,0,by omega,rfl⟩
 simp only[ak,aA.L2.run p5,aa,aA.L2.add,aA.L2.F,kr,aA.L3.run p6,aA.L3.add,aA.L3.F,aA.add,aA.F]
 rw[show Int.toNat 0=0 from rfl,CN]
 have hbl:blocks kf (pad b)=blocks (blocks kf b) e:=by
  have h1:pad b=b.take q++e:=by
   rw[←he]
   unfold pad
   rw[List.append_assoc,List.append_assoc,←List.append_assoc (b.take q),List.take_append_drop]
   rfl
  have h2:blocks kf b=blocks (blocks kf (b.take q)) (b.drop q):=by
   rw[←np _ _ _ (by simp;omega),List.take_append_drop]
  rw[h1,np _ _ _ (by simp;omega),h2,nD _ (b.drop q) (by omega)]
 rw[Ex,hbl]
noncomputable def aA.E:=Entry.cM [some tB] aA.st aA.az aA.add aA.F aA.out
noncomputable def aA.call:aA.D→Option aA.X:=bP aA.E aA.st
theorem aA.run:bK aA.call aA.az aA.add aA.F:=de (cW [.d tB] fun _=>by kernel_rfl)
noncomputable def aA.sg:SG Tryz.prog:=⟨144,aV,aA.E,.fn 4 (by kernel_rfl) aA.ok (And.intro (.cM aA.L0.ok (by kernel_rfl)) (And.intro (.cM aA.L1.ok (by kernel_rfl)) (And.intro (.cM aA.L2.ok (by kernel_rfl)) (And.intro (.cM aA.L3.ok (by kernel_rfl)) trivial))))⟩
set_option synthInstance.maxSize 5000
abbrev bF.L0.D:=Nat×(List Bs)×Int×Int×Bs×(List Int)
def bF.L0.st:bF.L0.D→AS:=fun(bL,t13,t14,t15,n4,n10)=>⟨(bl 4 ([.ptr (.new 4 0) 0 [] 0,.bp (.new 10 0) 0 [] 0 0 bL]++bl 7 ([.d (.slice tB) t13,.d ti t14,.d ti t15]++bl 12 []))),[],(cj 4 ([[.obj 0 false (.d tH n4)]]++cj 5 ([[.obj 0 false (.vec 5 tb n10)]]++cj 17 [])))⟩
abbrev bF.L0.Y0:=Nat×(List Int)
abbrev bF.L0.X0:=(Bs)×(Nat×(List Int))
def bF.L0.bE:bF.L0.X0→Exit×AS:=fun x=>(.exit 0,⟨(bl 4 ([.ptr (.new 4 0) 0 [] 0,.bp (.new 10 0) 0 [] 0 0 x.2.1]++bl 22 [])),[],(cj 4 ([[.obj 0 false (.d tH x.1)]]++cj 5 ([[.obj 0 false (.vec 5 tb x.2.2)]]++cj 17 [])))⟩)
abbrev bF.L0.X:=bF.L0.X0
abbrev bF.L0.Y:=bF.L0.Y0
def bF.L0.out:bF.L0.X→Out (Exit×AS):=fun x=> .ok (bF.L0.bE x)
def bF.L0.add:bF.L0.D→bF.L0.Y→bF.L0.X:=fun(bL,t13,t14,t15,n4,n10) y=>(n4,y)
abbrev bF.D:=ByteArray×(List Bs)
def bF.st:bF.D→SA:=fun(name,parts)=>([.d .str name,.d (.slice tB) parts],[])
abbrev bF.Y:=Bs
abbrev bF.X:=Bs
def bF.out:bF.X→aX:=fun x=>⟨.d tH x,[],[]⟩
def bF.add:bF.D→bF.Y→bF.X:=fun(name,parts) y=>y
def bF.L0.az:bF.L0.D→Prop:=fun(m,ps,n,i,n4,l)=>m=l.length∧n=ps.length∧ps.length≤140737488350000∧∃k:Nat,k≤ps.length∧i=k∧l.length+(j5 (ps.drop k)).length≤140737488350000
def bF.L0.F:bF.L0.D→bF.L0.Y:=fun(m,ps,n,i,n4,l)=>(l.length+(j5 (ps.drop i.toNat)).length,l++j5 (ps.drop i.toNat))
def bF.az:bF.D→Prop:=fun(name,ps)=>(tc (bt name) ps).length≤140737488350000
def bF.F:bF.D→bF.Y:=fun(name,ps)=>tag (bt name) ps
noncomputable def bF.G:dG:=eT (P:=Tryz.prog) [du.sg,cJ.sg,aA.sg]
noncomputable def bF.L0.E:=bW.cM bF.L0.st bF.L0.az bF.L0.add bF.L0.F bF.L0.out
noncomputable def bF.L0.call:bF.L0.D→Option bF.L0.X:=dF bF.L0.E bF.L0.st
noncomputable def bF.an:dX:= {loops:=l7 [(3,{bn:=[4,5,13,14,15],sites:=[4,10],kk:=[⟨5,[],10,140⟩]})],outs:=l6 [(3,{bn:=[4,5],sites:=[4,10]},{bn:=[4]})],fK:=mU [(3,bF.L0.E)]}
noncomputable def bF.A:= @cR Tryz.prog bF.G bF.an 0 Tryz.f72 _ bF.st
abbrev bF.Ok:=cS @bF.A bF.az bF.add bF.F bF.out
noncomputable def bF.L0.R:= @cz Tryz.prog bF.G bF.an 0 Tryz.f72 0 _ bF.L0.st
abbrev bF.L0.Ok:=eK Tryz.prog bF.G bF.an 0 Tryz.f72 0 bF.L0.st bF.L0.az bF.L0.add bF.L0.F bF.L0.out
theorem bF.L0.run:bK bF.L0.call bF.L0.az bF.L0.add bF.L0.F:=eU (eQ [.n,.d (.slice tB),.d ti,.d ti,.d tB,.d tB] fun _=>by kernel_rfl)
theorem bF.L0.aK:fZ @bF.L0.R bF.L0.st bF.L0.az bF.L0.add bF.L0.F bF.L0.bE bF.L0.Ok:=gv
theorem bF.L0.step{R:Type}(bL:Nat)(t13:(List Bs))(t14:Int)(t15:Int)(n4:Bs)(n10:(List Int))(kn:AS→Option R)(kx:Exit→AS→Option R):bF.L0.R (bL,t13,t14,t15,n4,n10) kn kx=
  aP ((gE t15 t14)) (
   aP (fo t15 (((List.length t13):Nat):Int)) (
   au (cJ.call (bL,(((List.length (nth tB t13 (Int.toNat t15))):Nat):Int),n10)) fun x1=>
   aP (decide (x1.1≤(List.length x1.2))) (
   aP (dw (x1.1+(List.length (nth tB t13 (Int.toNat t15)))) 1) (
   kn (bF.L0.st ((x1.1+(List.length (nth tB t13 (Int.toNat t15)))),t13,t14,(b8 .i64 t15 (1:Int)),n4,((List.take x1.1 x1.2)++(nth tB t13 (Int.toNat t15)))))) none) none) none) (
   kx (bF.L0.bE (n4,(bL,n10))).1 (bF.L0.bE (n4,(bL,n10))).2):=by kernel_rfl
theorem bF.eq{R:Type}(name:ByteArray)(parts:(List Bs))(k:aX→Option R):bF.A (name,parts) k=
 au (du.call (((ByteArray.size name):Nat):Int)) fun x1=>
 aP (decide (x1.1≤(List.length x1.2))) (
 aP (dw (x1.1+(List.length (bt name))) 1) (
 au (bF.L0.call ((x1.1+(List.length (bt name))),parts,(((List.length parts):Nat):Int),(0:Int),(List.replicate 32 (0:Int)),((List.take x1.1 x1.2)++(bt name)))) fun x4=>
 aP (decide (0=0∧(0+x4.2.1)≤(List.length x4.2.2))) (
 au (aA.call (cut x4.2.2 0 x4.2.1)) fun x5=>
 k (bF.out x5)) none) none) none:=by kernel_rfl
theorem ua(p:List Int)(ps:List (List Int)):j5 (p::ps)=kB p.length++p++j5 ps:=by simp[j5]
theorem Ag(ps:List (List Int))(k:Nat)(h:k < ps.length):j5 (ps.drop k)=kB ps[k].length++ps[k]++j5 (ps.drop (k+1)):=by
 rw[List.drop_eq_getElem_cons h,ua]
theorem bF.L0.ok:bF.L0.Ok:=by
 refine bF.L0.aK (fun(m,ps,n,i,n4,l)=>ps.length - i.toNat) ?_
 rintro⟨m,ps,n,i,n4,l⟩ ⟨rfl,rfl,hpl,k,hk,rfl,hl⟩
 have hl:l.length+(j5 (ps.drop k)).length≤140737488350000:=hl
 have hk:k≤ps.length:=hk
 have e2:Int.toNat (k:Int)=k:=by omega
 have e3:Int.toNat ((k+1:Nat):Int)=k+1:=by omega
 by_cases h:k < ps.length
 ·left
  have ht:=Ag ps k h
  have hlen:(j5 (ps.drop k)).length=8+ps[k].length+(j5 (ps.drop (k+1))).length:=by rw[ht];simp only[List.length_append,df]
  have hn:nth (.slice (.int .u8)) ps k=ps[k]:=cX (t:= .slice (.int .u8)) h
  have hpl:ps.length≤140737488350000:=hpl
  have e1:b8 .i64 (k:Int) 1=((k+1:Nat):Int):=by rw[fM (by omega) (by omega)];omega
  refine⟨((l++kB ps[k].length++ps[k]).length,ps,(ps.length:Int),((k+1:Nat):Int),n4,l++kB ps[k].length++ps[k]),⟨rfl,rfl,hpl,k+1,by show k+1≤ps.length;omega,rfl,?_⟩,?_,?_,fun kn kx=> ?_⟩
  ·show(l++kB ps[k].length++ps[k]).length+(j5 (ps.drop (k+1))).length≤_
   simp only[List.length_append,df];omega
  ·show ps.length - Int.toNat ((k+1:Nat):Int) < ps.length - Int.toNat (k:Int)
   omega
  ·simp only[bF.L0.add,bF.L0.F,e2,e3,ht,List.append_assoc]
   simp only[List.length_append,df,Nat.add_assoc]
  ·have p1:cJ.az (l.length,(ps[k].length:Int),l):=⟨rfl,by show l.length≤_;omega⟩
   rw[bF.L0.step,bq (by omega),bu (by omega) (by omega),e1,e2]
   simp only[ak,hn,cJ.run p1,aa,cJ.add,cJ.F]
   have hlb:(l++kB ps[k].length).length=l.length+8:=by simp[df]
   rw[hlb,aW (Nat.le_refl _),lv (by omega)]
   simp only[ak]
   rw[List.take_of_length_le (by rw[hlb];omega)]
   simp only[List.length_append,df,Nat.add_assoc]
 ·right
  obtain rfl:k=ps.length:=by omega
  intro R kn kx
  rw[bF.L0.step,bm (by omega)]
  simp only[aw,bF.L0.add,bF.L0.F,e2,List.drop_length]
  simp[j5]
theorem wZ:∀ps:List (List Int),8*ps.length≤(j5 ps).length
 |[]=>by simp[j5]
 |p::ps=>by
  rw[ua]
  have:=wZ ps
  simp only[List.length_append,df,List.length_cons]
  omega
theorem fX(s:ByteArray):(bt s).length=s.size:=by simp only[bt,List.length_map,Array.length_toList];rfl
theorem bF.ok:bF.Ok:=by
 rintro⟨name,ps⟩ hp
 have hp:(kB (bt name).length++bt name++j5 ps).length≤140737488350000:=hp
 have hl:(kB (bt name).length++bt name++j5 ps).length=8+(bt name).length+(j5 ps).length:=by simp only[List.length_append,df]
 have hpl:=wZ ps
 have hsz:((name.size:Nat):Int)=(((bt name).length:Nat):Int):=by rw[fX]
 rw[bF.eq,du.run (d:=((name.size:Nat):Int)) trivial,hsz]
 simp only[aa,du.add,du.F,df,Nat.le_refl,decide_true,ak]
 rw[lv (by omega),List.take_of_length_le (by rw[df];omega)]
 have p2:bF.L0.az (8+(bt name).length,ps,(ps.length:Int),0,List.replicate 32 0,kB ((bt name).length:Int)++bt name):=by
  refine⟨by simp only[List.length_append,df],rfl,by show ps.length≤_;omega,0,Nat.zero_le _,rfl,?_⟩
  rw[List.drop_zero]
  simp only[List.length_append,df]
  omega
 simp only[ak,bF.L0.run p2,aa,bF.L0.add,bF.L0.F,Int.toNat_zero,List.drop_zero]
 have hcut:cut (kB ((bt name).length:Int)++bt name++j5 ps) 0 ((kB ((bt name).length:Int)++bt name).length+(j5 ps).length)=tc (bt name) ps:=by
  unfold cut
  rw[List.drop_zero,List.take_of_length_le (by simp only[List.length_append];omega)]
  rfl
 have p3:aA.az (tc (bt name) ps):=hp
 rw[aW ⟨trivial,by simp only[List.length_append];omega⟩,hcut]
 simp only[ak,aA.run p3,aa,aA.add,aA.F,bF.add,bF.F,tag]
noncomputable def bF.E:=Entry.cM [some .str,some (.slice tB)] bF.st bF.az bF.add bF.F bF.out
noncomputable def bF.call:bF.D→Option bF.X:=bP bF.E bF.st
theorem bF.run:bK bF.call bF.az bF.add bF.F:=de (cW [.d .str,.d (.slice tB)] fun _=>by kernel_rfl)
noncomputable def bF.sg:SG Tryz.prog:=⟨72,aV,bF.E,.fn 1 (by kernel_rfl) bF.ok (And.intro (.cM bF.L0.ok (by kernel_rfl)) trivial)⟩
set_option synthInstance.maxSize 5000
set_option synthInstance.maxSize 5000
set_option synthInstance.maxSize 5000
set_option synthInstance.maxSize 5000
set_option synthInstance.maxSize 5000
theorem pk{n:Int}(h1:0≤n)(h2:n < 18446744073709551616):IntKind.u64.wrap n=n:=by
 rw[wrap_u64,fQ];omega
theorem pj(n:Int):IntKind.u64.wrap n=n%18446744073709551616:=by
 rw[wrap_u64,fQ];rfl
theorem jX(x y:Int):b8 .u64 x y=(x+y)%18446744073709551616:=pj _
theorem qE(x y:Int):cI .u64 x y=(x - y)%18446744073709551616:=pj _
theorem jY(x y:Int):ff .u64 x y=(x*y)%18446744073709551616:=pj _
theorem A2(x:Int):dz .u64 x=x%18446744073709551616:=pj _
theorem vz{x:Int}(h:0≤x)(h2:x < 18446744073709551616):cQ .and .u64 x 4294967295=x%4294967296:=by
 obtain⟨n,rfl⟩:∃n:Nat,x=n:=⟨x.toNat,by omega⟩
 have e:(BitVec.ofInt 64 (n:Int) &&& BitVec.ofInt 64 4294967295).toNat=n%4294967296:=by
  rw[BitVec.toNat_and]
  have a:(BitVec.ofInt 64 (n:Int)).toNat=n:=by rw[BitVec.ofInt_natCast,BitVec.toNat_ofNat];omega
  have b:(BitVec.ofInt 64 4294967295).toNat=2^32 - 1:=by decide
  rw[a,b,Nat.and_two_pow_sub_one_eq_mod]
 show IntKind.u64.wrap ((BitVec.ofInt 64 (n:Int) &&& BitVec.ofInt 64 4294967295).toNat:Int)=_
 rw[e,pk (by omega) (by omega)];omega
theorem FB{x:Int}(h:0≤x)(h2:x < 18446744073709551616):cQ .and .u64 x 1=x%2:=by
 obtain⟨n,rfl⟩:∃n:Nat,x=n:=⟨x.toNat,by omega⟩
 have e:(BitVec.ofInt 64 (n:Int) &&& BitVec.ofInt 64 1).toNat=n%2:=by
  rw[BitVec.toNat_and]
  have a:(BitVec.ofInt 64 (n:Int)).toNat=n:=by rw[BitVec.ofInt_natCast,BitVec.toNat_ofNat];omega
  have b:(BitVec.ofInt 64 1).toNat=2^1 - 1:=by decide
  rw[a,b,Nat.and_two_pow_sub_one_eq_mod]
 show IntKind.u64.wrap ((BitVec.ofInt 64 (n:Int) &&& BitVec.ofInt 64 1).toNat:Int)=_
 rw[e,pk (by omega) (by omega)];omega
theorem j4{x k:Int}(n:Nat)(hk:k=n)(hn:n≤64):bC .u64 x k=x / 2^n:=by
 subst hk
 rw[bC]
 have e:min (Int.toNat (n:Int)) IntKind.u64.bits=n:=by simp only[IntKind.bits];omega
 rw[e,Int.fdiv_eq_ediv_of_nonneg _ (Int.le_of_lt (Int.pow_pos (by omega)))]
theorem jj{x k:Int}(n:Nat)(hk:k=n)(hn:n≤64):iM .u64 x k=x*2^n%18446744073709551616:=by
 subst hk
 rw[iM,pj]
 have e:min (Int.toNat (n:Int)) IntKind.u64.bits=n:=by simp only[IntKind.bits];omega
 rw[e]
theorem oQ{x y:Int}(k:Nat)(m:Int)(hm:m=2^k)(hx:x%m=0)(h0:0≤x)(h1:x < 18446744073709551616)(hy:0≤y)(hy2:y < m)(h2:x+y < 18446744073709551616):cQ .or .u64 x y=x+y:=by
 subst hm
 obtain⟨n,rfl⟩:∃n:Nat,x=n:=⟨x.toNat,by omega⟩
 obtain⟨j,rfl⟩:∃j:Nat,y=j:=⟨y.toNat,by omega⟩
 have hx:n%2^k=0:=by
  have:((n%2^k:Nat):Int)=0:=by rw[Int.natCast_emod];simpa using hx
  omega
 have hj:j < 2^k:=by
  have:((j:Nat):Int) < ((2^k:Nat):Int):=by simpa using hy2
  omega
 obtain⟨q,rfl⟩:∃q,n=2^k*q:=⟨n / 2^k,by have:=Nat.div_add_mod n (2^k);omega⟩
 have e:(BitVec.ofInt 64 ((2^k*q:Nat):Int) ||| BitVec.ofInt 64 (j:Int)).toNat=2^k*q+j:=by
  rw[BitVec.toNat_or]
  have a:(BitVec.ofInt 64 ((2^k*q:Nat):Int)).toNat=2^k*q:=by rw[BitVec.ofInt_natCast,BitVec.toNat_ofNat];exact Nat.mod_eq_of_lt (by omega)
  have b:(BitVec.ofInt 64 (j:Int)).toNat=j:=by rw[BitVec.ofInt_natCast,BitVec.toNat_ofNat];exact Nat.mod_eq_of_lt (by omega)
  rw[a,b,Nat.two_pow_add_eq_or_of_lt hj]
 show IntKind.u64.wrap ((BitVec.ofInt 64 ((2^k*q:Nat):Int) ||| BitVec.ofInt 64 (j:Int)).toNat:Int)=_
 rw[e,pk (by omega) (by omega)];omega
theorem yJ{x y:Int}(h:0≤x)(h1:0≤y)(h2:x < 18446744073709551616):kT .u64 x y=x / y:=by
 rw[kT,Int.tdiv_eq_ediv_of_nonneg h]
 exact pk (Int.ediv_nonneg h h1) (Int.lt_of_le_of_lt (Int.ediv_le_self _ h) h2)
theorem mQ{x y:Int}(h:0≤x):jZ x y=x%y:=by rw[jZ,Int.tmod_eq_emod_of_nonneg h]
theorem k1{e u w r q:Int}(he:e=42260∨e=42264∨e=42272)(hu:0≤u)(hu2:u < 18446744073709551616 - e)(hw:0≤w)(hw2:w < 4294967296)(hr:0≤r)(hr2:r < 4294967296)
  (hq:q*4294967295+r=u) (hQ:(u*4294967296+w) / (18446744073709551616 - e)≤q):
  (4294967296≤q→(u*4294967296+w) / (18446744073709551616 - e)≤q - 1)∧
  (q < 4294967296→4294967296*r+w < q*(4294967296 - e)→(u*4294967296+w) / (18446744073709551616 - e)≤q - 1)∧
  (q < 4294967296→q*(4294967296 - e)≤4294967296*r+w→(u*4294967296+w) / (18446744073709551616 - e)=q)∧
  (4294967296≤r+4294967295→(u*4294967296+w) / (18446744073709551616 - e)≤q - 1→(u*4294967296+w) / (18446744073709551616 - e)=q - 1)∧0≤(u*4294967296+w) / (18446744073709551616 - e)∧q≤4294967297:=by
 rcases he with rfl | rfl | rfl
 ·refine⟨?_,?_,?_,?_,?_,?_⟩ <;> omega
 ·refine⟨?_,?_,?_,?_,?_,?_⟩ <;> omega
 ·refine⟨?_,?_,?_,?_,?_,?_⟩ <;> omega
theorem k0{e u w:Int}(he:e=42260∨e=42264∨e=42272)(hu:0≤u)(hu2:u < 18446744073709551616 - e)(hw:0≤w)(hw2:w < 4294967296):
  (u*4294967296+w) / (18446744073709551616 - e)≤u / 4294967295∧0≤u - u / 4294967295*4294967295∧u - u / 4294967295*4294967295 < 4294967296∧
  (u*4294967296+w) - (u*4294967296+w) / (18446744073709551616 - e)*(18446744073709551616 - e)=(u*4294967296+w)%(18446744073709551616 - e)∧
  0≤(u*4294967296+w)%(18446744073709551616 - e)∧(u*4294967296+w)%(18446744073709551616 - e) < 18446744073709551616 - e∧
  0≤(u*4294967296+w) / (18446744073709551616 - e)∧(u*4294967296+w) / (18446744073709551616 - e) < 4294967296:=by
 rcases he with rfl | rfl | rfl
 ·refine⟨?_,?_,?_,?_,?_,?_,?_,?_⟩ <;> omega
 ·refine⟨?_,?_,?_,?_,?_,?_,?_,?_⟩ <;> omega
 ·refine⟨?_,?_,?_,?_,?_,?_,?_,?_⟩ <;> omega
theorem kd(Y u w1 w0:Int)(hY:0 < Y)(h0:0≤w0)(h1:w0 < 4294967296):
  ((u*4294967296+w1)*4294967296+w0) / Y=(u*4294967296+w1) / Y*4294967296+((u*4294967296+w1)%Y*4294967296+w0) / Y∧
  ((u*4294967296+w1)*4294967296+w0)%Y=((u*4294967296+w1)%Y*4294967296+w0)%Y:=by
 generalize u*4294967296+w1=n
 have e:n*4294967296+w0=(n%Y*4294967296+w0)+Y*(n / Y*4294967296):=by
  have:=Int.emod_add_mul_ediv n Y
  have h:Y*(n / Y*4294967296)=(Y*(n / Y))*4294967296:=by rw[Int.mul_assoc]
  rw[h];omega
 rw[e,Int.add_mul_ediv_left _ _ (by omega),Int.add_mul_emod_self_left]
 exact⟨by omega,rfl⟩
abbrev cV.D:=Int
def cV.st:cV.D→SA:=fun x=>([.d tu x],[])
abbrev cV.Y:=Int
abbrev cV.X:=Int
def cV.out:cV.X→aX:=fun x=>⟨.d ti x,[],[]⟩
def cV.add:cV.D→cV.Y→cV.X:=fun x y=>y
def EW(y:Int):Prop:=y=4611686018427377339∨y=2305843009213688669∨y=2305843009213688668
def cV.az:cV.D→Prop:=EW
def cV.F:cV.D→cV.Y:=fun y=>if y=4611686018427377339 then 62 else 61
noncomputable def cV.G:dG:=eT (P:=Tryz.prog) []
noncomputable def cV.an:dX:= {}
noncomputable def cV.A:= @cR Tryz.prog cV.G cV.an 0 Tryz.f215 _ cV.st
abbrev cV.Ok:=cS @cV.A cV.az cV.add cV.F cV.out
theorem cV.eq{R:Type}(x:Int)(k:aX→Option R):cV.A x k=
  aP ((nf x (4294967296:Int))) (
   aP ((nf (bC .u64 x (32:Int)) (65536:Int))) (
    aP ((nf (bC .u64 (bC .u64 x (32:Int)) (16:Int)) (256:Int))) (
     aP (fo (dz .u8 (bC .u64 (bC .u64 (bC .u64 x (32:Int)) (16:Int)) (8:Int))) (256:Int)) (
     k (cV.out (b8 .i64 (56:Int) (dz .i64 (wQ (⟨#[0,1,2,2,3,3,3,3,4,4,4,4,4,4,4,4,5,5,5,5,5,5,5,5,5,5,5,5,5,5,5,5,6,6,6,6,6,6,6,6,6,6,6,6,6,6,6,6,6,6,6,6,6,6,6,6,6,6,6,6,6,6,6,6,7,7,7,7,7,7,7,7,7,7,7,7,7,7,7,7,7,7,7,7,7,7,7,7,7,7,7,7,7,7,7,7,7,7,7,7,7,7,7,7,7,7,7,7,7,7,7,7,7,7,7,7,7,7,7,7,7,7,7,7,7,7,7,7,8,8,8,8,8,8,8,8,8,8,8,8,8,8,8,8,8,8,8,8,8,8,8,8,8,8,8,8,8,8,8,8,8,8,8,8,8,8,8,8,8,8,8,8,8,8,8,8,8,8,8,8,8,8,8,8,8,8,8,8,8,8,8,8,8,8,8,8,8,8,8,8,8,8,8,8,8,8,8,8,8,8,8,8,8,8,8,8,8,8,8,8,8,8,8,8,8,8,8,8,8,8,8,8,8,8,8,8,8,8,8,8,8,8,8,8,8,8,8,8,8,8,8,8,8,8,8,8]⟩:ByteArray) (dz .u8 (bC .u64 (bC .u64 (bC .u64 x (32:Int)) (16:Int)) (8:Int)))))))) none) (
     aP (fo (dz .u8 (bC .u64 (bC .u64 x (32:Int)) (16:Int))) (256:Int)) (
     k (cV.out (b8 .i64 (48:Int) (dz .i64 (wQ (⟨#[0,1,2,2,3,3,3,3,4,4,4,4,4,4,4,4,5,5,5,5,5,5,5,5,5,5,5,5,5,5,5,5,6,6,6,6,6,6,6,6,6,6,6,6,6,6,6,6,6,6,6,6,6,6,6,6,6,6,6,6,6,6,6,6,7,7,7,7,7,7,7,7,7,7,7,7,7,7,7,7,7,7,7,7,7,7,7,7,7,7,7,7,7,7,7,7,7,7,7,7,7,7,7,7,7,7,7,7,7,7,7,7,7,7,7,7,7,7,7,7,7,7,7,7,7,7,7,7,8,8,8,8,8,8,8,8,8,8,8,8,8,8,8,8,8,8,8,8,8,8,8,8,8,8,8,8,8,8,8,8,8,8,8,8,8,8,8,8,8,8,8,8,8,8,8,8,8,8,8,8,8,8,8,8,8,8,8,8,8,8,8,8,8,8,8,8,8,8,8,8,8,8,8,8,8,8,8,8,8,8,8,8,8,8,8,8,8,8,8,8,8,8,8,8,8,8,8,8,8,8,8,8,8,8,8,8,8,8,8,8,8,8,8,8,8,8,8,8,8,8,8,8,8,8,8,8]⟩:ByteArray) (dz .u8 (bC .u64 (bC .u64 x (32:Int)) (16:Int)))))))) none)) (
    aP ((nf (bC .u64 x (32:Int)) (256:Int))) (
     aP (fo (dz .u8 (bC .u64 (bC .u64 x (32:Int)) (8:Int))) (256:Int)) (
     k (cV.out (b8 .i64 (40:Int) (dz .i64 (wQ (⟨#[0,1,2,2,3,3,3,3,4,4,4,4,4,4,4,4,5,5,5,5,5,5,5,5,5,5,5,5,5,5,5,5,6,6,6,6,6,6,6,6,6,6,6,6,6,6,6,6,6,6,6,6,6,6,6,6,6,6,6,6,6,6,6,6,7,7,7,7,7,7,7,7,7,7,7,7,7,7,7,7,7,7,7,7,7,7,7,7,7,7,7,7,7,7,7,7,7,7,7,7,7,7,7,7,7,7,7,7,7,7,7,7,7,7,7,7,7,7,7,7,7,7,7,7,7,7,7,7,8,8,8,8,8,8,8,8,8,8,8,8,8,8,8,8,8,8,8,8,8,8,8,8,8,8,8,8,8,8,8,8,8,8,8,8,8,8,8,8,8,8,8,8,8,8,8,8,8,8,8,8,8,8,8,8,8,8,8,8,8,8,8,8,8,8,8,8,8,8,8,8,8,8,8,8,8,8,8,8,8,8,8,8,8,8,8,8,8,8,8,8,8,8,8,8,8,8,8,8,8,8,8,8,8,8,8,8,8,8,8,8,8,8,8,8,8,8,8,8,8,8,8,8,8,8,8,8]⟩:ByteArray) (dz .u8 (bC .u64 (bC .u64 x (32:Int)) (8:Int)))))))) none) (
     aP (fo (dz .u8 (bC .u64 x (32:Int))) (256:Int)) (
     k (cV.out (b8 .i64 (32:Int) (dz .i64 (wQ (⟨#[0,1,2,2,3,3,3,3,4,4,4,4,4,4,4,4,5,5,5,5,5,5,5,5,5,5,5,5,5,5,5,5,6,6,6,6,6,6,6,6,6,6,6,6,6,6,6,6,6,6,6,6,6,6,6,6,6,6,6,6,6,6,6,6,7,7,7,7,7,7,7,7,7,7,7,7,7,7,7,7,7,7,7,7,7,7,7,7,7,7,7,7,7,7,7,7,7,7,7,7,7,7,7,7,7,7,7,7,7,7,7,7,7,7,7,7,7,7,7,7,7,7,7,7,7,7,7,7,8,8,8,8,8,8,8,8,8,8,8,8,8,8,8,8,8,8,8,8,8,8,8,8,8,8,8,8,8,8,8,8,8,8,8,8,8,8,8,8,8,8,8,8,8,8,8,8,8,8,8,8,8,8,8,8,8,8,8,8,8,8,8,8,8,8,8,8,8,8,8,8,8,8,8,8,8,8,8,8,8,8,8,8,8,8,8,8,8,8,8,8,8,8,8,8,8,8,8,8,8,8,8,8,8,8,8,8,8,8,8,8,8,8,8,8,8,8,8,8,8,8,8,8,8,8,8,8]⟩:ByteArray) (dz .u8 (bC .u64 x (32:Int)))))))) none))) (
   aP ((nf x (65536:Int))) (
    aP ((nf (bC .u64 x (16:Int)) (256:Int))) (
     aP (fo (dz .u8 (bC .u64 (bC .u64 x (16:Int)) (8:Int))) (256:Int)) (
     k (cV.out (b8 .i64 (24:Int) (dz .i64 (wQ (⟨#[0,1,2,2,3,3,3,3,4,4,4,4,4,4,4,4,5,5,5,5,5,5,5,5,5,5,5,5,5,5,5,5,6,6,6,6,6,6,6,6,6,6,6,6,6,6,6,6,6,6,6,6,6,6,6,6,6,6,6,6,6,6,6,6,7,7,7,7,7,7,7,7,7,7,7,7,7,7,7,7,7,7,7,7,7,7,7,7,7,7,7,7,7,7,7,7,7,7,7,7,7,7,7,7,7,7,7,7,7,7,7,7,7,7,7,7,7,7,7,7,7,7,7,7,7,7,7,7,8,8,8,8,8,8,8,8,8,8,8,8,8,8,8,8,8,8,8,8,8,8,8,8,8,8,8,8,8,8,8,8,8,8,8,8,8,8,8,8,8,8,8,8,8,8,8,8,8,8,8,8,8,8,8,8,8,8,8,8,8,8,8,8,8,8,8,8,8,8,8,8,8,8,8,8,8,8,8,8,8,8,8,8,8,8,8,8,8,8,8,8,8,8,8,8,8,8,8,8,8,8,8,8,8,8,8,8,8,8,8,8,8,8,8,8,8,8,8,8,8,8,8,8,8,8,8,8]⟩:ByteArray) (dz .u8 (bC .u64 (bC .u64 x (16:Int)) (8:Int)))))))) none) (
     aP (fo (dz .u8 (bC .u64 x (16:Int))) (256:Int)) (
     k (cV.out (b8 .i64 (16:Int) (dz .i64 (wQ (⟨#[0,1,2,2,3,3,3,3,4,4,4,4,4,4,4,4,5,5,5,5,5,5,5,5,5,5,5,5,5,5,5,5,6,6,6,6,6,6,6,6,6,6,6,6,6,6,6,6,6,6,6,6,6,6,6,6,6,6,6,6,6,6,6,6,7,7,7,7,7,7,7,7,7,7,7,7,7,7,7,7,7,7,7,7,7,7,7,7,7,7,7,7,7,7,7,7,7,7,7,7,7,7,7,7,7,7,7,7,7,7,7,7,7,7,7,7,7,7,7,7,7,7,7,7,7,7,7,7,8,8,8,8,8,8,8,8,8,8,8,8,8,8,8,8,8,8,8,8,8,8,8,8,8,8,8,8,8,8,8,8,8,8,8,8,8,8,8,8,8,8,8,8,8,8,8,8,8,8,8,8,8,8,8,8,8,8,8,8,8,8,8,8,8,8,8,8,8,8,8,8,8,8,8,8,8,8,8,8,8,8,8,8,8,8,8,8,8,8,8,8,8,8,8,8,8,8,8,8,8,8,8,8,8,8,8,8,8,8,8,8,8,8,8,8,8,8,8,8,8,8,8,8,8,8,8,8]⟩:ByteArray) (dz .u8 (bC .u64 x (16:Int)))))))) none)) (
    aP ((nf x (256:Int))) (
     aP (fo (dz .u8 (bC .u64 x (8:Int))) (256:Int)) (
     k (cV.out (b8 .i64 (8:Int) (dz .i64 (wQ (⟨#[0,1,2,2,3,3,3,3,4,4,4,4,4,4,4,4,5,5,5,5,5,5,5,5,5,5,5,5,5,5,5,5,6,6,6,6,6,6,6,6,6,6,6,6,6,6,6,6,6,6,6,6,6,6,6,6,6,6,6,6,6,6,6,6,7,7,7,7,7,7,7,7,7,7,7,7,7,7,7,7,7,7,7,7,7,7,7,7,7,7,7,7,7,7,7,7,7,7,7,7,7,7,7,7,7,7,7,7,7,7,7,7,7,7,7,7,7,7,7,7,7,7,7,7,7,7,7,7,8,8,8,8,8,8,8,8,8,8,8,8,8,8,8,8,8,8,8,8,8,8,8,8,8,8,8,8,8,8,8,8,8,8,8,8,8,8,8,8,8,8,8,8,8,8,8,8,8,8,8,8,8,8,8,8,8,8,8,8,8,8,8,8,8,8,8,8,8,8,8,8,8,8,8,8,8,8,8,8,8,8,8,8,8,8,8,8,8,8,8,8,8,8,8,8,8,8,8,8,8,8,8,8,8,8,8,8,8,8,8,8,8,8,8,8,8,8,8,8,8,8,8,8,8,8,8,8]⟩:ByteArray) (dz .u8 (bC .u64 x (8:Int)))))))) none) (
     aP (fo (dz .u8 x) (256:Int)) (
     k (cV.out (b8 .i64 (0:Int) (dz .i64 (wQ (⟨#[0,1,2,2,3,3,3,3,4,4,4,4,4,4,4,4,5,5,5,5,5,5,5,5,5,5,5,5,5,5,5,5,6,6,6,6,6,6,6,6,6,6,6,6,6,6,6,6,6,6,6,6,6,6,6,6,6,6,6,6,6,6,6,6,7,7,7,7,7,7,7,7,7,7,7,7,7,7,7,7,7,7,7,7,7,7,7,7,7,7,7,7,7,7,7,7,7,7,7,7,7,7,7,7,7,7,7,7,7,7,7,7,7,7,7,7,7,7,7,7,7,7,7,7,7,7,7,7,8,8,8,8,8,8,8,8,8,8,8,8,8,8,8,8,8,8,8,8,8,8,8,8,8,8,8,8,8,8,8,8,8,8,8,8,8,8,8,8,8,8,8,8,8,8,8,8,8,8,8,8,8,8,8,8,8,8,8,8,8,8,8,8,8,8,8,8,8,8,8,8,8,8,8,8,8,8,8,8,8,8,8,8,8,8,8,8,8,8,8,8,8,8,8,8,8,8,8,8,8,8,8,8,8,8,8,8,8,8,8,8,8,8,8,8,8,8,8,8,8,8,8,8,8,8,8,8]⟩:ByteArray) (dz .u8 x)))))) none))):=by kernel_rfl
theorem cV.ok:cV.Ok:=by
 intro y h
 rw[cV.eq]
 obtain rfl | rfl | rfl:=h <;> kernel_rfl
noncomputable def cV.E:=Entry.cM [some tu] cV.st cV.az cV.add cV.F cV.out
noncomputable def cV.call:cV.D→Option cV.X:=bP cV.E cV.st
theorem cV.run:bK cV.call cV.az cV.add cV.F:=de (cW [.d tu] fun _=>by kernel_rfl)
noncomputable def cV.sg:SG Tryz.prog:=⟨215,aV,cV.E,.fn 0 (by kernel_rfl) cV.ok trivial⟩
abbrev ew.D:=Int
def ew.st:ew.D→SA:=fun x=>([.d tu x],[])
abbrev ew.Y:=Int
abbrev ew.X:=Int
def ew.out:ew.X→aX:=fun x=>⟨.d ti x,[],[]⟩
def ew.add:ew.D→ew.Y→ew.X:=fun x y=>y
def ew.az:ew.D→Prop:=EW
def ew.F:ew.D→ew.Y:=fun y=>if y=4611686018427377339 then 2 else 3
noncomputable def ew.G:dG:=eT (P:=Tryz.prog) [cV.sg]
noncomputable def ew.an:dX:= {}
noncomputable def ew.A:= @cR Tryz.prog ew.G ew.an 0 Tryz.f276 _ ew.st
abbrev ew.Ok:=cS @ew.A ew.az ew.add ew.F ew.out
theorem ew.eq{R:Type}(x:Int)(k:aX→Option R):ew.A x k=
 au (cV.call x) fun x1=>
 k (ew.out (cI .i64 (64:Int) x1)):=by kernel_rfl
theorem ew.ok:ew.Ok:=by
 intro y h
 rw[ew.eq,cV.run (d:=y) h]
 obtain rfl | rfl | rfl:=h <;> rfl
noncomputable def ew.E:=Entry.cM [some tu] ew.st ew.az ew.add ew.F ew.out
noncomputable def ew.call:ew.D→Option ew.X:=bP ew.E ew.st
theorem ew.run:bK ew.call ew.az ew.add ew.F:=de (cW [.d tu] fun _=>by kernel_rfl)
noncomputable def ew.sg:SG Tryz.prog:=⟨276,aV,ew.E,.fn 0 (by kernel_rfl) ew.ok trivial⟩
set_option synthInstance.maxSize 5000
abbrev aG.L0.D:=Int×Int×Int×Int×Int×Int×Int×Int×Int
def aG.L0.st:aG.L0.D→AS:=fun(yv_2,sv,yn1,yn0,un32,un1,un0,q1,rhat)=>⟨([.undef,.undef,.d tu yv_2]++bl 5 ([.d tu sv,.d tu yn1,.d tu yn0,.d tu un32,.undef,.d tu un1,.d tu un0,.d tu q1,.d tu rhat]++bl 118 [])),[],(List.replicate 135 [])⟩
abbrev aG.L0.Y0:=Int
abbrev aG.L0.X0:=(Int×Int×Int×Int×Int×Int×Int)×(Int)
def aG.L0.bE:aG.L0.X0→Exit×AS:=fun x=>(.exit 0,⟨([.undef,.undef,.d tu x.1.1]++bl 5 ([.d tu x.1.2.1,.d tu x.1.2.2.1,.d tu x.1.2.2.2.1,.d tu x.1.2.2.2.2.1,.undef,.d tu x.1.2.2.2.2.2.1,.d tu x.1.2.2.2.2.2.2,.d tu x.2]++bl 119 [])),[],(List.replicate 135 [])⟩)
abbrev aG.L0.X:=aG.L0.X0
abbrev aG.L0.Y:=aG.L0.Y0
def aG.L0.out:aG.L0.X→Out (Exit×AS):=fun x=> .ok (aG.L0.bE x)
def aG.L0.add:aG.L0.D→aG.L0.Y→aG.L0.X:=fun(yv_2,sv,yn1,yn0,un32,un1,un0,q1,rhat) y=>((yv_2,sv,yn1,yn0,un32,un1,un0),y)
abbrev aG.L1.D:=Int×Int×Int×Int×Int×Int×Int×Int×Int
def aG.L1.st:aG.L1.D→AS:=fun(yv_3,sv_2,yn1_2,yn0_2,un0_2,q1_2,rhat_2,un21,q0)=>⟨([.undef,.undef,.d tu yv_3]++bl 5 ([.d tu sv_2,.d tu yn1_2,.d tu yn0_2,.undef,.undef,.undef,.d tu un0_2,.d tu q1_2,.d tu rhat_2,.d tu un21,.d tu q0]++bl 116 [])),[],(List.replicate 135 [])⟩
abbrev aG.L1.Y0:=Int
abbrev aG.L1.X0:=(Int×Int×Int×Int×Int)×(Int)
def aG.L1.bE:aG.L1.X0→Exit×AS:=fun x=>(.exit 2,⟨([.undef,.undef,.d tu x.1.1]++bl 5 ([.d tu x.1.2.1]++bl 5 ([.d tu x.1.2.2.1,.d tu x.1.2.2.2.1,.undef,.d tu x.1.2.2.2.2,.d tu x.2]++bl 116 []))),[],(List.replicate 135 [])⟩)
abbrev aG.L1.X:=aG.L1.X0
abbrev aG.L1.Y:=aG.L1.Y0
def aG.L1.out:aG.L1.X→Out (Exit×AS):=fun x=> .ok (aG.L1.bE x)
def aG.L1.add:aG.L1.D→aG.L1.Y→aG.L1.X:=fun(yv_3,sv_2,yn1_2,yn0_2,un0_2,q1_2,rhat_2,un21,q0) y=>((yv_3,sv_2,un0_2,q1_2,un21),y)
abbrev aG.D:=Int×Int×Int
def aG.st:aG.D→SA:=fun(hi,lo,yv)=>([.d tu hi,.d tu lo,.d tu yv],[])
abbrev aG.Y:=Int×Int
abbrev aG.X:=Int×Int
def aG.out:aG.X→aX:=fun x=>⟨.cons (.d tu x.1) (.cons (.d tu x.2) (.nil)),[],[]⟩
def aG.add:aG.D→aG.Y→aG.X:=fun(hi,lo,yv) y=>y
def aG.L0.az:aG.L0.D→Prop:=fun(y,sv,yn1,yn0,u,w,un0,q,r)=>∃e:Int,(e=42260∨e=42264∨e=42272)∧y=18446744073709551616 - e∧yn1=4294967295∧yn0=4294967296 - e∧0≤u∧u < 18446744073709551616 - e∧0≤w∧w < 4294967296∧0≤r∧r < 4294967296∧q*4294967295+r=u∧(u*4294967296+w) / (18446744073709551616 - e)≤q
def aG.L0.F:aG.L0.D→aG.L0.Y:=fun(y,sv,yn1,yn0,u,w,un0,q,r)=>(u*4294967296+w) / y
def aG.L1.az:aG.L1.D→Prop:=fun(y,sv,yn1,yn0,w,q1,r,u,q)=>∃e:Int,(e=42260∨e=42264∨e=42272)∧y=18446744073709551616 - e∧yn1=4294967295∧yn0=4294967296 - e∧0≤u∧u < 18446744073709551616 - e∧0≤w∧w < 4294967296∧0≤r∧r < 4294967296∧q*4294967295+r=u∧(u*4294967296+w) / (18446744073709551616 - e)≤q
def aG.L1.F:aG.L1.D→aG.L1.Y:=fun(y,sv,yn1,yn0,w,q1,r,u,q)=>(u*4294967296+w) / y
def aG.az:aG.D→Prop:=fun(hi,lo,y)=>EW y∧0≤hi∧hi < y∧0≤lo∧lo < 18446744073709551616
def aG.F:aG.D→aG.Y:=fun(hi,lo,y)=>((hi*18446744073709551616+lo) / y,(hi*18446744073709551616+lo)%y)
noncomputable def aG.G:dG:=eT (P:=Tryz.prog) [ew.sg]
noncomputable def aG.L0.E:=bW.cM aG.L0.st aG.L0.az aG.L0.add aG.L0.F aG.L0.out
noncomputable def aG.L0.call:aG.L0.D→Option aG.L0.X:=dF aG.L0.E aG.L0.st
noncomputable def aG.L1.E:=bW.cM aG.L1.st aG.L1.az aG.L1.add aG.L1.F aG.L1.out
noncomputable def aG.L1.call:aG.L1.D→Option aG.L1.X:=dF aG.L1.E aG.L1.st
noncomputable def aG.an:dX:= {loops:=l7 [(17,{bn:=[2,8,9,10,11,13,14,15,16]}),(24,{bn:=[2,8,9,10,14,15,16,17,18]})],outs:=l6 [(17,{bn:=[2,8,9,10,11,13,14,15]},{bn:=[6,7]}),(24,{bn:=[2,8,14,15,17,18]},{bn:=[6,7]})],fK:=mU [(17,aG.L0.E),(24,aG.L1.E)]}
noncomputable def aG.A:= @cR Tryz.prog aG.G aG.an 0 Tryz.f237 _ aG.st
abbrev aG.Ok:=cS @aG.A aG.az aG.add aG.F aG.out
noncomputable def aG.L0.R:= @cz Tryz.prog aG.G aG.an 0 Tryz.f237 0 _ aG.L0.st
abbrev aG.L0.Ok:=eK Tryz.prog aG.G aG.an 0 Tryz.f237 0 aG.L0.st aG.L0.az aG.L0.add aG.L0.F aG.L0.out
noncomputable def aG.L1.R:= @cz Tryz.prog aG.G aG.an 0 Tryz.f237 1 _ aG.L1.st
abbrev aG.L1.Ok:=eK Tryz.prog aG.G aG.an 0 Tryz.f237 1 aG.L1.st aG.L1.az aG.L1.add aG.L1.F aG.L1.out
theorem aG.L0.run:bK aG.L0.call aG.L0.az aG.L0.add aG.L0.F:=eU (eQ [.d tu,.d tu,.d tu,.d tu,.d tu,.d tu,.d tu,.d tu,.d tu] fun _=>by kernel_rfl)
theorem aG.L0.aK:fZ @aG.L0.R aG.L0.st aG.L0.az aG.L0.add aG.L0.F aG.L0.bE aG.L0.Ok:=gv
theorem aG.L0.step{R:Type}(yv_2:Int)(sv:Int)(yn1:Int)(yn0:Int)(un32:Int)(un1:Int)(un0:Int)(q1:Int)(rhat:Int)(kn:AS→Option R)(kx:Exit→AS→Option R):aG.L0.R (yv_2,sv,yn1,yn0,un32,un1,un0,q1,rhat) kn kx=
  aP ((nf q1 (4294967296:Int))) (
   aP ((nf (b8 .u64 rhat yn1) (4294967296:Int))) (
    kx (aG.L0.bE ((yv_2,sv,yn1,yn0,un32,un1,un0),(cI .u64 q1 (1:Int)))).1 (aG.L0.bE ((yv_2,sv,yn1,yn0,un32,un1,un0),(cI .u64 q1 (1:Int)))).2) (
    kn (aG.L0.st (yv_2,sv,yn1,yn0,un32,un1,un0,(cI .u64 q1 (1:Int)),(b8 .u64 rhat yn1))))) (
   aP ((pZ (ff .u64 q1 yn0) (b8 .u64 (ff .u64 (4294967296:Int) rhat) un1))) (
    aP ((nf (b8 .u64 rhat yn1) (4294967296:Int))) (
     kx (aG.L0.bE ((yv_2,sv,yn1,yn0,un32,un1,un0),(cI .u64 q1 (1:Int)))).1 (aG.L0.bE ((yv_2,sv,yn1,yn0,un32,un1,un0),(cI .u64 q1 (1:Int)))).2) (
     kn (aG.L0.st (yv_2,sv,yn1,yn0,un32,un1,un0,(cI .u64 q1 (1:Int)),(b8 .u64 rhat yn1))))) (
    kx (aG.L0.bE ((yv_2,sv,yn1,yn0,un32,un1,un0),q1)).1 (aG.L0.bE ((yv_2,sv,yn1,yn0,un32,un1,un0),q1)).2)):=by kernel_rfl
theorem aG.L1.run:bK aG.L1.call aG.L1.az aG.L1.add aG.L1.F:=eU (eQ [.d tu,.d tu,.d tu,.d tu,.d tu,.d tu,.d tu,.d tu,.d tu] fun _=>by kernel_rfl)
theorem aG.L1.aK:fZ @aG.L1.R aG.L1.st aG.L1.az aG.L1.add aG.L1.F aG.L1.bE aG.L1.Ok:=gv
theorem aG.L1.step{R:Type}(yv_3:Int)(sv_2:Int)(yn1_2:Int)(yn0_2:Int)(un0_2:Int)(q1_2:Int)(rhat_2:Int)(un21:Int)(q0:Int)(kn:AS→Option R)(kx:Exit→AS→Option R):aG.L1.R (yv_3,sv_2,yn1_2,yn0_2,un0_2,q1_2,rhat_2,un21,q0) kn kx=
  aP ((nf q0 (4294967296:Int))) (
   aP ((nf (b8 .u64 rhat_2 yn1_2) (4294967296:Int))) (
    kx (aG.L1.bE ((yv_3,sv_2,un0_2,q1_2,un21),(cI .u64 q0 (1:Int)))).1 (aG.L1.bE ((yv_3,sv_2,un0_2,q1_2,un21),(cI .u64 q0 (1:Int)))).2) (
    kn (aG.L1.st (yv_3,sv_2,yn1_2,yn0_2,un0_2,q1_2,(b8 .u64 rhat_2 yn1_2),un21,(cI .u64 q0 (1:Int)))))) (
   aP ((pZ (ff .u64 q0 yn0_2) (b8 .u64 (ff .u64 (4294967296:Int) rhat_2) un0_2))) (
    aP ((nf (b8 .u64 rhat_2 yn1_2) (4294967296:Int))) (
     kx (aG.L1.bE ((yv_3,sv_2,un0_2,q1_2,un21),(cI .u64 q0 (1:Int)))).1 (aG.L1.bE ((yv_3,sv_2,un0_2,q1_2,un21),(cI .u64 q0 (1:Int)))).2) (
     kn (aG.L1.st (yv_3,sv_2,yn1_2,yn0_2,un0_2,q1_2,(b8 .u64 rhat_2 yn1_2),un21,(cI .u64 q0 (1:Int)))))) (
    kx (aG.L1.bE ((yv_3,sv_2,un0_2,q1_2,un21),q0)).1 (aG.L1.bE ((yv_3,sv_2,un0_2,q1_2,un21),q0)).2)):=by kernel_rfl
theorem aG.eq{R:Type}(hi:Int)(lo:Int)(yv:Int)(k:aX→Option R):aG.A (hi,lo,yv) k=
  aP ((iw yv (0:Int))) (
   none) (
   aP ((zB yv hi)) (
    none) (
    aP ((iw hi (0:Int))) (
     aP (gU yv) (
     aP (gU yv) (
     k (aG.out ((kT .u64 lo yv),(jZ lo yv)))) none) none) (
     au (ew.call yv) fun x1=>
     aP (iD (dz .u64 x1)) (
     aP (iD (dz .u64 x1)) (
     aP (iD (cI .u64 (64:Int) (dz .u64 x1))) (
     aP (iD (dz .u64 x1)) (
     aP (gU (bC .u64 (iM .u64 yv (dz .u64 x1)) (32:Int))) (
     au (aG.L0.call ((iM .u64 yv (dz .u64 x1)),(dz .u64 x1),(bC .u64 (iM .u64 yv (dz .u64 x1)) (32:Int)),(cQ .and .u64 (iM .u64 yv (dz .u64 x1)) (4294967295:Int)),(cQ .or .u64 (iM .u64 hi (dz .u64 x1)) (bC .u64 lo (cI .u64 (64:Int) (dz .u64 x1)))),(bC .u64 (iM .u64 lo (dz .u64 x1)) (32:Int)),(cQ .and .u64 (iM .u64 lo (dz .u64 x1)) (4294967295:Int)),(kT .u64 (cQ .or .u64 (iM .u64 hi (dz .u64 x1)) (bC .u64 lo (cI .u64 (64:Int) (dz .u64 x1)))) (bC .u64 (iM .u64 yv (dz .u64 x1)) (32:Int))),(cI .u64 (cQ .or .u64 (iM .u64 hi (dz .u64 x1)) (bC .u64 lo (cI .u64 (64:Int) (dz .u64 x1)))) (ff .u64 (kT .u64 (cQ .or .u64 (iM .u64 hi (dz .u64 x1)) (bC .u64 lo (cI .u64 (64:Int) (dz .u64 x1)))) (bC .u64 (iM .u64 yv (dz .u64 x1)) (32:Int))) (bC .u64 (iM .u64 yv (dz .u64 x1)) (32:Int)))))) fun x2=>
     aP (gU x2.1.2.2.1) (
     au (aG.L1.call (x2.1.1,x2.1.2.1,x2.1.2.2.1,x2.1.2.2.2.1,x2.1.2.2.2.2.2.2,x2.2,(cI .u64 (cI .u64 (b8 .u64 (ff .u64 x2.1.2.2.2.2.1 (4294967296:Int)) x2.1.2.2.2.2.2.1) (ff .u64 x2.2 x2.1.1)) (ff .u64 (kT .u64 (cI .u64 (b8 .u64 (ff .u64 x2.1.2.2.2.2.1 (4294967296:Int)) x2.1.2.2.2.2.2.1) (ff .u64 x2.2 x2.1.1)) x2.1.2.2.1) x2.1.2.2.1)),(cI .u64 (b8 .u64 (ff .u64 x2.1.2.2.2.2.1 (4294967296:Int)) x2.1.2.2.2.2.2.1) (ff .u64 x2.2 x2.1.1)),(kT .u64 (cI .u64 (b8 .u64 (ff .u64 x2.1.2.2.2.2.1 (4294967296:Int)) x2.1.2.2.2.2.2.1) (ff .u64 x2.2 x2.1.1)) x2.1.2.2.1))) fun x3=>
     aP (iD x3.1.2.1) (
     k (aG.out ((b8 .u64 (ff .u64 x3.1.2.2.2.1 (4294967296:Int)) x3.2),(bC .u64 (cI .u64 (b8 .u64 (ff .u64 x3.1.2.2.2.2 (4294967296:Int)) x3.1.2.2.1) (ff .u64 x3.2 x3.1.1)) x3.1.2.1)))) none) none) none) none) none) none) none))):=by kernel_rfl
theorem aG.L0.ok:aG.L0.Ok:=by
 refine aG.L0.aK (fun(y,sv,yn1,yn0,u,w,un0,q,r)=>q.toNat) ?_
 rintro⟨y,sv,yn1,yn0,u,w,un0,q,r⟩ ⟨e,he,rfl,rfl,rfl,hu,hu2,hw,hw2,hr,hr2,hq,hQ⟩
 have hu:0≤u:=hu
 have hu2:u < 18446744073709551616 - e:=hu2
 have hw:0≤w:=hw
 have hw2:w < 4294967296:=hw2
 have hr:0≤r:=hr
 have hr2:r < 4294967296:=hr2
 have hq:q*4294967295+r=u:=hq
 obtain⟨k1,k2,k3,k4,k5,k6⟩:=k1 he hu hu2 hw hw2 hr hr2 hq hQ
 have q0:0≤q:=Int.le_trans k5 hQ
 have a1:b8 .u64 r 4294967295=r+4294967295:=by rw[jX];omega
 have a2:b8 .u64 (ff .u64 4294967296 r) w=4294967296*r+w:=by rw[jY,jX];omega
 have a3:q < 4294967296→ff .u64 q (4294967296 - e)=q*(4294967296 - e):=by
  intro h;rw[jY];rcases he with rfl | rfl | rfl <;> omega
 have a4:0 < q→cI .u64 q 1=q - 1:=by intro h;rw[qE];omega
 have pos:4294967296≤q∨(q < 4294967296∧4294967296*r+w < q*(4294967296 - e))→0 < q∧(u*4294967296+w) / (18446744073709551616 - e)≤q - 1:=by
  rintro(h | ⟨h,h2⟩)
  ·exact⟨by omega,k1 h⟩
  ·exact⟨by have:=k2 h h2;omega,k2 h h2⟩
 by_cases hc:4294967296≤q∨(q < 4294967296∧4294967296*r+w < q*(4294967296 - e))
 ·obtain⟨p1,p2⟩:=pos hc
  by_cases hb:4294967296≤r+4294967295
  ·right
   have hF:aG.L0.F (18446744073709551616 - e,sv,4294967295,4294967296 - e,u,w,un0,q,r)=q - 1:=k4 hb p2
   intro R kn kx
   rw[aG.L0.step,a1,a2,a4 p1,fi hb,hF]
   rcases hc with h | ⟨h,h2⟩
   ·rw[fi h];rfl
   ·rw[eh (by omega),a3 h,dZ h2];rfl
  ·left
   refine⟨(18446744073709551616 - e,sv,4294967295,4294967296 - e,u,w,un0,q - 1,r+4294967295),⟨e,he,rfl,rfl,rfl,hu,hu2,hw,hw2,by omega,by omega,by omega,p2⟩,by simp only[];omega,rfl,fun kn kx=> ?_⟩
   rw[aG.L0.step,a1,a2,a4 p1,eh hb]
   rcases hc with h | ⟨h,h2⟩
   ·rw[fi h];rfl
   ·rw[eh (by omega),a3 h,dZ h2];rfl
 ·right
  have h:q < 4294967296:=by omega
  have h2:¬4294967296*r+w < q*(4294967296 - e):=fun x=>hc (Or.inr ⟨h,x⟩)
  have hF:aG.L0.F (18446744073709551616 - e,sv,4294967295,4294967296 - e,u,w,un0,q,r)=q:=k3 h (by omega)
  intro R kn kx
  rw[aG.L0.step,a2,a3 h,eh (by omega),dS h2,hF]
  rfl
theorem aG.L1.ok:aG.L1.Ok:=by
 refine aG.L1.aK (fun(y,sv,yn1,yn0,w,q1,r,u,q)=>q.toNat) ?_
 rintro⟨y,sv,yn1,yn0,w,q1,r,u,q⟩ ⟨e,he,rfl,rfl,rfl,hu,hu2,hw,hw2,hr,hr2,hq,hQ⟩
 have hu:0≤u:=hu
 have hu2:u < 18446744073709551616 - e:=hu2
 have hw:0≤w:=hw
 have hw2:w < 4294967296:=hw2
 have hr:0≤r:=hr
 have hr2:r < 4294967296:=hr2
 have hq:q*4294967295+r=u:=hq
 obtain⟨k1,k2,k3,k4,k5,k6⟩:=k1 he hu hu2 hw hw2 hr hr2 hq hQ
 have q0:0≤q:=Int.le_trans k5 hQ
 have a1:b8 .u64 r 4294967295=r+4294967295:=by rw[jX];omega
 have a2:b8 .u64 (ff .u64 4294967296 r) w=4294967296*r+w:=by rw[jY,jX];omega
 have a3:q < 4294967296→ff .u64 q (4294967296 - e)=q*(4294967296 - e):=by
  intro h;rw[jY];rcases he with rfl | rfl | rfl <;> omega
 have a4:0 < q→cI .u64 q 1=q - 1:=by intro h;rw[qE];omega
 have pos:4294967296≤q∨(q < 4294967296∧4294967296*r+w < q*(4294967296 - e))→0 < q∧(u*4294967296+w) / (18446744073709551616 - e)≤q - 1:=by
  rintro(h | ⟨h,h2⟩)
  ·exact⟨by omega,k1 h⟩
  ·exact⟨by have:=k2 h h2;omega,k2 h h2⟩
 by_cases hc:4294967296≤q∨(q < 4294967296∧4294967296*r+w < q*(4294967296 - e))
 ·obtain⟨p1,p2⟩:=pos hc
  by_cases hb:4294967296≤r+4294967295
  ·right
   have hF:aG.L1.F (18446744073709551616 - e,sv,4294967295,4294967296 - e,w,q1,r,u,q)=q - 1:=k4 hb p2
   intro R kn kx
   rw[aG.L1.step,a1,a2,a4 p1,fi hb,hF]
   rcases hc with h | ⟨h,h2⟩
   ·rw[fi h];rfl
   ·rw[eh (by omega),a3 h,dZ h2];rfl
  ·left
   refine⟨(18446744073709551616 - e,sv,4294967295,4294967296 - e,w,q1,r+4294967295,u,q - 1),⟨e,he,rfl,rfl,rfl,hu,hu2,hw,hw2,by omega,by omega,by omega,p2⟩,by simp only[];omega,rfl,fun kn kx=> ?_⟩
   rw[aG.L1.step,a1,a2,a4 p1,eh hb]
   rcases hc with h | ⟨h,h2⟩
   ·rw[fi h];rfl
   ·rw[eh (by omega),a3 h,dZ h2];rfl
 ·right
  have h:q < 4294967296:=by omega
  have h2:¬4294967296*r+w < q*(4294967296 - e):=fun x=>hc (Or.inr ⟨h,x⟩)
  have hF:aG.L1.F (18446744073709551616 - e,sv,4294967295,4294967296 - e,w,q1,r,u,q)=q:=k3 h (by omega)
  intro R kn kx
  rw[aG.L1.step,a2,a3 h,eh (by omega),dS h2,hF]
  rfl
theorem DC{y hi lo:Int}(hy:EW y)(h0:0≤hi)(h1:hi < y)(h2:0≤lo)(h3:lo < 18446744073709551616):∃(s:Nat) (e m:Int),ew.F y=s∧(s=2∨s=3)∧m=2^s∧(e=42260∨e=42264∨e=42272)∧y*m=18446744073709551616 - e∧
  iM .u64 y (s:Int)=18446744073709551616 - e∧
  cQ .or .u64 (iM .u64 hi (s:Int)) (bC .u64 lo (cI .u64 64 (s:Int)))=(hi*18446744073709551616+lo)*m / 18446744073709551616∧
  iM .u64 lo (s:Int)=(hi*18446744073709551616+lo)*m%18446744073709551616∧
  (hi*18446744073709551616+lo)*m / 18446744073709551616 < 18446744073709551616 - e∧
  (hi*18446744073709551616+lo)*m / (18446744073709551616 - e)=(hi*18446744073709551616+lo) / y∧
  (hi*18446744073709551616+lo)*m%(18446744073709551616 - e) / m=(hi*18446744073709551616+lo)%y:=by
 have e1:cI .u64 64 ((2:Nat):Int)=((62:Nat):Int):=rfl
 have e2:cI .u64 64 ((3:Nat):Int)=((61:Nat):Int):=rfl
 have p2:(2:Int)^2=4:=rfl
 have p3:(2:Int)^3=8:=rfl
 have p61:(2:Int)^61=2305843009213693952:=rfl
 have p62:(2:Int)^62=4611686018427387904:=rfl
 obtain rfl | rfl | rfl:=hy
 ·refine⟨2,42260,4,rfl,Or.inl rfl,rfl,Or.inl rfl,rfl,by rw[jj 2 (by rfl) (by omega),p2];omega,?_,?_,by omega,by omega,by omega⟩
  ·rw[e1,jj 2 (by rfl) (by omega),j4 62 (by rfl) (by omega),p2,p62,oQ 2 4 rfl (by omega) (by omega) (by omega) (by omega) (by omega) (by omega)];omega
  ·rw[jj 2 (by rfl) (by omega),p2];omega
 ·refine⟨3,42264,8,rfl,Or.inr rfl,rfl,Or.inr (Or.inl rfl),rfl,by rw[jj 3 (by rfl) (by omega),p3];omega,?_,?_,by omega,by omega,by omega⟩
  ·rw[e2,jj 3 (by rfl) (by omega),j4 61 (by rfl) (by omega),p3,p61,oQ 3 8 rfl (by omega) (by omega) (by omega) (by omega) (by omega) (by omega)];omega
  ·rw[jj 3 (by rfl) (by omega),p3];omega
 ·refine⟨3,42272,8,rfl,Or.inr rfl,rfl,Or.inr (Or.inr rfl),rfl,by rw[jj 3 (by rfl) (by omega),p3];omega,?_,?_,by omega,by omega,by omega⟩
  ·rw[e2,jj 3 (by rfl) (by omega),j4 61 (by rfl) (by omega),p3,p61,oQ 3 8 rfl (by omega) (by omega) (by omega) (by omega) (by omega) (by omega)];omega
  ·rw[jj 3 (by rfl) (by omega),p3];omega
theorem FJ(a b c:Int):(((a%18446744073709551616+b)%18446744073709551616) - c%18446744073709551616)%18446744073709551616=(a+b - c)%18446744073709551616:=by omega
theorem aG.ok:aG.Ok:=by
 rintro⟨hi,lo,y⟩ ⟨hy,h0,h1,h2,h3⟩
 have h0:0≤hi:=h0
 have h1:hi < y:=h1
 have h2:0≤lo:=h2
 have h3:lo < 18446744073709551616:=h3
 have yb:0 < y∧y < 18446744073709551616:=by obtain rfl | rfl | rfl:=hy <;> omega
 rw[aG.eq,iU (by omega),iV (by omega)]
 simp only[aw]
 have z:gU y=true:=by simp[gU];omega
 by_cases hz:hi=0
 ·subst hz
  rw[gO rfl,z,yJ h2 (by omega) h3,mQ h2]
  simp only[ak,aG.F,aG.add,Int.zero_mul,Int.zero_add]
 ·obtain⟨s,e,m,hs,hs2,hm,he,hym,a1,a2,a3,a4,a5,a6⟩:=DC hy h0 h1 h2 h3
  have c1:dz .u64 (s:Int)=(s:Int):=by rw[A2];omega
  have c2:iD (s:Int)=true:=kJ (by omega)
  have c3:iD (cI .u64 64 (s:Int))=true:=by rcases hs2 with rfl | rfl <;> rfl
  rw[iU hz,ew.run (d:=y) hy]
  simp only[aw,aa,ew.add,hs,c1,c2,c3,ak,a1,a2,a3]
  have hN:0≤(hi*18446744073709551616+lo)*m:=Int.mul_nonneg (by omega) (by rcases hs2 with rfl | rfl <;> omega)
  revert a4 a5 a6
  generalize (hi*18446744073709551616+lo)*m=N at hN
  intro a4 a5 a6
  have u0:0≤N / 18446744073709551616:=by omega
  have t0:0≤N%18446744073709551616:=by omega
  have t1:N%18446744073709551616 < 18446744073709551616:=by omega
  have hd:N=(N / 18446744073709551616*4294967296+N%18446744073709551616 / 4294967296)*4294967296+N%18446744073709551616%4294967296:=by omega
  have w10:0≤N%18446744073709551616 / 4294967296:=by omega
  have w11:N%18446744073709551616 / 4294967296 < 4294967296:=by omega
  have w00:0≤N%18446744073709551616%4294967296:=by omega
  have w01:N%18446744073709551616%4294967296 < 4294967296:=by omega
  have p32:(2:Int)^32=4294967296:=rfl
  have b1:bC .u64 (18446744073709551616 - e) 32=4294967295:=by rw[j4 32 (by rfl) (by omega),p32];rcases he with rfl | rfl | rfl <;> rfl
  have b2:cQ .and .u64 (18446744073709551616 - e) 4294967295=4294967296 - e:=by rw[vz (by omega) (by omega)];omega
  have b3:bC .u64 (N%18446744073709551616) 32=N%18446744073709551616 / 4294967296:=by rw[j4 32 (by rfl) (by omega),p32]
  have b4:cQ .and .u64 (N%18446744073709551616) 4294967295=N%18446744073709551616%4294967296:=vz t0 t1
  have z2:gU 4294967295=true:=rfl
  simp only[b1,b2,b3,b4,z2,ak]
  clear a1 a2 a3 b1 b2 b3 b4
  have kdd:=kd (18446744073709551616 - e) (N / 18446744073709551616) (N%18446744073709551616 / 4294967296) (N%18446744073709551616%4294967296) (by omega) w00 w01
  rw[←hd,a5]at kdd
  revert a4 kdd
  generalize N / 18446744073709551616=u at u0
  generalize N%18446744073709551616 / 4294967296=w1 at w10 w11
  generalize N%18446744073709551616%4294967296=w0 at w00 w01
  intro a4 kdd
  have g:∀u w:Int,0≤u→u < 18446744073709551616 - e→0≤w→w < 4294967296→
    kT .u64 u 4294967295=u / 4294967295∧cI .u64 u (ff .u64 (u / 4294967295) 4294967295)=u - u / 4294967295*4294967295∧
    cI .u64 (b8 .u64 (ff .u64 u 4294967296) w) (ff .u64 ((u*4294967296+w) / (18446744073709551616 - e)) (18446744073709551616 - e))=(u*4294967296+w)%(18446744073709551616 - e):=by
   intro u w k1 k2 k3 k4
   obtain⟨q1,q2,q3,q4,q5,q6,q7,q8⟩:=k0 he k1 k2 k3 k4
   refine⟨yJ k1 (by omega) (by omega),by rw[qE,jY];omega,?_⟩
   rw[qE,jX,jY,jY,FJ,q4]
   exact Int.emod_eq_of_lt q5 (by omega)
  obtain⟨f1,f2,f3⟩:=g u w1 u0 a4 w10 w11
  obtain⟨q1,q2,q3,q4,q5,q6,q7,q8⟩:=k0 he u0 a4 w10 w11
  have p1:aG.L0.az (18446744073709551616 - e,(s:Int),4294967295,4294967296 - e,u,w1,w0,u / 4294967295,u - u / 4294967295*4294967295):=⟨e,he,rfl,rfl,rfl,u0,a4,w10,w11,q2,q3,by omega,q1⟩
  rw[f1,f2,aG.L0.run p1]
  simp only[aa,aG.L0.add,aG.L0.F,z2,ak,f3]
  revert f3 q1 kdd
  generalize (u*4294967296+w1)%(18446744073709551616 - e)=v at q4 q5 q6
  generalize (u*4294967296+w1) / (18446744073709551616 - e)=Q at q4 q7 q8
  intro kdd f3 q1
  obtain⟨g1,g2,g3⟩:=g v w0 q5 q6 w00 w01
  obtain⟨r1,r2,r3,r4,r5,r6,r7,r8⟩:=k0 he q5 q6 w00 w01
  have p2:aG.L1.az (18446744073709551616 - e,(s:Int),4294967295,4294967296 - e,w0,Q,v - v / 4294967295*4294967295,v,v / 4294967295):=⟨e,he,rfl,rfl,rfl,q5,q6,w00,w01,r2,r3,by omega,r1⟩
  rw[g1,g2,aG.L1.run p2]
  simp only[aa,aG.L1.add,aG.L1.F,c2,ak,g3]
  rw[←kdd.2,j4 s (by rfl) (by omega),←hm,a6,jY,jX]
  have e9:(Q*4294967296%18446744073709551616+(v*4294967296+w0) / (18446744073709551616 - e))%18446744073709551616=(hi*18446744073709551616+lo) / y:=by rw[kdd.1];omega
  rw[e9]
  rfl
noncomputable def aG.E:=Entry.cM [some tu,some tu,some tu] aG.st aG.az aG.add aG.F aG.out
noncomputable def aG.call:aG.D→Option aG.X:=bP aG.E aG.st
theorem aG.run:bK aG.call aG.az aG.add aG.F:=de (cW [.d tu,.d tu,.d tu] fun _=>by kernel_rfl)
noncomputable def aG.sg:SG Tryz.prog:=⟨237,aV,aG.E,.fn 2 (by kernel_rfl) aG.ok (And.intro (.cM aG.L0.ok (by kernel_rfl)) (And.intro (.cM aG.L1.ok (by kernel_rfl)) trivial))⟩
abbrev cC.D:=Int×Int×Int
def cC.st:cC.D→SA:=fun(hi,lo,yv)=>([.d tu hi,.d tu lo,.d tu yv],[])
abbrev cC.Y:=Int
abbrev cC.X:=Int
def cC.out:cC.X→aX:=fun x=>⟨.d tu x,[],[]⟩
def cC.add:cC.D→cC.Y→cC.X:=fun(hi,lo,yv) y=>y
def cC.az:cC.D→Prop:=fun(hi,lo,y)=>EW y∧0≤hi∧hi < 18446744073709551616∧0≤lo∧lo < 18446744073709551616
def cC.F:cC.D→cC.Y:=fun(hi,lo,y)=>(hi*18446744073709551616+lo)%y
noncomputable def cC.G:dG:=eT (P:=Tryz.prog) [aG.sg]
noncomputable def cC.an:dX:= {}
noncomputable def cC.A:= @cR Tryz.prog cC.G cC.an 0 Tryz.f199 _ cC.st
abbrev cC.Ok:=cS @cC.A cC.az cC.add cC.F cC.out
theorem cC.eq{R:Type}(hi:Int)(lo:Int)(yv:Int)(k:aX→Option R):cC.A (hi,lo,yv) k=
 aP (gU yv) (
 au (aG.call ((jZ hi yv),lo,yv)) fun x1=>
 k (cC.out x1.2)) none:=by kernel_rfl
theorem cC.ok:cC.Ok:=by
 rintro⟨hi,lo,y⟩ ⟨hy,h0,h1,h2,h3⟩
 have h0:0≤hi:=h0
 have yb:0 < y:=by obtain rfl | rfl | rfl:=hy <;> omega
 have z:gU y=true:=by simp[gU];omega
 have p:aG.az (hi%y,lo,y):=⟨hy,Int.emod_nonneg _ (by omega),Int.emod_lt_of_pos _ yb,h2,h3⟩
 rw[cC.eq,z,mQ h0,aG.run p]
 have e:(hi%y*18446744073709551616+lo)%y=(hi*18446744073709551616+lo)%y:=by
  rw[Int.add_emod,Int.mul_emod,Int.emod_emod_of_dvd _ (Int.dvd_refl y),←Int.mul_emod,←Int.add_emod]
 simp only[ak,aa,aG.add,aG.F,cC.add,cC.F,e]
noncomputable def cC.E:=Entry.cM [some tu,some tu,some tu] cC.st cC.az cC.add cC.F cC.out
noncomputable def cC.call:cC.D→Option cC.X:=bP cC.E cC.st
theorem cC.run:bK cC.call cC.az cC.add cC.F:=de (cW [.d tu,.d tu,.d tu] fun _=>by kernel_rfl)
noncomputable def cC.sg:SG Tryz.prog:=⟨199,aV,cC.E,.fn 0 (by kernel_rfl) cC.ok trivial⟩
abbrev cO.D:=Int×Int
def cO.st:cO.D→SA:=fun(x,yv)=>([.d tu x,.d tu yv],[])
abbrev cO.Y:=Int×Int
abbrev cO.X:=Int×Int
def cO.out:cO.X→aX:=fun x=>⟨.cons (.d tu x.1) (.cons (.d tu x.2) (.nil)),[],[]⟩
def cO.add:cO.D→cO.Y→cO.X:=fun(x,yv) y=>y
def cO.az:cO.D→Prop:=fun(x,y)=>(0≤x∧x < 18446744073709551616)∧0≤y∧y < 18446744073709551616
def cO.F:cO.D→cO.Y:=fun(x,y)=>(x*y / 18446744073709551616,x*y%18446744073709551616)
noncomputable def cO.G:dG:=eT (P:=Tryz.prog) []
noncomputable def cO.an:dX:= {}
noncomputable def cO.A:= @cR Tryz.prog cO.G cO.an 0 Tryz.f236 _ cO.st
abbrev cO.Ok:=cS @cO.A cO.az cO.add cO.F cO.out
theorem cO.eq{R:Type}(x:Int)(yv:Int)(k:aX→Option R):cO.A (x,yv) k=
 k (cO.out ((b8 .u64 (b8 .u64 (ff .u64 (bC .u64 x (32:Int)) (bC .u64 yv (32:Int))) (bC .u64 (b8 .u64 (ff .u64 (bC .u64 x (32:Int)) (cQ .and .u64 yv (4294967295:Int))) (bC .u64 (ff .u64 (cQ .and .u64 x (4294967295:Int)) (cQ .and .u64 yv (4294967295:Int))) (32:Int))) (32:Int))) (bC .u64 (b8 .u64 (cQ .and .u64 (b8 .u64 (ff .u64 (bC .u64 x (32:Int)) (cQ .and .u64 yv (4294967295:Int))) (bC .u64 (ff .u64 (cQ .and .u64 x (4294967295:Int)) (cQ .and .u64 yv (4294967295:Int))) (32:Int))) (4294967295:Int)) (ff .u64 (cQ .and .u64 x (4294967295:Int)) (bC .u64 yv (32:Int)))) (32:Int))),(ff .u64 x yv))):=by kernel_rfl
theorem pL{a b m n:Int}(h0:0≤a)(h1:a≤m)(h2:0≤b)(h3:b≤n):0≤a*b∧a*b≤m*n:=
 ⟨Int.mul_nonneg h0 h2,Int.mul_le_mul h1 h3 h2 (Int.le_trans h0 h1)⟩
theorem cO.ok:cO.Ok:=by
 rintro⟨x,y⟩ ⟨⟨h0,h1⟩,h2,h3⟩
 have h0:0≤x:=h0
 have h1:x < 18446744073709551616:=h1
 have h2:0≤y:=h2
 have h3:y < 18446744073709551616:=h3
 rw[cO.eq]
 have p32:(2:Int)^32=4294967296:=rfl
 have s32:∀x:Int,bC .u64 x 32=x / 4294967296:=fun x=>by rw[j4 32 (by rfl) (by omega),p32]
 simp only[s32,vz h0 h1,vz h2 h3]
 obtain⟨a,b,rfl,a0,a1,b0,b1⟩:∃a b:Int,x=a*4294967296+b∧0≤a∧a≤4294967295∧0≤b∧b≤4294967295:=⟨x / 4294967296,x%4294967296,by omega,by omega,by omega,by omega,by omega⟩
 obtain⟨c,d,rfl,c0,c1,d0,d1⟩:∃a b:Int,y=a*4294967296+b∧0≤a∧a≤4294967295∧0≤b∧b≤4294967295:=⟨y / 4294967296,y%4294967296,by omega,by omega,by omega,by omega,by omega⟩
 have e1:(a*4294967296+b) / 4294967296=a:=by omega
 have e2:(a*4294967296+b)%4294967296=b:=by omega
 have e3:(c*4294967296+d) / 4294967296=c:=by omega
 have e4:(c*4294967296+d)%4294967296=d:=by omega
 have e5:(a*4294967296+b)*(c*4294967296+d)=a*c*18446744073709551616+(a*d+b*c)*4294967296+b*d:=by
  have q:(4294967296:Int)*4294967296=18446744073709551616:=rfl
  rw[Int.add_mul,Int.mul_add,Int.mul_add]
  have q1:a*4294967296*(c*4294967296)=a*c*18446744073709551616:=by rw[←q];ac_rfl
  have q2:a*4294967296*d=a*d*4294967296:=by ac_rfl
  have q3:b*(c*4294967296)=b*c*4294967296:=by ac_rfl
  rw[q1,q2,q3];omega
 obtain⟨m1,m2⟩:=pL a0 a1 c0 c1
 obtain⟨m3,m4⟩:=pL a0 a1 d0 d1
 obtain⟨m5,m6⟩:=pL b0 b1 c0 c1
 obtain⟨m7,m8⟩:=pL b0 b1 d0 d1
 have n:(4294967295:Int)*4294967295=18446744065119617025:=rfl
 rw[n]at m2 m4 m6 m8
 simp only[e1,e2,e3,e4,cO.add,cO.F,e5,jY,jX]
 revert m1 m2 m3 m4 m5 m6 m7 m8
 generalize a*c=ac
 generalize a*d=ad
 generalize b*c=bc
 generalize b*d=bd
 intro m1 m2 m3 m4 m5 m6 m7 m8
 have q1:bd%18446744073709551616=bd:=by omega
 have q2:ad%18446744073709551616=ad:=by omega
 have q3:bc%18446744073709551616=bc:=by omega
 have q4:ac%18446744073709551616=ac:=by omega
 rw[q1,q2,q3,q4]
 have q5:(ad+bd / 4294967296)%18446744073709551616=ad+bd / 4294967296:=by omega
 have q6:cQ .and .u64 (ad+bd / 4294967296) 4294967295=(ad+bd / 4294967296)%4294967296:=vz (by omega) (by omega)
 rw[q5,q6]
 refine congrArg some (congrArg cO.out (Prod.ext ?_ ?_))
 ·show _=(_:Int)
  simp only[]
  omega
 ·rfl
noncomputable def cO.E:=Entry.cM [some tu,some tu] cO.st cO.az cO.add cO.F cO.out
noncomputable def cO.call:cO.D→Option cO.X:=bP cO.E cO.st
theorem cO.run:bK cO.call cO.az cO.add cO.F:=de (cW [.d tu,.d tu] fun _=>by kernel_rfl)
noncomputable def cO.sg:SG Tryz.prog:=⟨236,aV,cO.E,.fn 0 (by kernel_rfl) cO.ok trivial⟩
set_option synthInstance.maxSize 5000
def Pn(x:Int):Prop:=0≤x∧x < 4611686018427377339
def gX(x:Int):Prop:=0≤x∧x < 18446744073709551616
theorem Pn.u{x:Int}(h:Pn x):gX x:=⟨h.1,by have:=h.2;omega⟩
def iN(a b:Int):Int:=a*b%4611686018427377339
theorem kI(a b:Int):Pn (iN a b):=⟨Int.emod_nonneg _ (by omega),Int.emod_lt_of_pos _ (by omega)⟩
def yW:Nat→Int→Nat→Int→Int
 | 0,_,_,out=>out
 |f+1,a,n,out=>if n=0 then out else yW f (iN a a) (n / 2) (if n%2=1 then iN out a else out)
def pw(a:Int)(n:Nat):Int:=yW 64 a n 1
theorem lu(f:Nat)(a out:Int):yW f a 0 out=out:=by cases f <;> rfl
theorem wL:∀(f g:Nat) (a:Int) (n:Nat) (out:Int),n < 2^f→n < 2^g→yW f a n out=yW g a n out
 | 0,g,a,n,out,h,_=>by
  obtain rfl:n=0:=by omega
  rw[lu,lu]
 |f+1,0,a,n,out,_,h=>by
  obtain rfl:n=0:=by omega
  rw[lu,lu]
 |f+1,g+1,a,n,out,h,h'=>by
  have e:(2:Nat)^(f+1)=2^f*2:=Nat.pow_succ 2 f
  have e':(2:Nat)^(g+1)=2^g*2:=Nat.pow_succ 2 g
  unfold yW
  split
  ·rfl
  ·exact wL f g _ _ _ (by omega) (by omega)
theorem BG:∀(f:Nat) (a:Int) (n:Nat) (out:Int),Pn out→Pn (yW f a n out)
 | 0,_,_,_,h=>h
 |f+1,a,n,out,h=>by
  unfold yW
  split
  ·exact h
  ·refine BG f _ _ _ ?_
   split
   ·exact kI _ _
   ·exact h
theorem wM(a:Int)(n:Nat):Pn (pw a n):=BG _ _ _ _ ⟨by omega,by omega⟩
abbrev cn.D:=Int×Int
def cn.st:cn.D→SA:=fun(a,b)=>([.d tu a,.d tu b],[])
abbrev cn.Y:=Int
abbrev cn.X:=Int
def cn.out:cn.X→aX:=fun x=>⟨.d tu x,[],[]⟩
def cn.add:cn.D→cn.Y→cn.X:=fun(a,b) y=>y
def cn.az:cn.D→Prop:=fun(a,b)=>gX a∧gX b
def cn.F:cn.D→cn.Y:=fun(a,b)=>iN a b
noncomputable def cn.G:dG:=eT (P:=Tryz.prog) [cO.sg,cC.sg]
noncomputable def cn.an:dX:= {}
noncomputable def cn.A:= @cR Tryz.prog cn.G cn.an 0 Tryz.f193 _ cn.st
abbrev cn.Ok:=cS @cn.A cn.az cn.add cn.F cn.out
theorem cn.eq{R:Type}(a:Int)(b:Int)(k:aX→Option R):cn.A (a,b) k=
 au (cO.call (a,b)) fun x1=>
 au (cC.call (x1.1,x1.2,(4611686018427377339:Int))) fun x2=>
 k (cn.out x2):=by kernel_rfl
theorem sC(n:Int):n / 18446744073709551616*18446744073709551616+n%18446744073709551616=n:=by omega
theorem cn.ok:cn.Ok:=by
 rintro⟨a,b⟩ ⟨ha,hb⟩
 have ha:gX a:=ha
 have hb:gX b:=hb
 obtain⟨m1,m2⟩:=pL ha.1 (show a≤18446744073709551615 by have:=ha.2;omega) hb.1 (show b≤18446744073709551615 by have:=hb.2;omega)
 have n:(18446744073709551615:Int)*18446744073709551615=340282366920938463426481119284349108225:=rfl
 rw[n]at m2
 have p:cC.az (a*b / 18446744073709551616,a*b%18446744073709551616,4611686018427377339):=⟨Or.inl rfl,by omega,by omega,by omega,by omega⟩
 rw[cn.eq,cO.run (d:=(a,b)) ⟨ha,hb⟩]
 simp only[aa,cO.add,cO.F]
 rw[cC.run p]
 simp only[aa,cC.add,cC.F,sC]
 rfl
noncomputable def cn.E:=Entry.cM [some tu,some tu] cn.st cn.az cn.add cn.F cn.out
noncomputable def cn.call:cn.D→Option cn.X:=bP cn.E cn.st
theorem cn.run:bK cn.call cn.az cn.add cn.F:=de (cW [.d tu,.d tu] fun _=>by kernel_rfl)
noncomputable def cn.sg:SG Tryz.prog:=⟨193,aV,cn.E,.fn 0 (by kernel_rfl) cn.ok trivial⟩
abbrev aM.L0.D:=Int×Int×Int
def aM.L0.st:aM.L0.D→AS:=fun(a_2,n_2,outv)=>⟨([.d tu a_2,.d tu n_2,.undef,.undef,.undef,.d tu outv]++bl 14 []),[],(List.replicate 20 [])⟩
abbrev aM.L0.Y0:=Int
abbrev aM.L0.X0:=Int
def aM.L0.bE:aM.L0.X0→Exit×AS:=fun x=>(.exit 0,⟨(bl 5 ([.d tu x]++bl 14 [])),[],(List.replicate 20 [])⟩)
abbrev aM.L0.X:=aM.L0.X0
abbrev aM.L0.Y:=aM.L0.Y0
def aM.L0.out:aM.L0.X→Out (Exit×AS):=fun x=> .ok (aM.L0.bE x)
def aM.L0.add:aM.L0.D→aM.L0.Y→aM.L0.X:=fun(a_2,n_2,outv) y=>y
abbrev aM.D:=Int×Int
def aM.st:aM.D→SA:=fun(a,n)=>([.d tu a,.d tu n],[])
abbrev aM.Y:=Int
abbrev aM.X:=Int
def aM.out:aM.X→aX:=fun x=>⟨.d tu x,[],[]⟩
def aM.add:aM.D→aM.Y→aM.X:=fun(a,n) y=>y
def aM.L0.az:aM.L0.D→Prop:=fun(a,n,o)=>gX a∧gX n∧Pn o
def aM.L0.F:aM.L0.D→aM.L0.Y:=fun(a,n,o)=>yW 64 a n.toNat o
def aM.az:aM.D→Prop:=fun(a,n)=>gX a∧gX n
def aM.F:aM.D→aM.Y:=fun(a,n)=>pw a n.toNat
noncomputable def aM.G:dG:=eT (P:=Tryz.prog) [cn.sg]
noncomputable def aM.L0.E:=bW.cM aM.L0.st aM.L0.az aM.L0.add aM.L0.F aM.L0.out
noncomputable def aM.L0.call:aM.L0.D→Option aM.L0.X:=dF aM.L0.E aM.L0.st
noncomputable def aM.an:dX:= {loops:=l7 [(2,{bn:=[0,1,5]})],outs:=l6 [(2,{bn:=[5]},{bn:=[4]})],fK:=mU [(2,aM.L0.E)]}
noncomputable def aM.A:= @cR Tryz.prog aM.G aM.an 0 Tryz.f130 _ aM.st
abbrev aM.Ok:=cS @aM.A aM.az aM.add aM.F aM.out
noncomputable def aM.L0.R:= @cz Tryz.prog aM.G aM.an 0 Tryz.f130 0 _ aM.L0.st
abbrev aM.L0.Ok:=eK Tryz.prog aM.G aM.an 0 Tryz.f130 0 aM.L0.st aM.L0.az aM.L0.add aM.L0.F aM.L0.out
theorem aM.L0.run:bK aM.L0.call aM.L0.az aM.L0.add aM.L0.F:=eU (eQ [.d tu,.d tu,.d tu] fun _=>by kernel_rfl)
theorem aM.L0.aK:fZ @aM.L0.R aM.L0.st aM.L0.az aM.L0.add aM.L0.F aM.L0.bE aM.L0.Ok:=gv
theorem aM.L0.step{R:Type}(a_2:Int)(n_2:Int)(outv:Int)(kn:AS→Option R)(kx:Exit→AS→Option R):aM.L0.R (a_2,n_2,outv) kn kx=
  aP ((pZ n_2 (0:Int))) (
   aP ((iw (cQ .and .u64 n_2 (1:Int)) (1:Int))) (
    au (cn.call (outv,a_2)) fun x1=>
    au (cn.call (a_2,a_2)) fun x2=>
    kn (aM.L0.st (x2,(bC .u64 n_2 (1:Int)),x1))) (
    au (cn.call (a_2,a_2)) fun x3=>
    kn (aM.L0.st (x3,(bC .u64 n_2 (1:Int)),outv)))) (
   kx (aM.L0.bE outv).1 (aM.L0.bE outv).2):=by kernel_rfl
theorem aM.eq{R:Type}(a:Int)(n:Int)(k:aX→Option R):aM.A (a,n) k=
 au (aM.L0.call (a,n,(1:Int))) fun x4=>
 k (aM.out x4):=by kernel_rfl
theorem F0{n:Int}(h:gX n):bC .u64 n 1=n / 2:=j4 1 (by rfl) (by omega)
theorem aM.L0.ok:aM.L0.Ok:=by
 refine aM.L0.aK (fun(a,n,o)=>n.toNat) ?_
 rintro⟨a,n,o⟩ ⟨ha,hn,ho⟩
 have ha:gX a:=ha
 have hn:gX n:=hn
 have ho:Pn o:=ho
 have n0:=hn.1
 have n1:=hn.2
 by_cases h:0 < n
 ·left
  have e:aM.L0.F (a,n,o)=aM.L0.F (iN a a,n / 2,if n%2=1 then iN o a else o):=by
   show yW 64 a n.toNat o=yW 64 (iN a a) (n / 2).toNat _
   rw[wL 64 65 a n.toNat o (by omega) (by omega)]
   have t1:(n / 2).toNat=n.toNat / 2:=by omega
   have t2:(n%2=1)=(n.toNat%2=1):=by apply propext;omega
   rw[t1]
   simp only[t2]
   show(if n.toNat=0 then o else _)=_
   rw[if_neg (by omega)]
  refine⟨(iN a a,n / 2,if n%2=1 then iN o a else o),⟨(kI a a).u,⟨by omega,by omega⟩,?_⟩,by show(n / 2).toNat < n.toNat;omega,?_,fun kn kx=> ?_⟩
  ·show Pn (if n%2=1 then iN o a else o)
   split
   ·exact kI _ _
   ·exact ho
  ·exact congrArg _ e.symm
  ·rw[aM.L0.step,dZ h,F0 hn,FB n0 n1,cn.run (d:=(o,a)) ⟨ho.u,ha⟩,cn.run (d:=(a,a)) ⟨ha,ha⟩]
   by_cases h1:n%2=1
   ·rw[gO h1,if_pos h1];rfl
   ·rw[iU h1,if_neg h1];rfl
 ·right
  intro R kn kx
  obtain rfl:n=0:=by omega
  rw[aM.L0.step,dS (by omega)]
  simp only[aw,aM.L0.add,aM.L0.F]
  rw[show yW 64 a (Int.toNat 0) o=o from lu _ _ _]
theorem aM.ok:aM.Ok:=by
 rintro⟨a,n⟩ ⟨ha,hn⟩
 rw[aM.eq,aM.L0.run (d:=(a,n,1)) ⟨ha,hn,by omega,by omega⟩]
 rfl
noncomputable def aM.E:=Entry.cM [some tu,some tu] aM.st aM.az aM.add aM.F aM.out
noncomputable def aM.call:aM.D→Option aM.X:=bP aM.E aM.st
theorem aM.run:bK aM.call aM.az aM.add aM.F:=de (cW [.d tu,.d tu] fun _=>by kernel_rfl)
noncomputable def aM.sg:SG Tryz.prog:=⟨130,aV,aM.E,.fn 1 (by kernel_rfl) aM.ok (And.intro (.cM aM.L0.ok (by kernel_rfl)) trivial)⟩
set_option synthInstance.maxSize 5000
def kU(p:Int):Bool:=decide (0 < p∧p < 4611686018427377339) && decide (pw p 2305843009213688669=1)
def tk(p:Int):Int:=if kU p then p else 1
theorem B0(p:Int):Pn (tk p):=by
 unfold tk
 split
 ·rename_i h
  simp only[kU,Bool.and_eq_true,decide_eq_true_eq]at h
  exact⟨by omega,by omega⟩
 ·exact⟨by omega,by omega⟩
def lV(p k:Int):Int:=pw (tk p) (k%2305843009213688669).toNat
def dN(k:Int):Int:=lV 4 k
def wz(p:Int):Int:=pw (tk p) 2305843009213688668
def qv(l:List Int):Int:=l.foldl (fun o p=>iN o (tk p)) 1
theorem CW(l:List Int)(o:Int)(h:Pn o):Pn (l.foldl (fun o p=>iN o (tk p)) o):=by
 induction l generalizing o with
 |nil=>exact h
 |cons p l ih=>exact ih _ (kI _ _)
theorem CX(l:List Int):Pn (qv l):=CW l 1 ⟨by omega,by omega⟩
abbrev bH.D:=Int
def bH.st:bH.D→SA:=fun p=>([.d tu p],[])
abbrev bH.Y:=Bool
abbrev bH.X:=Bool
def bH.out:bH.X→aX:=fun x=>⟨.d .bool x,[],[]⟩
def bH.add:bH.D→bH.Y→bH.X:=fun p y=>y
def bH.az:bH.D→Prop:=fun p=>gX p
def bH.F:bH.D→bH.Y:=fun p=>kU p
noncomputable def bH.G:dG:=eT (P:=Tryz.prog) [aM.sg]
noncomputable def bH.an:dX:= {}
noncomputable def bH.A:= @cR Tryz.prog bH.G bH.an 0 Tryz.f151 _ bH.st
abbrev bH.Ok:=cS @bH.A bH.az bH.add bH.F bH.out
theorem bH.eq{R:Type}(p:Int)(k:aX→Option R):bH.A p k=
  aP ((pZ p (0:Int))) (
   aP ((gE p (4611686018427377339:Int))) (
    au (aM.call (p,(2305843009213688669:Int))) fun x1=>
    k (bH.out (iw x1 (1:Int)))) (
    k (bH.out false))) (
   k (bH.out false)):=by kernel_rfl
theorem bH.ok:bH.Ok:=by
 intro p hp
 have hp:gX p:=hp
 rw[bH.eq,aM.run (d:=(p,2305843009213688669)) ⟨hp,by constructor <;> decide⟩]
 simp only[aa,aM.add,aM.F,bH.add,bH.F,kU]
 by_cases h:0 < p
 ·rw[dZ h,ak]
  by_cases h2:p < 4611686018427377339
  ·rw[bq h2,ak,aW ⟨h,h2⟩,Bool.true_and]
   rfl
  ·rw[bm h2,aw,bw (fun x=>h2 x.2),Bool.false_and]
 ·rw[dS h,aw,bw (fun x=>h x.1),Bool.false_and]
noncomputable def bH.E:=Entry.cM [some tu] bH.st bH.az bH.add bH.F bH.out
noncomputable def bH.call:bH.D→Option bH.X:=bP bH.E bH.st
theorem bH.run:bK bH.call bH.az bH.add bH.F:=de (cW [.d tu] fun _=>by kernel_rfl)
noncomputable def bH.sg:SG Tryz.prog:=⟨151,aV,bH.E,.fn 0 (by kernel_rfl) bH.ok trivial⟩
abbrev bR.D:=Int
def bR.st:bR.D→SA:=fun p=>([.d tu p],[])
abbrev bR.Y:=Int
abbrev bR.X:=Int
def bR.out:bR.X→aX:=fun x=>⟨.d tu x,[],[]⟩
def bR.add:bR.D→bR.Y→bR.X:=fun p y=>y
def bR.az:bR.D→Prop:=fun p=>gX p
def bR.F:bR.D→bR.Y:=fun p=>tk p
noncomputable def bR.G:dG:=eT (P:=Tryz.prog) [bH.sg]
noncomputable def bR.an:dX:= {}
noncomputable def bR.A:= @cR Tryz.prog bR.G bR.an 0 Tryz.f131 _ bR.st
abbrev bR.Ok:=cS @bR.A bR.az bR.add bR.F bR.out
theorem bR.eq{R:Type}(p:Int)(k:aX→Option R):bR.A p k=
  au (bH.call p) fun x1=>
  aP (x1) (
   k (bR.out p)) (
   k (bR.out (1:Int))):=by kernel_rfl
theorem bR.ok:bR.Ok:=by
 intro p hp
 rw[bR.eq,bH.run (d:=p) hp]
 simp only[aa,bH.add,bH.F,bR.add,bR.F,tk]
 cases kU p <;> rfl
noncomputable def bR.E:=Entry.cM [some tu] bR.st bR.az bR.add bR.F bR.out
noncomputable def bR.call:bR.D→Option bR.X:=bP bR.E bR.st
theorem bR.run:bK bR.call bR.az bR.add bR.F:=de (cW [.d tu] fun _=>by kernel_rfl)
noncomputable def bR.sg:SG Tryz.prog:=⟨131,aV,bR.E,.fn 0 (by kernel_rfl) bR.ok trivial⟩
abbrev ct.D:=Int×Int
def ct.st:ct.D→SA:=fun(p,kv)=>([.d tu p,.d tu kv],[])
abbrev ct.Y:=Int
abbrev ct.X:=Int
def ct.out:ct.X→aX:=fun x=>⟨.d tu x,[],[]⟩
def ct.add:ct.D→ct.Y→ct.X:=fun(p,kv) y=>y
def ct.az:ct.D→Prop:=fun(p,k)=>gX p∧gX k
def ct.F:ct.D→ct.Y:=fun(p,k)=>lV p k
noncomputable def ct.G:dG:=eT (P:=Tryz.prog) [bR.sg,aM.sg]
noncomputable def ct.an:dX:= {}
noncomputable def ct.A:= @cR Tryz.prog ct.G ct.an 0 Tryz.f63 _ ct.st
abbrev ct.Ok:=cS @ct.A ct.az ct.add ct.F ct.out
theorem ct.eq{R:Type}(p:Int)(kv:Int)(k:aX→Option R):ct.A (p,kv) k=
 au (bR.call p) fun x1=>
 au (aM.call (x1,(jZ kv (2305843009213688669:Int)))) fun x2=>
 k (ct.out x2):=by kernel_rfl
theorem ct.ok:ct.Ok:=by
 rintro⟨p,k⟩ ⟨hp,hk⟩
 have hk:gX k:=hk
 have e:=mQ (y:=2305843009213688669) hk.1
 have b:gX (k%2305843009213688669):=⟨by omega,by omega⟩
 rw[ct.eq,bR.run (d:=p) hp,e]
 simp only[aa,bR.add,bR.F]
 rw[aM.run (d:=(tk p,k%2305843009213688669)) ⟨(B0 p).u,b⟩]
 rfl
noncomputable def ct.E:=Entry.cM [some tu,some tu] ct.st ct.az ct.add ct.F ct.out
noncomputable def ct.call:ct.D→Option ct.X:=bP ct.E ct.st
theorem ct.run:bK ct.call ct.az ct.add ct.F:=de (cW [.d tu,.d tu] fun _=>by kernel_rfl)
noncomputable def ct.sg:SG Tryz.prog:=⟨63,aV,ct.E,.fn 0 (by kernel_rfl) ct.ok trivial⟩
abbrev cw.D:=Int
def cw.st:cw.D→SA:=fun kv=>([.d tu kv],[])
abbrev cw.Y:=Int
abbrev cw.X:=Int
def cw.out:cw.X→aX:=fun x=>⟨.d tu x,[],[]⟩
def cw.add:cw.D→cw.Y→cw.X:=fun kv y=>y
def cw.az:cw.D→Prop:=fun k=>gX k
def cw.F:cw.D→cw.Y:=fun k=>dN k
noncomputable def cw.G:dG:=eT (P:=Tryz.prog) [ct.sg]
noncomputable def cw.an:dX:= {}
noncomputable def cw.A:= @cR Tryz.prog cw.G cw.an 0 Tryz.f14 _ cw.st
abbrev cw.Ok:=cS @cw.A cw.az cw.add cw.F cw.out
theorem cw.eq{R:Type}(kv:Int)(k:aX→Option R):cw.A kv k=
 au (ct.call ((4:Int),kv)) fun x1=>
 k (cw.out x1):=by kernel_rfl
theorem cw.ok:cw.Ok:=by
 intro k hk
 rw[cw.eq,ct.run (d:=(4,k)) ⟨⟨by omega,by omega⟩,hk⟩]
 rfl
noncomputable def cw.E:=Entry.cM [some tu] cw.st cw.az cw.add cw.F cw.out
noncomputable def cw.call:cw.D→Option cw.X:=bP cw.E cw.st
theorem cw.run:bK cw.call cw.az cw.add cw.F:=de (cW [.d tu] fun _=>by kernel_rfl)
noncomputable def cw.sg:SG Tryz.prog:=⟨14,aV,cw.E,.fn 0 (by kernel_rfl) cw.ok trivial⟩
abbrev eA.D:=Int
def eA.st:eA.D→SA:=fun p=>([.d tu p],[])
abbrev eA.Y:=Int
abbrev eA.X:=Int
def eA.out:eA.X→aX:=fun x=>⟨.d tu x,[],[]⟩
def eA.add:eA.D→eA.Y→eA.X:=fun p y=>y
def eA.az:eA.D→Prop:=fun p=>gX p
def eA.F:eA.D→eA.Y:=fun p=>wz p
noncomputable def eA.G:dG:=eT (P:=Tryz.prog) [bR.sg,aM.sg]
noncomputable def eA.an:dX:= {}
noncomputable def eA.A:= @cR Tryz.prog eA.G eA.an 0 Tryz.f260 _ eA.st
abbrev eA.Ok:=cS @eA.A eA.az eA.add eA.F eA.out
theorem eA.eq{R:Type}(p:Int)(k:aX→Option R):eA.A p k=
 au (bR.call p) fun x1=>
 au (aM.call (x1,(2305843009213688668:Int))) fun x2=>
 k (eA.out x2):=by kernel_rfl
theorem eA.ok:eA.Ok:=by
 intro p hp
 rw[eA.eq,bR.run (d:=p) hp]
 simp only[aa,bR.add,bR.F]
 rw[aM.run (d:=(tk p,2305843009213688668)) ⟨(B0 p).u,by constructor <;> decide⟩]
 rfl
noncomputable def eA.E:=Entry.cM [some tu] eA.st eA.az eA.add eA.F eA.out
noncomputable def eA.call:eA.D→Option eA.X:=bP eA.E eA.st
theorem eA.run:bK eA.call eA.az eA.add eA.F:=de (cW [.d tu] fun _=>by kernel_rfl)
noncomputable def eA.sg:SG Tryz.prog:=⟨260,aV,eA.E,.fn 0 (by kernel_rfl) eA.ok trivial⟩
abbrev bV.L0.D:=Int×Bs×Int×Int
def bV.L0.st:bV.L0.D→AS:=fun(outv,t6,t7,t8)=>⟨([.undef,.undef,.undef,.d tu outv,.undef,.undef,.d tU t6,.d ti t7,.d ti t8]++bl 9 []),[],(List.replicate 18 [])⟩
abbrev bV.L0.Y0:=Int
abbrev bV.L0.X0:=Int
def bV.L0.bE:bV.L0.X0→Exit×AS:=fun x=>(.exit 0,⟨([.undef,.undef,.undef,.d tu x]++bl 14 []),[],(List.replicate 18 [])⟩)
abbrev bV.L0.X:=bV.L0.X0
abbrev bV.L0.Y:=bV.L0.Y0
def bV.L0.out:bV.L0.X→Out (Exit×AS):=fun x=> .ok (bV.L0.bE x)
def bV.L0.add:bV.L0.D→bV.L0.Y→bV.L0.X:=fun(outv,t6,t7,t8) y=>y
abbrev bV.D:=Bs
def bV.st:bV.D→SA:=fun l=>([.d tU l],[])
abbrev bV.Y:=Int
abbrev bV.X:=Int
def bV.out:bV.X→aX:=fun x=>⟨.d tu x,[],[]⟩
def bV.add:bV.D→bV.Y→bV.X:=fun l y=>y
def bV.L0.az:bV.L0.D→Prop:=fun(o,l,n,i)=>Pn o∧(∀x∈l,gX x)∧l.length≤1000000000∧n=l.length∧∃k:Nat,k≤l.length∧i=k
def bV.L0.F:bV.L0.D→bV.L0.Y:=fun(o,l,n,i)=>(l.drop i.toNat).foldl (fun o p=>iN o (tk p)) o
def bV.az:bV.D→Prop:=fun l=>(∀x∈l,gX x)∧l.length≤1000000000
def bV.F:bV.D→bV.Y:=fun l=>qv l
noncomputable def bV.G:dG:=eT (P:=Tryz.prog) [bR.sg,cn.sg]
noncomputable def bV.L0.E:=bW.cM bV.L0.st bV.L0.az bV.L0.add bV.L0.F bV.L0.out
noncomputable def bV.L0.call:bV.L0.D→Option bV.L0.X:=dF bV.L0.E bV.L0.st
noncomputable def bV.an:dX:= {loops:=l7 [(3,{bn:=[3,6,7,8]})],outs:=l6 [(3,{bn:=[3]},{bn:=[2]})],fK:=mU [(3,bV.L0.E)]}
noncomputable def bV.A:= @cR Tryz.prog bV.G bV.an 0 Tryz.f242 _ bV.st
abbrev bV.Ok:=cS @bV.A bV.az bV.add bV.F bV.out
noncomputable def bV.L0.R:= @cz Tryz.prog bV.G bV.an 0 Tryz.f242 0 _ bV.L0.st
abbrev bV.L0.Ok:=eK Tryz.prog bV.G bV.an 0 Tryz.f242 0 bV.L0.st bV.L0.az bV.L0.add bV.L0.F bV.L0.out
theorem bV.L0.run:bK bV.L0.call bV.L0.az bV.L0.add bV.L0.F:=eU (eQ [.d tu,.d tU,.d ti,.d ti] fun _=>by kernel_rfl)
theorem bV.L0.aK:fZ @bV.L0.R bV.L0.st bV.L0.az bV.L0.add bV.L0.F bV.L0.bE bV.L0.Ok:=gv
theorem bV.L0.step{R:Type}(outv:Int)(t6:Bs)(t7:Int)(t8:Int)(kn:AS→Option R)(kx:Exit→AS→Option R):bV.L0.R (outv,t6,t7,t8) kn kx=
  aP ((gE t8 t7)) (
   aP (fo t8 (((List.length t6):Nat):Int)) (
   au (bR.call (nth tu t6 (Int.toNat t8))) fun x1=>
   au (cn.call (outv,x1)) fun x2=>
   kn (bV.L0.st (x2,t6,t7,(b8 .i64 t8 (1:Int))))) none) (
   kx (bV.L0.bE outv).1 (bV.L0.bE outv).2):=by kernel_rfl
theorem bV.eq{R:Type}(l:Bs)(k:aX→Option R):bV.A l k=
 au (bV.L0.call ((1:Int),l,(((List.length l):Nat):Int),(0:Int))) fun x3=>
 k (bV.out x3):=by kernel_rfl
theorem bV.L0.ok:bV.L0.Ok:=by
 refine bV.L0.aK (fun(o,l,n,i)=>l.length - i.toNat) ?_
 rintro⟨o,l,n,i⟩ ⟨ho,hl,hb,rfl,k,hk,rfl⟩
 have ho:Pn o:=ho
 have hb:l.length≤1000000000:=hb
 have hk:k≤l.length:=hk
 by_cases h:k < l.length
 ·left
  have hx:=hl _ (List.getElem_mem h)
  have n1:nth (.int .u64) l k=l[k]:=cX (t:= .int .u64) h
  refine⟨(iN o (tk l[k]),l,l.length,((k+1:Nat):Int)),⟨kI _ _,hl,hb,rfl,k+1,by omega,rfl⟩,by simp only[Int.toNat_natCast];omega,?_,fun kn kx=> ?_⟩
  ·simp only[bV.L0.add,bV.L0.F,Int.toNat_natCast]
   rw[List.drop_eq_getElem_cons h]
   rfl
  ·rw[bV.L0.step]
   simp(disch:=omega) only[↓S1,↓if_pos,↓if_neg,if_pos,if_neg,if_true,if_false,S2,n1]
   rw[bR.run (d:=l[k]) hx]
   simp only[aa,bR.add,bR.F]
   rw[cn.run (d:=(o,tk l[k])) ⟨ho.u,(B0 _).u⟩]
   rfl
 ·right
  obtain rfl:k=l.length:=by omega
  intro R kn kx
  rw[bV.L0.step]
  simp(disch:=omega) only[↓S1,↓if_pos,↓if_neg,if_pos,if_neg,if_true,if_false,S2,bV.L0.add,bV.L0.F,List.drop_length]
  rfl
theorem bV.ok:bV.Ok:=by
 rintro l ⟨hl,hb⟩
 rw[bV.eq,bV.L0.run (d:=(1,l,l.length,0)) ⟨⟨by omega,by omega⟩,hl,hb,rfl,0,by omega,rfl⟩]
 rfl
noncomputable def bV.E:=Entry.cM [some tU] bV.st bV.az bV.add bV.F bV.out
noncomputable def bV.call:bV.D→Option bV.X:=bP bV.E bV.st
theorem bV.run:bK bV.call bV.az bV.add bV.F:=de (cW [.d tU] fun _=>by kernel_rfl)
noncomputable def bV.sg:SG Tryz.prog:=⟨242,aV,bV.E,.fn 1 (by kernel_rfl) bV.ok (And.intro (.cM bV.L0.ok (by kernel_rfl)) trivial)⟩
abbrev ez.D:=Int×Int
def ez.st:ez.D→SA:=fun(p,q)=>([.d tu p,.d tu q],[])
abbrev ez.Y:=Int
abbrev ez.X:=Int
def ez.out:ez.X→aX:=fun x=>⟨.d tu x,[],[]⟩
def ez.add:ez.D→ez.Y→ez.X:=fun(p,q) y=>y
def ez.az:ez.D→Prop:=fun(p,q)=>gX p∧gX q
def ez.F:ez.D→ez.Y:=fun(p,q)=>qv [p,q]
noncomputable def ez.G:dG:=eT (P:=Tryz.prog) [bV.sg]
noncomputable def ez.an:dX:= {}
noncomputable def ez.A:= @cR Tryz.prog ez.G ez.an 0 Tryz.f195 _ ez.st
abbrev ez.Ok:=cS @ez.A ez.az ez.add ez.F ez.out
theorem ez.eq{R:Type}(p:Int)(q:Int)(k:aX→Option R):ez.A (p,q) k=
 au (bV.call [p,q]) fun x1=>
 k (ez.out x1):=by kernel_rfl
theorem ez.ok:ez.Ok:=by
 rintro⟨p,q⟩ ⟨hp,hq⟩
 have h:bV.az [p,q]:=⟨by intro x hx;simp only[List.mem_cons,List.not_mem_nil,or_false]at hx;rcases hx with rfl | rfl <;> assumption,by simp only[List.length_cons,List.length_nil];omega⟩
 rw[ez.eq,bV.run h]
 rfl
noncomputable def ez.E:=Entry.cM [some tu,some tu] ez.st ez.az ez.add ez.F ez.out
noncomputable def ez.call:ez.D→Option ez.X:=bP ez.E ez.st
theorem ez.run:bK ez.call ez.az ez.add ez.F:=de (cW [.d tu,.d tu] fun _=>by kernel_rfl)
noncomputable def ez.sg:SG Tryz.prog:=⟨195,aV,ez.E,.fn 0 (by kernel_rfl) ez.ok trivial⟩
set_option synthInstance.maxSize 5000
def Qn(x:Int):Prop:=0≤x∧x < 2305843009213688669
theorem Qn.u{x:Int}(h:Qn x):gX x:=⟨h.1,by have:=h.2;omega⟩
def Bv(a:Int):Int:=a%2305843009213688669
theorem uT(a:Int):Qn (Bv a):=⟨Int.emod_nonneg _ (by omega),Int.emod_lt_of_pos _ (by omega)⟩
def xh(a b:Int):Int:=(Bv a+Bv b)%2305843009213688669
def uQ(a b:Int):Int:=Bv a*Bv b%2305843009213688669
def oD(h:List Int):Int:=h.foldl (fun n b=>(n*256+b)%2305843009213688668) 0+1
def Ao.b(n:Int):Prop:=0≤n∧n < 2305843009213688668
theorem vT(h:List Int)(n:Int)(hn:Ao.b n):Ao.b (h.foldl (fun n b=>(n*256+b)%2305843009213688668) n):=by
 induction h generalizing n with
 |nil=>exact hn
 |cons p l ih=>exact ih _ ⟨Int.emod_nonneg _ (by omega),Int.emod_lt_of_pos _ (by omega)⟩
theorem ri(h:List Int):0 < oD h∧oD h < 2305843009213688669:=by
 have:=vT h 0 ⟨by omega,by omega⟩
 have h1:=this.1
 have h2:=this.2
 unfold oD
 omega
theorem yt(a b:Int):Qn (xh a b):=⟨Int.emod_nonneg _ (by omega),Int.emod_lt_of_pos _ (by omega)⟩
theorem CF(a b:Int):Qn (uQ a b):=⟨Int.emod_nonneg _ (by omega),Int.emod_lt_of_pos _ (by omega)⟩
abbrev bX.D:=Int
def bX.st:bX.D→SA:=fun a=>([.d tu a],[])
abbrev bX.Y:=Bool
abbrev bX.X:=Bool
def bX.out:bX.X→aX:=fun x=>⟨.d .bool x,[],[]⟩
def bX.add:bX.D→bX.Y→bX.X:=fun a y=>y
def bX.az:bX.D→Prop:=fun _=>True
def bX.F:bX.D→bX.Y:=fun a=>gE a 2305843009213688669
noncomputable def bX.G:dG:=eT (P:=Tryz.prog) []
noncomputable def bX.an:dX:= {}
noncomputable def bX.A:= @cR Tryz.prog bX.G bX.an 0 Tryz.f65 _ bX.st
abbrev bX.Ok:=cS @bX.A bX.az bX.add bX.F bX.out
theorem bX.eq{R:Type}(a:Int)(k:aX→Option R):bX.A a k=
 k (bX.out (gE a (2305843009213688669:Int))):=by kernel_rfl
theorem bX.ok:bX.Ok:=by
 intro a _
 rw[bX.eq]
 rfl
noncomputable def bX.E:=Entry.cM [some tu] bX.st bX.az bX.add bX.F bX.out
noncomputable def bX.call:bX.D→Option bX.X:=bP bX.E bX.st
theorem bX.run:bK bX.call bX.az bX.add bX.F:=de (cW [.d tu] fun _=>by kernel_rfl)
noncomputable def bX.sg:SG Tryz.prog:=⟨65,aV,bX.E,.fn 0 (by kernel_rfl) bX.ok trivial⟩
abbrev gI.D:=Int
def gI.st:gI.D→SA:=fun a=>([.d tu a],[])
abbrev gI.Y:=Int
abbrev gI.X:=Int
def gI.out:gI.X→aX:=fun x=>⟨.d tu x,[],[]⟩
def gI.add:gI.D→gI.Y→gI.X:=fun a y=>y
def gI.az:gI.D→Prop:=fun a=>gX a
def gI.F:gI.D→gI.Y:=fun a=>Bv a
noncomputable def gI.G:dG:=eT (P:=Tryz.prog) []
noncomputable def gI.an:dX:= {}
noncomputable def gI.A:= @cR Tryz.prog gI.G gI.an 0 Tryz.f243 _ gI.st
abbrev gI.Ok:=cS @gI.A gI.az gI.add gI.F gI.out
theorem gI.eq{R:Type}(a:Int)(k:aX→Option R):gI.A a k=
 k (gI.out (jZ a (2305843009213688669:Int))):=by kernel_rfl
theorem gI.ok:gI.Ok:=by
 intro a ha
 rw[gI.eq,mQ ha.1]
 rfl
noncomputable def gI.E:=Entry.cM [some tu] gI.st gI.az gI.add gI.F gI.out
noncomputable def gI.call:gI.D→Option gI.X:=bP gI.E gI.st
theorem gI.run:bK gI.call gI.az gI.add gI.F:=de (cW [.d tu] fun _=>by kernel_rfl)
noncomputable def gI.sg:SG Tryz.prog:=⟨243,aV,gI.E,.fn 0 (by kernel_rfl) gI.ok trivial⟩
abbrev dy.D:=Int×Int
def dy.st:dy.D→SA:=fun(a,b)=>([.d tu a,.d tu b],[])
abbrev dy.Y:=Int
abbrev dy.X:=Int
def dy.out:dy.X→aX:=fun x=>⟨.d tu x,[],[]⟩
def dy.add:dy.D→dy.Y→dy.X:=fun(a,b) y=>y
def dy.az:dy.D→Prop:=fun(a,b)=>Qn a∧Qn b
def dy.F:dy.D→dy.Y:=fun(a,b)=>(a+b)%2305843009213688669
noncomputable def dy.G:dG:=eT (P:=Tryz.prog) []
noncomputable def dy.an:dX:= {}
noncomputable def dy.A:= @cR Tryz.prog dy.G dy.an 0 Tryz.f244 _ dy.st
abbrev dy.Ok:=cS @dy.A dy.az dy.add dy.F dy.out
theorem dy.eq{R:Type}(a:Int)(b:Int)(k:aX→Option R):dy.A (a,b) k=
 k (dy.out (jZ (b8 .u64 a b) (2305843009213688669:Int))):=by kernel_rfl
theorem dy.ok:dy.Ok:=by
 rintro⟨a,b⟩ ⟨ha,hb⟩
 have ha:Qn a:=ha
 have hb:Qn b:=hb
 obtain⟨h1,h2⟩:=ha
 obtain⟨h3,h4⟩:=hb
 have e:b8 .u64 a b=a+b:=by rw[jX];omega
 rw[dy.eq,e,mQ (by omega)]
 rfl
noncomputable def dy.E:=Entry.cM [some tu,some tu] dy.st dy.az dy.add dy.F dy.out
noncomputable def dy.call:dy.D→Option dy.X:=bP dy.E dy.st
theorem dy.run:bK dy.call dy.az dy.add dy.F:=de (cW [.d tu,.d tu] fun _=>by kernel_rfl)
noncomputable def dy.sg:SG Tryz.prog:=⟨244,aV,dy.E,.fn 0 (by kernel_rfl) dy.ok trivial⟩
abbrev cv.D:=Int×Int
def cv.st:cv.D→SA:=fun(a,b)=>([.d tu a,.d tu b],[])
abbrev cv.Y:=Int
abbrev cv.X:=Int
def cv.out:cv.X→aX:=fun x=>⟨.d tu x,[],[]⟩
def cv.add:cv.D→cv.Y→cv.X:=fun(a,b) y=>y
def cv.az:cv.D→Prop:=fun(a,b)=>Qn a∧Qn b
def cv.F:cv.D→cv.Y:=fun(a,b)=>a*b%2305843009213688669
noncomputable def cv.G:dG:=eT (P:=Tryz.prog) [cO.sg,cC.sg]
noncomputable def cv.an:dX:= {}
noncomputable def cv.A:= @cR Tryz.prog cv.G cv.an 0 Tryz.f245 _ cv.st
abbrev cv.Ok:=cS @cv.A cv.az cv.add cv.F cv.out
theorem cv.eq{R:Type}(a:Int)(b:Int)(k:aX→Option R):cv.A (a,b) k=
 au (cO.call (a,b)) fun x1=>
 au (cC.call (x1.1,x1.2,(2305843009213688669:Int))) fun x2=>
 k (cv.out x2):=by kernel_rfl
theorem cv.ok:cv.Ok:=by
 rintro⟨a,b⟩ ⟨ha,hb⟩
 have ha:Qn a:=ha
 have hb:Qn b:=hb
 obtain⟨m1,m2⟩:=pL ha.1 (show a≤18446744073709551615 by have:=ha.2;omega) hb.1 (show b≤18446744073709551615 by have:=hb.2;omega)
 have n:(18446744073709551615:Int)*18446744073709551615=340282366920938463426481119284349108225:=rfl
 rw[n]at m2
 have p:cC.az (a*b / 18446744073709551616,a*b%18446744073709551616,2305843009213688669):=⟨Or.inr (Or.inl rfl),by omega,by omega,by omega,by omega⟩
 rw[cv.eq,cO.run (d:=(a,b)) ⟨ha.u,hb.u⟩]
 simp only[aa,cO.add,cO.F]
 rw[cC.run p]
 simp only[aa,cC.add,cC.F,sC]
 rfl
noncomputable def cv.E:=Entry.cM [some tu,some tu] cv.st cv.az cv.add cv.F cv.out
noncomputable def cv.call:cv.D→Option cv.X:=bP cv.E cv.st
theorem cv.run:bK cv.call cv.az cv.add cv.F:=de (cW [.d tu,.d tu] fun _=>by kernel_rfl)
noncomputable def cv.sg:SG Tryz.prog:=⟨245,aV,cv.E,.fn 0 (by kernel_rfl) cv.ok trivial⟩
abbrev eD.D:=Int×Int
def eD.st:eD.D→SA:=fun(a,b)=>([.d tu a,.d tu b],[])
abbrev eD.Y:=Int
abbrev eD.X:=Int
def eD.out:eD.X→aX:=fun x=>⟨.d tu x,[],[]⟩
def eD.add:eD.D→eD.Y→eD.X:=fun(a,b) y=>y
def eD.az:eD.D→Prop:=fun(a,b)=>gX a∧gX b
def eD.F:eD.D→eD.Y:=fun(a,b)=>xh a b
noncomputable def eD.G:dG:=eT (P:=Tryz.prog) [gI.sg,dy.sg]
noncomputable def eD.an:dX:= {}
noncomputable def eD.A:= @cR Tryz.prog eD.G eD.an 0 Tryz.f196 _ eD.st
abbrev eD.Ok:=cS @eD.A eD.az eD.add eD.F eD.out
theorem eD.eq{R:Type}(a:Int)(b:Int)(k:aX→Option R):eD.A (a,b) k=
 au (gI.call a) fun x1=>
 au (gI.call b) fun x2=>
 au (dy.call (x1,x2)) fun x3=>
 k (eD.out x3):=by kernel_rfl
theorem eD.ok:eD.Ok:=by
 rintro⟨a,b⟩ ⟨ha,hb⟩
 rw[eD.eq,gI.run (d:=a) ha,gI.run (d:=b) hb]
 simp only[aa,gI.add,gI.F]
 rw[dy.run (d:=(Bv a,Bv b)) ⟨uT a,uT b⟩]
 rfl
noncomputable def eD.E:=Entry.cM [some tu,some tu] eD.st eD.az eD.add eD.F eD.out
noncomputable def eD.call:eD.D→Option eD.X:=bP eD.E eD.st
theorem eD.run:bK eD.call eD.az eD.add eD.F:=de (cW [.d tu,.d tu] fun _=>by kernel_rfl)
noncomputable def eD.sg:SG Tryz.prog:=⟨196,aV,eD.E,.fn 0 (by kernel_rfl) eD.ok trivial⟩
abbrev er.D:=Int×Int
def er.st:er.D→SA:=fun(a,b)=>([.d tu a,.d tu b],[])
abbrev er.Y:=Int
abbrev er.X:=Int
def er.out:er.X→aX:=fun x=>⟨.d tu x,[],[]⟩
def er.add:er.D→er.Y→er.X:=fun(a,b) y=>y
def er.az:er.D→Prop:=fun(a,b)=>gX a∧gX b
def er.F:er.D→er.Y:=fun(a,b)=>uQ a b
noncomputable def er.G:dG:=eT (P:=Tryz.prog) [gI.sg,cv.sg]
noncomputable def er.an:dX:= {}
noncomputable def er.A:= @cR Tryz.prog er.G er.an 0 Tryz.f197 _ er.st
abbrev er.Ok:=cS @er.A er.az er.add er.F er.out
theorem er.eq{R:Type}(a:Int)(b:Int)(k:aX→Option R):er.A (a,b) k=
 au (gI.call a) fun x1=>
 au (gI.call b) fun x2=>
 au (cv.call (x1,x2)) fun x3=>
 k (er.out x3):=by kernel_rfl
theorem er.ok:er.Ok:=by
 rintro⟨a,b⟩ ⟨ha,hb⟩
 rw[er.eq,gI.run (d:=a) ha,gI.run (d:=b) hb]
 simp only[aa,gI.add,gI.F]
 rw[cv.run (d:=(Bv a,Bv b)) ⟨uT a,uT b⟩]
 rfl
noncomputable def er.E:=Entry.cM [some tu,some tu] er.st er.az er.add er.F er.out
noncomputable def er.call:er.D→Option er.X:=bP er.E er.st
theorem er.run:bK er.call er.az er.add er.F:=de (cW [.d tu,.d tu] fun _=>by kernel_rfl)
noncomputable def er.sg:SG Tryz.prog:=⟨197,aV,er.E,.fn 0 (by kernel_rfl) er.ok trivial⟩
abbrev bf.L0.D:=Int×Bs×Int
def bf.L0.st:bf.L0.D→AS:=fun(n,t6,t7)=>⟨([.undef,.undef,.undef,.d tu n,.undef,.undef,.d tH t6,.d ti t7]++bl 13 []),[],(List.replicate 21 [])⟩
abbrev bf.L0.Y0:=Int
abbrev bf.L0.X0:=Int
def bf.L0.bE:bf.L0.X0→Exit×AS:=fun x=>(.exit 0,⟨([.undef,.undef,.undef,.d tu x]++bl 17 []),[],(List.replicate 21 [])⟩)
abbrev bf.L0.X:=bf.L0.X0
abbrev bf.L0.Y:=bf.L0.Y0
def bf.L0.out:bf.L0.X→Out (Exit×AS):=fun x=> .ok (bf.L0.bE x)
def bf.L0.add:bf.L0.D→bf.L0.Y→bf.L0.X:=fun(n,t6,t7) y=>y
abbrev bf.D:=Bs
def bf.st:bf.D→SA:=fun h=>([.d tH h],[])
abbrev bf.Y:=Int
abbrev bf.X:=Int
def bf.out:bf.X→aX:=fun x=>⟨.d tu x,[],[]⟩
def bf.add:bf.D→bf.Y→bf.X:=fun h y=>y
def bf.L0.az:bf.L0.D→Prop:=fun(n,h,i)=>Ao.b n∧h.length=32∧Bytes h∧∃k:Nat,k≤32∧i=k
def bf.L0.F:bf.L0.D→bf.L0.Y:=fun(n,h,i)=>(h.drop i.toNat).foldl (fun n b=>(n*256+b)%2305843009213688668) n
def bf.az:bf.D→Prop:=fun h=>h.length=32∧Bytes h
def bf.F:bf.D→bf.Y:=fun h=>oD h
noncomputable def bf.G:dG:=eT (P:=Tryz.prog) [cC.sg]
noncomputable def bf.L0.E:=bW.cM bf.L0.st bf.L0.az bf.L0.add bf.L0.F bf.L0.out
noncomputable def bf.L0.call:bf.L0.D→Option bf.L0.X:=dF bf.L0.E bf.L0.st
noncomputable def bf.an:dX:= {loops:=l7 [(3,{bn:=[3,6,7]})],outs:=l6 [(3,{bn:=[3]},{bn:=[2]})],fK:=mU [(3,bf.L0.E)]}
noncomputable def bf.A:= @cR Tryz.prog bf.G bf.an 0 Tryz.f136 _ bf.st
abbrev bf.Ok:=cS @bf.A bf.az bf.add bf.F bf.out
noncomputable def bf.L0.R:= @cz Tryz.prog bf.G bf.an 0 Tryz.f136 0 _ bf.L0.st
abbrev bf.L0.Ok:=eK Tryz.prog bf.G bf.an 0 Tryz.f136 0 bf.L0.st bf.L0.az bf.L0.add bf.L0.F bf.L0.out
theorem bf.L0.run:bK bf.L0.call bf.L0.az bf.L0.add bf.L0.F:=eU (eQ [.d tu,.d tB,.d ti] fun _=>by kernel_rfl)
theorem bf.L0.aK:fZ @bf.L0.R bf.L0.st bf.L0.az bf.L0.add bf.L0.F bf.L0.bE bf.L0.Ok:=gv
theorem bf.L0.step{R:Type}(n:Int)(t6:Bs)(t7:Int)(kn:AS→Option R)(kx:Exit→AS→Option R):bf.L0.R (n,t6,t7) kn kx=
  aP ((gE t7 (32:Int))) (
   aP (fo t7 (32:Int)) (
   au (cC.call ((bC .u64 n (56:Int)),(cQ .or .u64 (iM .u64 n (8:Int)) (dz .u64 (nth tb t6 (Int.toNat t7)))),(2305843009213688668:Int))) fun x1=>
   kn (bf.L0.st (x1,t6,(b8 .i64 t7 (1:Int))))) none) (
   kx (bf.L0.bE n).1 (bf.L0.bE n).2):=by kernel_rfl
theorem bf.eq{R:Type}(h:Bs)(k:aX→Option R):bf.A h k=
 au (bf.L0.call ((0:Int),h,(0:Int))) fun x2=>
 k (bf.out (b8 .u64 x2 (1:Int))):=by kernel_rfl
theorem vU{n b:Int}(hn:Ao.b n)(hb:y6 b):bC .u64 n 56*18446744073709551616+cQ .or .u64 (iM .u64 n 8) (dz .u64 b)=n*256+b∧gX (bC .u64 n 56)∧gX (cQ .or .u64 (iM .u64 n 8) (dz .u64 b)):=by
 obtain⟨h1,h2⟩:=hn
 obtain⟨h3,h4⟩:=hb
 have p56:(2:Int)^56=72057594037927936:=rfl
 have p8:(2:Int)^8=256:=rfl
 have e:dz .u64 b=b:=by rw[A2];omega
 rw[j4 56 (by rfl) (by omega),jj 8 (by rfl) (by omega),p56,p8,e,oQ 8 256 rfl (by omega) (by omega) (by omega) (by omega) (by omega) (by omega)]
 exact⟨by omega,⟨by omega,by omega⟩,by omega,by omega⟩
theorem bf.L0.ok:bf.L0.Ok:=by
 refine bf.L0.aK (fun(n,h,i)=>32 - i.toNat) ?_
 rintro⟨n,h,i⟩ ⟨hn,hl,hb,k,hk,rfl⟩
 have hn:Ao.b n:=hn
 have hl:h.length=32:=hl
 have hb:Bytes h:=hb
 by_cases hlt:k < 32
 ·left
  have hx:y6 (h[k]'(by omega)):=hb _ (List.getElem_mem _)
  have n1:nth (.int .u8) h k=h[k]'(by omega):=cX (t:= .int .u8) (by omega)
  obtain⟨d1,d2,d3⟩:=vU hn hx
  refine⟨((n*256+h[k]'(by omega))%2305843009213688668,h,((k+1:Nat):Int)),⟨⟨by omega,by omega⟩,hl,hb,k+1,by omega,rfl⟩,by simp only[Int.toNat_natCast];omega,?_,fun kn kx=> ?_⟩
  ·simp only[bf.L0.add,bf.L0.F,Int.toNat_natCast]
   rw[List.drop_eq_getElem_cons (by omega:k < h.length)]
   rfl
  ·rw[bf.L0.step]
   simp(disch:=omega) only[↓S1,↓if_pos,↓if_neg,if_pos,if_neg,if_true,if_false,S2,n1]
   rw[cC.run (d:=(_,_,2305843009213688668)) ⟨Or.inr (Or.inr rfl),d2.1,d2.2,d3.1,d3.2⟩]
   simp only[aa,cC.add,cC.F,d1]
 ·right
  obtain rfl:k=32:=by omega
  intro R kn kx
  rw[bf.L0.step]
  simp(disch:=omega) only[↓S1,↓if_pos,↓if_neg,if_pos,if_neg,if_true,if_false,S2,bf.L0.add,bf.L0.F]
  rw[List.drop_of_length_le (by omega)]
  rfl
theorem bf.ok:bf.Ok:=by
 rintro h ⟨hl,hb⟩
 have e:=vT h 0 ⟨by omega,by omega⟩
 have h1:=e.1
 have h2:=e.2
 rw[bf.eq,bf.L0.run (d:=(0,h,0)) ⟨⟨by omega,by omega⟩,hl,hb,0,by omega,rfl⟩]
 simp only[aa,bf.L0.add,bf.L0.F,bf.add,bf.F,oD,Int.toNat_zero,List.drop_zero]
 revert h1 h2
 generalize h.foldl (fun n b=>(n*256+b)%2305843009213688668) 0=m
 intro h1 h2
 have e:b8 .u64 m 1=m+1:=by rw[jX];omega
 rw[e]
noncomputable def bf.E:=Entry.cM [some tH] bf.st bf.az bf.add bf.F bf.out
noncomputable def bf.call:bf.D→Option bf.X:=bP bf.E bf.st
theorem bf.run:bK bf.call bf.az bf.add bf.F:=de (cW [.d tB] fun _=>by kernel_rfl)
noncomputable def bf.sg:SG Tryz.prog:=⟨136,aV,bf.E,.fn 1 (by kernel_rfl) bf.ok (And.intro (.cM bf.L0.ok (by kernel_rfl)) trivial)⟩
set_option synthInstance.maxSize 5000
theorem vC(n:Int): [dz .u8 (bC .u64 n 56),dz .u8 (bC .u64 n 48),dz .u8 (bC .u64 n 40),dz .u8 (bC .u64 n 32),dz .u8 (bC .u64 n 24),dz .u8 (bC .u64 n 16),dz .u8 (bC .u64 n 8),dz .u8 (bC .u64 n 0)]=kB n:=xl n
theorem fm{α:Type}{l:List α}{n:Nat}(h:l.length=n):cut l 0 n=l:=by subst h;simp[cut]
theorem BZ{n:ByteArray}{a b c:List Int}(hn:n.size≤100)(ha:a.length≤1000000)(hb:b.length≤1000000)(hc:c.length≤1000000):bF.az (n,[a,b,c]):=by
 show(tc _ [a,b,c]).length≤_
 rw[tc]
 simp only[j5,List.flatMap_cons,List.flatMap_nil,List.length_append,df,fX,List.length_nil]
 omega
theorem BY{n:ByteArray}{a b:List Int}(hn:n.size≤100)(ha:a.length≤1000000)(hb:b.length≤1000000):bF.az (n,[a,b]):=by
 show(tc _ [a,b]).length≤_
 rw[tc]
 simp only[j5,List.flatMap_cons,List.flatMap_nil,List.length_append,df,fX,List.length_nil]
 omega
theorem BX{n:ByteArray}{a:List Int}(hn:n.size≤100)(ha:a.length≤1000000):bF.az (n,[a]):=by
 show(tc _ [a]).length≤_
 rw[tc]
 simp only[j5,List.flatMap_cons,List.flatMap_nil,List.length_append,df,fX,List.length_nil]
 omega
def Sm(m:List Int):Prop:=m.length=32∧Bytes m
theorem Ea(b:List Int):Sm (Ex b):=⟨xZ b,zi b⟩
theorem yd(n:List Int)(ps:List (List Int)):Sm (tag n ps):=Ea _
def BW(n:ByteArray)(ps:List (List Int)):List Int:=tag (bt n) ps
def E0:ByteArray:=⟨#[115,105,103]⟩
def xP:ByteArray:=⟨#[110,111,110,99,101]⟩
def lZ(r p:Int)(m:List Int):Int:=oD (BW E0 [kB r,kB p,m])
theorem qV(r p:Int)(m:List Int):Qn (lZ r p m):=by
 have:=ri (BW E0 [kB r,kB p,m])
 exact⟨by unfold lZ;omega,by unfold lZ;omega⟩
def EF(s:Sg):Prop:=gX s.1∧gX s.2.1
def kb(p:Int)(m:List Int)(t:Int)(s:Sg):Bool:=
 if p=1∨kU p=false∨kU t=false∨kU s.1=false∨¬s.2.1 < 2305843009213688669 then false
 else decide (dN s.2.1=qv [s.1,lV p (lZ s.1 p m),wz t])
def uo(k nonce:Int)(m:List Int)(t:Int):Sg:=
 (qv [dN nonce,t],xh nonce (uQ (lZ (qv [dN nonce,t]) (dN k) m) k),())
def Br(k:Int)(m:List Int):Int:=oD (BW xP [kB k,m])
def fN(k:Int)(m:List Int):Sg:=if k < 2305843009213688669∧k≠0 then uo k (Br k m) m 1 else(0,0,())
abbrev cd.D:=Int
def cd.st:cd.D→SA:=fun n=>([.d tu n],[])
abbrev cd.Y:=Bs
abbrev cd.X:=Bs
def cd.out:cd.X→aX:=fun x=>⟨.d tB x,[],[]⟩
def cd.add:cd.D→cd.Y→cd.X:=fun n y=>y
def cd.az:cd.D→Prop:=fun _=>True
def cd.F:cd.D→cd.Y:=fun n=>kB n
noncomputable def cd.G:dG:=eT (P:=Tryz.prog) []
noncomputable def cd.an:dX:= {loops:=l7 [(3,{bn:=[0,3,7,8],sites:=[5]})],outs:=l6 [(3,{bn:=[3],sites:=[5]},{bn:=[2],sites:=[5]})],res:=[some tB]}
noncomputable def cd.A:= @cR Tryz.prog cd.G cd.an 12 Tryz.f137 _ cd.st
abbrev cd.Ok:=cS @cd.A cd.az cd.add cd.F cd.out
theorem cd.eq{R:Type}(n:Int)(k:aX→Option R):cd.A n k=
 k (cd.out [(dz .u8 (bC .u64 n (56:Int))),(dz .u8 (bC .u64 n (48:Int))),(dz .u8 (bC .u64 n (40:Int))),(dz .u8 (bC .u64 n (32:Int))),(dz .u8 (bC .u64 n (24:Int))),(dz .u8 (bC .u64 n (16:Int))),(dz .u8 (bC .u64 n (8:Int))),(dz .u8 (bC .u64 n (0:Int)))]):=by kernel_rfl
theorem cd.ok:cd.Ok:=by
 intro n _
 rw[cd.eq,vC]
 rfl
noncomputable def cd.E:=Entry.cM [some tu] cd.st cd.az cd.add cd.F cd.out
noncomputable def cd.call:cd.D→Option cd.X:=bP cd.E cd.st
theorem cd.run:bK cd.call cd.az cd.add cd.F:=de (cW [.d tu] fun _=>by kernel_rfl)
noncomputable def cd.sg:SG Tryz.prog:=⟨137,aV,cd.E,.fn 1 (by kernel_rfl) cd.ok (And.intro (.none (by kernel_rfl)) trivial)⟩
abbrev cU.D:=Int×Int×Bs
def cU.st:cU.D→SA:=fun(r,p,m)=>([.d tu r,.d tu p,.d tH m],[])
abbrev cU.Y:=Int
abbrev cU.X:=Int
def cU.out:cU.X→aX:=fun x=>⟨.d tu x,[],[]⟩
def cU.add:cU.D→cU.Y→cU.X:=fun(r,p,m) y=>y
def cU.az:cU.D→Prop:=fun(r,p,m)=>Sm m
def cU.F:cU.D→cU.Y:=fun(r,p,m)=>lZ r p m
noncomputable def cU.G:dG:=eT (P:=Tryz.prog) [cd.sg,bF.sg,bf.sg]
noncomputable def cU.an:dX:= {}
noncomputable def cU.A:= @cR Tryz.prog cU.G cU.an 0 Tryz.f198 _ cU.st
abbrev cU.Ok:=cS @cU.A cU.az cU.add cU.F cU.out
theorem cU.eq{R:Type}(r:Int)(p:Int)(m:Bs)(k:aX→Option R):cU.A (r,p,m) k=
 au (cd.call r) fun x1=>
 au (cd.call p) fun x2=>
 au (bF.call ((⟨#[115,105,103]⟩:ByteArray),[x1,x2,(cut m 0 32)])) fun x3=>
 au (bf.call x3) fun x4=>
 k (cU.out x4):=by kernel_rfl
theorem cU.ok:cU.Ok:=by
 rintro⟨r,p,m⟩ hm
 have hm:Sm m:=hm
 rw[cU.eq,cd.run (d:=r) trivial,cd.run (d:=p) trivial]
 simp only[aa,cd.add,cd.F]
 rw[fm hm.1,bF.run (BZ (by decide) (by rw[df];omega) (by rw[df];omega) (by rw[hm.1];omega))]
 simp only[aa,bF.add,bF.F]
 rw[bf.run (d:=tag (bt (⟨#[115,105,103]⟩:ByteArray)) [kB r,kB p,m]) (yd _ _)]
 rfl
noncomputable def cU.E:=Entry.cM [some tu,some tu,some tH] cU.st cU.az cU.add cU.F cU.out
noncomputable def cU.call:cU.D→Option cU.X:=bP cU.E cU.st
theorem cU.run:bK cU.call cU.az cU.add cU.F:=de (cW [.d tu,.d tu,.d tB] fun _=>by kernel_rfl)
noncomputable def cU.sg:SG Tryz.prog:=⟨198,aV,cU.E,.fn 0 (by kernel_rfl) cU.ok trivial⟩
abbrev bB.D:=Int×Bs×Int×Sg
def bB.st:bB.D→SA:=fun(p,m,t,pre)=>([.d tu p,.d tH m,.d tu t,.d u9 pre],[])
abbrev bB.Y:=Bool
abbrev bB.X:=Bool
def bB.out:bB.X→aX:=fun x=>⟨.d .bool x,[],[]⟩
def bB.add:bB.D→bB.Y→bB.X:=fun(p,m,t,pre) y=>y
def bB.az:bB.D→Prop:=fun(p,m,t,s)=>gX p∧Sm m∧gX t∧EF s
def bB.F:bB.D→bB.Y:=fun(p,m,t,s)=>kb p m t s
noncomputable def bB.G:dG:=eT (P:=Tryz.prog) [bH.sg,bX.sg,cU.sg,ct.sg,eA.sg,bV.sg,cw.sg]
noncomputable def bB.an:dX:= {}
noncomputable def bB.A:= @cR Tryz.prog bB.G bB.an 0 Tryz.f216 _ bB.st
abbrev bB.Ok:=cS @bB.A bB.az bB.add bB.F bB.out
theorem bB.eq{R:Type}(p:Int)(m:Bs)(t:Int)(pre:Sg)(k:aX→Option R):bB.A (p,m,t,pre) k=
  aP ((iw p (1:Int))) (
   k (bB.out false)) (
   au (bH.call p) fun x1=>
   aP ((!x1)) (
    k (bB.out false)) (
    au (bH.call t) fun x2=>
    aP ((!x2)) (
     k (bB.out false)) (
     au (bH.call pre.1) fun x3=>
     aP ((!x3)) (
      k (bB.out false)) (
      au (bX.call pre.2.1) fun x4=>
      aP ((!x4)) (
       k (bB.out false)) (
       au (cU.call (pre.1,p,m)) fun x5=>
       au (ct.call (p,x5)) fun x6=>
       au (eA.call t) fun x7=>
       au (bV.call [pre.1,x6,x7]) fun x8=>
       au (cw.call pre.2.1) fun x9=>
       k (bB.out (iw x9 x8))))))):=by kernel_rfl
theorem bB.ok:bB.Ok:=by
 rintro⟨p,m,t,s⟩ ⟨hp,hm,ht,hs⟩
 have hp:gX p:=hp
 have ht:gX t:=ht
 have hm:Sm m:=hm
 have hs:EF s:=hs
 rw[bB.eq,bH.run (d:=p) hp,bH.run (d:=t) ht,bH.run (d:=s.1) hs.1,bX.run (d:=s.2.1) trivial]
 simp only[aa,bH.add,bH.F,bX.add,bX.F,bB.add,bB.F,kb]
 by_cases h1:p=1
 ·rw[gO h1,ak,if_pos (Or.inl h1)]
 rw[iU h1,aw]
 cases h2:kU p
 ·rw[if_pos (Or.inr (Or.inl rfl))];rfl
 cases h3:kU t
 ·rw[if_pos (Or.inr (Or.inr (Or.inl rfl)))];rfl
 cases h4:kU s.1
 ·rw[if_pos (Or.inr (Or.inr (Or.inr (Or.inl rfl))))];rfl
 by_cases h5:s.2.1 < 2305843009213688669
 ·rw[bq h5,if_neg (by simp[h1,h5])]
  have hq:=qV s.1 p m
  rw[cU.run (d:=(s.1,p,m)) hm]
  simp only[Bool.not_true,aw,aa,cU.add,cU.F]
  rw[ct.run (d:=(p,lZ s.1 p m)) ⟨hp,hq.u⟩,eA.run (d:=t) ht]
  simp only[aa,ct.add,ct.F,eA.add,eA.F]
  have q:bV.az [s.1,lV p (lZ s.1 p m),wz t]:=⟨by
   intro x hx
   simp only[List.mem_cons,List.not_mem_nil,or_false]at hx
   rcases hx with rfl | rfl | rfl
   ·exact hs.1
   ·exact(wM _ _).u
   ·exact(wM _ _).u,by simp only[List.length_cons,List.length_nil];omega⟩
  rw[bV.run q,cw.run (d:=s.2.1) hs.2]
  rfl
 ·rw[bm h5,if_pos (Or.inr (Or.inr (Or.inr (Or.inr h5))))];rfl
noncomputable def bB.E:=Entry.cM [some tu,some tH,some tu,some u9] bB.st bB.az bB.add bB.F bB.out
noncomputable def bB.call:bB.D→Option bB.X:=bP bB.E bB.st
theorem bB.run:bK bB.call bB.az bB.add bB.F:=de (cW [.d tu,.d tB,.d tu,.d u9] fun _=>by kernel_rfl)
noncomputable def bB.sg:SG Tryz.prog:=⟨216,aV,bB.E,.fn 0 (by kernel_rfl) bB.ok trivial⟩
abbrev bM.D:=Int×Bs×Sg
def bM.st:bM.D→SA:=fun(p,m,sv)=>([.d tu p,.d tH m,.d u9 sv],[])
abbrev bM.Y:=Bool
abbrev bM.X:=Bool
def bM.out:bM.X→aX:=fun x=>⟨.d .bool x,[],[]⟩
def bM.add:bM.D→bM.Y→bM.X:=fun(p,m,sv) y=>y
def bM.az:bM.D→Prop:=fun(p,m,s)=>gX p∧Sm m∧EF s
def bM.F:bM.D→bM.Y:=fun(p,m,s)=>kb p m 1 s
noncomputable def bM.G:dG:=eT (P:=Tryz.prog) [bB.sg]
noncomputable def bM.an:dX:= {}
noncomputable def bM.A:= @cR Tryz.prog bM.G bM.an 0 Tryz.f158 _ bM.st
abbrev bM.Ok:=cS @bM.A bM.az bM.add bM.F bM.out
theorem bM.eq{R:Type}(p:Int)(m:Bs)(sv:Sg)(k:aX→Option R):bM.A (p,m,sv) k=
 au (bB.call (p,m,(1:Int),sv)) fun x1=>
 k (bM.out x1):=by kernel_rfl
theorem bM.ok:bM.Ok:=by
 rintro⟨p,m,s⟩ ⟨hp,hm,hs⟩
 rw[bM.eq,bB.run (d:=(p,m,1,s)) ⟨hp,hm,⟨by omega,by omega⟩,hs⟩]
 rfl
noncomputable def bM.E:=Entry.cM [some tu,some tH,some u9] bM.st bM.az bM.add bM.F bM.out
noncomputable def bM.call:bM.D→Option bM.X:=bP bM.E bM.st
theorem bM.run:bK bM.call bM.az bM.add bM.F:=de (cW [.d tu,.d tB,.d u9] fun _=>by kernel_rfl)
noncomputable def bM.sg:SG Tryz.prog:=⟨158,aV,bM.E,.fn 0 (by kernel_rfl) bM.ok trivial⟩
abbrev eg.D:=Int
def eg.st:eg.D→SA:=fun kv=>([.d tu kv],[])
abbrev eg.Y:=Bool
abbrev eg.X:=Bool
def eg.out:eg.X→aX:=fun x=>⟨.d .bool x,[],[]⟩
def eg.add:eg.D→eg.Y→eg.X:=fun kv y=>y
def eg.az:eg.D→Prop:=fun _=>True
def eg.F:eg.D→eg.Y:=fun k=>decide (k < 2305843009213688669∧k≠0)
noncomputable def eg.G:dG:=eT (P:=Tryz.prog) [bX.sg]
noncomputable def eg.an:dX:= {}
noncomputable def eg.A:= @cR Tryz.prog eg.G eg.an 0 Tryz.f134 _ eg.st
abbrev eg.Ok:=cS @eg.A eg.az eg.add eg.F eg.out
theorem eg.eq{R:Type}(kv:Int)(k:aX→Option R):eg.A kv k=
  au (bX.call kv) fun x1=>
  aP (x1) (
   k (eg.out (tJ kv (0:Int)))) (
   k (eg.out false)):=by kernel_rfl
theorem eg.ok:eg.Ok:=by
 intro k _
 rw[eg.eq,bX.run (d:=k) trivial]
 simp only[aa,bX.add,bX.F,eg.add,eg.F]
 by_cases h:k < 2305843009213688669
 ·rw[bq h,ak]
  by_cases h0:k=0
  ·rw[eY h0,bw (fun x=>x.2 h0)]
  ·rw[gh h0,aW ⟨h,h0⟩]
 ·rw[bm h,aw,bw (fun x=>h x.1)]
noncomputable def eg.E:=Entry.cM [some tu] eg.st eg.az eg.add eg.F eg.out
noncomputable def eg.call:eg.D→Option eg.X:=bP eg.E eg.st
theorem eg.run:bK eg.call eg.az eg.add eg.F:=de (cW [.d tu] fun _=>by kernel_rfl)
noncomputable def eg.sg:SG Tryz.prog:=⟨134,aV,eg.E,.fn 0 (by kernel_rfl) eg.ok trivial⟩
abbrev bU.D:=Int×Int×Bs×Int
def bU.st:bU.D→SA:=fun(kv,nonce,m,t)=>([.d tu kv,.d tu nonce,.d tH m,.d tu t],[])
abbrev bU.Y:=Sg
abbrev bU.X:=Sg
def bU.out:bU.X→aX:=fun x=>⟨.d u9 x,[],[]⟩
def bU.add:bU.D→bU.Y→bU.X:=fun(kv,nonce,m,t) y=>y
def bU.az:bU.D→Prop:=fun(k,n,m,t)=>gX k∧gX n∧Sm m∧gX t
def bU.F:bU.D→bU.Y:=fun(k,n,m,t)=>uo k n m t
noncomputable def bU.G:dG:=eT (P:=Tryz.prog) [cw.sg,ez.sg,cU.sg,er.sg,eD.sg]
noncomputable def bU.an:dX:= {}
noncomputable def bU.A:= @cR Tryz.prog bU.G bU.an 0 Tryz.f135 _ bU.st
abbrev bU.Ok:=cS @bU.A bU.az bU.add bU.F bU.out
theorem bU.eq{R:Type}(kv:Int)(nonce:Int)(m:Bs)(t:Int)(k:aX→Option R):bU.A (kv,nonce,m,t) k=
 au (cw.call nonce) fun x1=>
 au (ez.call (x1,t)) fun x2=>
 au (cw.call kv) fun x3=>
 au (cU.call (x2,x3,m)) fun x4=>
 au (er.call (x4,kv)) fun x5=>
 au (eD.call (nonce,x5)) fun x6=>
 k (bU.out (x2,(x6,()))):=by kernel_rfl
theorem bU.ok:bU.Ok:=by
 rintro⟨k,n,m,t⟩ ⟨hk,hn,hm,ht⟩
 have hk:gX k:=hk
 have hn:gX n:=hn
 have hm:Sm m:=hm
 have ht:gX t:=ht
 rw[bU.eq,cw.run (d:=n) hn]
 simp only[aa,cw.add,cw.F]
 rw[ez.run (d:=(dN n,t)) ⟨(wM _ _).u,ht⟩,cw.run (d:=k) hk]
 simp only[aa,cw.add,cw.F,ez.add,ez.F]
 rw[cU.run (d:=(qv [dN n,t],dN k,m)) hm]
 simp only[aa,cU.add,cU.F]
 rw[er.run (d:=(lZ (qv [dN n,t]) (dN k) m,k)) ⟨(qV _ _ _).u,hk⟩]
 simp only[aa,er.add,er.F]
 rw[eD.run (d:=(n,uQ (lZ (qv [dN n,t]) (dN k) m) k)) ⟨hn,(CF _ _).u⟩]
 rfl
noncomputable def bU.E:=Entry.cM [some tu,some tu,some tH,some tu] bU.st bU.az bU.add bU.F bU.out
noncomputable def bU.call:bU.D→Option bU.X:=bP bU.E bU.st
theorem bU.run:bK bU.call bU.az bU.add bU.F:=de (cW [.d tu,.d tu,.d tB,.d tu] fun _=>by kernel_rfl)
noncomputable def bU.sg:SG Tryz.prog:=⟨135,aV,bU.E,.fn 0 (by kernel_rfl) bU.ok trivial⟩
abbrev dh.D:=Int×Bs
def dh.st:dh.D→SA:=fun(kv,m)=>([.d tu kv,.d tH m],[])
abbrev dh.Y:=Sg
abbrev dh.X:=Sg
def dh.out:dh.X→aX:=fun x=>⟨.d u9 x,[],[]⟩
def dh.add:dh.D→dh.Y→dh.X:=fun(kv,m) y=>y
def dh.az:dh.D→Prop:=fun(k,m)=>gX k∧Sm m
def dh.F:dh.D→dh.Y:=fun(k,m)=>fN k m
noncomputable def dh.G:dG:=eT (P:=Tryz.prog) [eg.sg,cd.sg,bF.sg,bf.sg,bU.sg]
noncomputable def dh.an:dX:= {}
noncomputable def dh.A:= @cR Tryz.prog dh.G dh.an 0 Tryz.f69 _ dh.st
abbrev dh.Ok:=cS @dh.A dh.az dh.add dh.F dh.out
theorem dh.eq{R:Type}(kv:Int)(m:Bs)(k:aX→Option R):dh.A (kv,m) k=
  au (eg.call kv) fun x1=>
  aP ((!x1)) (
   k (dh.out ((0:Int),((0:Int),())))) (
   au (cd.call kv) fun x2=>
   au (bF.call ((⟨#[110,111,110,99,101]⟩:ByteArray),[x2,(cut m 0 32)])) fun x3=>
   au (bf.call x3) fun x4=>
   au (bU.call (kv,x4,m,(1:Int))) fun x5=>
   k (dh.out x5)):=by kernel_rfl
theorem dh.ok:dh.Ok:=by
 rintro⟨k,m⟩ ⟨hk,hm⟩
 have hk:gX k:=hk
 have hm:Sm m:=hm
 rw[dh.eq,eg.run (d:=k) trivial]
 simp only[aa,eg.add,eg.F,dh.add,dh.F,fN]
 by_cases h:k < 2305843009213688669∧k≠0
 ·rw[aW h,if_pos h,cd.run (d:=k) trivial,fm hm.1]
  simp only[Bool.not_true,aw,aa,cd.add,cd.F]
  rw[bF.run (BY (by decide) (by rw[df];omega) (by rw[hm.1];omega))]
  simp only[aa,bF.add,bF.F]
  rw[bf.run (d:=tag (bt (⟨#[110,111,110,99,101]⟩:ByteArray)) [kB k,m]) (yd _ _)]
  simp only[aa,bf.add,bf.F]
  have q:=ri (tag (bt (⟨#[110,111,110,99,101]⟩:ByteArray)) [kB k,m])
  rw[bU.run (d:=(k,oD (tag (bt (⟨#[110,111,110,99,101]⟩:ByteArray)) [kB k,m]),m,1)) ⟨hk,⟨by omega,by omega⟩,hm,by omega,by omega⟩]
  rfl
 ·rw[bw h,if_neg h];rfl
noncomputable def dh.E:=Entry.cM [some tu,some tH] dh.st dh.az dh.add dh.F dh.out
noncomputable def dh.call:dh.D→Option dh.X:=bP dh.E dh.st
theorem dh.run:bK dh.call dh.az dh.add dh.F:=de (cW [.d tu,.d tB] fun _=>by kernel_rfl)
noncomputable def dh.sg:SG Tryz.prog:=⟨69,aV,dh.E,.fn 0 (by kernel_rfl) dh.ok trivial⟩
set_option synthInstance.maxSize 5000
def mg(l:List Int):Prop:=∀x∈l,gX x
def Fh(b:jN):Prop:=mg b.1∧gX b.2.2.2.1
def Ap(l:Lk):Prop:=∀b∈l.1,Fh b
def qp(n:Int):Bool:=decide (0≤n∧n≤1048576)
def nb(b:jN):Bool:=decide (b.1.length≤12) && (b.1.all kU && (qp b.2.1 && (qp b.2.2.1 && (decide (b.2.2.2.1=0) || kU b.2.2.2.1))))
def jn(l:Lk):Bool:=l.1.all nb && decide (0 < l.1.length∧l.1.length≤4)
def jS:List Int→Int→Int⊕Unit
 |[],_=> .inr ()
 |p::ps,i=>if kU p then jS ps (i+1) else .inl i
def yw(l:List Int):Int:=match jS l 0 with | .inl i=>i | .inr _=> -1
theorem pU:∀(l:List Int) (i:Int),0≤i→(match jS l i with | .inl i=>decide (i≥0) | .inr _=>false)= !(l.all kU)
 |[],_,_=>rfl
 |p::ps,i,h=>by
  rw[jS,List.all_cons]
  cases hp:kU p
  ·simp[h]
  ·simp only[if_true,Bool.true_and]
   exact pU ps (i+1) (by omega)
theorem zd(l:List Int):nf (yw l) 0= !(l.all kU):=by
 have:=pU l 0 (by omega)
 unfold yw nf
 cases h:jS l 0
 ·rw[h]at this;exact this
 ·rw[h]at this;rw[←this];rfl
abbrev dU.D:=Int
def dU.st:dU.D→SA:=fun p=>([.d tu p],[])
abbrev dU.Y:=Bool
abbrev dU.X:=Bool
def dU.out:dU.X→aX:=fun x=>⟨.d .bool x,[],[]⟩
def dU.add:dU.D→dU.Y→dU.X:=fun p y=>y
def dU.az:dU.D→Prop:=fun p=>gX p
def dU.F:dU.D→dU.Y:=fun p=> !kU p
noncomputable def dU.G:dG:=eT (P:=Tryz.prog) [bH.sg]
noncomputable def dU.an:dX:= {}
noncomputable def dU.A:= @cR Tryz.prog dU.G dU.an 0 Tryz.f150 _ dU.st
abbrev dU.Ok:=cS @dU.A dU.az dU.add dU.F dU.out
theorem dU.eq{R:Type}(p:Int)(k:aX→Option R):dU.A p k=
 au (bH.call p) fun x1=>
 k (dU.out (!x1)):=by kernel_rfl
theorem dU.ok:dU.Ok:=by
 intro p hp
 rw[dU.eq,bH.run (d:=p) hp]
 rfl
noncomputable def dU.E:=Entry.cM [some tu] dU.st dU.az dU.add dU.F dU.out
noncomputable def dU.call:dU.D→Option dU.X:=bP dU.E dU.st
theorem dU.run:bK dU.call dU.az dU.add dU.F:=de (cW [.d tu] fun _=>by kernel_rfl)
noncomputable def dU.sg:SG Tryz.prog:=⟨150,aV,dU.E,.fn 0 (by kernel_rfl) dU.ok trivial⟩
abbrev aJ.L0.D:=Bs×Int×Int
def aJ.L0.st:aJ.L0.D→AS:=fun(sv_2,t7,t8)=>⟨([.d tU sv_2,.fn 150 (.nil)]++bl 5 ([.d ti t7,.d ti t8]++bl 10 [])),[],(List.replicate 19 [])⟩
abbrev aJ.L0.Y0:=Int
abbrev aJ.L0.X0:=Int
def aJ.L0.bE:aJ.L0.X0→Exit×AS:=fun x=>(.ret,⟨(bl 4 ([.d ti x]++bl 14 [])),[],(List.replicate 19 [])⟩)
abbrev aJ.L0.Y1:=Unit
abbrev aJ.L0.X1:=Unit
def aJ.L0.gT:aJ.L0.X1→Exit×AS:=fun x=>(.exit 0,⟨(bl 19 []),[],(List.replicate 19 [])⟩)
abbrev aJ.L0.X:=(aJ.L0.X0)⊕(aJ.L0.X1)
abbrev aJ.L0.Y:=(aJ.L0.Y0)⊕(aJ.L0.Y1)
def aJ.L0.out:aJ.L0.X→Out (Exit×AS):=fun x=> .br x.isLeft (.get x.getLeft? fun a=> .ok (aJ.L0.bE a)) (.get x.getRight? fun b=> .ok (aJ.L0.gT b))
def aJ.L0.add:aJ.L0.D→aJ.L0.Y→aJ.L0.X:=fun(sv_2,t7,t8) y=>match y with | .inl y=> .inl y | .inr z=> .inr (z)
abbrev aJ.D:=Bs
def aJ.st:aJ.D→SA:=fun sv=>([.d tU sv,.fn 150 (.nil)],[])
abbrev aJ.Y:=Int
abbrev aJ.X:=Int
def aJ.out:aJ.X→aX:=fun x=>⟨.d ti x,[],[]⟩
def aJ.add:aJ.D→aJ.Y→aJ.X:=fun sv y=>y
def aJ.L0.az:aJ.L0.D→Prop:=fun(l,n,i)=>mg l∧l.length≤1000000000∧n=l.length∧∃k:Nat,k≤l.length∧i=k
def aJ.L0.F:aJ.L0.D→aJ.L0.Y:=fun(l,n,i)=>jS (l.drop i.toNat) i
def aJ.az:aJ.D→Prop:=fun l=>mg l∧l.length≤1000000000
def aJ.F:aJ.D→aJ.Y:=fun l=>yw l
noncomputable def aJ.G:dG:=eT (P:=Tryz.prog) [dU.sg]
noncomputable def aJ.L0.E:=bW.cM aJ.L0.st aJ.L0.az aJ.L0.add aJ.L0.F aJ.L0.out
noncomputable def aJ.L0.call:aJ.L0.D→Option aJ.L0.X:=dF aJ.L0.E aJ.L0.st
noncomputable def aJ.an:dX:= {loops:=l7 [(2,{bn:=[0,1,7,8]})],outs:=l6 [(2,{},{bn:=[4]})],fK:=mU [(2,aJ.L0.E)]}
noncomputable def aJ.A:= @cR Tryz.prog aJ.G aJ.an 0 Tryz.f205 _ aJ.st
abbrev aJ.Ok:=cS @aJ.A aJ.az aJ.add aJ.F aJ.out
noncomputable def aJ.L0.R:= @cz Tryz.prog aJ.G aJ.an 0 Tryz.f205 0 _ aJ.L0.st
abbrev aJ.L0.Ok:=eK Tryz.prog aJ.G aJ.an 0 Tryz.f205 0 aJ.L0.st aJ.L0.az aJ.L0.add aJ.L0.F aJ.L0.out
theorem aJ.L0.run:bK aJ.L0.call aJ.L0.az aJ.L0.add aJ.L0.F:=eU (eQ [.d tU,.d ti,.d ti] fun _=>by kernel_rfl)
theorem aJ.L0.aK:oe @aJ.L0.R aJ.L0.st aJ.L0.az aJ.L0.add aJ.L0.F aJ.L0.out aJ.L0.Ok:=py
theorem aJ.L0.step{R:Type}(sv_2:Bs)(t7:Int)(t8:Int)(kn:AS→Option R)(kx:Exit→AS→Option R):aJ.L0.R (sv_2,t7,t8) kn kx=
  aP ((gE t8 t7)) (
   aP (fo t8 (((List.length sv_2):Nat):Int)) (
   au (dU.call (nth tu sv_2 (Int.toNat t8))) fun x1=>
   aP (x1) (
    kx (aJ.L0.bE t8).1 (aJ.L0.bE t8).2) (
    kn (aJ.L0.st (sv_2,t7,(b8 .i64 t8 (1:Int)))))) none) (
   kx (aJ.L0.gT ()).1 (aJ.L0.gT ()).2):=by kernel_rfl
theorem aJ.eq{R:Type}(sv:Bs)(k:aX→Option R):aJ.A sv k=
  au (aJ.L0.call (sv,(((List.length sv):Nat):Int),(0:Int))) fun x2=>
  aP (x2.isLeft) (
   au (x2.getLeft?) fun a3=>
   k (aJ.out a3)) (
   au (x2.getRight?) fun b4=>
   k (aJ.out (-1:Int))):=by kernel_rfl
theorem aJ.L0.ok:aJ.L0.Ok:=by
 refine aJ.L0.aK (fun(l,n,i)=>l.length - i.toNat) ?_
 rintro⟨l,n,i⟩ ⟨hl,hb,rfl,k,hk,rfl⟩
 have hb:l.length≤1000000000:=hb
 have hk:k≤l.length:=hk
 by_cases h:k < l.length
 ·have hx:=hl _ (List.getElem_mem h)
  have n1:nth (.int .u64) l k=l[k]:=cX (t:= .int .u64) h
  have hd:jS (l.drop k) k=if kU l[k] then jS (l.drop (k+1)) ((k+1:Nat):Int) else .inl (k:Int):=by rw[List.drop_eq_getElem_cons h];rfl
  cases hp:kU l[k]
  ·right
   refine⟨aJ.L0.bE (k:Int),?_,fun kn kx=> ?_⟩
   ·simp only[aJ.L0.add,aJ.L0.F,Int.toNat_natCast,hd,hp,Bool.false_eq_true,if_false]
    rfl
   ·rw[aJ.L0.step]
    simp(disch:=omega) only[↓S1,↓if_pos,↓if_neg,if_pos,if_neg,if_true,if_false,S2,n1]
    rw[dU.run (d:=l[k]) hx]
    simp only[aa,dU.add,dU.F,hp,Bool.not_false,ak]
  ·left
   refine⟨(l,l.length,((k+1:Nat):Int)),⟨hl,hb,rfl,k+1,by omega,rfl⟩,by simp only[Int.toNat_natCast];omega,?_,fun kn kx=> ?_⟩
   ·simp only[aJ.L0.add,aJ.L0.F,Int.toNat_natCast,hd,hp,if_true]
   ·rw[aJ.L0.step]
    simp(disch:=omega) only[↓S1,↓if_pos,↓if_neg,if_pos,if_neg,if_true,if_false,S2,n1]
    rw[dU.run (d:=l[k]) hx]
    simp only[aa,dU.add,dU.F,hp,Bool.not_true,aw]
 ·right
  obtain rfl:k=l.length:=by omega
  refine⟨aJ.L0.gT (),?_,fun kn kx=> ?_⟩
  ·simp only[aJ.L0.add,aJ.L0.F,Int.toNat_natCast,List.drop_length]
   rfl
  ·rw[aJ.L0.step]
   simp(disch:=omega) only[↓S1,↓if_pos,↓if_neg,if_pos,if_neg,if_true,if_false,S2]
theorem aJ.ok:aJ.Ok:=by
 rintro l ⟨hl,hb⟩
 rw[aJ.eq,aJ.L0.run (d:=(l,l.length,0)) ⟨hl,hb,rfl,0,by omega,rfl⟩]
 simp only[aa,aJ.L0.add,aJ.L0.F,Int.toNat_zero,List.drop_zero,aJ.add,aJ.F,yw]
 cases jS l 0 <;> rfl
noncomputable def aJ.E:=Entry.cM [some tU,none] aJ.st aJ.az aJ.add aJ.F aJ.out
noncomputable def aJ.call:aJ.D→Option aJ.X:=bP aJ.E aJ.st
theorem aJ.run:bK aJ.call aJ.az aJ.add aJ.F:=de (cW [.d tU] fun _=>by kernel_rfl)
noncomputable def aJ.sg:SG Tryz.prog:=⟨205,aV,aJ.E,.fn 1 (by kernel_rfl) aJ.ok (And.intro (.cM aJ.L0.ok (by kernel_rfl)) trivial)⟩
abbrev bh.D:=Bs
def bh.st:bh.D→SA:=fun sv=>([.d tU sv,.fn 150 (.nil)],[])
abbrev bh.Y:=Bool
abbrev bh.X:=Bool
def bh.out:bh.X→aX:=fun x=>⟨.d .bool x,[],[]⟩
def bh.add:bh.D→bh.Y→bh.X:=fun sv y=>y
def bh.az:bh.D→Prop:=fun l=>mg l∧l.length≤1000000000
def bh.F:bh.D→bh.Y:=fun l=> !(l.all kU)
noncomputable def bh.G:dG:=eT (P:=Tryz.prog) [aJ.sg]
noncomputable def bh.an:dX:= {}
noncomputable def bh.A:= @cR Tryz.prog bh.G bh.an 0 Tryz.f152 _ bh.st
abbrev bh.Ok:=cS @bh.A bh.az bh.add bh.F bh.out
theorem bh.eq{R:Type}(sv:Bs)(k:aX→Option R):bh.A sv k=
 au (aJ.call sv) fun x1=>
 k (bh.out (nf x1 (0:Int))):=by kernel_rfl
theorem bh.ok:bh.Ok:=by
 rintro l ⟨hl,hb⟩
 rw[bh.eq,aJ.run (d:=l) ⟨hl,hb⟩]
 simp only[aa,aJ.add,aJ.F,zd]
 rfl
noncomputable def bh.E:=Entry.cM [some tU,none] bh.st bh.az bh.add bh.F bh.out
noncomputable def bh.call:bh.D→Option bh.X:=bP bh.E bh.st
theorem bh.run:bK bh.call bh.az bh.add bh.F:=de (cW [.d tU] fun _=>by kernel_rfl)
noncomputable def bh.sg:SG Tryz.prog:=⟨152,aV,bh.E,.fn 0 (by kernel_rfl) bh.ok trivial⟩
abbrev bA.D:=Int
def bA.st:bA.D→SA:=fun n=>([.d ti n],[])
abbrev bA.Y:=Bool
abbrev bA.X:=Bool
def bA.out:bA.X→aX:=fun x=>⟨.d .bool x,[],[]⟩
def bA.add:bA.D→bA.Y→bA.X:=fun n y=>y
def bA.az:bA.D→Prop:=fun _=>True
def bA.F:bA.D→bA.Y:=fun n=>qp n
noncomputable def bA.G:dG:=eT (P:=Tryz.prog) []
noncomputable def bA.an:dX:= {}
noncomputable def bA.A:= @cR Tryz.prog bA.G bA.an 0 Tryz.f153 _ bA.st
abbrev bA.Ok:=cS @bA.A bA.az bA.add bA.F bA.out
theorem bA.eq{R:Type}(n:Int)(k:aX→Option R):bA.A n k=
  aP ((nf n (0:Int))) (
   k (bA.out (zB n (1048576:Int)))) (
   k (bA.out false)):=by kernel_rfl
theorem bA.ok:bA.Ok:=by
 intro n _
 rw[bA.eq]
 simp only[bA.add,bA.F,qp]
 by_cases h:0≤n
 ·rw[fi h,ak]
  by_cases h2:n≤1048576
  ·rw[ln h2,aW ⟨h,h2⟩]
  ·rw[iV h2,bw (fun x=>h2 x.2)]
 ·rw[eh h,aw,bw (fun x=>h x.1)]
noncomputable def bA.E:=Entry.cM [some ti] bA.st bA.az bA.add bA.F bA.out
noncomputable def bA.call:bA.D→Option bA.X:=bP bA.E bA.st
theorem bA.run:bK bA.call bA.az bA.add bA.F:=de (cW [.d ti] fun _=>by kernel_rfl)
noncomputable def bA.sg:SG Tryz.prog:=⟨153,aV,bA.E,.fn 0 (by kernel_rfl) bA.ok trivial⟩
set_option synthInstance.maxSize 5000
abbrev aD.L0.D:=Lk×(List jN)×Int×Int
def aD.L0.st:aD.L0.D→AS:=fun(l_2,t7,t8,t9)=>⟨([.undef,.eH yj l_2,.undef,.fn 150 (.nil),.undef,.undef,.undef,.d (.slice jy) t7,.d ti t8,.d ti t9]++bl 47 []),[],(List.replicate 57 [])⟩
abbrev aD.L0.Y0:=Unit
abbrev aD.L0.X0:=Unit
def aD.L0.bE:aD.L0.X0→Exit×AS:=fun x=>(.ret,⟨([.undef,.undef,.d .bool false]++bl 54 []),[],(List.replicate 57 [])⟩)
abbrev aD.L0.Y1:=Unit
abbrev aD.L0.X1:=Lk
def aD.L0.gT:aD.L0.X1→Exit×AS:=fun x=>(.exit 0,⟨([.undef,.eH yj x]++bl 55 []),[],(List.replicate 57 [])⟩)
abbrev aD.L0.X:=(aD.L0.X0)⊕(aD.L0.X1)
abbrev aD.L0.Y:=(aD.L0.Y0)⊕(aD.L0.Y1)
def aD.L0.out:aD.L0.X→Out (Exit×AS):=fun x=> .br x.isLeft (.get x.getLeft? fun a=> .ok (aD.L0.bE a)) (.get x.getRight? fun b=> .ok (aD.L0.gT b))
def aD.L0.add:aD.L0.D→aD.L0.Y→aD.L0.X:=fun(l_2,t7,t8,t9) y=>match y with | .inl y=> .inl y | .inr z=> .inr (l_2)
abbrev aD.D:=Lk
def aD.st:aD.D→SA:=fun l=>([.d yj l],[])
abbrev aD.Y:=Bool
abbrev aD.X:=Bool
def aD.out:aD.X→aX:=fun x=>⟨.d .bool x,[],[]⟩
def aD.add:aD.D→aD.Y→aD.X:=fun l y=>y
def aD.L0.az:aD.L0.D→Prop:=fun(l,bs,n,i)=>(∀b∈bs,Fh b)∧bs.length≤9223372036854775807∧n=bs.length∧∃k:Nat,k≤bs.length∧i=k
def aD.L0.F:aD.L0.D→aD.L0.Y:=fun(l,bs,n,i)=>if(bs.drop i.toNat).all nb then .inr () else .inl ()
def aD.az:aD.D→Prop:=fun l=>Ap l∧l.1.length≤9223372036854775807
def aD.F:aD.D→aD.Y:=fun l=>jn l
noncomputable def aD.G:dG:=eT (P:=Tryz.prog) [bh.sg,bA.sg,dU.sg]
noncomputable def aD.L0.E:=bW.cM aD.L0.st aD.L0.az aD.L0.add aD.L0.F aD.L0.out
noncomputable def aD.L0.call:aD.L0.D→Option aD.L0.X:=dF aD.L0.E aD.L0.st
noncomputable def aD.an:dX:= {loops:=l7 [(3,{bn:=[1,3,7,8,9]})],outs:=l6 [(3,{bn:=[1]},{bn:=[2]})],fK:=mU [(3,aD.L0.E)]}
noncomputable def aD.A:= @cR Tryz.prog aD.G aD.an 0 Tryz.f77 _ aD.st
abbrev aD.Ok:=cS @aD.A aD.az aD.add aD.F aD.out
noncomputable def aD.L0.R:= @cz Tryz.prog aD.G aD.an 0 Tryz.f77 0 _ aD.L0.st
abbrev aD.L0.Ok:=eK Tryz.prog aD.G aD.an 0 Tryz.f77 0 aD.L0.st aD.L0.az aD.L0.add aD.L0.F aD.L0.out
theorem aD.L0.run:bK aD.L0.call aD.L0.az aD.L0.add aD.L0.F:=eU (eQ [.d yj,.d (.slice jy),.d ti,.d ti] fun _=>by kernel_rfl)
theorem aD.L0.aK:oe @aD.L0.R aD.L0.st aD.L0.az aD.L0.add aD.L0.F aD.L0.out aD.L0.Ok:=py
theorem aD.L0.step{R:Type}(l_2:Lk)(t7:(List jN))(t8:Int)(t9:Int)(kn:AS→Option R)(kx:Exit→AS→Option R):aD.L0.R (l_2,t7,t8,t9) kn kx=
  aP ((gE t9 t8)) (
   aP (fo t9 (((List.length t7):Nat):Int)) (
   aP ((pZ (((List.length (nth jy t7 (Int.toNat t9)).1):Nat):Int) (12:Int))) (
    kx (aD.L0.bE ()).1 (aD.L0.bE ()).2) (
    au (bh.call (nth jy t7 (Int.toNat t9)).1) fun x1=>
    aP (x1) (
     kx (aD.L0.bE ()).1 (aD.L0.bE ()).2) (
     au (bA.call (nth jy t7 (Int.toNat t9)).2.1) fun x2=>
     aP ((!x2)) (
      kx (aD.L0.bE ()).1 (aD.L0.bE ()).2) (
      au (bA.call (nth jy t7 (Int.toNat t9)).2.2.1) fun x3=>
      aP ((!x3)) (
       kx (aD.L0.bE ()).1 (aD.L0.bE ()).2) (
       aP ((tJ (nth jy t7 (Int.toNat t9)).2.2.2.1 (0:Int))) (
        au (dU.call (nth jy t7 (Int.toNat t9)).2.2.2.1) fun x4=>
        aP (x4) (
         kx (aD.L0.bE ()).1 (aD.L0.bE ()).2) (
         kn (aD.L0.st (l_2,t7,t8,(b8 .i64 t9 (1:Int)))))) (
        kn (aD.L0.st (l_2,t7,t8,(b8 .i64 t9 (1:Int)))))))))) none) (
   kx (aD.L0.gT l_2).1 (aD.L0.gT l_2).2):=by kernel_rfl
theorem aD.eq{R:Type}(l:Lk)(k:aX→Option R):aD.A l k=
  au (aD.L0.call (l,l.1,(((List.length l.1):Nat):Int),(0:Int))) fun x5=>
  aP (x5.isLeft) (
   au (x5.getLeft?) fun a6=>
   k (aD.out false)) (
   au (x5.getRight?) fun b7=>
   aP ((pZ (((List.length b7.1):Nat):Int) (0:Int))) (
    k (aD.out (zB (((List.length b7.1):Nat):Int) (4:Int)))) (
    k (aD.out false))):=by kernel_rfl
theorem aD.L0.ok:aD.L0.Ok:=by
 refine aD.L0.aK (fun(l,bs,n,i)=>bs.length - i.toNat) ?_
 rintro⟨l,bs,n,i⟩ ⟨hl,hb,rfl,k,hk,rfl⟩
 have hb:bs.length≤9223372036854775807:=hb
 have hk:k≤bs.length:=hk
 by_cases h:k < bs.length
 ·have hx:Fh bs[k]:=hl _ (List.getElem_mem h)
  have n1:nth (.pair (.slice (.int .u64)) (.pair (.int .i64) (.pair (.int .i64) (.pair (.int .u64) .unit)))) bs k=bs[k]:=cX (t:=(.pair (.slice (.int .u64)) (.pair (.int .i64) (.pair (.int .i64) (.pair (.int .u64) .unit))))) h
  have hd:(bs.drop k).all nb=(nb bs[k] && (bs.drop (k+1)).all nb):=by rw[List.drop_eq_getElem_cons h,List.all_cons]
  have step:∀ {R:Type} (kn:AS→Option R) (kx:Exit→AS→Option R),aD.L0.R (l,bs,(bs.length:Int),(k:Int)) kn kx=aP (nb bs[k]) (kn (aD.L0.st (l,bs,(bs.length:Int),((k+1:Nat):Int)))) (kx (aD.L0.bE ()).1 (aD.L0.bE ()).2):=by
   intro R kn kx
   rw[aD.L0.step,bq (by omega),bu (by omega) (by omega),Int.toNat_natCast,n1,N.nj (by omega)]
   obtain⟨⟨ks,af,dl,sc,u⟩,hbk⟩:∃b,bs[k]=b:=⟨_,rfl⟩
   rw[hbk]at hx ⊢
   have h1:mg ks:=hx.1
   have h2:gX sc:=hx.2
   simp only[ak,nb]
   by_cases hk:ks.length≤12
   ·rw[dS (by omega),bh.run (d:=ks) ⟨h1,by omega⟩,bA.run (d:=af) trivial,bA.run (d:=dl) trivial,dU.run (d:=sc) h2,aW hk]
    simp only[aw,aa,bh.add,bh.F,bA.add,bA.F,dU.add,dU.F,Bool.true_and]
    cases ks.all kU
    ·rfl
    cases qp af
    ·rfl
    cases qp dl
    ·rfl
    by_cases hs:sc=0
    ·rw[eY hs,aW hs];rfl
    ·rw[gh hs,bw hs]
     cases kU sc <;> rfl
   ·rw[dZ (by omega),bw hk];rfl
  cases hp:nb bs[k]
  ·right
   refine⟨aD.L0.bE (),?_,fun kn kx=> ?_⟩
   ·simp only[aD.L0.add,aD.L0.F,Int.toNat_natCast,hd,hp,Bool.false_and,Bool.false_eq_true,if_false]
    rfl
   ·rw[step,hp,aw]
  ·left
   refine⟨(l,bs,bs.length,((k+1:Nat):Int)),⟨hl,hb,rfl,k+1,by omega,rfl⟩,by simp only[Int.toNat_natCast];omega,?_,fun kn kx=> ?_⟩
   ·simp only[aD.L0.add,aD.L0.F,Int.toNat_natCast,hd,hp,Bool.true_and]
   ·rw[step,hp,ak]
 ·right
  obtain rfl:k=bs.length:=by omega
  refine⟨aD.L0.gT l,?_,fun kn kx=> ?_⟩
  ·simp only[aD.L0.add,aD.L0.F,Int.toNat_natCast,List.drop_length]
   rfl
  ·rw[aD.L0.step]
   simp(disch:=omega) only[↓S1,↓if_pos,↓if_neg,if_pos,if_neg,if_true,if_false,S2]
theorem aD.ok:aD.Ok:=by
 rintro l ⟨hl,hb⟩
 have hb:l.1.length≤9223372036854775807:=hb
 rw[aD.eq,aD.L0.run (d:=(l,l.1,l.1.length,0)) ⟨hl,hb,rfl,0,by omega,rfl⟩]
 simp only[aa,aD.L0.add,aD.L0.F,Int.toNat_zero,List.drop_zero,aD.add,aD.F,jn]
 cases l.1.all nb
 ·rfl
 ·simp only[if_true,Bool.true_and]
  show aP (pZ _ _) _ _=_
  by_cases h0:0 < l.1.length
  ·rw[dZ (by omega)]
   by_cases h4:l.1.length≤4
   ·rw[ln (by omega),aW ⟨h0,h4⟩];rfl
   ·rw[iV (by omega),bw (fun x=>h4 x.2)];rfl
  ·rw[dS (by omega),bw (fun x=>h0 x.1)];rfl
noncomputable def aD.E:=Entry.cM [some yj] aD.st aD.az aD.add aD.F aD.out
noncomputable def aD.call:aD.D→Option aD.X:=bP aD.E aD.st
theorem aD.run:bK aD.call aD.az aD.add aD.F:=de (cW [.d yj] fun _=>by kernel_rfl)
noncomputable def aD.sg:SG Tryz.prog:=⟨77,aV,aD.E,.fn 1 (by kernel_rfl) aD.ok (And.intro (.cM aD.L0.ok (by kernel_rfl)) trivial)⟩
def jH(m:List Int):List Int→List Sg→Bool
 |[],_=>true
 |p::ps,ss=>kb p m 1 (ss.headD (0,0,())) && jH m ps ss.tail
def lr(l:Lk)(w:tf)(m:List Int)(height age:Int):Int:=
 if jn l=false∨w.1 < 0∨w.1≥l.1.length then 1
 else
  let b:=nth (.pair (.slice (.int .u64)) (.pair (.int .i64) (.pair (.int .i64) (.pair (.int .u64) .unit)))) l.1 w.1.toNat
  if height < b.2.1∨age < b.2.2.1 then 11
  else if b.2.2.2.1≠0∧dN w.2.2.1≠b.2.2.2.1 then 23
  else if w.2.1.length≠b.1.length then 7
  else if jH m b.1 w.2.1 then 0 else 7
theorem Al(m:List Int)(ks:List Int)(ss:List Sg)(h:ss.length=ks.length)(k:Nat)(hk:k < ks.length):jH m (ks.drop k) (ss.drop k)=(kb ks[k] m 1 (ss[k]'(by omega)) && jH m (ks.drop (k+1)) (ss.drop (k+1))):=by
 rw[List.drop_eq_getElem_cons hk,List.drop_eq_getElem_cons (by omega:k < ss.length)]
 rfl
def xg(w:tf):Prop:=(∀s∈w.2.1,EF s)∧gX w.2.2.1
abbrev aS.L0.D:=tf×Bs×Bs×Int×Int
def aS.L0.st:aS.L0.D→AS:=fun(wv_2,m_2,t68,t69,t70)=>⟨(bl 6 ([.eH B6 wv_2,.eH tH m_2]++bl 60 ([.d tU t68,.d ti t69,.d ti t70]++bl 14 []))),[],(List.replicate 85 [])⟩
abbrev aS.L0.Y0:=Unit
abbrev aS.L0.X0:=Unit
def aS.L0.bE:aS.L0.X0→Exit×AS:=fun x=>(.ret,⟨(bl 10 ([.d ti (7:Int)]++bl 74 [])),[],(List.replicate 85 [])⟩)
abbrev aS.L0.Y1:=Unit
abbrev aS.L0.X1:=Unit
def aS.L0.gT:aS.L0.X1→Exit×AS:=fun x=>(.exit 1,⟨(bl 85 []),[],(List.replicate 85 [])⟩)
abbrev aS.L0.X:=(aS.L0.X0)⊕(aS.L0.X1)
abbrev aS.L0.Y:=(aS.L0.Y0)⊕(aS.L0.Y1)
def aS.L0.out:aS.L0.X→Out (Exit×AS):=fun x=> .br x.isLeft (.get x.getLeft? fun a=> .ok (aS.L0.bE a)) (.get x.getRight? fun b=> .ok (aS.L0.gT b))
def aS.L0.add:aS.L0.D→aS.L0.Y→aS.L0.X:=fun(wv_2,m_2,t68,t69,t70) y=>match y with | .inl y=> .inl y | .inr z=> .inr (z)
abbrev aS.D:=Lk×tf×Bs×Int×Int
def aS.st:aS.D→SA:=fun(l,wv,m,height,age)=>([.d yj l,.d B6 wv,.d tH m,.d ti height,.d ti age],[])
abbrev aS.Y:=Int
abbrev aS.X:=Int
def aS.out:aS.X→aX:=fun x=>⟨.d ti x,[],[]⟩
def aS.add:aS.D→aS.Y→aS.X:=fun(l,wv,m,height,age) y=>y
def aS.L0.az:aS.L0.D→Prop:=fun(w,m,ks,n,i)=>xg w∧Sm m∧mg ks∧ks.length≤1000000000∧w.2.1.length=ks.length∧n=ks.length∧∃k:Nat,k≤ks.length∧i=k
def aS.L0.F:aS.L0.D→aS.L0.Y:=fun(w,m,ks,n,i)=>if jH m (ks.drop i.toNat) (w.2.1.drop i.toNat) then .inr () else .inl ()
def aS.az:aS.D→Prop:=fun(l,w,m,h,a)=>Ap l∧l.1.length≤9223372036854775807∧xg w∧Sm m
def aS.F:aS.D→aS.Y:=fun(l,w,m,h,a)=>lr l w m h a
noncomputable def aS.G:dG:=eT (P:=Tryz.prog) [aD.sg,cw.sg,bM.sg]
noncomputable def aS.L0.E:=bW.cM aS.L0.st aS.L0.az aS.L0.add aS.L0.F aS.L0.out
noncomputable def aS.L0.call:aS.L0.D→Option aS.L0.X:=dF aS.L0.E aS.L0.st
noncomputable def aS.an:dX:= {loops:=l7 [(11,{bn:=[6,7,68,69,70]})],outs:=l6 [(11,{},{bn:=[10]})],fK:=mU [(11,aS.L0.E)]}
noncomputable def aS.A:= @cR Tryz.prog aS.G aS.an 0 Tryz.f84 _ aS.st
abbrev aS.Ok:=cS @aS.A aS.az aS.add aS.F aS.out
noncomputable def aS.L0.R:= @cz Tryz.prog aS.G aS.an 0 Tryz.f84 0 _ aS.L0.st
abbrev aS.L0.Ok:=eK Tryz.prog aS.G aS.an 0 Tryz.f84 0 aS.L0.st aS.L0.az aS.L0.add aS.L0.F aS.L0.out
theorem aS.L0.run:bK aS.L0.call aS.L0.az aS.L0.add aS.L0.F:=eU (eQ [.d B6,.d tH,.d tU,.d ti,.d ti] fun _=>by kernel_rfl)
theorem aS.L0.aK:oe @aS.L0.R aS.L0.st aS.L0.az aS.L0.add aS.L0.F aS.L0.out aS.L0.Ok:=py
theorem aS.L0.step{R:Type}(wv_2:tf)(m_2:Bs)(t68:Bs)(t69:Int)(t70:Int)(kn:AS→Option R)(kx:Exit→AS→Option R):aS.L0.R (wv_2,m_2,t68,t69,t70) kn kx=
  aP ((gE t70 t69)) (
   aP (fo t70 (((List.length t68):Nat):Int)) (
   aP (fo t70 (((List.length wv_2.2.1):Nat):Int)) (
   au (bM.call ((nth tu t68 (Int.toNat t70)),m_2,(nth u9 wv_2.2.1 (Int.toNat t70)))) fun x1=>
   aP ((!x1)) (
    kx (aS.L0.bE ()).1 (aS.L0.bE ()).2) (
    kn (aS.L0.st (wv_2,m_2,t68,t69,(b8 .i64 t70 (1:Int)))))) none) none) (
   kx (aS.L0.gT ()).1 (aS.L0.gT ()).2):=by kernel_rfl
theorem aS.eq{R:Type}(l:Lk)(wv:tf)(m:Bs)(height:Int)(age:Int)(k:aX→Option R):aS.A (l,wv,m,height,age) k=
  au (aD.call l) fun x1=>
  aP ((!x1)) (
   k (aS.out (1:Int))) (
   aP ((gE wv.1 (0:Int))) (
    k (aS.out (1:Int))) (
    aP ((nf wv.1 (((List.length l.1):Nat):Int))) (
     k (aS.out (1:Int))) (
     aP (fo wv.1 (((List.length l.1):Nat):Int)) (
     aP ((gE height (nth jy l.1 (Int.toNat wv.1)).2.1)) (
      k (aS.out (11:Int))) (
      aP ((gE age (nth jy l.1 (Int.toNat wv.1)).2.2.1)) (
       k (aS.out (11:Int))) (
       aP ((tJ (nth jy l.1 (Int.toNat wv.1)).2.2.2.1 (0:Int))) (
        au (cw.call wv.2.2.1) fun x2=>
        aP ((tJ x2 (nth jy l.1 (Int.toNat wv.1)).2.2.2.1)) (
         k (aS.out (23:Int))) (
         aP ((tJ (((List.length wv.2.1):Nat):Int) (((List.length (nth jy l.1 (Int.toNat wv.1)).1):Nat):Int))) (
          k (aS.out (7:Int))) (
          au (aS.L0.call (wv,m,(nth jy l.1 (Int.toNat wv.1)).1,(((List.length (nth jy l.1 (Int.toNat wv.1)).1):Nat):Int),(0:Int))) fun x4=>
          aP (x4.isLeft) (
           au (x4.getLeft?) fun a5=>
           k (aS.out (7:Int))) (
           au (x4.getRight?) fun b6=>
           k (aS.out (0:Int)))))) (
        aP ((tJ (((List.length wv.2.1):Nat):Int) (((List.length (nth jy l.1 (Int.toNat wv.1)).1):Nat):Int))) (
         k (aS.out (7:Int))) (
         au (aS.L0.call (wv,m,(nth jy l.1 (Int.toNat wv.1)).1,(((List.length (nth jy l.1 (Int.toNat wv.1)).1):Nat):Int),(0:Int))) fun x7=>
         aP (x7.isLeft) (
          au (x7.getLeft?) fun a8=>
          k (aS.out (7:Int))) (
          au (x7.getRight?) fun b9=>
          k (aS.out (0:Int)))))))) none))):=by kernel_rfl
theorem aS.L0.ok:aS.L0.Ok:=by
 refine aS.L0.aK (fun(w,m,ks,n,i)=>ks.length - i.toNat) ?_
 rintro⟨w,m,ks,n,i⟩ ⟨hw,hm,hl,hb,hs,rfl,k,hk,rfl⟩
 have hb:ks.length≤1000000000:=hb
 have hk:k≤ks.length:=hk
 have hs:w.2.1.length=ks.length:=hs
 by_cases h:k < ks.length
 ·have hx:=hl _ (List.getElem_mem h)
  have hy:=hw.1 _ (List.getElem_mem (by omega:k < w.2.1.length))
  have n1:nth (.int .u64) ks k=ks[k]:=cX (t:= .int .u64) h
  have n2:nth (.pair (.int .u64) (.pair (.int .u64) .unit)) w.2.1 k=w.2.1[k]'(by omega):=cX (t:=(.pair (.int .u64) (.pair (.int .u64) .unit))) (by omega)
  have hd:=Al m ks w.2.1 hs k h
  have step:∀ {R:Type} (kn:AS→Option R) (kx:Exit→AS→Option R),aS.L0.R (w,m,ks,(ks.length:Int),(k:Int)) kn kx=aP (kb ks[k] m 1 (w.2.1[k]'(by omega))) (kn (aS.L0.st (w,m,ks,(ks.length:Int),((k+1:Nat):Int)))) (kx (aS.L0.bE ()).1 (aS.L0.bE ()).2):=by
   intro R kn kx
   rw[aS.L0.step,bq (by omega),bu (by omega) (by omega),bu (by omega) (by omega),Int.toNat_natCast,n1,n2,N.nj (by omega),bM.run (d:=(ks[k],m,w.2.1[k]'(by omega))) ⟨hx,hm,hy⟩]
   simp only[ak,aa,bM.add,bM.F]
   cases kb ks[k] m 1 (w.2.1[k]'(by omega)) <;> rfl
  cases hp:kb ks[k] m 1 (w.2.1[k]'(by omega))
  ·right
   refine⟨aS.L0.bE (),?_,fun kn kx=> ?_⟩
   ·simp only[aS.L0.add,aS.L0.F,Int.toNat_natCast,hd,hp,Bool.false_and,Bool.false_eq_true,if_false]
    rfl
   ·rw[step,hp,aw]
  ·left
   refine⟨(w,m,ks,ks.length,((k+1:Nat):Int)),⟨hw,hm,hl,hb,hs,rfl,k+1,by omega,rfl⟩,by simp only[Int.toNat_natCast];omega,?_,fun kn kx=> ?_⟩
   ·simp only[aS.L0.add,aS.L0.F,Int.toNat_natCast,hd,hp,Bool.true_and]
   ·rw[step,hp,ak]
 ·right
  obtain rfl:k=ks.length:=by omega
  refine⟨aS.L0.gT (),?_,fun kn kx=> ?_⟩
  ·simp only[aS.L0.add,aS.L0.F,Int.toNat_natCast,List.drop_length]
   rfl
  ·rw[aS.L0.step]
   simp(disch:=omega) only[↓S1,↓if_pos,↓if_neg,if_pos,if_neg,if_true,if_false,S2]
theorem zJ{l:Lk}(h:jn l=true){b:jN}(hb:b∈l.1):b.1.length≤12:=by
 unfold jn at h
 rw[Bool.and_eq_true,List.all_eq_true]at h
 have:=h.1 b hb
 unfold nb at this
 rw[Bool.and_eq_true]at this
 simpa using this.1
theorem aS.ok:aS.Ok:=by
  rintro⟨l,w,m,h,a⟩ ⟨hl,hb,hw,hm⟩
  have hl:Ap l:=hl
  have hb:l.1.length≤9223372036854775807:=hb
  have hw:xg w:=hw
  have hm:Sm m:=hm
  rw[aS.eq,aD.run (d:=l) ⟨hl,hb⟩]
  simp only[aa,aD.add,aD.F,aS.add,aS.F,lr]
  cases hok:jn l
  · rw[if_pos (Or.inl rfl)];rfl
  by_cases h0:w.1 < 0
  · rw[bq h0,if_pos (Or.inr (Or.inl h0))];rfl
  by_cases h1:w.1≥l.1.length
  · rw[bm h0,fi h1,if_pos (Or.inr (Or.inr h1))];rfl
  rw[bm h0,eh h1,bu (by omega) (by omega),if_neg (by simp[h0];omega)]
  have hn:w.1.toNat < l.1.length:=by omega
  have n1:nth (.pair (.slice (.int .u64)) (.pair (.int .i64) (.pair (.int .i64) (.pair (.int .u64) .unit)))) l.1 w.1.toNat=l.1[w.1.toNat]:=cX (t:=(.pair (.slice (.int .u64)) (.pair (.int .i64) (.pair (.int .i64) (.pair (.int .u64) .unit))))) hn
  rw[n1]
  have hx:Fh l.1[w.1.toNat]:=hl _ (List.getElem_mem hn)
  have hkl:=zJ hok (List.getElem_mem hn)
  obtain⟨⟨ks,af,dl,sc,u⟩,hbk⟩:∃b,l.1[w.1.toNat]=b:=⟨_,rfl⟩
  rw[hbk]at hx hkl ⊢
  have hks:mg ks:=hx.1
  have hkl:ks.length≤12:=hkl
  simp only[Bool.not_true,aw,ak]
  by_cases e1:h < af
  · rw[bq e1,if_pos (Or.inl e1)];rfl
  by_cases e2:a < dl
  · rw[bm e1,bq e2,if_pos (Or.inr e2)];rfl
  rw[bm e1,bm e2,if_neg (by simp[e1,e2]),cw.run (d:=w.2.2.1) hw.2]
  simp only[aw,aa,cw.add,cw.F]
  have last:aP (tJ ((w.2.1.length:Nat):Int) ((ks.length:Nat):Int)) (some (aS.out (7:Int))) (
          au (aS.L0.call (w,m,ks,((ks.length:Nat):Int),(0:Int))) fun x4=>
          aP (x4.isLeft) (au (x4.getLeft?) fun a5=>some (aS.out (7:Int))) (au (x4.getRight?) fun b6=>some (aS.out (0:Int))))=some (aS.out (if w.2.1.length≠ks.length then 7 else if jH m ks w.2.1 then 0 else 7)):=by
    by_cases e3:w.2.1.length=ks.length
    · rw[eY (by omega),if_neg (by simp[e3]),aw,aS.L0.run (d:=(w,m,ks,ks.length,0)) ⟨hw,hm,hks,by show ks.length≤1000000000;omega,e3,rfl,0,by omega,rfl⟩]
      simp only[aa,aS.L0.add,aS.L0.F,Int.toNat_zero,List.drop_zero]
      cases jH m ks w.2.1 <;> rfl
    · rw[gh (by omega),if_pos e3];rfl
  by_cases e4:sc=0
  · rw[eY e4,if_neg (by simp[e4]),aw]
    exact last
  · rw[gh e4,ak]
    by_cases e5:dN w.2.2.1=sc
    · rw[eY e5,if_neg (by simp[e5]),aw]
      exact last
    · rw[gh e5,if_pos ⟨e4,e5⟩];rfl
noncomputable def aS.E:=Entry.cM [some yj,some B6,some tH,some ti,some ti] aS.st aS.az aS.add aS.F aS.out
noncomputable def aS.call:aS.D→Option aS.X:=bP aS.E aS.st
theorem aS.run:bK aS.call aS.az aS.add aS.F:=de (cW [.d yj,.d B6,.d tB,.d ti,.d ti] fun _=>by kernel_rfl)
noncomputable def aS.sg:SG Tryz.prog:=⟨84,aV,aS.E,.fn 1 (by kernel_rfl) aS.ok (And.intro (.cM aS.L0.ok (by kernel_rfl)) trivial)⟩
set_option synthInstance.maxSize 5000
abbrev dp.D:=Int
def dp.st:dp.D→SA:=fun n=>([.dv,.d ti n],[])
abbrev dp.Y:=Nat×(List Int)
abbrev dp.X:=Nat×(List Int)
def dp.out:dp.X→aX:=fun x=>⟨.bp (.new 0 0) 0 [] 0 0 x.1,[],[.obj 0 false (.vec 5 tb x.2)]⟩
def dp.add:dp.D→dp.Y→dp.X:=fun n y=>y
def dp.az:dp.D→Prop:=fun n=>∃k:Nat,n=k∧k≤100000000
def dp.F:dp.D→dp.Y:=fun n=>(0,List.replicate n.toNat 0)
noncomputable def dp.G:dG:=eT (P:=Tryz.prog) []
noncomputable def dp.an:dX:= {kk:=[⟨4,[],22,140⟩]}
noncomputable def dp.A:= @cR Tryz.prog dp.G dp.an 0 Tryz.f249 _ dp.st
abbrev dp.Ok:=cS @dp.A dp.az dp.add dp.F dp.out
theorem dp.eq{R:Type}(n:Int)(k:aX→Option R):dp.A n k=
  aP ((gE n (0:Int))) (
   none) (
   aP ((pZ (cI .i64 n (0:Int)) (0:Int))) (
    aP (decide (0 < (cI .i64 n (0:Int))) && dw (Int.toNat (cI .i64 n (0:Int))) 1) (
    aP (inc (0:Int) (((Int.toNat (cI .i64 n (0:Int))):Nat):Int)) (
    k (dp.out (0,(List.replicate (Int.toNat (cI .i64 n (0:Int))) (0:Int))))) none) none) (
    k (dp.out (0,([]:List Int))))):=by kernel_rfl
theorem dp.ok:dp.Ok:=by
 rintro n ⟨k,rfl,hk⟩
 have e:cI .i64 (k:Int) 0=(k:Int):=by rw[dT (by omega) (by omega)];omega
 rw[dp.eq,e,bm (by omega),aw]
 by_cases h:0 < k
 ·rw[dZ (by omega),Int.toNat_natCast,aW (by omega),eG (by omega) (by omega),lp (by omega) (by omega)]
  rfl
 ·obtain rfl:k=0:=by omega
  rfl
noncomputable def dp.E:=Entry.cM [none,some ti] dp.st dp.az dp.add dp.F dp.out
noncomputable def dp.call:dp.D→Option dp.X:=bP dp.E dp.st
theorem dp.run:bK dp.call dp.az dp.add dp.F:=de (cW [.d ti] fun _=>by kernel_rfl)
noncomputable def dp.sg:SG Tryz.prog:=⟨249,aV,dp.E,.fn 0 (by kernel_rfl) dp.ok trivial⟩
def iy(l:List (List Int)):Nat:=l.flatten.length
def sO(n:Nat)(l:List Int):List (List Int)→Nat×List Int
 |[]=>(n,l)
 |s::r=>(n+(s::r).flatten.length,l.take n++(s::r).flatten)
theorem zl(n:Nat)(l s:List Int)(r:List (List Int))(h:n≤l.length):sO n l (s::r)=sO (n+s.length) (l.take n++s) r:=by
 have hl:(l.take n++s).length=n+s.length:=by rw[List.length_append,List.length_take];omega
 cases r with
 |nil=>simp[sO]
 |cons t r=>
  simp only[sO]
  rw[List.take_of_length_le (Nat.le_of_eq hl)]
  simp only[List.flatten_cons,List.length_append,List.append_assoc,Nat.add_assoc]
theorem Ci(n:Nat)(z:List Int)(r:List (List Int)):(sO 0 z r).1≤(sO 0 z r).2.length∧cut (sO 0 z r).2 0 (sO 0 z r).1=r.flatten:=by
 cases r with
 |nil=>exact⟨Nat.zero_le _,rfl⟩
 |cons s r=>
  simp only[sO,List.take_zero,List.nil_append,Nat.zero_add]
  exact⟨Nat.le_refl _,by show List.take _ (List.drop 0 _)=_;rw[List.drop_zero,List.take_length]⟩
abbrev aj.L0.D:=(List Bs)×Int×(List Bs)×Int×Int
def aj.L0.st:aj.L0.D→AS:=fun(slices_2,size,t9,t10,t11)=>⟨([.d (.slice tB) slices_2,.undef,.undef,.d ti size]++bl 5 ([.d (.slice tB) t9,.d ti t10,.d ti t11]++bl 24 [])),[],(List.replicate 36 [])⟩
abbrev aj.L0.Y0:=Int
abbrev aj.L0.X0:=((List Bs))×(Int)
def aj.L0.bE:aj.L0.X0→Exit×AS:=fun x=>(.exit 0,⟨([.d (.slice tB) x.1,.undef,.undef,.d ti x.2]++bl 32 []),[],(List.replicate 36 [])⟩)
abbrev aj.L0.X:=aj.L0.X0
abbrev aj.L0.Y:=aj.L0.Y0
def aj.L0.out:aj.L0.X→Out (Exit×AS):=fun x=> .ok (aj.L0.bE x)
def aj.L0.add:aj.L0.D→aj.L0.Y→aj.L0.X:=fun(slices_2,size,t9,t10,t11) y=>(slices_2,y)
abbrev aj.L1.D:=Nat×(List Bs)×Int×Int×(List Int)
def aj.L1.st:aj.L1.D→AS:=fun(newsliceL,t25,t26,t27,n24)=>⟨(bl 6 ([.bp (.new 24 0) 0 [] 0 0 newsliceL]++bl 18 ([.d (.slice tB) t25,.d ti t26,.d ti t27]++bl 8 []))),[],(cj 24 ([[.obj 0 false (.vec 5 tb n24)]]++cj 11 []))⟩
abbrev aj.L1.Y0:=Nat×(List Int)
abbrev aj.L1.X0:=Nat×(List Int)
def aj.L1.bE:aj.L1.X0→Exit×AS:=fun x=>(.exit 2,⟨(bl 6 ([.bp (.new 24 0) 0 [] 0 0 x.1]++bl 29 [])),[],(cj 24 ([[.obj 0 false (.vec 5 tb x.2)]]++cj 11 []))⟩)
abbrev aj.L1.X:=aj.L1.X0
abbrev aj.L1.Y:=aj.L1.Y0
def aj.L1.out:aj.L1.X→Out (Exit×AS):=fun x=> .ok (aj.L1.bE x)
def aj.L1.add:aj.L1.D→aj.L1.Y→aj.L1.X:=fun(newsliceL,t25,t26,t27,n24) y=>y
abbrev aj.D:=(List Bs)
def aj.st:aj.D→SA:=fun slices=>([.d (.slice tB) slices],[])
abbrev aj.Y:=Bs
abbrev aj.X:=Bs
def aj.out:aj.X→aX:=fun x=>⟨.d tB x,[],[]⟩
def aj.add:aj.D→aj.Y→aj.X:=fun slices y=>y
def aj.L0.az:aj.L0.D→Prop:=fun(s,size,t,n,i)=>s.length≤1000000∧t=s∧n=s.length∧∃k z:Nat,k≤s.length∧i=k∧size=z∧z+iy (s.drop k)≤100000000
def aj.L0.F:aj.L0.D→aj.L0.Y:=fun(s,size,t,n,i)=>((size:Int)+((iy (s.drop i.toNat):Nat):Int):Int)
def aj.L1.az:aj.L1.D→Prop:=fun(n,s,t,i,l)=>s.length≤1000000∧n≤l.length∧t=s.length∧∃k:Nat,k≤s.length∧i=k∧n+iy (s.drop k)≤100000000
def aj.L1.F:aj.L1.D→aj.L1.Y:=fun(n,s,t,i,l)=>sO n l (s.drop i.toNat)
def aj.az:aj.D→Prop:=fun s=>s.length≤1000000∧iy s≤100000000
def aj.F:aj.D→aj.Y:=fun s=>s.flatten
noncomputable def aj.G:dG:=eT (P:=Tryz.prog) [dp.sg]
noncomputable def aj.L0.E:=bW.cM aj.L0.st aj.L0.az aj.L0.add aj.L0.F aj.L0.out
noncomputable def aj.L0.call:aj.L0.D→Option aj.L0.X:=dF aj.L0.E aj.L0.st
noncomputable def aj.L1.E:=bW.cM aj.L1.st aj.L1.az aj.L1.add aj.L1.F aj.L1.out
noncomputable def aj.L1.call:aj.L1.D→Option aj.L1.X:=dF aj.L1.E aj.L1.st
noncomputable def aj.an:dX:= {loops:=l7 [(3,{bn:=[0,3,9,10,11]}),(11,{bn:=[6,25,26,27],sites:=[24],kk:=[⟨6,[],24,140⟩]})],outs:=l6 [(3,{bn:=[0,3]},{bn:=[2]}),(11,{bn:=[6],sites:=[24]},{bn:=[2]})],fK:=mU [(3,aj.L0.E),(11,aj.L1.E)],res:=[some tB]}
noncomputable def aj.A:= @cR Tryz.prog aj.G aj.an 0 Tryz.f203 _ aj.st
abbrev aj.Ok:=cS @aj.A aj.az aj.add aj.F aj.out
noncomputable def aj.L0.R:= @cz Tryz.prog aj.G aj.an 0 Tryz.f203 0 _ aj.L0.st
abbrev aj.L0.Ok:=eK Tryz.prog aj.G aj.an 0 Tryz.f203 0 aj.L0.st aj.L0.az aj.L0.add aj.L0.F aj.L0.out
noncomputable def aj.L1.R:= @cz Tryz.prog aj.G aj.an 0 Tryz.f203 1 _ aj.L1.st
abbrev aj.L1.Ok:=eK Tryz.prog aj.G aj.an 0 Tryz.f203 1 aj.L1.st aj.L1.az aj.L1.add aj.L1.F aj.L1.out
theorem aj.L0.run:bK aj.L0.call aj.L0.az aj.L0.add aj.L0.F:=eU (eQ [.d (.slice tB),.d ti,.d (.slice tB),.d ti,.d ti] fun _=>by kernel_rfl)
theorem aj.L0.aK:fZ @aj.L0.R aj.L0.st aj.L0.az aj.L0.add aj.L0.F aj.L0.bE aj.L0.Ok:=gv
theorem aj.L0.step{R:Type}(slices_2:(List Bs))(size:Int)(t9:(List Bs))(t10:Int)(t11:Int)(kn:AS→Option R)(kx:Exit→AS→Option R):aj.L0.R (slices_2,size,t9,t10,t11) kn kx=
  aP ((gE t11 t10)) (
   aP (fo t11 (((List.length t9):Nat):Int)) (
   aP ((gE (b8 .i64 size (((List.length (nth tB t9 (Int.toNat t11))):Nat):Int)) (0:Int))) (
    none) (
    kn (aj.L0.st (slices_2,(b8 .i64 size (((List.length (nth tB t9 (Int.toNat t11))):Nat):Int)),t9,t10,(b8 .i64 t11 (1:Int)))))) none) (
   kx (aj.L0.bE (slices_2,size)).1 (aj.L0.bE (slices_2,size)).2):=by kernel_rfl
theorem aj.L1.run:bK aj.L1.call aj.L1.az aj.L1.add aj.L1.F:=eU (eQ [.n,.d (.slice tB),.d ti,.d ti,.d tB] fun _=>by kernel_rfl)
theorem aj.L1.aK:fZ @aj.L1.R aj.L1.st aj.L1.az aj.L1.add aj.L1.F aj.L1.bE aj.L1.Ok:=gv
theorem aj.L1.step{R:Type}(newsliceL:Nat)(t25:(List Bs))(t26:Int)(t27:Int)(n24:(List Int))(kn:AS→Option R)(kx:Exit→AS→Option R):aj.L1.R (newsliceL,t25,t26,t27,n24) kn kx=
  aP ((gE t27 t26)) (
   aP (fo t27 (((List.length t25):Nat):Int)) (
   aP (decide (newsliceL≤(List.length n24))) (
   aP (dw (newsliceL+(List.length (nth tB t25 (Int.toNat t27)))) 1) (
   kn (aj.L1.st ((newsliceL+(List.length (nth tB t25 (Int.toNat t27)))),t25,t26,(b8 .i64 t27 (1:Int)),((List.take newsliceL n24)++(nth tB t25 (Int.toNat t27)))))) none) none) none) (
   kx (aj.L1.bE (newsliceL,n24)).1 (aj.L1.bE (newsliceL,n24)).2):=by kernel_rfl
theorem aj.eq{R:Type}(slices:(List Bs))(k:aX→Option R):aj.A slices k=
 au (aj.L0.call (slices,(0:Int),slices,(((List.length slices):Nat):Int),(0:Int))) fun x1=>
 au (dp.call x1.2) fun x2=>
 au (aj.L1.call (x2.1,x1.1,(((List.length x1.1):Nat):Int),(0:Int),x2.2)) fun x3=>
 aP (decide (0=0∧(0+x3.1)≤(List.length x3.2))) (
 k (aj.out (cut x3.2 0 x3.1))) none:=by kernel_rfl
theorem yL(s:List (List Int))(k:Nat)(h:k < s.length):iy (s.drop k)=s[k].length+iy (s.drop (k+1)):=by
 unfold iy
 rw[List.drop_eq_getElem_cons h,List.flatten_cons,List.length_append]
theorem aj.L0.ok:aj.L0.Ok:=by
 refine aj.L0.aK (fun(s,size,t,n,i)=>s.length - i.toNat) ?_
 rintro⟨s,size,t,n,i⟩ ⟨hs,rfl,rfl,k,z,hk,rfl,rfl,hz⟩
 have hs:t.length≤1000000:=hs
 have hk:k≤t.length:=hk
 have hz:z+iy (t.drop k)≤100000000:=hz
 by_cases h:k < t.length
 ·left
  have n1:nth (.slice (.int .u8)) t k=t[k]:=cX (t:= .slice (.int .u8)) h
  have hd:=yL t k h
  refine⟨(t,((z+t[k].length:Nat):Int),t,t.length,((k+1:Nat):Int)),⟨hs,rfl,rfl,k+1,z+t[k].length,by omega,rfl,rfl,by omega⟩,by simp only[Int.toNat_natCast];omega,?_,fun kn kx=> ?_⟩
  ·simp only[aj.L0.add,aj.L0.F,Int.toNat_natCast]
   rw[hd]
   refine congrArg _ ?_
   omega
  ·rw[aj.L0.step]
   simp(disch:=omega) only[↓S1,↓if_pos,↓if_neg,if_pos,if_neg,if_true,if_false,S2,n1]
 ·right
  obtain rfl:k=t.length:=by omega
  intro R kn kx
  rw[aj.L0.step]
  simp(disch:=omega) only[↓S1,↓if_pos,↓if_neg,if_pos,if_neg,if_true,if_false,S2,aj.L0.add,aj.L0.F,List.drop_length]
  simp only[iy,List.flatten_nil,List.length_nil,Int.natCast_zero,Int.add_zero]
theorem aj.L1.ok:aj.L1.Ok:=by
 refine aj.L1.aK (fun(n,s,t,i,l)=>s.length - i.toNat) ?_
 rintro⟨n,s,t,i,l⟩ ⟨hs,hn,rfl,k,hk,rfl,hz⟩
 have hs:s.length≤1000000:=hs
 have hn:n≤l.length:=hn
 have hk:k≤s.length:=hk
 have hz:n+iy (s.drop k)≤100000000:=hz
 by_cases h:k < s.length
 ·left
  have n1:nth (.slice (.int .u8)) s k=s[k]:=cX (t:= .slice (.int .u8)) h
  have hd:=yL s k h
  refine⟨(n+s[k].length,s,s.length,((k+1:Nat):Int),l.take n++s[k]),⟨hs,by rw[List.length_append,List.length_take];omega,rfl,k+1,by omega,rfl,by omega⟩,by simp only[Int.toNat_natCast];omega,?_,fun kn kx=> ?_⟩
  ·simp only[aj.L1.add,aj.L1.F,Int.toNat_natCast]
   rw[List.drop_eq_getElem_cons h,zl _ _ _ _ hn]
  ·rw[aj.L1.step]
   simp(disch:=omega) only[↓S1,↓if_pos,↓if_neg,if_pos,if_neg,if_true,if_false,S2,n1]
 ·right
  obtain rfl:k=s.length:=by omega
  intro R kn kx
  rw[aj.L1.step]
  simp(disch:=omega) only[↓S1,↓if_pos,↓if_neg,if_pos,if_neg,if_true,if_false,S2,aj.L1.add,aj.L1.F,List.drop_length]
  rfl
theorem aj.ok:aj.Ok:=by
 rintro s ⟨hs,hz⟩
 have hs:s.length≤1000000:=hs
 have hz:iy s≤100000000:=hz
 have p1:aj.L0.az (s,0,s,s.length,0):=⟨hs,rfl,rfl,0,0,by omega,rfl,rfl,by rw[List.drop_zero];omega⟩
 have p2:aj.L1.az (0,s,s.length,0,List.replicate (iy s) 0):=⟨hs,by omega,rfl,0,by omega,rfl,by rw[List.drop_zero];omega⟩
 rw[aj.eq,aj.L0.run p1]
 simp only[aa,aj.L0.add,aj.L0.F,Int.toNat_zero,List.drop_zero,Int.zero_add]
 rw[dp.run (d:=((iy s:Nat):Int)) ⟨iy s,rfl,hz⟩]
 simp only[aa,dp.add,dp.F,Int.toNat_natCast]
 rw[aj.L1.run p2]
 simp only[aa,aj.L1.add,aj.L1.F,Int.toNat_zero,List.drop_zero]
 obtain⟨c1,c2⟩:=Ci 0 (List.replicate (iy s) 0) s
 simp only[Nat.zero_add,c1,and_self,decide_true,ak,c2]
 rfl
noncomputable def aj.E:=Entry.cM [some (.slice tB)] aj.st aj.az aj.add aj.F aj.out
noncomputable def aj.call:aj.D→Option aj.X:=bP aj.E aj.st
theorem aj.run:bK aj.call aj.az aj.add aj.F:=de (cW [.d (.slice tB)] fun _=>by kernel_rfl)
noncomputable def aj.sg:SG Tryz.prog:=⟨203,aV,aj.E,.fn 2 (by kernel_rfl) aj.ok (And.intro (.cM aj.L0.ok (by kernel_rfl)) (And.intro (.cM aj.L1.ok (by kernel_rfl)) trivial))⟩
abbrev cE.D:=Bs×Bs
def cE.st:cE.D→SA:=fun(b,more)=>([.d tB b,.d tB more],[])
abbrev cE.Y:=Bs
abbrev cE.X:=Bs
def cE.out:cE.X→aX:=fun x=>⟨.d tB x,[],[]⟩
def cE.add:cE.D→cE.Y→cE.X:=fun(b,more) y=>y
def cE.az:cE.D→Prop:=fun(a,b)=>a.length+b.length≤100000000
def cE.F:cE.D→cE.Y:=fun(a,b)=>a++b
noncomputable def cE.G:dG:=eT (P:=Tryz.prog) [aj.sg]
noncomputable def cE.an:dX:= {}
noncomputable def cE.A:= @cR Tryz.prog cE.G cE.an 0 Tryz.f179 _ cE.st
abbrev cE.Ok:=cS @cE.A cE.az cE.add cE.F cE.out
theorem cE.eq{R:Type}(b:Bs)(more:Bs)(k:aX→Option R):cE.A (b,more) k=
 au (aj.call [b,more]) fun x1=>
 k (cE.out x1):=by kernel_rfl
theorem cE.ok:cE.Ok:=by
 rintro⟨a,b⟩ h
 have h:a.length+b.length≤100000000:=h
 rw[cE.eq,aj.run (d:=[a,b]) ⟨by show [a,b].length≤_;simp,by show iy [a,b]≤_;simp only[iy,List.flatten_cons,List.flatten_nil,List.append_nil,List.length_append];omega⟩]
 simp only[aa,aj.add,aj.F,cE.add,cE.F,List.flatten_cons,List.flatten_nil,List.append_nil]
noncomputable def cE.E:=Entry.cM [some tB,some tB] cE.st cE.az cE.add cE.F cE.out
noncomputable def cE.call:cE.D→Option cE.X:=bP cE.E cE.st
theorem cE.run:bK cE.call cE.az cE.add cE.F:=de (cW [.d tB,.d tB] fun _=>by kernel_rfl)
noncomputable def cE.sg:SG Tryz.prog:=⟨179,aV,cE.E,.fn 0 (by kernel_rfl) cE.ok trivial⟩
set_option synthInstance.maxSize 5000
def gG:Nat→Int→List Int×Int
 | 0,n=>([],n)
 |f+1,n=>if 128≤n then((n%128+128)::(gG f (n / 128)).1,(gG f (n / 128)).2) else([],n)
def si(n:Int):List Int:=(gG 10 n).1++ [(gG 10 n).2]
theorem tT:∀(f g:Nat) (n:Int),n < 128^(f+1)→n < 128^(g+1)→gG f n=gG g n
 | 0,0,n,_,_=>rfl
 | 0,g+1,n,h,_=>by
  have h:n < 128:=h
  rw[gG,gG,if_neg (by omega)]
 |f+1,0,n,_,h=>by
  have h:n < 128:=h
  rw[gG,gG,if_neg (by omega)]
 |f+1,g+1,n,h,h'=>by
  rw[gG,gG]
  split
  ·have e:(128:Int)^(f+1+1)=128^(f+1)*128:=Int.pow_succ 128 (f+1)
   have e':(128:Int)^(g+1+1)=128^(g+1)*128:=Int.pow_succ 128 (g+1)
   rw[tT f g (n / 128) (by omega) (by omega)]
  ·rfl
theorem sh:∀(f:Nat) (n:Int),(gG f n).1.length≤f
 | 0,_=>Nat.le_refl _
 |f+1,n=>by
  rw[gG]
  split
  ·have:=sh f (n / 128)
   simp only[List.length_cons];omega
  ·exact Nat.zero_le _
theorem tS:∀(f:Nat) (n:Int),0≤n→n < 128^(f+1)→0≤(gG f n).2∧(gG f n).2 < 128
 | 0,n,h,h'=>by have h':n < 128:=h';exact⟨h,h'⟩
 |f+1,n,h,h'=>by
  rw[gG]
  have e:(128:Int)^(f+1+1)=128^(f+1)*128:=Int.pow_succ 128 (f+1)
  split
  ·exact tS f (n / 128) (by omega) (by omega)
  ·exact⟨h,by omega⟩
theorem z7{n:Int}(h:128≤n)(h2:n≤9223372036854775807):gG 10 n=((n%128+128)::(gG 10 (n / 128)).1,(gG 10 (n / 128)).2):=by
 have e:(128:Int)^(9+1)=1180591620717411303424:=rfl
 have e2:(128:Int)^(10+1)=151115727451828646838272:=rfl
 rw[gG,if_pos h,tT 9 10 (n / 128) (by rw[e];omega) (by rw[e2];omega)]
theorem o5(n:Int):(si n).length≤11:=by
 have:=sh 10 n
 unfold si
 simp only[List.length_append,List.length_cons,List.length_nil];omega
def xc(n:Int):Prop:=0≤n∧n≤9223372036854775807
abbrev bO.L0.D:=Int×Nat×(List Int)
def bO.L0.st:bO.L0.D→AS:=fun(n_2,outL,n14)=>⟨([.d ti n_2,.undef,.undef,.bp (.new 14 0) 0 [] 0 0 outL]++bl 16 []),[],(cj 14 ([[.obj 0 false (.vec 5 tb n14)]]++cj 5 []))⟩
abbrev bO.L0.Y0:=Int×Nat×(List Int)
abbrev bO.L0.X0:=Int×Nat×(List Int)
def bO.L0.bE:bO.L0.X0→Exit×AS:=fun x=>(.exit 0,⟨([.d ti x.1,.undef,.undef,.bp (.new 14 0) 0 [] 0 0 x.2.1]++bl 16 []),[],(cj 14 ([[.obj 0 false (.vec 5 tb x.2.2)]]++cj 5 []))⟩)
abbrev bO.L0.X:=bO.L0.X0
abbrev bO.L0.Y:=bO.L0.Y0
def bO.L0.out:bO.L0.X→Out (Exit×AS):=fun x=> .ok (bO.L0.bE x)
def bO.L0.add:bO.L0.D→bO.L0.Y→bO.L0.X:=fun(n_2,outL,n14) y=>y
abbrev bO.D:=Int
def bO.st:bO.D→SA:=fun n=>([.d ti n],[])
abbrev bO.Y:=Bs
abbrev bO.X:=Bs
def bO.out:bO.X→aX:=fun x=>⟨.d tB x,[],[]⟩
def bO.add:bO.D→bO.Y→bO.X:=fun n y=>y
def bO.L0.az:bO.L0.D→Prop:=fun(n,m,l)=>xc n∧m=l.length∧l.length≤1000+0*n.toNat∧l.length+(gG 10 n).1.length≤100
def bO.L0.F:bO.L0.D→bO.L0.Y:=fun(n,m,l)=>((gG 10 n).2,(l++(gG 10 n).1).length,l++(gG 10 n).1)
def bO.az:bO.D→Prop:=fun n=>xc n
def bO.F:bO.D→bO.Y:=fun n=>si n
noncomputable def bO.G:dG:=eT (P:=Tryz.prog) []
noncomputable def bO.L0.E:=bW.cM bO.L0.st bO.L0.az bO.L0.add bO.L0.F bO.L0.out
noncomputable def bO.L0.call:bO.L0.D→Option bO.L0.X:=dF bO.L0.E bO.L0.st
noncomputable def bO.an:dX:= {loops:=l7 [(2,{bn:=[0,3],sites:=[14],kk:=[⟨3,[],14,140⟩]})],outs:=l6 [(2,{bn:=[0,3],sites:=[14]},{bn:=[2]})],fK:=mU [(2,bO.L0.E)],res:=[some tB]}
noncomputable def bO.A:= @cR Tryz.prog bO.G bO.an 0 Tryz.f180 _ bO.st
abbrev bO.Ok:=cS @bO.A bO.az bO.add bO.F bO.out
noncomputable def bO.L0.R:= @cz Tryz.prog bO.G bO.an 0 Tryz.f180 0 _ bO.L0.st
abbrev bO.L0.Ok:=eK Tryz.prog bO.G bO.an 0 Tryz.f180 0 bO.L0.st bO.L0.az bO.L0.add bO.L0.F bO.L0.out
theorem bO.L0.run:bK bO.L0.call bO.L0.az bO.L0.add bO.L0.F:=eU (eQ [.d ti,.n,.d tB] fun _=>by kernel_rfl)
theorem bO.L0.aK:fZ @bO.L0.R bO.L0.st bO.L0.az bO.L0.add bO.L0.F bO.L0.bE bO.L0.Ok:=gv
theorem bO.L0.step{R:Type}(n_2:Int)(outL:Nat)(n14:(List Int))(kn:AS→Option R)(kx:Exit→AS→Option R):bO.L0.R (n_2,outL,n14) kn kx=
  aP ((nf n_2 (128:Int))) (
   aP (decide (outL≤(List.length n14))) (
   aP (dw (outL+1) 1) (
   kn (bO.L0.st ((kT .i64 n_2 (128:Int)),(outL+1),((List.take outL n14)++ [(dz .u8 (b8 .i64 (jZ n_2 (128:Int)) (128:Int)))])))) none) none) (
   kx (bO.L0.bE (n_2,outL,n14)).1 (bO.L0.bE (n_2,outL,n14)).2):=by kernel_rfl
theorem bO.eq{R:Type}(n:Int)(k:aX→Option R):bO.A n k=
 au (bO.L0.call (n,0,([]:List Int))) fun x1=>
 aP (decide (x1.2.1≤(List.length x1.2.2))) (
 aP (dw (x1.2.1+1) 1) (
 aP (decide (0=0∧(0+(x1.2.1+1))≤(List.length ((List.take x1.2.1 x1.2.2)++ [(dz .u8 x1.1)])))) (
 k (bO.out (cut ((List.take x1.2.1 x1.2.2)++ [(dz .u8 x1.1)]) 0 (x1.2.1+1)))) none) none) none:=by kernel_rfl
theorem AP{n:Int}(h:xc n):dz .u8 (b8 .i64 (jZ n 128) 128)=n%128+128:=by
 have h1:=h.1
 rw[mQ h.1,fM (by omega) (by omega),uH,fQ]
 omega
theorem bO.L0.ok:bO.L0.Ok:=by
 refine bO.L0.aK (fun(n,m,l)=>n.toNat) ?_
 rintro⟨n,m,l⟩ ⟨hn,rfl,hl,hz⟩
 have hn:xc n:=hn
 have hz:l.length+(gG 10 n).1.length≤100:=hz
 have h1:=hn.1
 have h2:=hn.2
 by_cases h:128≤n
 ·left
  have e:=z7 h h2
  have hq:kT .i64 n 128=n / 128:=by
   rw[kT,Int.tdiv_eq_ediv_of_nonneg h1]
   exact kg (by omega) (by omega)
  have el:((n%128+128)::(gG 10 (n / 128)).1).length=(gG 10 (n / 128)).1.length+1:=List.length_cons
  rw[e]at hz
  have hz:l.length+((n%128+128)::(gG 10 (n / 128)).1).length≤100:=hz
  rw[el]at hz
  refine⟨(n / 128,l.length+1,l++ [n%128+128]),⟨⟨by omega,by omega⟩,by rw[List.length_append];rfl,by rw[List.length_append];simp only[List.length_cons,List.length_nil];omega,by rw[List.length_append];simp only[List.length_cons,List.length_nil];omega⟩,by simp only[];omega,?_,fun kn kx=> ?_⟩
  ·simp only[bO.L0.add,bO.L0.F,e,List.append_assoc,List.cons_append,List.nil_append]
  ·rw[bO.L0.step,fi h,AP hn,hq]
   simp(disch:=omega) only[↓S1,↓if_pos,↓if_neg,if_pos,if_neg,if_true,if_false,S2,Nat.le_refl,List.take_length]
 ·right
  have e:gG 10 n=([],n):=by rw[gG,if_neg h]
  intro R kn kx
  rw[bO.L0.step,eh h]
  simp only[aw,bO.L0.add,bO.L0.F,e,List.append_nil]
theorem bO.ok:bO.Ok:=by
 intro n hn
 have hn:xc n:=hn
 have hl:=sh 10 n
 have e2:(128:Int)^(10+1)=151115727451828646838272:=rfl
 have hd:=tS 10 n hn.1 (by have:=hn.2;rw[e2];omega)
 have p:bO.L0.az (n,0,[]):=⟨hn,rfl,by simp,by simp only[List.length_nil];omega⟩
 have hi:dz .u8 (gG 10 n).2=(gG 10 n).2:=by rw[uH,fQ];omega
 rw[bO.eq,bO.L0.run p]
 simp only[aa,bO.L0.add,bO.L0.F,List.nil_append,hi,List.take_length,Nat.le_refl,decide_true,ak]
 rw[eG (by omega) (by omega)]
 simp only[ak,Nat.zero_add,List.length_append,List.length_cons,List.length_nil,Nat.le_refl,and_self,decide_true]
 rw[fm (by rw[List.length_append];rfl)]
 rfl
noncomputable def bO.E:=Entry.cM [some ti] bO.st bO.az bO.add bO.F bO.out
noncomputable def bO.call:bO.D→Option bO.X:=bP bO.E bO.st
theorem bO.run:bK bO.call bO.az bO.add bO.F:=de (cW [.d ti] fun _=>by kernel_rfl)
noncomputable def bO.sg:SG Tryz.prog:=⟨180,aV,bO.E,.fn 1 (by kernel_rfl) bO.ok (And.intro (.cM bO.L0.ok (by kernel_rfl)) trivial)⟩
def ed(b:List Int)(n:Int):List Int:=if n < 0 then b else b++si n
theorem eR(b:List Int)(n:Int):(ed b n).length≤b.length+11:=by
 unfold ed
 have:=o5 n
 split
 ·omega
 ·rw[List.length_append];omega
abbrev dg.D:=Bs×Int
def dg.st:dg.D→SA:=fun(b,n)=>([.d tB b,.d ti n],[])
abbrev dg.Y:=Bs
abbrev dg.X:=Bs
def dg.out:dg.X→aX:=fun x=>⟨.d tB x,[],[]⟩
def dg.add:dg.D→dg.Y→dg.X:=fun(b,n) y=>y
def dg.az:dg.D→Prop:=fun(b,n)=>b.length≤90000000∧n≤9223372036854775807
def dg.F:dg.D→dg.Y:=fun(b,n)=>ed b n
noncomputable def dg.G:dG:=eT (P:=Tryz.prog) [cE.sg,bO.sg]
noncomputable def dg.an:dX:= {}
noncomputable def dg.A:= @cR Tryz.prog dg.G dg.an 0 Tryz.f123 _ dg.st
abbrev dg.Ok:=cS @dg.A dg.az dg.add dg.F dg.out
theorem dg.eq{R:Type}(b:Bs)(n:Int)(k:aX→Option R):dg.A (b,n) k=
  aP ((gE n (0:Int))) (
   au (cE.call (b,([]:List Int))) fun x1=>
   k (dg.out x1)) (
   au (bO.call n) fun x2=>
   au (cE.call (b,x2)) fun x3=>
   k (dg.out x3)):=by kernel_rfl
theorem dg.ok:dg.Ok:=by
 rintro⟨b,n⟩ ⟨hb,hn⟩
 have hb:b.length≤90000000:=hb
 have hn:n≤9223372036854775807:=hn
 rw[dg.eq]
 simp only[dg.add,dg.F,ed]
 by_cases h:n < 0
 ·rw[bq h,if_pos h,ak,cE.run (d:=(b,[])) (by show b.length+([]:List Int).length≤_;simp only[List.length_nil];omega)]
  simp only[aa,cE.add,cE.F,List.append_nil]
 ·have hl:=o5 n
  rw[bm h,if_neg h,aw,bO.run (d:=n) ⟨by omega,hn⟩]
  simp only[aa,bO.add,bO.F]
  rw[cE.run (d:=(b,si n)) (by show b.length+(si n).length≤_;omega)]
  rfl
noncomputable def dg.E:=Entry.cM [some tB,some ti] dg.st dg.az dg.add dg.F dg.out
noncomputable def dg.call:dg.D→Option dg.X:=bP dg.E dg.st
theorem dg.run:bK dg.call dg.az dg.add dg.F:=de (cW [.d tB,.d ti] fun _=>by kernel_rfl)
noncomputable def dg.sg:SG Tryz.prog:=⟨123,aV,dg.E,.fn 0 (by kernel_rfl) dg.ok trivial⟩
abbrev dm.D:=Bs×Int
def dm.st:dm.D→SA:=fun(b,n)=>([.d tB b,.d tu n],[])
abbrev dm.Y:=Bs
abbrev dm.X:=Bs
def dm.out:dm.X→aX:=fun x=>⟨.d tB x,[],[]⟩
def dm.add:dm.D→dm.Y→dm.X:=fun(b,n) y=>y
def dm.az:dm.D→Prop:=fun(b,n)=>b.length≤90000000
def dm.F:dm.D→dm.Y:=fun(b,n)=>b++kB n
noncomputable def dm.G:dG:=eT (P:=Tryz.prog) [cE.sg]
noncomputable def dm.an:dX:= {loops:=l7 [(3,{bn:=[0,1,5,7],sites:=[5,21]})],outs:=l6 [(3,{bn:=[0,5],sites:=[5,21]},{bn:=[4],sites:=[5,21]})]}
noncomputable def dm.A:= @cR Tryz.prog dm.G dm.an 12 Tryz.f191 _ dm.st
abbrev dm.Ok:=cS @dm.A dm.az dm.add dm.F dm.out
theorem dm.eq{R:Type}(b:Bs)(n:Int)(k:aX→Option R):dm.A (b,n) k=
 au (cE.call (b,[(dz .u8 (bC .u64 n (56:Int))),(dz .u8 (bC .u64 n (48:Int))),(dz .u8 (bC .u64 n (40:Int))),(dz .u8 (bC .u64 n (32:Int))),(dz .u8 (bC .u64 n (24:Int))),(dz .u8 (bC .u64 n (16:Int))),(dz .u8 (bC .u64 n (8:Int))),(dz .u8 (bC .u64 n (0:Int)))])) fun x1=>
 k (dm.out x1):=by kernel_rfl
theorem dm.ok:dm.Ok:=by
 rintro⟨b,n⟩ hb
 have hb:b.length≤90000000:=hb
 have p:cE.az (b,kB n):=by show b.length+(kB n).length≤_;rw[df];omega
 have e:cE.call (b,[dz .u8 (bC .u64 n 56),dz .u8 (bC .u64 n 48),dz .u8 (bC .u64 n 40),dz .u8 (bC .u64 n 32),dz .u8 (bC .u64 n 24),dz .u8 (bC .u64 n 16),dz .u8 (bC .u64 n 8),dz .u8 (bC .u64 n 0)])=some (b++kB n):=by
  rw[vC];exact cE.run p
 rw[dm.eq]
 refine Eq.trans (congrArg (fun x=>au x _) e) ?_
 rfl
noncomputable def dm.E:=Entry.cM [some tB,some tu] dm.st dm.az dm.add dm.F dm.out
noncomputable def dm.call:dm.D→Option dm.X:=bP dm.E dm.st
theorem dm.run:bK dm.call dm.az dm.add dm.F:=de (cW [.d tB,.d tu] fun _=>by kernel_rfl)
noncomputable def dm.sg:SG Tryz.prog:=⟨191,aV,dm.E,.fn 1 (by kernel_rfl) dm.ok (And.intro (.none (by kernel_rfl)) trivial)⟩
set_option synthInstance.maxSize 5000
def me(w:tf):Bool:=decide (0≤w.1∧w.1 < 4) && decide (w.2.1.length≤12)
def ru(x:gW):Bool:=decide (0≤x.1.2.1∧x.1.2.1 < 64) && me x.2.1
def pY(m:List (bY×Bool))(x:gW):Bool:=(bQ bD x.1 m).getD false
def oF:List (bY×Bool)→List gW→Bool
 |_,[]=>true
 |m,x::l=>(!(pY m x) && ru x) && oF (ef bD x.1 true m) l
def mo(a:Int):Bool:=decide (0≤a∧a≤1125899906842624)
def oh(a b:Int):Bool:=mo a && (mo b && decide (a+b≤1125899906842624))
def lS:Int→List fc→Bool
 |_,[]=>true
 |s,o::l=>(oh s o.1 && jn o.2.1) && lS (s+o.1) l
def va(t:fg):Bool:=decide (1≤t.1.length∧t.1.length≤64∧t.2.1.length≤64∧0≤t.2.2.1)
def fB(t:fg):Bool:=va t && (oF [] t.1 && lS 0 t.2.1)
def Er(l:Lk):Prop:=Ap l∧l.1.length≤9223372036854775807
def Fk(t:fg):Prop:=(∀o∈t.2.1,Er o.2.1)∧t.1.length≤9223372036854775807∧t.2.1.length≤9223372036854775807
abbrev dQ.D:=tf
def dQ.st:dQ.D→SA:=fun wv=>([.d B6 wv],[])
abbrev dQ.Y:=Bool
abbrev dQ.X:=Bool
def dQ.out:dQ.X→aX:=fun x=>⟨.d .bool x,[],[]⟩
def dQ.add:dQ.D→dQ.Y→dQ.X:=fun wv y=>y
def dQ.az:dQ.D→Prop:=fun _=>True
def dQ.F:dQ.D→dQ.Y:=fun w=>me w
noncomputable def dQ.G:dG:=eT (P:=Tryz.prog) []
noncomputable def dQ.an:dX:= {}
noncomputable def dQ.A:= @cR Tryz.prog dQ.G dQ.an 0 Tryz.f67 _ dQ.st
abbrev dQ.Ok:=cS @dQ.A dQ.az dQ.add dQ.F dQ.out
theorem dQ.eq{R:Type}(wv:tf)(k:aX→Option R):dQ.A wv k=
  aP ((nf wv.1 (0:Int))) (
   aP ((gE wv.1 (4:Int))) (
    k (dQ.out (zB (((List.length wv.2.1):Nat):Int) (12:Int)))) (
    k (dQ.out false))) (
   k (dQ.out false)):=by kernel_rfl
theorem dQ.ok:dQ.Ok:=by
 rintro⟨b,ss,sc,u⟩ _
 rw[dQ.eq]
 simp only[dQ.add,dQ.F,me]
 by_cases h:0≤b
 ·rw[fi h,ak]
  by_cases h2:b < 4
  ·rw[bq h2,ak,aW ⟨h,h2⟩]
   by_cases h3:ss.length≤12
   ·rw[ln (by omega),aW h3];rfl
   ·rw[iV (by omega),bw h3];rfl
  ·rw[bm h2,aw,bw (fun x=>h2 x.2)];rfl
 ·rw[eh h,aw,bw (fun x=>h x.1)];rfl
noncomputable def dQ.E:=Entry.cM [some B6] dQ.st dQ.az dQ.add dQ.F dQ.out
noncomputable def dQ.call:dQ.D→Option dQ.X:=bP dQ.E dQ.st
theorem dQ.run:bK dQ.call dQ.az dQ.add dQ.F:=de (cW [.d B6] fun _=>by kernel_rfl)
noncomputable def dQ.sg:SG Tryz.prog:=⟨67,aV,dQ.E,.fn 0 (by kernel_rfl) dQ.ok trivial⟩
abbrev ch.D:=Int
def ch.st:ch.D→SA:=fun a=>([.d ti a],[])
abbrev ch.Y:=Bool
abbrev ch.X:=Bool
def ch.out:ch.X→aX:=fun x=>⟨.d .bool x,[],[]⟩
def ch.add:ch.D→ch.Y→ch.X:=fun a y=>y
def ch.az:ch.D→Prop:=fun _=>True
def ch.F:ch.D→ch.Y:=fun a=>mo a
noncomputable def ch.G:dG:=eT (P:=Tryz.prog) []
noncomputable def ch.an:dX:= {}
noncomputable def ch.A:= @cR Tryz.prog ch.G ch.an 0 Tryz.f194 _ ch.st
abbrev ch.Ok:=cS @ch.A ch.az ch.add ch.F ch.out
theorem ch.eq{R:Type}(a:Int)(k:aX→Option R):ch.A a k=
  aP ((nf a (0:Int))) (
   k (ch.out (zB a (1125899906842624:Int)))) (
   k (ch.out false)):=by kernel_rfl
theorem ch.ok:ch.Ok:=by
 intro(a:Int) _
 rw[ch.eq]
 simp only[ch.add,ch.F,mo]
 by_cases h:0≤a
 ·rw[fi h,ak]
  by_cases h2:a≤1125899906842624
  ·rw[ln h2,aW ⟨h,h2⟩]
  ·rw[iV h2,bw (fun x=>h2 x.2)]
 ·rw[eh h,aw,bw (fun x=>h x.1)]
noncomputable def ch.E:=Entry.cM [some ti] ch.st ch.az ch.add ch.F ch.out
noncomputable def ch.call:ch.D→Option ch.X:=bP ch.E ch.st
theorem ch.run:bK ch.call ch.az ch.add ch.F:=de (cW [.d ti] fun _=>by kernel_rfl)
noncomputable def ch.sg:SG Tryz.prog:=⟨194,aV,ch.E,.fn 0 (by kernel_rfl) ch.ok trivial⟩
abbrev eb.D:=Int×Int
def eb.st:eb.D→SA:=fun(a,b)=>([.d ti a,.d ti b],[])
abbrev eb.Y:=Int×Bool
abbrev eb.X:=Int×Bool
def eb.out:eb.X→aX:=fun x=>⟨.cons (.d ti x.1) (.cons (.d .bool x.2) (.nil)),[],[]⟩
def eb.add:eb.D→eb.Y→eb.X:=fun(a,b) y=>y
def eb.az:eb.D→Prop:=fun _=>True
def eb.F:eb.D→eb.Y:=fun(a,b)=>(bif oh a b then a+b else 0,oh a b)
noncomputable def eb.G:dG:=eT (P:=Tryz.prog) [ch.sg]
noncomputable def eb.an:dX:= {}
noncomputable def eb.A:= @cR Tryz.prog eb.G eb.an 0 Tryz.f132 _ eb.st
abbrev eb.Ok:=cS @eb.A eb.az eb.add eb.F eb.out
theorem eb.eq{R:Type}(a:Int)(b:Int)(k:aX→Option R):eb.A (a,b) k=
  au (ch.call a) fun x1=>
  aP ((!x1)) (
   k (eb.out ((0:Int),false))) (
   au (ch.call b) fun x2=>
   aP ((!x2)) (
    k (eb.out ((0:Int),false))) (
    aP ((pZ a (cI .i64 (1125899906842624:Int) b))) (
     k (eb.out ((0:Int),false))) (
     k (eb.out ((b8 .i64 a b),true))))):=by kernel_rfl
theorem eb.ok:eb.Ok:=by
 rintro⟨a,b⟩ _
 rw[eb.eq,ch.run (d:=a) trivial,ch.run (d:=b) trivial]
 simp only[aa,ch.add,ch.F,eb.add,eb.F,oh]
 cases ha:mo a
 ·rfl
 ·cases hb:mo b
  ·rfl
  ·simp only[mo,decide_eq_true_eq]at ha hb
   simp only[Bool.not_true,aw,Bool.true_and]
   rw[dT (by omega) (by omega)]
   by_cases h:a+b≤1125899906842624
   ·rw[dS (by omega),aw,aW h,fM (by omega) (by omega)];rfl
   ·rw[dZ (by omega),ak,bw h];rfl
noncomputable def eb.E:=Entry.cM [some ti,some ti] eb.st eb.az eb.add eb.F eb.out
noncomputable def eb.call:eb.D→Option eb.X:=bP eb.E eb.st
theorem eb.run:bK eb.call eb.az eb.add eb.F:=de (cW [.d ti,.d ti] fun _=>by kernel_rfl)
noncomputable def eb.sg:SG Tryz.prog:=⟨132,aV,eb.E,.fn 0 (by kernel_rfl) eb.ok trivial⟩
abbrev ai.L0.D:=fg×(List gW)×Int×Int×(List (bY×Bool))
def ai.L0.st:ai.L0.D→AS:=fun(t_2,t33,t34,t35,n31)=>⟨([.undef,.eH jz t_2,.undef,.dn (.new 31 0) 0]++bl 29 ([.d (.slice ik) t33,.d ti t34,.d ti t35]++bl 52 [])),[],(cj 31 ([[.obj 0 false (.mp bD .bool n31)]]++cj 56 []))⟩
abbrev ai.L0.Y0:=Unit
abbrev ai.L0.X0:=Unit
def ai.L0.bE:ai.L0.X0→Exit×AS:=fun x=>(.ret,⟨([.undef,.undef,.d .bool false]++bl 85 []),[],(List.replicate 88 [])⟩)
abbrev ai.L0.Y1:=Unit
abbrev ai.L0.X1:=fg
def ai.L0.gT:ai.L0.X1→Exit×AS:=fun x=>(.exit 0,⟨([.undef,.eH jz x]++bl 86 []),[],(List.replicate 88 [])⟩)
abbrev ai.L0.X:=(ai.L0.X0)⊕(ai.L0.X1)
abbrev ai.L0.Y:=(ai.L0.Y0)⊕(ai.L0.Y1)
def ai.L0.out:ai.L0.X→Out (Exit×AS):=fun x=> .br x.isLeft (.get x.getLeft? fun a=> .ok (ai.L0.bE a)) (.get x.getRight? fun b=> .ok (ai.L0.gT b))
def ai.L0.add:ai.L0.D→ai.L0.Y→ai.L0.X:=fun(t_2,t33,t34,t35,n31) y=>match y with | .inl y=> .inl y | .inr z=> .inr (t_2)
abbrev ai.L1.D:=Int×(List fc)×Int×Int
def ai.L1.st:ai.L1.D→AS:=fun(sum,t66,t67,t68)=>⟨(bl 6 ([.d ti sum]++bl 59 ([.d (.slice fA) t66,.d ti t67,.d ti t68]++bl 19 []))),[],(List.replicate 88 [])⟩
abbrev ai.L1.Y0:=Unit
abbrev ai.L1.X0:=Unit
def ai.L1.bE:ai.L1.X0→Exit×AS:=fun x=>(.ret,⟨([.undef,.undef,.d .bool false]++bl 85 []),[],(List.replicate 88 [])⟩)
abbrev ai.L1.Y1:=Unit
abbrev ai.L1.X1:=Unit
def ai.L1.gT:ai.L1.X1→Exit×AS:=fun x=>(.exit 2,⟨(bl 88 []),[],(List.replicate 88 [])⟩)
abbrev ai.L1.X:=(ai.L1.X0)⊕(ai.L1.X1)
abbrev ai.L1.Y:=(ai.L1.Y0)⊕(ai.L1.Y1)
def ai.L1.out:ai.L1.X→Out (Exit×AS):=fun x=> .br x.isLeft (.get x.getLeft? fun a=> .ok (ai.L1.bE a)) (.get x.getRight? fun b=> .ok (ai.L1.gT b))
def ai.L1.add:ai.L1.D→ai.L1.Y→ai.L1.X:=fun(sum,t66,t67,t68) y=>match y with | .inl y=> .inl y | .inr z=> .inr (z)
abbrev ai.D:=fg
def ai.st:ai.D→SA:=fun t=>([.d jz t],[])
abbrev ai.Y:=Bool
abbrev ai.X:=Bool
def ai.out:ai.X→aX:=fun x=>⟨.d .bool x,[],[]⟩
def ai.add:ai.D→ai.Y→ai.X:=fun t y=>y
def ai.L0.az:ai.L0.D→Prop:=fun(t,l,n,i,m)=>l.length≤9223372036854775807∧n=l.length∧∃k:Nat,k≤l.length∧i=k
def ai.L0.F:ai.L0.D→ai.L0.Y:=fun(t,l,n,i,m)=>if oF m (l.drop i.toNat) then .inr () else .inl ()
def ai.L1.az:ai.L1.D→Prop:=fun(s,l,n,i)=>(∀o∈l,Er o.2.1)∧l.length≤9223372036854775807∧n=l.length∧∃k:Nat,k≤l.length∧i=k
def ai.L1.F:ai.L1.D→ai.L1.Y:=fun(s,l,n,i)=>if lS s (l.drop i.toNat) then .inr () else .inl ()
def ai.az:ai.D→Prop:=fun t=>Fk t
def ai.F:ai.D→ai.Y:=fun t=>fB t
noncomputable def ai.G:dG:=eT (P:=Tryz.prog) [dQ.sg,eb.sg,aD.sg]
noncomputable def ai.L0.E:=bW.cM ai.L0.st ai.L0.az ai.L0.add ai.L0.F ai.L0.out
noncomputable def ai.L0.call:ai.L0.D→Option ai.L0.X:=dF ai.L0.E ai.L0.st
noncomputable def ai.L1.E:=bW.cM ai.L1.st ai.L1.az ai.L1.add ai.L1.F ai.L1.out
noncomputable def ai.L1.call:ai.L1.D→Option ai.L1.X:=dF ai.L1.E ai.L1.st
noncomputable def ai.an:dX:= {loops:=l7 [(5,{bn:=[1,3,33,34,35],sites:=[31]}),(13,{bn:=[6,66,67,68]})],outs:=l6 [(5,{bn:=[1]},{bn:=[2]}),(13,{},{bn:=[2]})],fK:=mU [(5,ai.L0.E),(13,ai.L1.E)]}
noncomputable def ai.A:= @cR Tryz.prog ai.G ai.an 0 Tryz.f66 _ ai.st
abbrev ai.Ok:=cS @ai.A ai.az ai.add ai.F ai.out
noncomputable def ai.L0.R:= @cz Tryz.prog ai.G ai.an 0 Tryz.f66 0 _ ai.L0.st
abbrev ai.L0.Ok:=eK Tryz.prog ai.G ai.an 0 Tryz.f66 0 ai.L0.st ai.L0.az ai.L0.add ai.L0.F ai.L0.out
noncomputable def ai.L1.R:= @cz Tryz.prog ai.G ai.an 0 Tryz.f66 1 _ ai.L1.st
abbrev ai.L1.Ok:=eK Tryz.prog ai.G ai.an 0 Tryz.f66 1 ai.L1.st ai.L1.az ai.L1.add ai.L1.F ai.L1.out
theorem ai.L0.run:bK ai.L0.call ai.L0.az ai.L0.add ai.L0.F:=eU (eQ [.d jz,.d (.slice ik),.d ti,.d ti,.d (.slice (.pair bD .bool))] fun _=>by kernel_rfl)
theorem ai.L0.aK:oe @ai.L0.R ai.L0.st ai.L0.az ai.L0.add ai.L0.F ai.L0.out ai.L0.Ok:=py
theorem ai.L0.step{R:Type}(t_2:fg)(t33:(List gW))(t34:Int)(t35:Int)(n31:(List (bY×Bool)))(kn:AS→Option R)(kx:Exit→AS→Option R):ai.L0.R (t_2,t33,t34,t35,n31) kn kx=
  aP ((gE t35 t34)) (
   aP (fo t35 (((List.length t33):Nat):Int)) (
   aP (((bQ bD (nth ik t33 (Int.toNat t35)).1 n31).getD false)) (
    kx (ai.L0.bE ()).1 (ai.L0.bE ()).2) (
    aP ((gE (nth ik t33 (Int.toNat t35)).1.2.1 (0:Int))) (
     kx (ai.L0.bE ()).1 (ai.L0.bE ()).2) (
     aP ((nf (nth ik t33 (Int.toNat t35)).1.2.1 (64:Int))) (
      kx (ai.L0.bE ()).1 (ai.L0.bE ()).2) (
      au (dQ.call (nth ik t33 (Int.toNat t35)).2.1) fun x8=>
      aP ((!x8)) (
       kx (ai.L0.bE ()).1 (ai.L0.bE ()).2) (
       kn (ai.L0.st (t_2,t33,t34,(b8 .i64 t35 (1:Int)),(ef bD (nth ik t33 (Int.toNat t35)).1 true n31)))))))) none) (
   kx (ai.L0.gT t_2).1 (ai.L0.gT t_2).2):=by kernel_rfl
theorem ai.L1.run:bK ai.L1.call ai.L1.az ai.L1.add ai.L1.F:=eU (eQ [.d ti,.d (.slice fA),.d ti,.d ti] fun _=>by kernel_rfl)
theorem ai.L1.aK:oe @ai.L1.R ai.L1.st ai.L1.az ai.L1.add ai.L1.F ai.L1.out ai.L1.Ok:=py
theorem ai.L1.step{R:Type}(sum:Int)(t66:(List fc))(t67:Int)(t68:Int)(kn:AS→Option R)(kx:Exit→AS→Option R):ai.L1.R (sum,t66,t67,t68) kn kx=
  aP ((gE t68 t67)) (
   aP (fo t68 (((List.length t66):Nat):Int)) (
   au (eb.call (sum,(nth fA t66 (Int.toNat t68)).1)) fun x10=>
   aP ((!x10.2)) (
    kx (ai.L1.bE ()).1 (ai.L1.bE ()).2) (
    au (aD.call (nth fA t66 (Int.toNat t68)).2.1) fun x12=>
    aP ((!x12)) (
     kx (ai.L1.bE ()).1 (ai.L1.bE ()).2) (
     kn (ai.L1.st (x10.1,t66,t67,(b8 .i64 t68 (1:Int))))))) none) (
   kx (ai.L1.gT ()).1 (ai.L1.gT ()).2):=by kernel_rfl
theorem ai.eq{R:Type}(t:fg)(k:aX→Option R):ai.A t k=
  aP ((gE (((List.length t.1):Nat):Int) (1:Int))) (
   k (ai.out false)) (
   aP ((pZ (((List.length t.1):Nat):Int) (64:Int))) (
    k (ai.out false)) (
    aP ((pZ (((List.length t.2.1):Nat):Int) (64:Int))) (
     k (ai.out false)) (
     aP ((gE t.2.2.1 (0:Int))) (
      k (ai.out false)) (
      au (ai.L0.call (t,t.1,(((List.length t.1):Nat):Int),(0:Int),([]:List (bY×Bool)))) fun x12=>
      aP (x12.isLeft) (
       au (x12.getLeft?) fun a13=>
       k (ai.out false)) (
       au (x12.getRight?) fun b14=>
       au (ai.L1.call ((0:Int),b14.2.1,(((List.length b14.2.1):Nat):Int),(0:Int))) fun x30=>
       aP (x30.isLeft) (
        au (x30.getLeft?) fun a31=>
        k (ai.out false)) (
        au (x30.getRight?) fun b32=>
        k (ai.out true))))))):=by kernel_rfl
theorem ai.L0.ok:ai.L0.Ok:=by
 refine ai.L0.aK (fun(t,l,n,i,m)=>l.length - i.toNat) ?_
 rintro⟨t,l,n,i,m⟩ ⟨hb,rfl,k,hk,rfl⟩
 have hb:l.length≤9223372036854775807:=hb
 have hk:k≤l.length:=hk
 by_cases h:k < l.length
 ·have n1:nth ik l k=l[k]:=cX (t:=ik) h
  have hd:oF m (l.drop k)=((!(pY m l[k]) && ru l[k]) && oF (ef bD l[k].1 true m) (l.drop (k+1))):=by rw[List.drop_eq_getElem_cons h];rfl
  have step:∀ {R:Type} (kn:AS→Option R) (kx:Exit→AS→Option R),ai.L0.R (t,l,(l.length:Int),(k:Int),m) kn kx=aP (!(pY m l[k]) && ru l[k]) (kn (ai.L0.st (t,l,(l.length:Int),((k+1:Nat):Int),ef bD l[k].1 true m))) (kx (ai.L0.bE ()).1 (ai.L0.bE ()).2):=by
   intro R kn kx
   rw[ai.L0.step,bq (by omega),bu (by omega) (by omega),Int.toNat_natCast,n1,N.nj (by omega),dQ.run (d:=l[k].2.1) trivial]
   simp only[ak,aa,dQ.add,dQ.F]
   have e:(bQ bD l[k].1 m).getD false=pY m l[k]:=rfl
   rw[e]
   cases pY m l[k]
   ·simp only[Bool.not_false,Bool.true_and,aw,ru]
    by_cases h1:l[k].1.2.1 < 0
    ·rw[bq h1,ak,bw (fun x=>by omega)];rfl
    ·rw[bm h1,aw]
     by_cases h2:64≤l[k].1.2.1
     ·rw[fi h2,ak,bw (fun x=>by omega)];rfl
     ·rw[eh h2,aw,aW ⟨by omega,by omega⟩]
      cases me l[k].2.1 <;> rfl
   ·rfl
  cases hp:(!(pY m l[k]) && ru l[k])
  ·right
   refine⟨ai.L0.bE (),?_,fun kn kx=> ?_⟩
   ·simp only[ai.L0.add,ai.L0.F,Int.toNat_natCast,hd,hp,Bool.false_and,Bool.false_eq_true,if_false]
    rfl
   ·rw[step,hp,aw]
  ·left
   refine⟨(t,l,l.length,((k+1:Nat):Int),ef bD l[k].1 true m),⟨hb,rfl,k+1,by omega,rfl⟩,by simp only[Int.toNat_natCast];omega,?_,fun kn kx=> ?_⟩
   ·simp only[ai.L0.add,ai.L0.F,Int.toNat_natCast,hd,hp,Bool.true_and]
   ·rw[step,hp,ak]
 ·right
  obtain rfl:k=l.length:=by omega
  refine⟨ai.L0.gT t,?_,fun kn kx=> ?_⟩
  ·simp only[ai.L0.add,ai.L0.F,Int.toNat_natCast,List.drop_length]
   rfl
  ·rw[ai.L0.step]
   simp(disch:=omega) only[↓S1,↓if_pos,↓if_neg,if_pos,if_neg,if_true,if_false,S2]
theorem ai.L1.ok:ai.L1.Ok:=by
 refine ai.L1.aK (fun(s,l,n,i)=>l.length - i.toNat) ?_
 rintro⟨s,l,n,i⟩ ⟨hl,hb,rfl,k,hk,rfl⟩
 have hb:l.length≤9223372036854775807:=hb
 have hk:k≤l.length:=hk
 by_cases h:k < l.length
 ·have hx:Er l[k].2.1:=hl _ (List.getElem_mem h)
  have n1:nth fA l k=l[k]:=cX (t:=fA) h
  have hd:lS s (l.drop k)=((oh s l[k].1 && jn l[k].2.1) && lS (s+l[k].1) (l.drop (k+1))):=by rw[List.drop_eq_getElem_cons h];rfl
  have step:∀ {R:Type} (kn:AS→Option R) (kx:Exit→AS→Option R),ai.L1.R (s,l,(l.length:Int),(k:Int)) kn kx=aP (oh s l[k].1 && jn l[k].2.1) (kn (ai.L1.st (s+l[k].1,l,(l.length:Int),((k+1:Nat):Int)))) (kx (ai.L1.bE ()).1 (ai.L1.bE ()).2):=by
   intro R kn kx
   rw[ai.L1.step,bq (by omega),bu (by omega) (by omega),Int.toNat_natCast,n1,N.nj (by omega),eb.run (d:=(s,l[k].1)) trivial,aD.run (d:=l[k].2.1) hx]
   simp only[ak,aa,eb.add,eb.F,aD.add,aD.F]
   cases oh s l[k].1
   ·rfl
   ·cases jn l[k].2.1 <;> rfl
  cases hp:(oh s l[k].1 && jn l[k].2.1)
  ·right
   refine⟨ai.L1.bE (),?_,fun kn kx=> ?_⟩
   ·simp only[ai.L1.add,ai.L1.F,Int.toNat_natCast,hd,hp,Bool.false_and,Bool.false_eq_true,if_false]
    rfl
   ·rw[step,hp,aw]
  ·left
   refine⟨(s+l[k].1,l,l.length,((k+1:Nat):Int)),⟨hl,hb,rfl,k+1,by omega,rfl⟩,by simp only[Int.toNat_natCast];omega,?_,fun kn kx=> ?_⟩
   ·simp only[ai.L1.add,ai.L1.F,Int.toNat_natCast,hd,hp,Bool.true_and]
   ·rw[step,hp,ak]
 ·right
  obtain rfl:k=l.length:=by omega
  refine⟨ai.L1.gT (),?_,fun kn kx=> ?_⟩
  ·simp only[ai.L1.add,ai.L1.F,Int.toNat_natCast,List.drop_length]
   rfl
  ·rw[ai.L1.step]
   simp(disch:=omega) only[↓S1,↓if_pos,↓if_neg,if_pos,if_neg,if_true,if_false,S2]
theorem ai.ok:ai.Ok:=by
 rintro⟨is,os,nt,u⟩ ⟨hl,h1,h2⟩
 have h1:is.length≤9223372036854775807:=h1
 have h2:os.length≤9223372036854775807:=h2
 rw[ai.eq,ai.L0.run (d:=((is,os,nt,u),is,is.length,0,[])) ⟨h1,rfl,0,by omega,rfl⟩]
 simp only[aa,ai.L0.add,ai.L0.F,Int.toNat_zero,List.drop_zero,ai.add,ai.F,fB,va]
 by_cases a1:is.length < 1
 ·rw[bq (by omega),ak,bw (fun x=>by omega)];rfl
 rw[bm (by omega),aw]
 by_cases a2:64 < is.length
 ·rw[dZ (by omega),ak,bw (fun x=>by omega)];rfl
 rw[dS (by omega),aw]
 by_cases a3:64 < os.length
 ·rw[dZ (by omega),ak,bw (fun x=>by omega)];rfl
 rw[dS (by omega),aw]
 by_cases a4:nt < 0
 ·rw[bq (by omega),ak,bw (fun x=>by omega)];rfl
 rw[bm (by omega),aw,aW ⟨by omega,by omega,by omega,by omega⟩]
 cases oF [] is
 ·rfl
 ·simp only[if_true,Bool.true_and]
  show au (ai.L1.call (0,os,(os.length:Int),0)) _=_
  rw[ai.L1.run (d:=(0,os,os.length,0)) ⟨hl,h2,rfl,0,by omega,rfl⟩]
  simp only[aa,ai.L1.add,ai.L1.F,Int.toNat_zero,List.drop_zero]
  cases lS 0 os <;> rfl
noncomputable def ai.E:=Entry.cM [some jz] ai.st ai.az ai.add ai.F ai.out
noncomputable def ai.call:ai.D→Option ai.X:=bP ai.E ai.st
theorem ai.run:bK ai.call ai.az ai.add ai.F:=de (cW [.d jz] fun _=>by kernel_rfl)
noncomputable def ai.sg:SG Tryz.prog:=⟨66,aV,ai.E,.fn 2 (by kernel_rfl) ai.ok (And.intro (.cM ai.L0.ok (by kernel_rfl)) (And.intro (.cM ai.L1.ok (by kernel_rfl)) trivial))⟩
set_option synthInstance.maxSize 5000
abbrev bT.D:=Bs
def bT.st:bT.D→SA:=fun sv=>([.d tU sv],[])
abbrev bT.Y:=Bs
abbrev bT.X:=Bs
def bT.out:bT.X→aX:=fun x=>⟨.d tU x,[],[]⟩
def bT.add:bT.D→bT.Y→bT.X:=fun sv y=>y
def bT.az:bT.D→Prop:=fun l=>l.length≤1000000
def bT.F:bT.D→bT.Y:=fun l=>l
noncomputable def bT.G:dG:=eT (P:=Tryz.prog) []
noncomputable def bT.an:dX:= {bk:=[5],res:=[some tU]}
noncomputable def bT.A:= @cR Tryz.prog bT.G bT.an 0 Tryz.f142 _ bT.st
abbrev bT.Ok:=cS @bT.A bT.az bT.add bT.F bT.out
theorem bT.eq{R:Type}(sv:Bs)(k:aX→Option R):bT.A sv k=
  aP (decide (0 < (List.length sv))) (
   aP (dw (0+(List.length sv)) 8) (
   aP (decide (0=0∧(0+(0+(List.length sv)))≤(List.length ((List.take 0 (List.replicate 0 (0:Int)))++sv)))) (
   k (bT.out (cut ((List.take 0 (List.replicate 0 (0:Int)))++sv) 0 (0+(List.length sv))))) none) none) (
   nd (
    k (bT.out ([]:List Int))) (
    aP (dw (0+(List.length sv)) 8) (
    aP (decide (0=0∧(0+(0+(List.length sv)))≤(List.length ((List.take 0 (List.replicate 0 (0:Int)))++sv)))) (
    k (bT.out (cut ((List.take 0 (List.replicate 0 (0:Int)))++sv) 0 (0+(List.length sv))))) none) none)):=by kernel_rfl
theorem bT.ok:bT.Ok:=by
 intro l hl
 have hl:l.length≤1000000:=hl
 have hr:dw l.length 8=true:=eG (by omega) (by omega)
 have e0:(List.take 0 (List.replicate 0 0):List Int)=[]:=rfl
 rw[bT.eq]
 simp only[Nat.zero_add,hr,ak,e0,List.nil_append,Nat.le_refl,and_self,decide_true,fm,bT.add,bT.F]
 by_cases h:0 < l.length
 ·simp only[aW h,ak]
 ·have:l=[]:=List.eq_nil_of_length_eq_zero (by omega)
  subst this
  simp only[List.length_nil,lQ,bw (Nat.lt_irrefl 0),aw]
noncomputable def bT.E:=Entry.cM [some tU] bT.st bT.az bT.add bT.F bT.out
noncomputable def bT.call:bT.D→Option bT.X:=bP bT.E bT.st
theorem bT.run:bK bT.call bT.az bT.add bT.F:=de (cW [.d tU] fun _=>by kernel_rfl)
noncomputable def bT.sg:SG Tryz.prog:=⟨142,aV,bT.E,.fn 0 (by kernel_rfl) bT.ok trivial⟩
def za(l:List Int):Lk:=([(l,0,0,0,())],())
abbrev eE.D:=Bs
def eE.st:eE.D→SA:=fun l=>([.d tU l],[])
abbrev eE.Y:=Lk
abbrev eE.X:=Lk
def eE.out:eE.X→aX:=fun x=>⟨.d yj x,[],[]⟩
def eE.add:eE.D→eE.Y→eE.X:=fun l y=>y
def eE.az:eE.D→Prop:=fun l=>l.length≤1000000
def eE.F:eE.D→eE.Y:=fun l=>za l
noncomputable def eE.G:dG:=eT (P:=Tryz.prog) [bT.sg]
noncomputable def eE.an:dX:= {}
noncomputable def eE.A:= @cR Tryz.prog eE.G eE.an 0 Tryz.f71 _ eE.st
abbrev eE.Ok:=cS @eE.A eE.az eE.add eE.F eE.out
theorem eE.eq{R:Type}(l:Bs)(k:aX→Option R):eE.A l k=
 au (bT.call l) fun x1=>
 k (eE.out ([(x1,((0:Int),((0:Int),((0:Int),()))))],())):=by kernel_rfl
theorem eE.ok:eE.Ok:=by
 intro l hl
 rw[eE.eq,bT.run (d:=l) hl]
 rfl
noncomputable def eE.E:=Entry.cM [some tU] eE.st eE.az eE.add eE.F eE.out
noncomputable def eE.call:eE.D→Option eE.X:=bP eE.E eE.st
theorem eE.run:bK eE.call eE.az eE.add eE.F:=de (cW [.d tU] fun _=>by kernel_rfl)
noncomputable def eE.sg:SG Tryz.prog:=⟨71,aV,eE.E,.fn 0 (by kernel_rfl) eE.ok trivial⟩
abbrev eC.D:=Int
def eC.st:eC.D→SA:=fun p=>([.d tu p],[])
abbrev eC.Y:=Lk
abbrev eC.X:=Lk
def eC.out:eC.X→aX:=fun x=>⟨.d yj x,[],[]⟩
def eC.add:eC.D→eC.Y→eC.X:=fun p y=>y
def eC.az:eC.D→Prop:=fun _=>True
def eC.F:eC.D→eC.Y:=fun p=>za [p]
noncomputable def eC.G:dG:=eT (P:=Tryz.prog) [eE.sg]
noncomputable def eC.an:dX:= {}
noncomputable def eC.A:= @cR Tryz.prog eC.G eC.an 0 Tryz.f17 _ eC.st
abbrev eC.Ok:=cS @eC.A eC.az eC.add eC.F eC.out
theorem eC.eq{R:Type}(p:Int)(k:aX→Option R):eC.A p k=
 au (eE.call [p]) fun x1=>
 k (eC.out x1):=by kernel_rfl
theorem eC.ok:eC.Ok:=by
 intro p _
 rw[eC.eq,eE.run (d:=[p]) (by show [p].length≤_;simp)]
 rfl
noncomputable def eC.E:=Entry.cM [some tu] eC.st eC.az eC.add eC.F eC.out
noncomputable def eC.call:eC.D→Option eC.X:=bP eC.E eC.st
theorem eC.run:bK eC.call eC.az eC.add eC.F:=de (cW [.d tu] fun _=>by kernel_rfl)
noncomputable def eC.sg:SG Tryz.prog:=⟨17,aV,eC.E,.fn 0 (by kernel_rfl) eC.ok trivial⟩
set_option synthInstance.maxSize 5000
set_option synthInstance.maxSize 5000
def jL(o:List Int)(ks:List Int):List Int:=ks.foldl (fun o p=>o++kB p) o
def Dw(o:List Int)(b:jN):List Int:=ed (ed (jL (ed o b.1.length) b.1) b.2.1) b.2.2.1++kB b.2.2.2.1
def CB(l:Lk):List Int:=if jn l then l.1.foldl Dw (ed [] l.1.length) else []
theorem pI:∀(ks:List Int) (o:List Int),(jL o ks).length=o.length+8*ks.length
 |[],o=>rfl
 |k::ks,o=>by
  show(jL (o++kB k) ks).length=_
  rw[pI ks,List.length_append,df,List.length_cons];omega
theorem yz(o:List Int)(b:jN)(h:b.1.length≤12):(Dw o b).length≤o.length+200:=by
 unfold Dw
 have h1:=eR o b.1.length
 have h2:=pI b.1 (ed o b.1.length)
 have h3:=eR (jL (ed o b.1.length) b.1) b.2.1
 have h4:=eR (ed (jL (ed o b.1.length) b.1) b.2.1) b.2.2.1
 rw[List.length_append,df];omega
def B7(n:Int):Prop:=n≤9223372036854775807
def Fg(b:jN):Prop:=b.1.length≤12∧B7 b.2.1∧B7 b.2.2.1
theorem Dx{b:jN}(h:nb b=true):Fg b:=by
 unfold nb qp at h
 simp only[Bool.and_eq_true,decide_eq_true_eq]at h
 obtain⟨h1,_,h2,h3,_⟩:=h
 exact⟨h1,by unfold B7;omega,by unfold B7;omega⟩
theorem xI(o:List Int)(ks:List Int)(k:Nat)(h:k < ks.length):jL o (ks.drop k)=jL (o++kB ks[k]) (ks.drop (k+1)):=by rw[List.drop_eq_getElem_cons h];rfl
abbrev ax.L0.D:=Bs×(List jN)×Int×Int
def ax.L0.st:ax.L0.D→AS:=fun(outv,t16,t17,t18)=>⟨([.undef,.undef,.undef,.d tB outv]++bl 12 ([.d (.slice jy) t16,.d ti t17,.d ti t18]++bl 31 [])),[],(List.replicate 50 [])⟩
abbrev ax.L0.Y0:=Bs
abbrev ax.L0.X0:=Bs
def ax.L0.bE:ax.L0.X0→Exit×AS:=fun x=>(.exit 0,⟨([.undef,.undef,.undef,.d tB x]++bl 46 []),[],(List.replicate 50 [])⟩)
abbrev ax.L0.X:=ax.L0.X0
abbrev ax.L0.Y:=ax.L0.Y0
def ax.L0.out:ax.L0.X→Out (Exit×AS):=fun x=> .ok (ax.L0.bE x)
def ax.L0.add:ax.L0.D→ax.L0.Y→ax.L0.X:=fun(outv,t16,t17,t18) y=>y
abbrev ax.L1.D:=Bs×(List jN)×Int×Int×Bs×Int×Int×jN
def ax.L1.st:ax.L1.D→AS:=fun(outv_2,t16_2,t17_2,t18_2,t28,t29,t30,n5)=>⟨([.undef,.undef,.undef,.d tB outv_2,.undef,.ptr (.new 5 0) 0 [] 0]++bl 10 ([.d (.slice jy) t16_2,.d ti t17_2,.d ti t18_2]++bl 9 ([.d tU t28,.d ti t29,.d ti t30]++bl 19 []))),[],(cj 5 ([[.obj 0 false (.d jy n5)]]++cj 44 []))⟩
abbrev ax.L1.Y0:=Bs
abbrev ax.L1.X0:=((List jN)×Int×Int×jN)×(Bs)
def ax.L1.bE:ax.L1.X0→Exit×AS:=fun x=>(.exit 2,⟨([.undef,.undef,.undef,.d tB x.2,.undef,.ptr (.new 5 0) 0 [] 0]++bl 10 ([.d (.slice jy) x.1.1,.d ti x.1.2.1,.d ti x.1.2.2.1]++bl 31 [])),[],(cj 5 ([[.obj 0 false (.d jy x.1.2.2.2)]]++cj 44 []))⟩)
abbrev ax.L1.X:=ax.L1.X0
abbrev ax.L1.Y:=ax.L1.Y0
def ax.L1.out:ax.L1.X→Out (Exit×AS):=fun x=> .ok (ax.L1.bE x)
def ax.L1.add:ax.L1.D→ax.L1.Y→ax.L1.X:=fun(outv_2,t16_2,t17_2,t18_2,t28,t29,t30,n5) y=>((t16_2,t17_2,t18_2,n5),y)
abbrev ax.D:=Lk
def ax.st:ax.D→SA:=fun l=>([.d yj l],[])
abbrev ax.Y:=Bs
abbrev ax.X:=Bs
def ax.out:ax.X→aX:=fun x=>⟨.d tB x,[],[]⟩
def ax.add:ax.D→ax.Y→ax.X:=fun l y=>y
def ax.L1.az:ax.L1.D→Prop:=fun(o,bs,n,i,ks,m,j,b)=>ks.length≤12∧o.length+8*ks.length≤80000000+8*j.toNat∧m=ks.length∧∃k:Nat,k≤ks.length∧j=k
def ax.L1.F:ax.L1.D→ax.L1.Y:=fun(o,bs,n,i,ks,m,j,b)=>jL o (ks.drop j.toNat)
def ax.L0.az:ax.L0.D→Prop:=fun(o,bs,n,i)=>(∀b∈bs,Fg b)∧bs.length≤4∧o.length≤1000+200*i.toNat∧n=bs.length∧∃k:Nat,k≤bs.length∧i=k
def ax.L0.F:ax.L0.D→ax.L0.Y:=fun(o,bs,n,i)=>(bs.drop i.toNat).foldl Dw o
def ax.az:ax.D→Prop:=fun l=>Ap l∧l.1.length≤9223372036854775807
def ax.F:ax.D→ax.Y:=fun l=>CB l
noncomputable def ax.G:dG:=eT (P:=Tryz.prog) [aD.sg,dg.sg,dm.sg]
noncomputable def ax.L0.E:=bW.cM ax.L0.st ax.L0.az ax.L0.add ax.L0.F ax.L0.out
noncomputable def ax.L0.call:ax.L0.D→Option ax.L0.X:=dF ax.L0.E ax.L0.st
noncomputable def ax.L1.E:=bW.cM ax.L1.st ax.L1.az ax.L1.add ax.L1.F ax.L1.out
noncomputable def ax.L1.call:ax.L1.D→Option ax.L1.X:=dF ax.L1.E ax.L1.st
noncomputable def ax.an:dX:= {loops:=l7 [(5,{bn:=[3,16,17,18]}),(9,{bn:=[3,5,16,17,18,28,29,30],sites:=[5]})],outs:=l6 [(5,{bn:=[3]},{bn:=[2]}),(9,{bn:=[3,5,16,17,18],sites:=[5]},{bn:=[2]})],fK:=mU [(5,ax.L0.E),(9,ax.L1.E)],res:=[some tB]}
noncomputable def ax.A:= @cR Tryz.prog ax.G ax.an 0 Tryz.f146 _ ax.st
abbrev ax.Ok:=cS @ax.A ax.az ax.add ax.F ax.out
noncomputable def ax.L0.R:= @cz Tryz.prog ax.G ax.an 0 Tryz.f146 0 _ ax.L0.st
abbrev ax.L0.Ok:=eK Tryz.prog ax.G ax.an 0 Tryz.f146 0 ax.L0.st ax.L0.az ax.L0.add ax.L0.F ax.L0.out
noncomputable def ax.L1.R:= @cz Tryz.prog ax.G ax.an 0 Tryz.f146 1 _ ax.L1.st
abbrev ax.L1.Ok:=eK Tryz.prog ax.G ax.an 0 Tryz.f146 1 ax.L1.st ax.L1.az ax.L1.add ax.L1.F ax.L1.out
theorem ax.L0.run:bK ax.L0.call ax.L0.az ax.L0.add ax.L0.F:=eU (eQ [.d tB,.d (.slice jy),.d ti,.d ti] fun _=>by kernel_rfl)
theorem ax.L0.aK:fZ @ax.L0.R ax.L0.st ax.L0.az ax.L0.add ax.L0.F ax.L0.bE ax.L0.Ok:=gv
theorem ax.L0.step{R:Type}(outv:Bs)(t16:(List jN))(t17:Int)(t18:Int)(kn:AS→Option R)(kx:Exit→AS→Option R):ax.L0.R (outv,t16,t17,t18) kn kx=
  aP ((gE t18 t17)) (
   aP (fo t18 (((List.length t16):Nat):Int)) (
   au (dg.call (outv,(((List.length (nth jy t16 (Int.toNat t18)).1):Nat):Int))) fun x1=>
   au (ax.L1.call (x1,t16,t17,t18,(nth jy t16 (Int.toNat t18)).1,(((List.length (nth jy t16 (Int.toNat t18)).1):Nat):Int),(0:Int),(nth jy t16 (Int.toNat t18)))) fun x2=>
   au (dg.call (x2.2,x2.1.2.2.2.2.1)) fun x3=>
   au (dg.call (x3,x2.1.2.2.2.2.2.1)) fun x4=>
   au (dm.call (x4,x2.1.2.2.2.2.2.2.1)) fun x5=>
   kn (ax.L0.st (x5,x2.1.1,x2.1.2.1,(b8 .i64 x2.1.2.2.1 (1:Int))))) none) (
   kx (ax.L0.bE outv).1 (ax.L0.bE outv).2):=by kernel_rfl
theorem ax.L1.run:bK ax.L1.call ax.L1.az ax.L1.add ax.L1.F:=eU (eQ [.d tB,.d (.slice jy),.d ti,.d ti,.d tU,.d ti,.d ti,.d jy] fun _=>by kernel_rfl)
theorem ax.L1.aK:fZ @ax.L1.R ax.L1.st ax.L1.az ax.L1.add ax.L1.F ax.L1.bE ax.L1.Ok:=gv
theorem ax.L1.step{R:Type}(outv_2:Bs)(t16_2:(List jN))(t17_2:Int)(t18_2:Int)(t28:Bs)(t29:Int)(t30:Int)(n5:jN)(kn:AS→Option R)(kx:Exit→AS→Option R):ax.L1.R (outv_2,t16_2,t17_2,t18_2,t28,t29,t30,n5) kn kx=
  aP ((gE t30 t29)) (
   aP (fo t30 (((List.length t28):Nat):Int)) (
   au (dm.call (outv_2,(nth tu t28 (Int.toNat t30)))) fun x1=>
   kn (ax.L1.st (x1,t16_2,t17_2,t18_2,t28,t29,(b8 .i64 t30 (1:Int)),n5))) none) (
   kx (ax.L1.bE ((t16_2,t17_2,t18_2,n5),outv_2)).1 (ax.L1.bE ((t16_2,t17_2,t18_2,n5),outv_2)).2):=by kernel_rfl
theorem ax.eq{R:Type}(l:Lk)(k:aX→Option R):ax.A l k=
  au (aD.call l) fun x1=>
  aP ((!x1)) (
   k (ax.out ([]:List Int))) (
   au (dg.call (([]:List Int),(((List.length l.1):Nat):Int))) fun x2=>
   au (ax.L0.call (x2,l.1,(((List.length l.1):Nat):Int),(0:Int))) fun x9=>
   k (ax.out x9)):=by kernel_rfl
theorem ax.L1.ok:ax.L1.Ok:=by
 refine ax.L1.aK (fun(o,bs,n,i,ks,m,j,b)=>ks.length - j.toNat) ?_
 rintro⟨o,bs,n,i,ks,m,j,b⟩ ⟨hk12,hl,rfl,k,hk,rfl⟩
 have hk12:ks.length≤12:=hk12
 have hk:k≤ks.length:=hk
 have hl:o.length+8*ks.length≤80000000+8*(k:Int).toNat:=hl
 rw[Int.toNat_natCast]at hl
 by_cases h:k < ks.length
 ·left
  have n1:nth (.int .u64) ks k=ks[k]:=cX (t:= .int .u64) h
  refine⟨(o++kB ks[k],bs,n,i,ks,ks.length,((k+1:Nat):Int),b),⟨hk12,by rw[List.length_append,df,Int.toNat_natCast];omega,rfl,k+1,by omega,rfl⟩,by simp only[Int.toNat_natCast];omega,?_,fun kn kx=> ?_⟩
  ·simp only[ax.L1.add,ax.L1.F,Int.toNat_natCast]
   rw[xI _ _ _ h]
  ·rw[ax.L1.step]
   simp(disch:=omega) only[↓S1,↓if_pos,↓if_neg,if_pos,if_neg,if_true,if_false,S2,n1]
   rw[dm.run (d:=(o,ks[k])) (by show o.length≤90000000;omega)]
   rfl
 ·right
  obtain rfl:k=ks.length:=by omega
  intro R kn kx
  rw[ax.L1.step]
  simp(disch:=omega) only[↓S1,↓if_pos,↓if_neg,if_pos,if_neg,if_true,if_false,S2,ax.L1.add,ax.L1.F,List.drop_length]
  rfl
theorem ax.L0.ok:ax.L0.Ok:=by
 refine ax.L0.aK (fun(o,bs,n,i)=>bs.length - i.toNat) ?_
 rintro⟨o,bs,n,i⟩ ⟨hb,h4,hl,rfl,k,hk,rfl⟩
 have h4:bs.length≤4:=h4
 have hk:k≤bs.length:=hk
 have hl:o.length≤1000+200*(k:Int).toNat:=hl
 rw[Int.toNat_natCast]at hl
 by_cases h:k < bs.length
 ·left
  have hx:=hb _ (List.getElem_mem h)
  have n1:nth (.pair (.slice (.int .u64)) (.pair (.int .i64) (.pair (.int .i64) (.pair (.int .u64) .unit)))) bs k=bs[k]:=cX (t:=(.pair (.slice (.int .u64)) (.pair (.int .i64) (.pair (.int .i64) (.pair (.int .u64) .unit))))) h
  have e0:=yz o bs[k] hx.1
  refine⟨(Dw o bs[k],bs,bs.length,((k+1:Nat):Int)),⟨hb,h4,by rw[Int.toNat_natCast];omega,rfl,k+1,by omega,rfl⟩,by simp only[Int.toNat_natCast];omega,?_,fun kn kx=> ?_⟩
  ·simp only[ax.L0.add,ax.L0.F,Int.toNat_natCast]
   rw[List.drop_eq_getElem_cons h]
   rfl
  ·rw[ax.L0.step,bq (by omega),bu (by omega) (by omega),Int.toNat_natCast,n1]
   obtain⟨⟨ks,af,dl,sc,u⟩,hbk⟩:∃b,bs[k]=b:=⟨_,rfl⟩
   rw[hbk]at hx e0 ⊢
   obtain⟨h12,ha,hd⟩:=hx
   have h12:ks.length≤12:=h12
   have ha:af≤9223372036854775807:=ha
   have hd:dl≤9223372036854775807:=hd
   have l1:=eR o ks.length
   have l2:=pI ks (ed o ks.length)
   have l3:=eR (jL (ed o ks.length) ks) af
   have l4:=eR (ed (jL (ed o ks.length) ks) af) dl
   simp only[ak]
   rw[dg.run (d:=(o,(ks.length:Int))) ⟨by show o.length≤90000000;omega,by show(ks.length:Int)≤9223372036854775807;omega⟩]
   simp only[aa,dg.add,dg.F]
   rw[ax.L1.run (d:=(ed o ks.length,bs,bs.length,k,ks,ks.length,0,(ks,af,dl,sc,u))) ⟨h12,by show(ed o ks.length).length+8*ks.length≤_;omega,rfl,0,by omega,rfl⟩]
   simp only[aa,ax.L1.add,ax.L1.F,Int.toNat_zero,List.drop_zero]
   rw[dg.run (d:=(jL (ed o ks.length) ks,af)) ⟨by show(jL (ed o ks.length) ks).length≤90000000;omega,ha⟩]
   simp only[aa,dg.add,dg.F]
   rw[dg.run (d:=(ed (jL (ed o ks.length) ks) af,dl)) ⟨by show(ed (jL (ed o ks.length) ks) af).length≤90000000;omega,hd⟩]
   simp only[aa,dg.add,dg.F]
   rw[dm.run (d:=(ed (ed (jL (ed o ks.length) ks) af) dl,sc)) (by show(ed (ed (jL (ed o ks.length) ks) af) dl).length≤90000000;omega)]
   simp only[aa,dm.add,dm.F]
   rw[N.nj (by omega)]
   rfl
 ·right
  obtain rfl:k=bs.length:=by omega
  intro R kn kx
  rw[ax.L0.step]
  simp(disch:=omega) only[↓S1,↓if_pos,↓if_neg,if_pos,if_neg,if_true,if_false,S2,ax.L0.add,ax.L0.F,List.drop_length]
  rfl
theorem Bg{l:Lk}(h:jn l=true):(∀b∈l.1,Fg b)∧0 < l.1.length∧l.1.length≤4:=by
 unfold jn at h
 simp only[Bool.and_eq_true,List.all_eq_true,decide_eq_true_eq]at h
 exact⟨fun b hb=>Dx (h.1 b hb),h.2⟩
theorem ax.ok:ax.Ok:=by
 rintro l ⟨hl,hb⟩
 have hl:Ap l:=hl
 rw[ax.eq,aD.run (d:=l) ⟨hl,hb⟩]
 simp only[aa,aD.add,aD.F,ax.add,ax.F,CB]
 cases hok:jn l
 ·rfl
 ·obtain⟨h1,h2,h3⟩:=Bg hok
  have l1:=eR [] l.1.length
  have l0:([]:List Int).length=0:=rfl
  simp only[Bool.not_true,aw,if_true]
  rw[dg.run (d:=([],(l.1.length:Int))) ⟨by show([]:List Int).length≤90000000;omega,by show(l.1.length:Int)≤9223372036854775807;omega⟩]
  simp only[aa,dg.add,dg.F]
  rw[ax.L0.run (d:=(ed [] l.1.length,l.1,l.1.length,0)) ⟨h1,h3,by show(ed [] l.1.length).length≤_;omega,rfl,0,by omega,rfl⟩]
  rfl
theorem yM(l:Lk):(CB l).length≤1000:=by
 unfold CB
 split
 ·rename_i h
  obtain⟨h1,h2,h3⟩:=Bg h
  have key:∀(bs:List jN) (o:List Int),(∀b∈bs,Fg b)→(bs.foldl Dw o).length≤o.length+200*bs.length:=by
   intro bs
   induction bs with
   |nil=>intro o _;exact Nat.le_refl _
   |cons b bs ih=>
    intro o hb
    have e1:=ih (Dw o b) fun x hx=>hb x (List.mem_cons_of_mem _ hx)
    have e2:=yz o b (hb b List.mem_cons_self).1
    rw[List.foldl_cons,List.length_cons];omega
  have e:=key l.1 (ed [] l.1.length) h1
  have e2:=eR [] l.1.length
  have l0:([]:List Int).length=0:=rfl
  omega
 ·exact Nat.zero_le _
noncomputable def ax.E:=Entry.cM [some yj] ax.st ax.az ax.add ax.F ax.out
noncomputable def ax.call:ax.D→Option ax.X:=bP ax.E ax.st
theorem ax.run:bK ax.call ax.az ax.add ax.F:=de (cW [.d yj] fun _=>by kernel_rfl)
noncomputable def ax.sg:SG Tryz.prog:=⟨146,aV,ax.E,.fn 2 (by kernel_rfl) ax.ok (And.intro (.cM ax.L0.ok (by kernel_rfl)) (And.intro (.cM ax.L1.ok (by kernel_rfl)) trivial))⟩
set_option synthInstance.maxSize 5000
abbrev dr.D:=Bs×Bs
def dr.st:dr.D→SA:=fun(b,h)=>([.d tB b,.d tH h],[])
abbrev dr.Y:=Bs
abbrev dr.X:=Bs
def dr.out:dr.X→aX:=fun x=>⟨.d tB x,[],[]⟩
def dr.add:dr.D→dr.Y→dr.X:=fun(b,h) y=>y
def dr.az:dr.D→Prop:=fun(b,h)=>b.length+h.length≤100000000∧h.length=32
def dr.F:dr.D→dr.Y:=fun(b,h)=>b++h
noncomputable def dr.G:dG:=eT (P:=Tryz.prog) [cE.sg]
noncomputable def dr.an:dX:= {}
noncomputable def dr.A:= @cR Tryz.prog dr.G dr.an 0 Tryz.f124 _ dr.st
abbrev dr.Ok:=cS @dr.A dr.az dr.add dr.F dr.out
theorem dr.eq{R:Type}(b:Bs)(h:Bs)(k:aX→Option R):dr.A (b,h) k=
 au (cE.call (b,(cut h 0 32))) fun x1=>
 k (dr.out x1):=by kernel_rfl
theorem dr.ok:dr.Ok:=by
 rintro⟨b,h⟩ ⟨h1,h2⟩
 have h1:b.length+h.length≤100000000:=h1
 have h2:h.length=32:=h2
 rw[dr.eq,fm h2,cE.run (d:=(b,h)) h1]
 rfl
noncomputable def dr.E:=Entry.cM [some tB,some tH] dr.st dr.az dr.add dr.F dr.out
noncomputable def dr.call:dr.D→Option dr.X:=bP dr.E dr.st
theorem dr.run:bK dr.call dr.az dr.add dr.F:=de (cW [.d tB,.d tB] fun _=>by kernel_rfl)
noncomputable def dr.sg:SG Tryz.prog:=⟨124,aV,dr.E,.fn 0 (by kernel_rfl) dr.ok trivial⟩
abbrev dj.D:=Bs×Bs
def dj.st:dj.D→SA:=fun(b,c)=>([.d tB b,.d tB c],[])
abbrev dj.Y:=Bs
abbrev dj.X:=Bs
def dj.out:dj.X→aX:=fun x=>⟨.d tB x,[],[]⟩
def dj.add:dj.D→dj.Y→dj.X:=fun(b,c) y=>y
def dj.az:dj.D→Prop:=fun(b,c)=>b.length+c.length≤90000000
def dj.F:dj.D→dj.Y:=fun(b,c)=>b++(si c.length++c)
noncomputable def dj.G:dG:=eT (P:=Tryz.prog) [bO.sg,aj.sg]
noncomputable def dj.an:dX:= {res:=[some tB]}
noncomputable def dj.A:= @cR Tryz.prog dj.G dj.an 0 Tryz.f145 _ dj.st
abbrev dj.Ok:=cS @dj.A dj.az dj.add dj.F dj.out
theorem dj.eq{R:Type}(b:Bs)(c:Bs)(k:aX→Option R):dj.A (b,c) k=
 au (bO.call (((List.length c):Nat):Int)) fun x1=>
 au (aj.call [b,x1,c]) fun x2=>
 k (dj.out x2):=by kernel_rfl
theorem dj.ok:dj.Ok:=by
 rintro⟨b,c⟩ h
 have h:b.length+c.length≤90000000:=h
 have hl:=o5 c.length
 rw[dj.eq,bO.run (d:=(c.length:Int)) ⟨by omega,by omega⟩]
 simp only[aa,bO.add,bO.F]
 rw[aj.run (d:=[b,si c.length,c]) ⟨by show [b,si c.length,c].length≤_;simp,by show iy [b,si c.length,c]≤_;simp only[iy,List.flatten_cons,List.flatten_nil,List.append_nil,List.length_append];omega⟩]
 simp only[aa,aj.add,aj.F,dj.add,dj.F,List.flatten_cons,List.flatten_nil,List.append_nil]
noncomputable def dj.E:=Entry.cM [some tB,some tB] dj.st dj.az dj.add dj.F dj.out
noncomputable def dj.call:dj.D→Option dj.X:=bP dj.E dj.st
theorem dj.run:bK dj.call dj.az dj.add dj.F:=de (cW [.d tB,.d tB] fun _=>by kernel_rfl)
noncomputable def dj.sg:SG Tryz.prog:=⟨145,aV,dj.E,.fn 0 (by kernel_rfl) dj.ok trivial⟩
def sI(b:List Int)(x:gW):List Int:=ed (b++x.1.1) x.1.2.1
def sZ(b:List Int)(o:fc):List Int:=ed b o.1++(si (CB o.2.1).length++CB o.2.1)
def mA(t:fg):List Int:=ed (t.2.1.foldl sZ (ed (t.1.foldl sI (ed [] t.1.length)) t.2.1.length)) t.2.2.1
def lW(t:fg):List Int:=if fB t then tag (bt (⟨#[116,120]⟩:ByteArray)) [mA t] else List.replicate 32 0
def F5(x:gW):Prop:=Sm x.1.1∧xg x.2.1∧x.2.1.2.1.length≤9223372036854775807
def ni(t:fg):Prop:=Fk t∧(∀x∈t.1,F5 x)∧t.2.2.1≤9223372036854775807
theorem oG:∀(l:List gW) (m:List (bY×Bool)),oF m l=true→∀x∈l,ru x=true
 |[],_,_,x,hx=>by cases hx
 |y::l,m,h,x,hx=>by
  rw[oF,Bool.and_eq_true,Bool.and_eq_true]at h
  rcases List.mem_cons.1 hx with rfl | hx
  ·exact h.1.2
  ·exact oG l _ h.2 x hx
theorem iZ:∀(l:List fc) (s:Int),lS s l=true→∀o∈l,(0≤o.1∧o.1≤1125899906842624)∧jn o.2.1=true
 |[],_,_,o,ho=>by cases ho
 |y::l,s,h,o,ho=>by
  rw[lS,Bool.and_eq_true,Bool.and_eq_true]at h
  rcases List.mem_cons.1 ho with rfl | ho
  ·have h1:=h.1.1
   unfold oh mo at h1
   simp only[Bool.and_eq_true,decide_eq_true_eq]at h1
   exact⟨h1.2.1,h.1.2⟩
  ·exact iZ l _ h.2 o ho
theorem A4{x:gW}(h:ru x=true):0≤x.1.2.1∧x.1.2.1 < 64∧0≤x.2.1.1∧x.2.1.1 < 4∧x.2.1.2.1.length≤12:=by
 unfold ru me at h
 simp only[Bool.and_eq_true,decide_eq_true_eq]at h
 exact⟨h.1.1,h.1.2,h.2.1.1,h.2.1.2,h.2.2⟩
theorem iJ{t:fg}(h:fB t=true):(1≤t.1.length∧t.1.length≤64∧t.2.1.length≤64∧0≤t.2.2.1)∧oF [] t.1=true∧lS 0 t.2.1=true:=by
 unfold fB va at h
 simp only[Bool.and_eq_true,decide_eq_true_eq]at h
 exact h
theorem yH(b:List Int)(x:gW):(sI b x).length≤b.length+x.1.1.length+11:=by
 have:=eR (b++x.1.1) x.1.2.1
 rw[List.length_append]at this
 exact this
theorem wF(b:List Int)(o:fc):(sZ b o).length≤b.length+1022:=by
 have h1:=eR b o.1
 have h2:=o5 (CB o.2.1).length
 have h3:=yM o.2.1
 unfold sZ
 rw[List.length_append,List.length_append]
 omega
abbrev ay.L0.D:=fg×Bs×(List gW)×Int×Int
def ay.L0.st:ay.L0.D→AS:=fun(t_2,b,t13,t14,t15)=>⟨([.undef,.eH jz t_2,.undef,.d tB b]++bl 9 ([.d (.slice ik) t13,.d ti t14,.d ti t15]++bl 38 [])),[],(List.replicate 54 [])⟩
abbrev ay.L0.Y0:=Bs
abbrev ay.L0.X0:=(fg)×(Bs)
def ay.L0.bE:ay.L0.X0→Exit×AS:=fun x=>(.exit 0,⟨([.undef,.eH jz x.1,.undef,.d tB x.2]++bl 50 []),[],(List.replicate 54 [])⟩)
abbrev ay.L0.X:=ay.L0.X0
abbrev ay.L0.Y:=ay.L0.Y0
def ay.L0.out:ay.L0.X→Out (Exit×AS):=fun x=> .ok (ay.L0.bE x)
def ay.L0.add:ay.L0.D→ay.L0.Y→ay.L0.X:=fun(t_2,b,t13,t14,t15) y=>(t_2,y)
abbrev ay.L1.D:=fg×Bs×(List fc)×Int×Int
def ay.L1.st:ay.L1.D→AS:=fun(t_3,b_2,t35,t36,t37)=>⟨([.undef,.eH jz t_3,.undef,.d tB b_2]++bl 31 ([.d (.slice fA) t35,.d ti t36,.d ti t37]++bl 16 [])),[],(List.replicate 54 [])⟩
abbrev ay.L1.Y0:=Bs
abbrev ay.L1.X0:=(fg)×(Bs)
def ay.L1.bE:ay.L1.X0→Exit×AS:=fun x=>(.exit 2,⟨([.undef,.eH jz x.1,.undef,.d tB x.2]++bl 50 []),[],(List.replicate 54 [])⟩)
abbrev ay.L1.X:=ay.L1.X0
abbrev ay.L1.Y:=ay.L1.Y0
def ay.L1.out:ay.L1.X→Out (Exit×AS):=fun x=> .ok (ay.L1.bE x)
def ay.L1.add:ay.L1.D→ay.L1.Y→ay.L1.X:=fun(t_3,b_2,t35,t36,t37) y=>(t_3,y)
abbrev ay.D:=fg
def ay.st:ay.D→SA:=fun t=>([.d jz t],[])
abbrev ay.Y:=Bs
abbrev ay.X:=Bs
def ay.out:ay.X→aX:=fun x=>⟨.d tB x,[],[]⟩
def ay.add:ay.D→ay.Y→ay.X:=fun t y=>y
def ay.L0.az:ay.L0.D→Prop:=fun(t,b,l,n,i)=>(l).length≤1000000000∧∃k:Nat,k≤(l).length∧i=k∧n=(l).length∧(l.length≤64)∧(∀x∈l,x.1.1.length=32∧x.1.2.1≤9223372036854775807)∧(b.length≤100+50*k)
def ay.L0.F:ay.L0.D→ay.L0.Y:=fun(t,b,l,n,i)=>(List.drop (Int.toNat i) l).foldl sI b
def ay.L1.az:ay.L1.D→Prop:=fun(t,b,l,n,i)=>(l).length≤1000000000∧∃k:Nat,k≤(l).length∧i=k∧n=(l).length∧(l.length≤64)∧(∀o∈l,o.1≤9223372036854775807∧Er o.2.1)∧(b.length≤4000+1100*k)
def ay.L1.F:ay.L1.D→ay.L1.Y:=fun(t,b,l,n,i)=>(List.drop (Int.toNat i) l).foldl sZ b
def ay.az:ay.D→Prop:=fun t=>fB t=true∧ni t
def ay.F:ay.D→ay.Y:=fun t=>mA t
noncomputable def ay.G:dG:=eT (P:=Tryz.prog) [dg.sg,dr.sg,ax.sg,dj.sg]
noncomputable def ay.L0.E:=bW.cM ay.L0.st ay.L0.az ay.L0.add ay.L0.F ay.L0.out
noncomputable def ay.L0.call:ay.L0.D→Option ay.L0.X:=dF ay.L0.E ay.L0.st
noncomputable def ay.L1.E:=bW.cM ay.L1.st ay.L1.az ay.L1.add ay.L1.F ay.L1.out
noncomputable def ay.L1.call:ay.L1.D→Option ay.L1.X:=dF ay.L1.E ay.L1.st
noncomputable def ay.an:dX:= {loops:=l7 [(3,{bn:=[1,3,13,14,15]}),(9,{bn:=[1,3,35,36,37]})],outs:=l6 [(3,{bn:=[1,3]},{bn:=[2]}),(9,{bn:=[1,3]},{bn:=[2]})],fK:=mU [(3,ay.L0.E),(9,ay.L1.E)],res:=[some tB]}
noncomputable def ay.A:= @cR Tryz.prog ay.G ay.an 0 Tryz.f73 _ ay.st
abbrev ay.Ok:=cS @ay.A ay.az ay.add ay.F ay.out
noncomputable def ay.L0.R:= @cz Tryz.prog ay.G ay.an 0 Tryz.f73 0 _ ay.L0.st
abbrev ay.L0.Ok:=eK Tryz.prog ay.G ay.an 0 Tryz.f73 0 ay.L0.st ay.L0.az ay.L0.add ay.L0.F ay.L0.out
noncomputable def ay.L1.R:= @cz Tryz.prog ay.G ay.an 0 Tryz.f73 1 _ ay.L1.st
abbrev ay.L1.Ok:=eK Tryz.prog ay.G ay.an 0 Tryz.f73 1 ay.L1.st ay.L1.az ay.L1.add ay.L1.F ay.L1.out
theorem ay.L0.run:bK ay.L0.call ay.L0.az ay.L0.add ay.L0.F:=eU (eQ [.d jz,.d tB,.d (.slice ik),.d ti,.d ti] fun _=>by kernel_rfl)
theorem ay.L0.aK:fZ @ay.L0.R ay.L0.st ay.L0.az ay.L0.add ay.L0.F ay.L0.bE ay.L0.Ok:=gv
theorem ay.L0.step{R:Type}(t_2:fg)(b:Bs)(t13:(List gW))(t14:Int)(t15:Int)(kn:AS→Option R)(kx:Exit→AS→Option R):ay.L0.R (t_2,b,t13,t14,t15) kn kx=
  aP ((gE t15 t14)) (
   aP (fo t15 (((List.length t13):Nat):Int)) (
   au (dr.call (b,(nth ik t13 (Int.toNat t15)).1.1)) fun x1=>
   au (dg.call (x1,(nth ik t13 (Int.toNat t15)).1.2.1)) fun x2=>
   kn (ay.L0.st (t_2,x2,t13,t14,(b8 .i64 t15 (1:Int))))) none) (
   kx (ay.L0.bE (t_2,b)).1 (ay.L0.bE (t_2,b)).2):=by kernel_rfl
theorem ay.L1.run:bK ay.L1.call ay.L1.az ay.L1.add ay.L1.F:=eU (eQ [.d jz,.d tB,.d (.slice fA),.d ti,.d ti] fun _=>by kernel_rfl)
theorem ay.L1.aK:fZ @ay.L1.R ay.L1.st ay.L1.az ay.L1.add ay.L1.F ay.L1.bE ay.L1.Ok:=gv
theorem ay.L1.step{R:Type}(t_3:fg)(b_2:Bs)(t35:(List fc))(t36:Int)(t37:Int)(kn:AS→Option R)(kx:Exit→AS→Option R):ay.L1.R (t_3,b_2,t35,t36,t37) kn kx=
  aP ((gE t37 t36)) (
   aP (fo t37 (((List.length t35):Nat):Int)) (
   au (dg.call (b_2,(nth fA t35 (Int.toNat t37)).1)) fun x1=>
   au (ax.call (nth fA t35 (Int.toNat t37)).2.1) fun x2=>
   au (dj.call (x1,x2)) fun x3=>
   kn (ay.L1.st (t_3,x3,t35,t36,(b8 .i64 t37 (1:Int))))) none) (
   kx (ay.L1.bE (t_3,b_2)).1 (ay.L1.bE (t_3,b_2)).2):=by kernel_rfl
theorem ay.eq{R:Type}(t:fg)(k:aX→Option R):ay.A t k=
 au (dg.call (([]:List Int),(((List.length t.1):Nat):Int))) fun x1=>
 au (ay.L0.call (t,x1,t.1,(((List.length t.1):Nat):Int),(0:Int))) fun x4=>
 au (dg.call (x4.2,(((List.length x4.1.2.1):Nat):Int))) fun x5=>
 au (ay.L1.call (x4.1,x5,x4.1.2.1,(((List.length x4.1.2.1):Nat):Int),(0:Int))) fun x9=>
 au (dg.call (x9.2,x9.1.2.2.1)) fun x10=>
 k (ay.out x10):=by kernel_rfl
theorem ay.L0.ok:ay.L0.Ok:=by
 refine ay.L0.aK (fun(t,b,l,n,i)=>(l).length - Int.toNat i) ?_
 rintro⟨t,b,l,n,i⟩ ⟨hlen,k,hk,rfl,rfl,h64,hx,hb⟩
 have hlen:(l).length≤1000000000:=hlen
 have hk:k≤(l).length:=hk
 have h64:l.length≤64:=h64
 have hx:∀x∈l,x.1.1.length=32∧x.1.2.1≤9223372036854775807:=hx
 have hb:b.length≤100+50*k:=hb
 by_cases h:k < (l).length
 ·left
  have n1:nth ik l k=l[k]:=cX (t:=ik) h
  have hd:List.drop k l=l[k]::List.drop (k+1) l:=List.drop_eq_getElem_cons h
  refine⟨(t,(sI b l[k]),l,((l).length:Int),((k+1:Nat):Int)),⟨hlen,k+1,by omega,rfl,rfl,h64,hx,by have:=yH b l[k];have:=(hx _ (List.getElem_mem h)).1;omega⟩,by simp only[Int.toNat_natCast];omega,?_,fun kn kx=> ?_⟩
  ·simp only[ay.L0.add,ay.L0.F,Int.toNat_natCast,hd,List.foldl_cons]
  ·rw[ay.L0.step,bq (by omega),bu (by omega) (by omega),Int.toNat_natCast,n1]
   simp only[ak]
   have e:=hx _ (List.getElem_mem h)
   have e2:(b++l[k].1.1).length=b.length+l[k].1.1.length:=List.length_append
   rw[dr.run (d:=(b,l[k].1.1)) ⟨by show b.length+l[k].1.1.length≤_;omega,e.1⟩]
   simp only[aa,dr.add,dr.F]
   rw[dg.run (d:=(b++l[k].1.1,l[k].1.2.1)) ⟨by show(b++l[k].1.1).length≤_;omega,e.2⟩]
   simp only[aa,dg.add,dg.F]
   rw[N.nj (by omega)]
   rfl
 ·right
  obtain rfl:k=(l).length:=by omega
  intro R kn kx
  rw[ay.L0.step,bm (by omega),aw]
  simp only[ay.L0.add,ay.L0.F,Int.toNat_natCast,List.drop_length,List.foldl_nil]
theorem ay.L1.ok:ay.L1.Ok:=by
 refine ay.L1.aK (fun(t,b,l,n,i)=>(l).length - Int.toNat i) ?_
 rintro⟨t,b,l,n,i⟩ ⟨hlen,k,hk,rfl,rfl,h64,hx,hb⟩
 have hlen:(l).length≤1000000000:=hlen
 have hk:k≤(l).length:=hk
 have h64:l.length≤64:=h64
 have hx:∀o∈l,o.1≤9223372036854775807∧Er o.2.1:=hx
 have hb:b.length≤4000+1100*k:=hb
 by_cases h:k < (l).length
 ·left
  have n1:nth fA l k=l[k]:=cX (t:=fA) h
  have hd:List.drop k l=l[k]::List.drop (k+1) l:=List.drop_eq_getElem_cons h
  refine⟨(t,(sZ b l[k]),l,((l).length:Int),((k+1:Nat):Int)),⟨hlen,k+1,by omega,rfl,rfl,h64,hx,by have:=wF b l[k];omega⟩,by simp only[Int.toNat_natCast];omega,?_,fun kn kx=> ?_⟩
  ·simp only[ay.L1.add,ay.L1.F,Int.toNat_natCast,hd,List.foldl_cons]
  ·rw[ay.L1.step,bq (by omega),bu (by omega) (by omega),Int.toNat_natCast,n1]
   simp only[ak]
   have e:=hx _ (List.getElem_mem h)
   have e1:=eR b l[k].1
   have e2:=yM l[k].2.1
   rw[dg.run (d:=(b,l[k].1)) ⟨by show b.length≤_;omega,e.1⟩]
   simp only[aa,dg.add,dg.F]
   rw[ax.run (d:=l[k].2.1) e.2]
   simp only[aa,ax.add,ax.F]
   rw[dj.run (d:=(ed b l[k].1,CB l[k].2.1)) (by show(ed b l[k].1).length+(CB l[k].2.1).length≤_;omega)]
   simp only[aa,dj.add,dj.F]
   rw[N.nj (by omega)]
   rfl
 ·right
  obtain rfl:k=(l).length:=by omega
  intro R kn kx
  rw[ay.L1.step,bm (by omega),aw]
  simp only[ay.L1.add,ay.L1.F,Int.toNat_natCast,List.drop_length,List.foldl_nil]
theorem uK:∀(l:List gW) (b:List Int),(∀x∈l,x.1.1.length=32)→(l.foldl sI b).length≤b.length+43*l.length
 |[],b,_=>Nat.le_refl _
 |x::l,b,h=>by
  have h1:=yH b x
  have h2:=h x List.mem_cons_self
  have h3:=uK l (sI b x) fun y hy=>h y (List.mem_cons_of_mem _ hy)
  rw[List.foldl_cons,List.length_cons]
  omega
theorem rU:∀(l:List fc) (b:List Int),(l.foldl sZ b).length≤b.length+1022*l.length
 |[],b=>Nat.le_refl _
 |x::l,b=>by
  have h1:=wF b x
  have h3:=rU l (sZ b x)
  rw[List.foldl_cons,List.length_cons]
  omega
theorem xV{t:fg}(hok:fB t=true)(hv:ni t):(mA t).length≤70000:=by
 obtain⟨⟨_,a2,a3,_⟩,_,_⟩:=iJ hok
 have h1:=uK t.1 (ed [] t.1.length) fun x hx=>(hv.2.1 x hx).1.1
 have h2:=eR [] t.1.length
 have h3:=eR (t.1.foldl sI (ed [] t.1.length)) t.2.1.length
 have h4:=rU t.2.1 (ed (t.1.foldl sI (ed [] t.1.length)) t.2.1.length)
 have h5:=eR (t.2.1.foldl sZ (ed (t.1.foldl sI (ed [] t.1.length)) t.2.1.length)) t.2.2.1
 have h0:([]:List Int).length=0:=rfl
 unfold mA
 omega
theorem ay.ok:ay.Ok:=by
 rintro t ⟨hok,hv⟩
 have hv:ni t:=hv
 obtain⟨⟨_,a2,a3,_⟩,b1,b2⟩:=iJ hok
 have h0:([]:List Int).length=0:=rfl
 have l0:=eR [] t.1.length
 have l1:=uK t.1 (ed [] t.1.length) fun x hx=>(hv.2.1 x hx).1.1
 have l2:=eR (t.1.foldl sI (ed [] t.1.length)) t.2.1.length
 have l3:=rU t.2.1 (ed (t.1.foldl sI (ed [] t.1.length)) t.2.1.length)
 rw[ay.eq,dg.run (d:=([],(t.1.length:Int))) ⟨by show([]:List Int).length≤_;omega,by show(t.1.length:Int)≤_;omega⟩]
 simp only[aa,dg.add,dg.F]
 rw[ay.L0.run (d:=(t,ed [] t.1.length,t.1,t.1.length,0)) ⟨by show t.1.length≤_;omega,0,Nat.zero_le _,rfl,rfl,a2,fun x hx=>⟨(hv.2.1 x hx).1.1,by have:=A4 (oG _ _ b1 x hx);omega⟩,by show(ed [] t.1.length).length≤_;omega⟩]
 simp only[aa,ay.L0.add,ay.L0.F,Int.toNat_zero,List.drop_zero]
 rw[dg.run (d:=(t.1.foldl sI (ed [] t.1.length),(t.2.1.length:Int))) ⟨by show(t.1.foldl sI (ed [] t.1.length)).length≤_;omega,by show(t.2.1.length:Int)≤_;omega⟩]
 simp only[aa,dg.add,dg.F]
 rw[ay.L1.run (d:=(t,ed (t.1.foldl sI (ed [] t.1.length)) t.2.1.length,t.2.1,t.2.1.length,0)) ⟨by show t.2.1.length≤_;omega,0,Nat.zero_le _,rfl,rfl,a3,fun o ho=>⟨by have:=(iZ _ _ b2 o ho).1;omega,hv.1.1 o ho⟩,by show(ed (t.1.foldl sI (ed [] t.1.length)) t.2.1.length).length≤_;omega⟩]
 simp only[aa,ay.L1.add,ay.L1.F,Int.toNat_zero,List.drop_zero]
 rw[dg.run (d:=(t.2.1.foldl sZ (ed (t.1.foldl sI (ed [] t.1.length)) t.2.1.length),t.2.2.1)) ⟨by show(t.2.1.foldl sZ (ed (t.1.foldl sI (ed [] t.1.length)) t.2.1.length)).length≤_;omega,hv.2.2⟩]
 rfl
noncomputable def ay.E:=Entry.cM [some jz] ay.st ay.az ay.add ay.F ay.out
noncomputable def ay.call:ay.D→Option ay.X:=bP ay.E ay.st
theorem ay.run:bK ay.call ay.az ay.add ay.F:=de (cW [.d jz] fun _=>by kernel_rfl)
noncomputable def ay.sg:SG Tryz.prog:=⟨73,aV,ay.E,.fn 2 (by kernel_rfl) ay.ok (And.intro (.cM ay.L0.ok (by kernel_rfl)) (And.intro (.cM ay.L1.ok (by kernel_rfl)) trivial))⟩
set_option synthInstance.maxSize 5000
def cT(t:fg):List bY:=if fB t then t.1.map (·.1) else []
def l8(id:List Int)(k n:Nat):List bY:=(List.range' k n).map fun i:Nat=>(id,((i:Int),()))
def ea(t:fg):List bY:=if fB t then l8 (lW t) 0 t.2.1.length else []
abbrev tid.D:=fg
def tid.st:tid.D→SA:=fun t=>([.d jz t],[])
abbrev tid.Y:=Bs
abbrev tid.X:=Bs
def tid.out:tid.X→aX:=fun x=>⟨.d tH x,[],[]⟩
def tid.add:tid.D→tid.Y→tid.X:=fun t y=>y
def tid.az:tid.D→Prop:=fun t=>ni t
def tid.F:tid.D→tid.Y:=fun t=>lW t
noncomputable def tid.G:dG:=eT (P:=Tryz.prog) [ai.sg,ay.sg,bF.sg]
noncomputable def tid.an:dX:= {}
noncomputable def tid.A:= @cR Tryz.prog tid.G tid.an 0 Tryz.f18 _ tid.st
abbrev tid.Ok:=cS @tid.A tid.az tid.add tid.F tid.out
theorem tid.eq{R:Type}(t:fg)(k:aX→Option R):tid.A t k=
  au (ai.call t) fun x1=>
  aP ((!x1)) (
   k (tid.out (List.replicate 32 (0:Int)))) (
   au (ay.call t) fun x2=>
   au (bF.call ((⟨#[116,120]⟩:ByteArray),[x2])) fun x3=>
   k (tid.out x3)):=by kernel_rfl
theorem tid.ok:tid.Ok:=by
 intro t hv
 have hv:ni t:=hv
 rw[tid.eq,ai.run (d:=t) hv.1]
 simp only[aa,ai.add,ai.F,tid.add,tid.F,lW]
 cases hok:fB t
 ·rfl
 ·have hl:=xV hok hv
  rw[ay.run (d:=t) ⟨hok,hv⟩]
  simp only[Bool.not_true,aw,if_true,aa,ay.add,ay.F]
  rw[bF.run (d:=((⟨#[116,120]⟩:ByteArray),[mA t])) (BX (by decide) (by omega))]
  rfl
noncomputable def tid.E:=Entry.cM [some jz] tid.st tid.az tid.add tid.F tid.out
noncomputable def tid.call:tid.D→Option tid.X:=bP tid.E tid.st
theorem tid.run:bK tid.call tid.az tid.add tid.F:=de (cW [.d jz] fun _=>by kernel_rfl)
noncomputable def tid.sg:SG Tryz.prog:=⟨18,aV,tid.E,.fn 0 (by kernel_rfl) tid.ok trivial⟩
abbrev aF.L0.D:=Nat×(List gW)×Int×Int×(List bY)
def aF.L0.st:aF.L0.D→AS:=fun(lL,t9,t10,t11,n19)=>⟨([.undef,.undef,.bp (.new 19 0) 0 [] 0 0 lL]++bl 6 ([.d (.slice ik) t9,.d ti t10,.d ti t11]++bl 10 [])),[],(cj 19 [[.obj 0 false (.vec 47 bD n19)],[],[]])⟩
abbrev aF.L0.Y0:=Nat×(List bY)
abbrev aF.L0.X0:=Nat×(List bY)
def aF.L0.bE:aF.L0.X0→Exit×AS:=fun x=>(.exit 0,⟨([.undef,.undef,.bp (.new 19 0) 0 [] 0 0 x.1]++bl 19 []),[],(cj 19 [[.obj 0 false (.vec 47 bD x.2)],[],[]])⟩)
abbrev aF.L0.X:=aF.L0.X0
abbrev aF.L0.Y:=aF.L0.Y0
def aF.L0.out:aF.L0.X→Out (Exit×AS):=fun x=> .ok (aF.L0.bE x)
def aF.L0.add:aF.L0.D→aF.L0.Y→aF.L0.X:=fun(lL,t9,t10,t11,n19) y=>y
abbrev aF.D:=fg
def aF.st:aF.D→SA:=fun t=>([.d jz t],[])
abbrev aF.Y:=(List bY)
abbrev aF.X:=(List bY)
def aF.out:aF.X→aX:=fun x=>⟨.d (.slice bD) x,[],[]⟩
def aF.add:aF.D→aF.Y→aF.X:=fun t y=>y
def aF.L0.az:aF.L0.D→Prop:=fun(L,l,n,i,r)=>(l).length≤1000000∧∃k:Nat,k≤(l).length∧i=k∧n=(l).length∧L=(r).length∧(r).length≤1000000+k
def aF.L0.F:aF.L0.D→aF.L0.Y:=fun(L,l,n,i,r)=>(L+(List.drop (Int.toNat i) l).length,r++(List.drop (Int.toNat i) l).map (fun x:gW=>x.1))
def aF.az:aF.D→Prop:=fun t=>Fk t
def aF.F:aF.D→aF.Y:=fun t=>cT t
noncomputable def aF.G:dG:=eT (P:=Tryz.prog) [ai.sg]
noncomputable def aF.L0.E:=bW.cM aF.L0.st aF.L0.az aF.L0.add aF.L0.F aF.L0.out
noncomputable def aF.L0.call:aF.L0.D→Option aF.L0.X:=dF aF.L0.E aF.L0.st
noncomputable def aF.an:dX:= {loops:=l7 [(4,{bn:=[2,9,10,11],sites:=[19],kk:=[⟨2,[],19,58⟩]})],outs:=l6 [(4,{bn:=[2],sites:=[19]},{bn:=[2]})],fK:=mU [(4,aF.L0.E)],res:=[some (.slice bD)]}
noncomputable def aF.A:= @cR Tryz.prog aF.G aF.an 0 Tryz.f32 _ aF.st
abbrev aF.Ok:=cS @aF.A aF.az aF.add aF.F aF.out
noncomputable def aF.L0.R:= @cz Tryz.prog aF.G aF.an 0 Tryz.f32 0 _ aF.L0.st
abbrev aF.L0.Ok:=eK Tryz.prog aF.G aF.an 0 Tryz.f32 0 aF.L0.st aF.L0.az aF.L0.add aF.L0.F aF.L0.out
theorem aF.L0.run:bK aF.L0.call aF.L0.az aF.L0.add aF.L0.F:=eU (eQ [.n,.d (.slice ik),.d ti,.d ti,.d (.slice bD)] fun _=>by kernel_rfl)
theorem aF.L0.aK:fZ @aF.L0.R aF.L0.st aF.L0.az aF.L0.add aF.L0.F aF.L0.bE aF.L0.Ok:=gv
theorem aF.L0.step{R:Type}(lL:Nat)(t9:(List gW))(t10:Int)(t11:Int)(n19:(List bY))(kn:AS→Option R)(kx:Exit→AS→Option R):aF.L0.R (lL,t9,t10,t11,n19) kn kx=
  aP ((gE t11 t10)) (
   aP (fo t11 (((List.length t9):Nat):Int)) (
   aP (decide (lL≤(List.length n19))) (
   aP (dw (lL+1) 40) (
   kn (aF.L0.st ((lL+1),t9,t10,(b8 .i64 t11 (1:Int)),((List.take lL n19)++ [(nth ik t9 (Int.toNat t11)).1])))) none) none) none) (
   kx (aF.L0.bE (lL,n19)).1 (aF.L0.bE (lL,n19)).2):=by kernel_rfl
theorem aF.eq{R:Type}(t:fg)(k:aX→Option R):aF.A t k=
  au (ai.call t) fun x1=>
  aP ((!x1)) (
   k (aF.out ([]:List bY))) (
   au (aF.L0.call (0,t.1,(((List.length t.1):Nat):Int),(0:Int),([]:List bY))) fun x2=>
   aP (decide (0=0∧(0+x2.1)≤(List.length x2.2))) (
   k (aF.out (cut x2.2 0 x2.1))) none):=by kernel_rfl
theorem aF.L0.ok:aF.L0.Ok:=by
 refine aF.L0.aK (fun(L,l,n,i,r)=>(l).length - Int.toNat i) ?_
 rintro⟨L,l,n,i,r⟩ ⟨hlen,k,hk,rfl,rfl,rfl,hrow⟩
 have hlen:(l).length≤1000000:=hlen
 have hk:k≤(l).length:=hk
 have hrow:(r).length≤1000000+k:=hrow
 by_cases h:k < (l).length
 ·left
  have n1:nth ik l k=l[k]:=cX (t:=ik) h
  have hd:List.drop k l=l[k]::List.drop (k+1) l:=List.drop_eq_getElem_cons h
  refine⟨((r).length+1,l,((l).length:Int),((k+1:Nat):Int),r++ [(fun x:gW=>x.1) l[k]]),⟨hlen,k+1,by omega,rfl,rfl,by rw[List.length_append];rfl,by rw[List.length_append];show(r).length+1≤_;omega⟩,by simp only[Int.toNat_natCast];omega,?_,fun kn kx=> ?_⟩
  ·simp only[aF.L0.add,aF.L0.F,Int.toNat_natCast,hd,List.map_cons,List.length_cons,List.append_assoc,List.singleton_append]
   rw[show ∀a c:Nat,a+1+c=a+(c+1) from fun a c=>by omega]
  ·rw[aF.L0.step,bq (by omega),bu (show(0:Int)≤(k:Int) by omega) (by omega),Int.toNat_natCast,n1]
   simp only[ak]
   rw[aW (Nat.le_refl _),eG (by omega) (by omega),N.nj (by omega),List.take_length]
   rfl
 ·right
  obtain rfl:k=(l).length:=by omega
  intro R kn kx
  rw[aF.L0.step,bm (by omega),aw]
  simp only[aF.L0.add,aF.L0.F,Int.toNat_natCast,List.drop_length,List.map_nil,List.append_nil,List.length_nil,Nat.add_zero]
theorem aF.ok:aF.Ok:=by
 intro t hv
 have hv:Fk t:=hv
 rw[aF.eq,ai.run (d:=t) hv]
 simp only[aa,ai.add,ai.F,aF.add,aF.F,cT]
 cases hok:fB t
 ·rfl
 ·obtain⟨⟨_,a2,a3,_⟩,b1,b2⟩:=iJ hok
  rw[aF.L0.run (d:=(0,t.1,t.1.length,0,[])) ⟨by show t.1.length≤_;omega,0,Nat.zero_le _,rfl,rfl,rfl,Nat.zero_le _⟩]
  simp only[Bool.not_true,aw,if_true,aa,aF.L0.add,aF.L0.F,Int.toNat_zero,List.drop_zero,List.nil_append,Nat.zero_add]
  rw[aW ⟨by trivial,by rw[List.length_map];exact Nat.le_refl _⟩,ak,fm (by rw[List.length_map])]
noncomputable def aF.E:=Entry.cM [some jz] aF.st aF.az aF.add aF.F aF.out
noncomputable def aF.call:aF.D→Option aF.X:=bP aF.E aF.st
theorem aF.run:bK aF.call aF.az aF.add aF.F:=de (cW [.d jz] fun _=>by kernel_rfl)
noncomputable def aF.sg:SG Tryz.prog:=⟨32,aV,aF.E,.fn 1 (by kernel_rfl) aF.ok (And.intro (.cM aF.L0.ok (by kernel_rfl)) trivial)⟩
abbrev ba.L0.D:=Nat×Int×Int×Bs×(List bY)
def ba.L0.st:ba.L0.D→AS:=fun(lL,t12,t13,n3,n21)=>⟨([.undef,.undef,.bp (.new 21 0) 0 [] 0 0 lL,.ptr (.new 3 0) 0 [] 0]++bl 8 ([.d ti t12,.d ti t13]++bl 10 [])),[],([[],[],[],[.obj 0 false (.d tH n3)]]++cj 17 [[.obj 0 false (.vec 47 bD n21)],[],[]])⟩
abbrev ba.L0.Y0:=Nat×(List bY)
abbrev ba.L0.X0:=Nat×(List bY)
def ba.L0.bE:ba.L0.X0→Exit×AS:=fun x=>(.exit 0,⟨([.undef,.undef,.bp (.new 21 0) 0 [] 0 0 x.1]++bl 21 []),[],(cj 21 [[.obj 0 false (.vec 47 bD x.2)],[],[]])⟩)
abbrev ba.L0.X:=ba.L0.X0
abbrev ba.L0.Y:=ba.L0.Y0
def ba.L0.out:ba.L0.X→Out (Exit×AS):=fun x=> .ok (ba.L0.bE x)
def ba.L0.add:ba.L0.D→ba.L0.Y→ba.L0.X:=fun(lL,t12,t13,n3,n21) y=>y
abbrev ba.D:=fg
def ba.st:ba.D→SA:=fun t=>([.d jz t],[])
abbrev ba.Y:=(List bY)
abbrev ba.X:=(List bY)
def ba.out:ba.X→aX:=fun x=>⟨.d (.slice bD) x,[],[]⟩
def ba.add:ba.D→ba.Y→ba.X:=fun t y=>y
def ba.L0.az:ba.L0.D→Prop:=fun(L,n,i,id,r)=>∃k m:Nat,k≤m∧i=k∧n=m∧m≤1000∧L=r.length∧L=k
def ba.L0.F:ba.L0.D→ba.L0.Y:=fun(L,n,i,id,r)=>(L+(n - i).toNat,r++l8 id i.toNat (n - i).toNat)
def ba.az:ba.D→Prop:=fun t=>ni t
def ba.F:ba.D→ba.Y:=fun t=>ea t
noncomputable def ba.G:dG:=eT (P:=Tryz.prog) [tid.sg,ai.sg]
noncomputable def ba.L0.E:=bW.cM ba.L0.st ba.L0.az ba.L0.add ba.L0.F ba.L0.out
noncomputable def ba.L0.call:ba.L0.D→Option ba.L0.X:=dF ba.L0.E ba.L0.st
noncomputable def ba.an:dX:= {loops:=l7 [(5,{bn:=[2,3,12,13],sites:=[3,21],kk:=[⟨2,[],21,58⟩]})],outs:=l6 [(5,{bn:=[2],sites:=[21]},{bn:=[2]})],fK:=mU [(5,ba.L0.E)],res:=[some (.slice bD)]}
noncomputable def ba.A:= @cR Tryz.prog ba.G ba.an 0 Tryz.f33 _ ba.st
abbrev ba.Ok:=cS @ba.A ba.az ba.add ba.F ba.out
noncomputable def ba.L0.R:= @cz Tryz.prog ba.G ba.an 0 Tryz.f33 0 _ ba.L0.st
abbrev ba.L0.Ok:=eK Tryz.prog ba.G ba.an 0 Tryz.f33 0 ba.L0.st ba.L0.az ba.L0.add ba.L0.F ba.L0.out
theorem ba.L0.run:bK ba.L0.call ba.L0.az ba.L0.add ba.L0.F:=eU (eQ [.n,.d ti,.d ti,.d tB,.d (.slice bD)] fun _=>by kernel_rfl)
theorem ba.L0.aK:fZ @ba.L0.R ba.L0.st ba.L0.az ba.L0.add ba.L0.F ba.L0.bE ba.L0.Ok:=gv
theorem ba.L0.step{R:Type}(lL:Nat)(t12:Int)(t13:Int)(n3:Bs)(n21:(List bY))(kn:AS→Option R)(kx:Exit→AS→Option R):ba.L0.R (lL,t12,t13,n3,n21) kn kx=
  aP ((gE t13 t12)) (
   aP (decide (lL≤(List.length n21))) (
   aP (dw (lL+1) 40) (
   kn (ba.L0.st ((lL+1),t12,(b8 .i64 t13 (1:Int)),n3,((List.take lL n21)++ [(n3,(t13,()))])))) none) none) (
   kx (ba.L0.bE (lL,n21)).1 (ba.L0.bE (lL,n21)).2):=by kernel_rfl
theorem ba.eq{R:Type}(t:fg)(k:aX→Option R):ba.A t k=
  au (tid.call t) fun x1=>
  au (ai.call t) fun x2=>
  aP ((!x2)) (
   k (ba.out ([]:List bY))) (
   au (ba.L0.call (0,(((List.length t.2.1):Nat):Int),(0:Int),x1,([]:List bY))) fun x3=>
   aP (decide (0=0∧(0+x3.1)≤(List.length x3.2))) (
   k (ba.out (cut x3.2 0 x3.1))) none):=by kernel_rfl
theorem zL(id:List Int)(k n:Nat):(l8 id k n).length=n:=by simp[l8]
theorem xM(id:List Int)(k n:Nat):l8 id k (n+1)=(id,((k:Int),()))::l8 id (k+1) n:=by
 unfold l8
 rw[List.range'_succ,List.map_cons]
theorem ba.L0.ok:ba.L0.Ok:=by
 refine ba.L0.aK (fun(L,n,i,id,r)=>(n - i).toNat) ?_
 rintro⟨L,n,i,id,r⟩ ⟨k,m,hk,rfl,rfl,hm,rfl,hrk⟩
 have hrk:r.length=k:=hrk
 by_cases h:k < m
 ·left
  have e1:((m:Int) - (k:Int)).toNat=(m - (k+1))+1:=by omega
  have e2:((m:Int) - ((k+1:Nat):Int)).toNat=m - (k+1):=by omega
  refine⟨(r.length+1,(m:Int),((k+1:Nat):Int),id,r++ [(id,((k:Int),()))]),⟨k+1,m,by omega,rfl,rfl,hm,by rw[List.length_append];rfl,by show r.length+1=_;omega⟩,by show((m:Int) - ((k+1:Nat):Int)).toNat < ((m:Int) - (k:Int)).toNat;omega,?_,fun kn kx=> ?_⟩
  ·simp only[ba.L0.add,ba.L0.F,e1,e2,Int.toNat_natCast,xM,List.append_assoc,List.singleton_append]
   rw[show r.length+1+(m - (k+1))=r.length+(m - (k+1)+1) by omega]
  ·rw[ba.L0.step,bq (by omega),aW (Nat.le_refl _),eG (by omega) (by omega),N.nj (by omega),List.take_length]
   rfl
 ·right
  obtain rfl:k=m:=by omega
  intro R kn kx
  rw[ba.L0.step,bm (by omega),aw]
  simp only[ba.L0.add,ba.L0.F,Int.sub_self,Int.toNat_zero,Nat.add_zero]
  rw[show l8 id (k:Int).toNat 0=[] from rfl,List.append_nil]
theorem ba.ok:ba.Ok:=by
 intro t hv
 have hv:ni t:=hv
 rw[ba.eq,tid.run (d:=t) hv,ai.run (d:=t) hv.1]
 simp only[aa,tid.add,tid.F,ai.add,ai.F,ba.add,ba.F,ea]
 cases hok:fB t
 ·rfl
 ·obtain⟨⟨_,a2,a3,_⟩,b1,b2⟩:=iJ hok
  have hl:=zL (lW t) 0 t.2.1.length
  rw[ba.L0.run (d:=(0,t.2.1.length,0,lW t,[])) ⟨0,t.2.1.length,Nat.zero_le _,rfl,rfl,by omega,rfl,rfl⟩]
  simp only[Bool.not_true,aw,if_true,aa,ba.L0.add,ba.L0.F,Int.sub_zero,Int.toNat_natCast,Int.toNat_zero,List.nil_append,Nat.zero_add]
  rw[aW ⟨by trivial,by rw[hl];exact Nat.le_refl _⟩,ak,fm hl]
noncomputable def ba.E:=Entry.cM [some jz] ba.st ba.az ba.add ba.F ba.out
noncomputable def ba.call:ba.D→Option ba.X:=bP ba.E ba.st
theorem ba.run:bK ba.call ba.az ba.add ba.F:=de (cW [.d jz] fun _=>by kernel_rfl)
noncomputable def ba.sg:SG Tryz.prog:=⟨33,aV,ba.E,.fn 1 (by kernel_rfl) ba.ok (And.intro (.cM ba.L0.ok (by kernel_rfl)) trivial)⟩
end Go.Ab
