/-
  Made short by a program of mine (wip/tools/mini.py).
-/
import Derived.Test.YtglpcfdjdabdnaaGreatS7x2
import Derived.Test.YtglpcfdjdabdnaaGreatProg
set_option linter.unusedVariables false
set_option linter.unusedSimpArgs false
namespace Go.Ab
open Go.Proofs
set_option maxRecDepth 100000
set_option linter.unusedVariables false
set_option linter.unusedSimpArgs false
set_option synthInstance.maxSize 5000
abbrev binary.D:=Bs
def binary.st:binary.D→SA:=fun b=>([.d tB b],[])
abbrev binary.Y:=Int
abbrev binary.X:=Int
def binary.out:binary.X→aY:=fun x=>⟨.d (.int .u32) x,[],[]⟩
def binary.add:binary.D→binary.Y→binary.X:=fun b y=>y
def binary.aB:binary.D→Prop:=fun b=>4≤b.length
def binary.F:binary.D→binary.Y:=fun b=>vw (Dm (b.getD 0 0) (b.getD 1 0) (b.getD 2 0) (b.getD 3 0))
noncomputable def binary.G:dR:=eO (P:=Tryz.prog) []
noncomputable def binary.an:eu:= {}
noncomputable def binary.A:= @cI Tryz.prog binary.G binary.an 0 Tryz.f167 _ binary.st
abbrev binary.Ok:=cJ @binary.A binary.aB binary.add binary.F binary.out
theorem binary.eq{R:Type}(b:Bs)(k:aY→Option R):binary.A b k=
 aJ (eh (0:Int) (((List.length b):Nat):Int)) (
 aJ (eh (1:Int) (((List.length b):Nat):Int)) (
 aJ (eh (2:Int) (((List.length b):Nat):Int)) (
 aJ (eh (3:Int) (((List.length b):Nat):Int)) (
 k (binary.out (cl .or .u32 (cl .or .u32 (cl .or .u32 (gm .u32 (dA .u32 (nth tb b 0)) (24:Int)) (gm .u32 (dA .u32 (nth tb b 1)) (16:Int))) (gm .u32 (dA .u32 (nth tb b 2)) (8:Int))) (dA .u32 (nth tb b 3))))) none) none) none) none:=by kernel_rfl
theorem binary.ok:binary.Ok:=by
 intro b h
 have h:4≤b.length:=h
 rw[binary.eq,bn (by omega) (by omega),bn (by omega) (by omega),bn (by omega) (by omega),bn (by omega) (by omega)]
 simp only[az,yf,oV,g7]
 rfl
noncomputable def binary.E:=Entry.ct [some tB] binary.st binary.aB binary.add binary.F binary.out
noncomputable def binary.call:binary.D→Option binary.X:=bG binary.E binary.st
theorem binary.run:bB binary.call binary.aB binary.add binary.F:=cO (cM [.d tB] fun _=>by kernel_rfl)
noncomputable def binary.sg:SG Tryz.prog:=⟨167,aU,binary.E,.fn 0 (by kernel_rfl) binary.ok trivial⟩
abbrev cr.D:=Int×Int
def cr.st:cr.D→SA:=fun(x,kv)=>([.d (.int .u32) x,.d ti kv],[])
abbrev cr.Y:=Int
abbrev cr.X:=Int
def cr.out:cr.X→aY:=fun x=>⟨.d (.int .u32) x,[],[]⟩
def cr.add:cr.D→cr.Y→cr.X:=fun(x,kv) y=>y
def rl(w:W)(k:Nat):W:=w <<< k ||| w >>> (32 - k)
def cr.aB:cr.D→Prop:=fun(x,k)=>0≤x∧x < 4294967296
def cr.F:cr.D→cr.Y:=fun(x,k)=>vw (rl (BitVec.ofInt 32 x) (k%32).toNat)
noncomputable def cr.G:dR:=eO (P:=Tryz.prog) []
noncomputable def cr.an:eu:= {}
noncomputable def cr.A:= @cI Tryz.prog cr.G cr.an 0 Tryz.f150 _ cr.st
abbrev cr.Ok:=cJ @cr.A cr.aB cr.add cr.F cr.out
theorem cr.eq{R:Type}(x:Int)(kv:Int)(k:aY→Option R):cr.A (x,kv) k=
 aJ (gD (cl .and .u64 (dA .u64 kv) (31:Int))) (
 aJ (gD (dd .u64 (32:Int) (cl .and .u64 (dA .u64 kv) (31:Int)))) (
 k (cr.out (cl .or .u32 (gm .u32 x (cl .and .u64 (dA .u64 kv) (31:Int))) (bI .u32 x (dd .u64 (32:Int) (cl .and .u64 (dA .u64 kv) (31:Int))))))) none) none:=by kernel_rfl
theorem Dl(k:Int):cl .and .u64 (dA .u64 k) 31=k%32:=by
 have e:(31:Int)=vw (31:BitVec 64):=rfl
 rw[uk,e,yO]
 simp only
 have:(31:BitVec 64)=BitVec.ofNat 64 (2^5 - 1):=rfl
 unfold vw
 rw[BitVec.toNat_and,BitVec.toNat_ofInt,show(31:BitVec 64).toNat=2^5 - 1 from rfl,Nat.and_two_pow_sub_one_eq_mod]
 omega
theorem cr.ok:cr.Ok:=by
 rintro⟨x,k⟩ ⟨h1,h2⟩
 have e1:dd .u64 32 (k%32)=32 - k%32:=by
  unfold dd
  rw[wrap_u64,fD]
  omega
 have hx:x=vw (BitVec.ofInt 32 x):=by rw[fD];omega
 rw[cr.eq,Dl,e1,jS (by omega),jS (by omega)]
 simp only[az]
 have e2:cl .or .u32 (gm .u32 x (k%32)) (bI .u32 x (32 - k%32))=vw (rl (BitVec.ofInt 32 x) (k%32).toNat):=by
  conv=>lhs;rw[hx]
  rw[oV,m9,g7]
  simp only[rl]
  congr 3
  omega
 rw[e2]
 rfl
noncomputable def cr.E:=Entry.ct [some (.int .u32),some ti] cr.st cr.aB cr.add cr.F cr.out
noncomputable def cr.call:cr.D→Option cr.X:=bG cr.E cr.st
theorem cr.run:bB cr.call cr.aB cr.add cr.F:=cO (cM [.d (.int .u32),.d ti] fun _=>by kernel_rfl)
noncomputable def cr.sg:SG Tryz.prog:=⟨150,aU,cr.E,.fn 0 (by kernel_rfl) cr.ok trivial⟩
theorem cr.at(w:W)(k:Int):cr.call (vw w,k)=some (vw (rl w (k%32).toNat)):=by
 have h:cr.aB (vw w,k):=⟨qh w,by have:=Bl w;simpa using this⟩
 rw[cr.run h]
 show some (vw (rl (BitVec.ofInt 32 (vw w)) (k%32).toNat))=_
 rw[jd]
abbrev table.D:=Unit
def table.st:table.D→SA:=fun _=>([],[])
abbrev table.Y:=(List Int)
abbrev table.X:=(List Int)
def table.out:table.X→aY:=fun x=>⟨.d (.arr 64 (.int .u32)) x,[],[]⟩
def table.add:table.D→table.Y→table.X:=fun _ y=>y
def table.aB:table.D→Prop:=fun _=>True
def table.F:table.D→table.Y:=fun _=>pR
noncomputable def table.G:dR:=eO (P:=Tryz.prog) []
noncomputable def table.an:eu:= {}
noncomputable def table.A:= @cI Tryz.prog table.G table.an 0 Tryz.f149 _ table.st
abbrev table.Ok:=cJ @table.A table.aB table.add table.F table.out
theorem table.eq{R:Type}(k:aY→Option R):table.A () k=
 k (table.out [(1116352408:Int),(1899447441:Int),(3049323471:Int),(3921009573:Int),(961987163:Int),(1508970993:Int),(2453635748:Int),(2870763221:Int),(3624381080:Int),(310598401:Int),(607225278:Int),(1426881987:Int),(1925078388:Int),(2162078206:Int),(2614888103:Int),(3248222580:Int),(3835390401:Int),(4022224774:Int),(264347078:Int),(604807628:Int),(770255983:Int),(1249150122:Int),(1555081692:Int),(1996064986:Int),(2554220882:Int),(2821834349:Int),(2952996808:Int),(3210313671:Int),(3336571891:Int),(3584528711:Int),(113926993:Int),(338241895:Int),(666307205:Int),(773529912:Int),(1294757372:Int),(1396182291:Int),(1695183700:Int),(1986661051:Int),(2177026350:Int),(2456956037:Int),(2730485921:Int),(2820302411:Int),(3259730800:Int),(3345764771:Int),(3516065817:Int),(3600352804:Int),(4094571909:Int),(275423344:Int),(430227734:Int),(506948616:Int),(659060556:Int),(883997877:Int),(958139571:Int),(1322822218:Int),(1537002063:Int),(1747873779:Int),(1955562222:Int),(2024104815:Int),(2227730452:Int),(2361852424:Int),(2428436474:Int),(2756734187:Int),(3204031479:Int),(3329325298:Int)]):=by kernel_rfl
theorem table.ok:table.Ok:=by
 intro d _
 rw[table.eq]
 rfl
noncomputable def table.E:=Entry.ct [] table.st table.aB table.add table.F table.out
noncomputable def table.call:table.D→Option table.X:=bG table.E table.st
theorem table.run:bB table.call table.aB table.add table.F:=cO (cM [] fun _=>by kernel_rfl)
noncomputable def table.sg:SG Tryz.prog:=⟨149,aU,table.E,.fn 0 (by kernel_rfl) table.ok trivial⟩
abbrev first.D:=Unit
def first.st:first.D→SA:=fun _=>([],[])
abbrev first.Y:=(List Int)
abbrev first.X:=(List Int)
def first.out:first.X→aY:=fun x=>⟨.d (.arr 8 (.int .u32)) x,[],[]⟩
def first.add:first.D→first.Y→first.X:=fun _ y=>y
def first.aB:first.D→Prop:=fun _=>True
def first.F:first.D→first.Y:=fun _=>iE.l
noncomputable def first.G:dR:=eO (P:=Tryz.prog) []
noncomputable def first.an:eu:= {}
noncomputable def first.A:= @cI Tryz.prog first.G first.an 0 Tryz.f110 _ first.st
abbrev first.Ok:=cJ @first.A first.aB first.add first.F first.out
theorem first.eq{R:Type}(k:aY→Option R):first.A () k=
 k (first.out [(1779033703:Int),(3144134277:Int),(1013904242:Int),(2773480762:Int),(1359893119:Int),(2600822924:Int),(528734635:Int),(1541459225:Int)]):=by kernel_rfl
theorem first.ok:first.Ok:=by
 intro d _
 rw[first.eq]
 rfl
noncomputable def first.E:=Entry.ct [] first.st first.aB first.add first.F first.out
noncomputable def first.call:first.D→Option first.X:=bG first.E first.st
theorem first.run:bB first.call first.aB first.add first.F:=cO (cM [] fun _=>by kernel_rfl)
noncomputable def first.sg:SG Tryz.prog:=⟨110,aU,first.E,.fn 0 (by kernel_rfl) first.ok trivial⟩
set_option synthInstance.maxSize 5000
abbrev schedule.L0.D:=Bs×Int×(List Int)
def schedule.L0.st:schedule.L0.D→AS:=fun(b_2,t8,n2)=>⟨([.d tB b_2,.undef,.ptr (.new 2 0) 0 [] 0]++ba 5 ([.d ti t8]++ba 52 [])),[],([[],[],[.obj 0 false (.d (.arr 64 (.int .u32)) n2)]]++bN 58 [])⟩
abbrev schedule.L0.Y0:=(List Int)
abbrev schedule.L0.X0:=(List Int)
def schedule.L0.bq:schedule.L0.X0→Exit×AS:=fun x=>(.exit 0,⟨([.undef,.undef,.ptr (.new 2 0) 0 [] 0]++ba 58 []),[],([[],[],[.obj 0 false (.d (.arr 64 (.int .u32)) x)]]++bN 58 [])⟩)
abbrev schedule.L0.X:=schedule.L0.X0
abbrev schedule.L0.Y:=schedule.L0.Y0
def schedule.L0.out:schedule.L0.X→Out (Exit×AS):=fun x=> .ok (schedule.L0.bq x)
def schedule.L0.add:schedule.L0.D→schedule.L0.Y→schedule.L0.X:=fun(b_2,t8,n2) y=>y
abbrev schedule.D:=Bs
def schedule.st:schedule.D→SA:=fun b=>([.d tB b],[])
abbrev schedule.Y:=(List Int)
abbrev schedule.X:=(List Int)
def schedule.out:schedule.X→aY:=fun x=>⟨.d (.arr 64 (.int .u32)) x,[],[]⟩
def schedule.add:schedule.D→schedule.Y→schedule.X:=fun b y=>y
def wl(l:List W):List Int:=l.map vw
def mM(l:List W):List Int:=wl l++List.replicate (64 - l.length) 0
def mn(b:List Int)(k:Nat):List W:=if k≤16 then(words b).take k else Bu (words b) (k - 16)
def schedule.L0.aB:schedule.L0.D→Prop:=fun(b,t8,n2)=>64≤b.length∧∃k:Nat,k≤64∧t8=k∧n2=mM (mn b k)
def schedule.L0.F:schedule.L0.D→schedule.L0.Y:=fun(b,t8,n2)=>wl (sched b)
def schedule.aB:schedule.D→Prop:=fun b=>64≤b.length
def schedule.F:schedule.D→schedule.Y:=fun b=>wl (sched b)
noncomputable def schedule.G:dR:=eO (P:=Tryz.prog) [binary.sg,cr.sg]
noncomputable def schedule.L0.E:=bM.ct schedule.L0.st schedule.L0.aB schedule.L0.add schedule.L0.F schedule.L0.out
noncomputable def schedule.L0.call:schedule.L0.D→Option schedule.L0.X:=dg schedule.L0.E schedule.L0.st
noncomputable def schedule.an:eu:= {loops:=jO [(2,{bh:=[0,2,8],sites:=[2]})],outs:=jN [(2,{bh:=[2],sites:=[2]},{bh:=[2]})],fF:=ky [(2,schedule.L0.E)]}
noncomputable def schedule.A:= @cI Tryz.prog schedule.G schedule.an 0 Tryz.f148 _ schedule.st
abbrev schedule.Ok:=cJ @schedule.A schedule.aB schedule.add schedule.F schedule.out
noncomputable def schedule.L0.R:= @cf Tryz.prog schedule.G schedule.an 0 Tryz.f148 0 _ schedule.L0.st
abbrev schedule.L0.Ok:=ez Tryz.prog schedule.G schedule.an 0 Tryz.f148 0 schedule.L0.st schedule.L0.aB schedule.L0.add schedule.L0.F schedule.L0.out
theorem schedule.L0.run:bB schedule.L0.call schedule.L0.aB schedule.L0.add schedule.L0.F:=eE (eD [.d tB,.d ti,.d (.slice (.int .u32))] fun _=>by kernel_rfl)
theorem schedule.L0.aH:fP @schedule.L0.R schedule.L0.st schedule.L0.aB schedule.L0.add schedule.L0.F schedule.L0.bq schedule.L0.Ok:=fS
theorem schedule.L0.step{R:Type}(b_2:Bs)(t8:Int)(n2:(List Int))(kn:AS→Option R)(kx:Exit→AS→Option R):schedule.L0.R (b_2,t8,n2) kn kx=
  aJ ((fY t8 (64:Int))) (
   aJ ((fY t8 (16:Int))) (
    aJ (inc (eT .i64 (4:Int) t8) (((List.length b_2):Nat):Int)) (
    aq (binary.call (cut b_2 (Int.toNat (eT .i64 (4:Int) t8)) ((List.length b_2) - (Int.toNat (eT .i64 (4:Int) t8))))) fun x1=>
    aJ (eh t8 (64:Int)) (
    aJ (decide ((Int.toNat t8) < (List.length n2))) (
    aJ (decide ((((Int.toNat t8)*1)+0)=(0+((Int.toNat t8)*1)))) (
    aJ (decide ((Int.toNat t8) < (List.length n2))) (
    kn (schedule.L0.st (b_2,(bK .i64 t8 (1:Int)),(List.set n2 (Int.toNat t8) x1)))) none) none) none) none) none) (
    aJ (eh (dd .i64 t8 (15:Int)) (64:Int)) (
    aJ (decide ((Int.toNat (dd .i64 t8 (15:Int))) < (List.length n2))) (
    aJ (decide ((((Int.toNat (dd .i64 t8 (15:Int)))*1)+0)=(0+((Int.toNat (dd .i64 t8 (15:Int)))*1)))) (
    aJ (eh (dd .i64 t8 (2:Int)) (64:Int)) (
    aJ (decide ((Int.toNat (dd .i64 t8 (2:Int))) < (List.length n2))) (
    aJ (decide ((((Int.toNat (dd .i64 t8 (2:Int)))*1)+0)=(0+((Int.toNat (dd .i64 t8 (2:Int)))*1)))) (
    aq (cr.call ((nth (.int .u32) n2 (Int.toNat (dd .i64 t8 (15:Int)))),(-7:Int))) fun x2=>
    aq (cr.call ((nth (.int .u32) n2 (Int.toNat (dd .i64 t8 (15:Int)))),(-18:Int))) fun x3=>
    aq (cr.call ((nth (.int .u32) n2 (Int.toNat (dd .i64 t8 (2:Int)))),(-17:Int))) fun x4=>
    aq (cr.call ((nth (.int .u32) n2 (Int.toNat (dd .i64 t8 (2:Int)))),(-19:Int))) fun x5=>
    aJ (eh (dd .i64 t8 (16:Int)) (64:Int)) (
    aJ (decide ((Int.toNat (dd .i64 t8 (16:Int))) < (List.length n2))) (
    aJ (decide ((((Int.toNat (dd .i64 t8 (16:Int)))*1)+0)=(0+((Int.toNat (dd .i64 t8 (16:Int)))*1)))) (
    aJ (eh (dd .i64 t8 (7:Int)) (64:Int)) (
    aJ (decide ((Int.toNat (dd .i64 t8 (7:Int))) < (List.length n2))) (
    aJ (decide ((((Int.toNat (dd .i64 t8 (7:Int)))*1)+0)=(0+((Int.toNat (dd .i64 t8 (7:Int)))*1)))) (
    aJ (eh t8 (64:Int)) (
    aJ (decide ((Int.toNat t8) < (List.length n2))) (
    aJ (decide ((((Int.toNat t8)*1)+0)=(0+((Int.toNat t8)*1)))) (
    aJ (decide ((Int.toNat t8) < (List.length n2))) (
    kn (schedule.L0.st (b_2,(bK .i64 t8 (1:Int)),(List.set n2 (Int.toNat t8) (bK .u32 (bK .u32 (bK .u32 (nth (.int .u32) n2 (Int.toNat (dd .i64 t8 (16:Int)))) (cl .xor .u32 (cl .xor .u32 x2 x3) (bI .u32 (nth (.int .u32) n2 (Int.toNat (dd .i64 t8 (15:Int)))) (3:Int)))) (nth (.int .u32) n2 (Int.toNat (dd .i64 t8 (7:Int))))) (cl .xor .u32 (cl .xor .u32 x4 x5) (bI .u32 (nth (.int .u32) n2 (Int.toNat (dd .i64 t8 (2:Int)))) (10:Int)))))))) none) none) none) none) none) none) none) none) none) none) none) none) none) none) none) none)) (
   kx (schedule.L0.bq n2).1 (schedule.L0.bq n2).2):=by kernel_rfl
theorem schedule.eq{R:Type}(b:Bs)(k:aY→Option R):schedule.A b k=
 aq (schedule.L0.call (b,(0:Int),(List.replicate 64 (0:Int)))) fun x6=>
 k (schedule.out x6):=by kernel_rfl
theorem wU(b:List Int)(k:Nat)(h:k≤64):(mn b k).length=k:=by
 unfold mn
 split
 ·simp[ea];omega
 ·rw[kS,ea];omega
theorem Cd(b:List Int):mn b 64=sched b:=rfl
theorem zN(b:List Int)(k:Nat)(h:k < 16):mn b (k+1)=mn b k++ [be b k]:=by
 unfold mn
 rw[if_pos (by omega),if_pos (by omega),List.take_succ_eq_append_getElem (by rw[ea];exact h)]
 simp[words]
theorem Bo(b:List Int)(k:Nat)(h:16≤k):mn b (k+1)=ext (mn b k):=by
 unfold mn
 rw[if_neg (by omega)]
 by_cases h16:k=16
 ·subst h16
  rw[if_pos (by omega),List.take_of_length_le (by rw[ea];omega)]
  rfl
 ·rw[if_neg (by omega),show k+1 - 16=(k - 16)+1 by omega]
  rfl
theorem tT(l:List W)(h:l.length≤64):(mM l).length=64:=by simp[mM,wl];omega
theorem nw(l:List W)(i:Nat)(h:i < l.length):nth (.int .u32) (mM l) i=vw (l.getD i 0):=by
 unfold nth mM wl
 rw[List.getD_eq_getElem?_getD,List.getElem?_append_left (by simpa using h)]
 simp[h]
theorem sW(l:List W)(w:W)(h:l.length < 64):(mM l).set l.length (vw w)=mM (l++ [w]):=by
 unfold mM wl
 rw[List.set_append_right _ _ (by simp)]
 simp only[List.length_map,Nat.sub_self,List.map_append,List.length_append,List.length_cons,List.length_nil]
 rw[show 64 - l.length=(64 - (l.length+(0+1)))+1 by omega,List.replicate_succ,List.set_cons_zero]
 simp
theorem w5(l:List W)(h:l.length=64):mM l=wl l:=by simp[mM,h]
theorem CC(b:List Int)(k:Nat)(h:4*k+4≤b.length):Dm ((cut b (4*k) (b.length - 4*k)).getD 0 0) ((cut b (4*k) (b.length - 4*k)).getD 1 0) ((cut b (4*k) (b.length - 4*k)).getD 2 0) ((cut b (4*k) (b.length - 4*k)).getD 3 0)=be b k:=by
 have e:∀j,j < 4→(cut b (4*k) (b.length - 4*k)).getD j 0=b.getD (4*k+j) 0:=fun j hj=>by
  unfold cut
  rw[List.getD_eq_getElem?_getD,List.getD_eq_getElem?_getD,List.getElem?_take_of_lt (by omega),List.getElem?_drop]
 unfold be
 rw[e 0 (by omega),e 1 (by omega),e 2 (by omega),e 3 (by omega),Nat.add_zero]
theorem schedule.L0.ok:schedule.L0.Ok:=by
 refine schedule.L0.aH (fun(b,t8,n2)=>64 - t8.toNat) ?_
 rintro⟨b,t8,n2⟩ ⟨hb,k,hk,rfl,rfl⟩
 have hwl:=wU b k hk
 have hal:=tT (mn b k) (by omega)
 by_cases h:k < 64
 ·left
  refine⟨(b,((k+1:Nat):Int),mM (mn b (k+1))),⟨hb,k+1,by omega,rfl,rfl⟩,by simp;omega,rfl,fun kn kx=> ?_⟩
  have e1:bK .i64 (k:Int) 1=((k+1:Nat):Int):=by rw[gF (by omega) (by omega)];omega
  have e2:Int.toNat (k:Int)=k:=by omega
  rw[schedule.L0.step,bw (by omega)]
  simp only[az,e1,e2,hal,Nat.mul_one,Nat.zero_add,Nat.add_zero,decide_true]
  by_cases h16:k < 16
  ·have e3:eT .i64 4 (k:Int)=((4*k:Nat):Int):=by rw[oT (by omega) (by omega)];omega
   have e4:Int.toNat ((4*k:Nat):Int)=4*k:=by omega
   rw[bw (by omega),e3,kD (by omega) (by omega),e4,bn (by omega) (by omega),aO h]
   have hp:binary.aB (cut b (4*k) (b.length - 4*k)):=by
    show 4≤_
    rw[lW (by omega)];omega
   simp only[az,binary.run hp,ab]
   have e5:binary.add (cut b (4*k) (b.length - 4*k)) (binary.F (cut b (4*k) (b.length - 4*k)))=vw (be b k):=by
    show vw (Dm _ _ _ _)=_
    rw[CC b k (by omega)]
   have e6:=sW (mn b k) (be b k) (by omega)
   rw[hwl]at e6
   rw[e5,e6,zN b k h16]
  ·have a15:Int.toNat (dd .i64 (k:Int) 15)=k - 15:=by rw[fw (by omega) (by omega)];omega
   have a2:Int.toNat (dd .i64 (k:Int) 2)=k - 2:=by rw[fw (by omega) (by omega)];omega
   have a16:Int.toNat (dd .i64 (k:Int) 16)=k - 16:=by rw[fw (by omega) (by omega)];omega
   have a7:Int.toNat (dd .i64 (k:Int) 7)=k - 7:=by rw[fw (by omega) (by omega)];omega
   have i15:eh (dd .i64 (k:Int) 15) 64=true:=bn (by rw[fw (by omega) (by omega)];omega) (by rw[fw (by omega) (by omega)];omega)
   have i2:eh (dd .i64 (k:Int) 2) 64=true:=bn (by rw[fw (by omega) (by omega)];omega) (by rw[fw (by omega) (by omega)];omega)
   have i16:eh (dd .i64 (k:Int) 16) 64=true:=bn (by rw[fw (by omega) (by omega)];omega) (by rw[fw (by omega) (by omega)];omega)
   have i7:eh (dd .i64 (k:Int) 7) 64=true:=bn (by rw[fw (by omega) (by omega)];omega) (by rw[fw (by omega) (by omega)];omega)
   have i0:eh (k:Int) 64=true:=bn (by omega) (by omega)
   have d15:decide (k - 15 < 64)=true:=aO (by omega)
   have d2:decide (k - 2 < 64)=true:=aO (by omega)
   have d16:decide (k - 16 < 64)=true:=aO (by omega)
   have d7:decide (k - 7 < 64)=true:=aO (by omega)
   have d0:decide (k < 64)=true:=aO h
   rw[bm (by omega)]
   simp only[az,ay,a15,a2,a16,a7,i15,i2,i16,i7,i0,d15,d2,d16,d7,d0,nw (mn b k) (k - 15) (by omega),nw (mn b k) (k - 2) (by omega),nw (mn b k) (k - 16) (by omega),nw (mn b k) (k - 7) (by omega),cr.at,ab,g7,m9,lJ]
   have e6:=sW (mn b k) (Cp (mn b k) k) (by omega)
   rw[hwl]at e6
   rw[Bo b k (by omega),ext,hwl,←e6]
   rfl
 ·right
  obtain rfl:k=64:=by omega
  intro R kn kx
  rw[schedule.L0.step,bm (by omega),w5 _ hwl,Cd]
  simp only[ay,schedule.L0.add,schedule.L0.F]
theorem schedule.ok:schedule.Ok:=by
 intro b hb
 have hp:schedule.L0.aB (b,0,List.replicate 64 0):=⟨hb,0,by omega,rfl,rfl⟩
 rw[schedule.eq,schedule.L0.run hp]
 simp only[ab,schedule.L0.add,schedule.L0.F,schedule.add,schedule.F]
noncomputable def schedule.E:=Entry.ct [some tB] schedule.st schedule.aB schedule.add schedule.F schedule.out
noncomputable def schedule.call:schedule.D→Option schedule.X:=bG schedule.E schedule.st
theorem schedule.run:bB schedule.call schedule.aB schedule.add schedule.F:=cO (cM [.d tB] fun _=>by kernel_rfl)
noncomputable def schedule.sg:SG Tryz.prog:=⟨148,aU,schedule.E,.fn 1 (by kernel_rfl) schedule.ok (And.intro (.ct schedule.L0.ok (by kernel_rfl)) trivial)⟩
set_option synthInstance.maxSize 5000
abbrev mix.L0.D:=(List Int)×Int×(List Int)×(List Int)×(List Int)×(List Int)
def mix.L0.st:mix.L0.D→AS:=fun(h_2,t18,n4,n5,n6,n7)=>⟨([.undef,.undef,.eC (.arr 8 (.int .u32)) h_2,.undef,.ptr (.new 4 0) 0 [] 0,.ptr (.new 5 0) 0 [] 0,.ptr (.new 6 0) 0 [] 0,.ptr (.new 7 0) 0 [] 0]++ba 10 ([.d ti t18]++ba 98 [])),[],(bN 4 ([[.obj 0 false (.d (.arr 8 (.int .u32)) n4)],[.obj 0 false (.d (.arr 64 (.int .u32)) n5)],[.obj 0 false (.d (.arr 64 (.int .u32)) n6)],[.obj 0 false (.d (.arr 8 (.int .u32)) n7)]]++bN 109 []))⟩
abbrev mix.L0.Y0:=(List Int)
abbrev mix.L0.X0:=((List Int)×(List Int))×((List Int))
def mix.L0.bq:mix.L0.X0→Exit×AS:=fun x=>(.exit 0,⟨([.undef,.undef,.eC (.arr 8 (.int .u32)) x.1.1,.undef,.ptr (.new 4 0) 0 [] 0,.undef,.undef,.ptr (.new 7 0) 0 [] 0]++ba 109 []),[],(bN 4 ([[.obj 0 false (.d (.arr 8 (.int .u32)) x.1.2)],[],[],[.obj 0 false (.d (.arr 8 (.int .u32)) x.2)]]++bN 109 []))⟩)
abbrev mix.L0.X:=mix.L0.X0
abbrev mix.L0.Y:=mix.L0.Y0
def mix.L0.out:mix.L0.X→Out (Exit×AS):=fun x=> .ok (mix.L0.bq x)
def mix.L0.add:mix.L0.D→mix.L0.Y→mix.L0.X:=fun(h_2,t18,n4,n5,n6,n7) y=>((h_2,n4),y)
abbrev mix.L1.D:=(List Int)×Int×(List Int)×(List Int)
def mix.L1.st:mix.L1.D→AS:=fun(h_3,t104,n4_2,n7_2)=>⟨([.undef,.undef,.eC (.arr 8 (.int .u32)) h_3,.undef,.ptr (.new 4 0) 0 [] 0,.undef,.undef,.ptr (.new 7 0) 0 [] 0]++ba 96 ([.d ti t104]++ba 12 [])),[],(bN 4 ([[.obj 0 false (.d (.arr 8 (.int .u32)) n4_2)],[],[],[.obj 0 false (.d (.arr 8 (.int .u32)) n7_2)]]++bN 109 []))⟩
abbrev mix.L1.Y0:=(List Int)
abbrev mix.L1.X0:=((List Int))×((List Int))
def mix.L1.bq:mix.L1.X0→Exit×AS:=fun x=>(.exit 2,⟨(ba 4 ([.ptr (.new 4 0) 0 [] 0,.undef,.undef,.ptr (.new 7 0) 0 [] 0]++ba 109 [])),[],(bN 4 ([[.obj 0 false (.d (.arr 8 (.int .u32)) x.1)],[],[],[.obj 0 false (.d (.arr 8 (.int .u32)) x.2)]]++bN 109 []))⟩)
abbrev mix.L1.X:=mix.L1.X0
abbrev mix.L1.Y:=mix.L1.Y0
def mix.L1.out:mix.L1.X→Out (Exit×AS):=fun x=> .ok (mix.L1.bq x)
def mix.L1.add:mix.L1.D→mix.L1.Y→mix.L1.X:=fun(h_3,t104,n4_2,n7_2) y=>(n4_2,y)
abbrev mix.D:=(List Int)×Bs
def mix.st:mix.D→SA:=fun(h,b)=>([.d (.arr 8 (.int .u32)) h,.d tB b],[])
abbrev mix.Y:=(List Int)
abbrev mix.X:=(List Int)
def mix.out:mix.X→aY:=fun x=>⟨.d (.arr 8 (.int .u32)) x,[],[]⟩
def mix.add:mix.D→mix.Y→mix.X:=fun(h,b) y=>y
def uO(l:List Int):St:=⟨BitVec.ofInt 32 (l.getD 0 0),BitVec.ofInt 32 (l.getD 1 0),BitVec.ofInt 32 (l.getD 2 0),BitVec.ofInt 32 (l.getD 3 0),BitVec.ofInt 32 (l.getD 4 0),BitVec.ofInt 32 (l.getD 5 0),BitVec.ofInt 32 (l.getD 6 0),BitVec.ofInt 32 (l.getD 7 0)⟩
theorem gN(s:St):uO s.l=s:=by
 obtain⟨a,b,c,d,e,f,g,h⟩:=s
 simp[uO,St.l,jd]
def Bj(l:List Int):List W:=l.map (BitVec.ofInt 32)
theorem ml(l:List W):Bj (wl l)=l:=by
 unfold Bj wl
 rw[List.map_map]
 have:(BitVec.ofInt 32∘vw)=(id:W→W):=by funext w;exact jd w
 rw[this,List.map_id]
def mix.L0.aB:mix.L0.D→Prop:=fun(h,t,n4,n5,n6,n7)=>∃(s:St) (ws:List W) (k:Nat),h=s.l∧n5=wl ws∧ws.length=64∧k≤64∧t=k∧n6=pR∧n7=(rounds ws s k).l
def mix.L0.F:mix.L0.D→mix.L0.Y:=fun(h,t,n4,n5,n6,n7)=>(rounds (Bj n5) (uO h) 64).l
def mix.L1.aB:mix.L1.D→Prop:=fun(h,t,n4,n7)=>n7.length=8∧∃k:Nat,k≤8∧t=k
def mix.L1.F:mix.L1.D→mix.L1.Y:=fun(h,t,n4,n7)=>from_ (fun i x=>bK .u32 x (nth (.int .u32) h i)) t.toNat n7
def mix.aB:mix.D→Prop:=fun(h,b)=>(∃s:St,h=s.l)∧64≤b.length
def mix.F:mix.D→mix.Y:=fun(h,b)=>(pU (uO h) b).l
noncomputable def mix.G:dR:=eO (P:=Tryz.prog) [schedule.sg,table.sg,cr.sg]
noncomputable def mix.L0.E:=bM.ct mix.L0.st mix.L0.aB mix.L0.add mix.L0.F mix.L0.out
noncomputable def mix.L0.call:mix.L0.D→Option mix.L0.X:=dg mix.L0.E mix.L0.st
noncomputable def mix.L1.E:=bM.ct mix.L1.st mix.L1.aB mix.L1.add mix.L1.F mix.L1.out
noncomputable def mix.L1.call:mix.L1.D→Option mix.L1.X:=dg mix.L1.E mix.L1.st
noncomputable def mix.an:eu:= {loops:=jO [(4,{bh:=[2,4,5,6,7,18],sites:=[4,5,6,7]}),(13,{bh:=[2,4,7,104],sites:=[4,7]})],outs:=jN [(4,{bh:=[2,4,7],sites:=[4,7]},{bh:=[4]}),(13,{bh:=[4,7],sites:=[4,7]},{bh:=[4]})],fF:=ky [(4,mix.L0.E),(13,mix.L1.E)]}
noncomputable def mix.A:= @cI Tryz.prog mix.G mix.an 0 Tryz.f111 _ mix.st
abbrev mix.Ok:=cJ @mix.A mix.aB mix.add mix.F mix.out
noncomputable def mix.L0.R:= @cf Tryz.prog mix.G mix.an 0 Tryz.f111 0 _ mix.L0.st
abbrev mix.L0.Ok:=ez Tryz.prog mix.G mix.an 0 Tryz.f111 0 mix.L0.st mix.L0.aB mix.L0.add mix.L0.F mix.L0.out
noncomputable def mix.L1.R:= @cf Tryz.prog mix.G mix.an 0 Tryz.f111 1 _ mix.L1.st
abbrev mix.L1.Ok:=ez Tryz.prog mix.G mix.an 0 Tryz.f111 1 mix.L1.st mix.L1.aB mix.L1.add mix.L1.F mix.L1.out
theorem mix.L0.run:bB mix.L0.call mix.L0.aB mix.L0.add mix.L0.F:=eE (eD [.d (.arr 8 (.int .u32)),.d ti,.d (.slice (.int .u32)),.d (.slice (.int .u32)),.d (.slice (.int .u32)),.d (.slice (.int .u32))] fun _=>by kernel_rfl)
theorem mix.L0.aH:fP @mix.L0.R mix.L0.st mix.L0.aB mix.L0.add mix.L0.F mix.L0.bq mix.L0.Ok:=fS
theorem mix.L0.step{R:Type}(h_2:(List Int))(t18:Int)(n4:(List Int))(n5:(List Int))(n6:(List Int))(n7:(List Int))(kn:AS→Option R)(kx:Exit→AS→Option R):mix.L0.R (h_2,t18,n4,n5,n6,n7) kn kx=
  aJ ((fY t18 (64:Int))) (
   aJ (decide (4 < (List.length n7))) (
   aq (cr.call ((nth (.int .u32) n7 4),(-6:Int))) fun x1=>
   aJ (decide (4 < (List.length n7))) (
   aq (cr.call ((nth (.int .u32) n7 4),(-11:Int))) fun x2=>
   aJ (decide (4 < (List.length n7))) (
   aq (cr.call ((nth (.int .u32) n7 4),(-25:Int))) fun x3=>
   aJ (decide (7 < (List.length n7))) (
   aJ (decide (6 < (List.length n7))) (
   aJ (decide (4 < (List.length n7))) (
   aJ (decide (5 < (List.length n7))) (
   aJ (decide (6 < (List.length n7))) (
   aJ (eh t18 (64:Int)) (
   aJ (decide ((Int.toNat t18) < (List.length n6))) (
   aJ (decide ((((Int.toNat t18)*1)+0)=(0+((Int.toNat t18)*1)))) (
   aJ (eh t18 (64:Int)) (
   aJ (decide ((Int.toNat t18) < (List.length n5))) (
   aJ (decide ((((Int.toNat t18)*1)+0)=(0+((Int.toNat t18)*1)))) (
   aJ (decide (0 < (List.length n7))) (
   aq (cr.call ((nth (.int .u32) n7 0),(-2:Int))) fun x4=>
   aJ (decide (0 < (List.length n7))) (
   aq (cr.call ((nth (.int .u32) n7 0),(-13:Int))) fun x5=>
   aJ (decide (0 < (List.length n7))) (
   aq (cr.call ((nth (.int .u32) n7 0),(-22:Int))) fun x6=>
   aJ (decide (0 < (List.length n7))) (
   aJ (decide (1 < (List.length n7))) (
   aJ (decide (2 < (List.length n7))) (
   aJ (decide (0 < (List.length n7))) (
   aJ (decide (1 < (List.length n7))) (
   aJ (decide (0 < (List.length n7))) (
   aJ (decide (1 < (List.length n7))) (
   aJ (decide (2 < (List.length n7))) (
   aJ (decide (3 < (List.length n7))) (
   aJ (decide (4 < (List.length n7))) (
   aJ (decide (5 < (List.length n7))) (
   aJ (decide (6 < (List.length n7))) (
   kn (mix.L0.st (h_2,(bK .i64 t18 (1:Int)),n4,n5,n6,[(bK .u32 (bK .u32 (bK .u32 (bK .u32 (bK .u32 (bK .u32 (nth (.int .u32) n7 7) (cl .xor .u32 (cl .xor .u32 x1 x2) x3)) (cl .xor .u32 (nth (.int .u32) n7 6) (cl .and .u32 (nth (.int .u32) n7 4) (cl .xor .u32 (nth (.int .u32) n7 5) (nth (.int .u32) n7 6))))) (nth (.int .u32) n6 (Int.toNat t18))) (nth (.int .u32) n5 (Int.toNat t18))) (cl .xor .u32 (cl .xor .u32 x4 x5) x6)) (cl .or .u32 (cl .and .u32 (nth (.int .u32) n7 0) (nth (.int .u32) n7 1)) (cl .and .u32 (nth (.int .u32) n7 2) (cl .or .u32 (nth (.int .u32) n7 0) (nth (.int .u32) n7 1))))),(nth (.int .u32) n7 0),(nth (.int .u32) n7 1),(nth (.int .u32) n7 2),(bK .u32 (nth (.int .u32) n7 3) (bK .u32 (bK .u32 (bK .u32 (bK .u32 (nth (.int .u32) n7 7) (cl .xor .u32 (cl .xor .u32 x1 x2) x3)) (cl .xor .u32 (nth (.int .u32) n7 6) (cl .and .u32 (nth (.int .u32) n7 4) (cl .xor .u32 (nth (.int .u32) n7 5) (nth (.int .u32) n7 6))))) (nth (.int .u32) n6 (Int.toNat t18))) (nth (.int .u32) n5 (Int.toNat t18)))),(nth (.int .u32) n7 4),(nth (.int .u32) n7 5),(nth (.int .u32) n7 6)]))) none) none) none) none) none) none) none) none) none) none) none) none) none) none) none) none) none) none) none) none) none) none) none) none) none) none) none) none) none) (
   kx (mix.L0.bq ((h_2,n4),n7)).1 (mix.L0.bq ((h_2,n4),n7)).2):=by kernel_rfl
theorem mix.L1.run:bB mix.L1.call mix.L1.aB mix.L1.add mix.L1.F:=eE (eD [.d (.arr 8 (.int .u32)),.d ti,.d (.slice (.int .u32)),.d (.slice (.int .u32))] fun _=>by kernel_rfl)
theorem mix.L1.aH:fP @mix.L1.R mix.L1.st mix.L1.aB mix.L1.add mix.L1.F mix.L1.bq mix.L1.Ok:=fS
theorem mix.L1.step{R:Type}(h_3:(List Int))(t104:Int)(n4_2:(List Int))(n7_2:(List Int))(kn:AS→Option R)(kx:Exit→AS→Option R):mix.L1.R (h_3,t104,n4_2,n7_2) kn kx=
  aJ ((fY t104 (8:Int))) (
   aJ (eh t104 (8:Int)) (
   aJ (decide ((Int.toNat t104) < (List.length n7_2))) (
   aJ (decide ((((Int.toNat t104)*1)+0)=(0+((Int.toNat t104)*1)))) (
   aJ (eh t104 (8:Int)) (
   aJ (eh t104 (8:Int)) (
   aJ (decide ((Int.toNat t104) < (List.length n7_2))) (
   aJ (decide ((((Int.toNat t104)*1)+0)=(0+((Int.toNat t104)*1)))) (
   aJ (decide ((Int.toNat t104) < (List.length n7_2))) (
   kn (mix.L1.st (h_3,(bK .i64 t104 (1:Int)),n4_2,(List.set n7_2 (Int.toNat t104) (bK .u32 (nth (.int .u32) n7_2 (Int.toNat t104)) (nth (.int .u32) h_3 (Int.toNat t104))))))) none) none) none) none) none) none) none) none) (
   kx (mix.L1.bq (n4_2,n7_2)).1 (mix.L1.bq (n4_2,n7_2)).2):=by kernel_rfl
theorem mix.eq{R:Type}(h:(List Int))(b:Bs)(k:aY→Option R):mix.A (h,b) k=
 aq (schedule.call b) fun x1=>
 aq (table.call ()) fun x2=>
 aq (mix.L0.call (h,(0:Int),(List.replicate 8 (0:Int)),x1,x2,h)) fun x9=>
 aq (mix.L1.call (x9.1.1,(0:Int),x9.1.2,x9.2)) fun x10=>
 k (mix.out x10.2):=by kernel_rfl
theorem St.vM(s:St):s.l.length=8:=rfl
theorem qn:pR.length=64:=rfl
theorem vK(k:Nat)(h:k < 64):nth (.int .u32) pR k=vw (kw k):=by
 have hh:∀k:Fin 64,nth (.int .u32) pR k.val=vw (kw k.val):=by decide+kernel
 exact hh ⟨k,h⟩
theorem qj(ws:List W)(k:Nat)(h:k < ws.length):nth (.int .u32) (wl ws) k=vw (ws.getD k 0):=by
 unfold nth wl
 simp[h]
theorem EP(w:W):rl w ((-6:Int)%32).toNat=jt w 6:=rfl
theorem Es(w:W):rl w ((-11:Int)%32).toNat=jt w 11:=rfl
theorem Ev(w:W):rl w ((-25:Int)%32).toNat=jt w 25:=rfl
theorem EO(w:W):rl w ((-2:Int)%32).toNat=jt w 2:=rfl
theorem Et(w:W):rl w ((-13:Int)%32).toNat=jt w 13:=rfl
theorem Eu(w:W):rl w ((-22:Int)%32).toNat=jt w 22:=rfl
theorem n0(s:St):nth (.int .u32) s.l 0=vw s.a:=rfl
theorem n1(s:St):nth (.int .u32) s.l 1=vw s.b:=rfl
theorem n2(s:St):nth (.int .u32) s.l 2=vw s.c:=rfl
theorem n3(s:St):nth (.int .u32) s.l 3=vw s.d:=rfl
theorem n4(s:St):nth (.int .u32) s.l 4=vw s.e:=rfl
theorem n5(s:St):nth (.int .u32) s.l 5=vw s.f:=rfl
theorem n6(s:St):nth (.int .u32) s.l 6=vw s.g:=rfl
theorem n7(s:St):nth (.int .u32) s.l 7=vw s.h:=rfl
theorem mix.L0.ok:mix.L0.Ok:=by
 refine mix.L0.aH (fun(h,t,n4,n5,n6,n7)=>64 - t.toNat) ?_
 rintro⟨h,t,m4,m5,m6,m7⟩ ⟨s,ws,k,rfl,rfl,hw,hk,rfl,rfl,rfl⟩
 by_cases hlt:k < 64
 ·left
  refine⟨(s.l,((k+1:Nat):Int),m4,wl ws,pR,(rounds ws s (k+1)).l),⟨s,ws,k+1,rfl,rfl,hw,by omega,rfl,rfl,rfl⟩,by simp;omega,rfl,fun kn kx=> ?_⟩
  have e1:bK .i64 (k:Int) 1=((k+1:Nat):Int):=by rw[gF (by omega) (by omega)];omega
  have e2:Int.toNat (k:Int)=k:=by omega
  have hwl:(wl ws).length=64:=by simp[wl,hw]
  have d0:decide (k < 64)=true:=aO hlt
  have i0:eh (k:Int) 64=true:=bn (by omega) (by omega)
  rw[mix.L0.step,bw (by omega)]
  generalize hv:rounds ws s k=v
  simp only[e1,e2,Nat.mul_one,Nat.zero_add,Nat.add_zero,decide_true,az,St.vM,Nat.reduceLT,qn,hwl,d0,i0,n0,n1,n2,n3,n4,n5,n6,n7,cr.at,ab,vK k hlt,qj ws k (by omega),g7,lJ,EP,Es,Ev,EO,Et,Eu]
  show kn _=kn (mix.L0.st (s.l,((k+1:Nat):Int),m4,wl ws,pR,(Ew (rounds ws s k) (kw k) (ws.getD k 0)).l))
  rw[hv]
  rfl
 ·right
  obtain rfl:k=64:=by omega
  intro R kn kx
  rw[mix.L0.step,bm (by omega)]
  simp only[ay,mix.L0.add,mix.L0.F,ml,gN]
theorem mix.L1.ok:mix.L1.Ok:=by
 refine mix.L1.aH (fun(h,t,n4,n7)=>8 - t.toNat) ?_
 rintro⟨h,t,m4,m7⟩ ⟨hl,k,hk,rfl⟩
 have hl:m7.length=8:=hl
 have e2:Int.toNat (k:Int)=k:=by omega
 have e3:Int.toNat ((k+1:Nat):Int)=k+1:=by omega
 by_cases hlt:k < 8
 ·left
  have e1:bK .i64 (k:Int) 1=((k+1:Nat):Int):=by rw[gF (by omega) (by omega)];omega
  have hn:nth (.int .u32) m7 k=m7[k]:=cw (t:= .int .u32) (by omega)
  refine⟨(h,((k+1:Nat):Int),m4,m7.set k (bK .u32 m7[k] (nth (.int .u32) h k))),⟨by simpa using hl,k+1,by omega,rfl⟩,by simp;omega,?_,fun kn kx=> ?_⟩
  ·simp only[mix.L1.add,mix.L1.F,e2,e3]
   rw[nC (fun i x=>bK .u32 x (nth (.int .u32) h i)) m7 k (by omega)]
  ·have d0:decide (k < 8)=true:=aO hlt
   have i0:eh (k:Int) 8=true:=bn (by omega) (by omega)
   rw[mix.L1.step,bw (by omega)]
   simp only[e1,e2,Nat.mul_one,Nat.zero_add,Nat.add_zero,decide_true,az,hl,d0,i0,hn]
 ·right
  obtain rfl:k=8:=by omega
  intro R kn kx
  rw[mix.L1.step,bm (by omega)]
  simp only[ay,mix.L1.add,mix.L1.F,e2]
  rw[oS _ _ _ (by omega)]
theorem mix.ok:mix.Ok:=by
 rintro⟨h,b⟩ ⟨⟨s,rfl⟩,hb⟩
 have hs:schedule.aB b:=hb
 have hsl:(sched b).length=64:=by unfold sched;rw[kS,ea]
 have hp:mix.L0.aB (s.l,0,List.replicate 8 0,wl (sched b),pR,s.l):=⟨s,sched b,0,rfl,rfl,hsl,by omega,rfl,rfl,rfl⟩
 rw[mix.eq,schedule.run hs]
 simp only[ab,table.run (d:=()) trivial,schedule.add,schedule.F,table.add,table.F,mix.L0.run hp,mix.L0.add,mix.L0.F,ml,gN]
 have hp1:mix.L1.aB (s.l,0,List.replicate 8 0,(rounds (sched b) s 64).l):=⟨rfl,0,by omega,rfl⟩
 simp only[mix.L1.run hp1,ab,mix.L1.add,mix.L1.F,mix.add,mix.F,gN]
 unfold pU
 generalize rounds (sched b) s 64=v
 obtain⟨a1,b1,c1,d1,f1,g1,h1,i1⟩:=v
 simp only[St.l,from_,List.mapIdx_cons,List.mapIdx_nil,Int.toNat_zero,Nat.not_lt_zero,if_false,Nat.zero_add,Nat.reduceAdd]
 simp only[nth,List.getD_cons_zero,List.getD_cons_succ,lJ]
noncomputable def mix.E:=Entry.ct [some (.arr 8 (.int .u32)),some tB] mix.st mix.aB mix.add mix.F mix.out
noncomputable def mix.call:mix.D→Option mix.X:=bG mix.E mix.st
theorem mix.run:bB mix.call mix.aB mix.add mix.F:=cO (cM [.d (.slice (.int .u32)),.d tB] fun _=>by kernel_rfl)
noncomputable def mix.sg:SG Tryz.prog:=⟨111,aU,mix.E,.fn 2 (by kernel_rfl) mix.ok (And.intro (.ct mix.L0.ok (by kernel_rfl)) (And.intro (.ct mix.L1.ok (by kernel_rfl)) trivial))⟩
set_option synthInstance.maxSize 5000
theorem iQ(n:Int)(k:Int)(h0:0≤k)(h1:k≤64):dA .u8 (bI .i64 n k)=n / 2^k.toNat%256:=by
 rw[rB,fD,bI]
 have e:min k.toNat IntKind.i64.bits=k.toNat:=by simp only[IntKind.bits];omega
 rw[e,Int.fdiv_eq_ediv_of_nonneg _ (Int.le_of_lt (Int.pow_pos (by omega)))]
 rfl
theorem lP{n:Nat}(h:n≤140737488355328):dh n 1=true:=eB (by omega) (by omega)
abbrev ck.D:=Bs
def ck.st:ck.D→SA:=fun sv=>([.d tB sv],[])
abbrev ck.Y:=Nat×(List Int)
abbrev ck.X:=Nat×(List Int)
def ck.out:ck.X→aY:=fun x=>⟨.cd (.new 0 0) 0 [] 0 0 x.1,[],[.obj 0 false (.vec 5 tb x.2)]⟩
def ck.add:ck.D→ck.Y→ck.X:=fun sv y=>y
def ck.aB:ck.D→Prop:=fun b=>b.length≤140737488355328
def ck.F:ck.D→ck.Y:=fun b=>(b.length,b)
noncomputable def ck.G:dR:=eO (P:=Tryz.prog) []
noncomputable def ck.an:eu:= {bH:=[5],iu:=[⟨2,[],5,25⟩]}
noncomputable def ck.A:= @cI Tryz.prog ck.G ck.an 0 Tryz.f108 _ ck.st
abbrev ck.Ok:=cJ @ck.A ck.aB ck.add ck.F ck.out
theorem ck.eq{R:Type}(sv:Bs)(k:aY→Option R):ck.A sv k=
  aJ (decide (0 < (List.length sv))) (
   aJ (dh (0+(List.length sv)) 1) (
   k (ck.out ((0+(List.length sv)),((List.take 0 (List.replicate 0 (0:Int)))++sv)))) none) (
   nd (
    k (ck.out (0,([]:List Int)))) (
    aJ (dh (0+(List.length sv)) 1) (
    k (ck.out ((0+(List.length sv)),((List.take 0 (List.replicate 0 (0:Int)))++sv)))) none)):=by kernel_rfl
theorem ck.ok:ck.Ok:=by
 intro b hb
 have hr:dh b.length 1=true:=lP hb
 rw[ck.eq]
 have e0:(List.take 0 (List.replicate 0 0):List Int)=[]:=rfl
 simp only[Nat.zero_add,hr,az,e0,List.nil_append,ck.add,ck.F]
 by_cases h:0 < b.length
 ·simp only[aO h,az]
 ·have:b=[]:=List.eq_nil_of_length_eq_zero (by omega)
  subst this
  simp only[List.length_nil,nH,aK (Nat.lt_irrefl 0),ay]
noncomputable def ck.E:=Entry.ct [some tB] ck.st ck.aB ck.add ck.F ck.out
noncomputable def ck.call:ck.D→Option ck.X:=bG ck.E ck.st
theorem ck.run:bB ck.call ck.aB ck.add ck.F:=cO (cM [.d tB] fun _=>by kernel_rfl)
noncomputable def ck.sg:SG Tryz.prog:=⟨108,aU,ck.E,.fn 0 (by kernel_rfl) ck.ok trivial⟩
abbrev dV.D:=Int
def dV.st:dV.D→SA:=fun n=>([.cU,.d ti n],[])
abbrev dV.Y:=Nat×(List Int)
abbrev dV.X:=Nat×(List Int)
def dV.out:dV.X→aY:=fun x=>⟨.cd (.new 0 0) 0 [] 0 0 x.1,[],[.obj 0 false (.vec 5 tb x.2)]⟩
def dV.add:dV.D→dV.Y→dV.X:=fun n y=>y
def dV.aB:dV.D→Prop:=fun _=>True
def dV.F:dV.D→dV.Y:=fun n=>(8,fJ n)
noncomputable def dV.G:dR:=eO (P:=Tryz.prog) []
noncomputable def dV.an:eu:= {loops:=jO [(2,{bh:=[0,1,5],sites:=[16]})],outs:=jN [(2,{bh:=[0],sites:=[16]},{bh:=[4],sites:=[16]})],iu:=[⟨4,[],16,25⟩]}
noncomputable def dV.A:= @cI Tryz.prog dV.G dV.an 12 Tryz.f109 _ dV.st
abbrev dV.Ok:=cJ @dV.A dV.aB dV.add dV.F dV.out
theorem dV.eq{R:Type}(n:Int)(k:aY→Option R):dV.A n k=
 k (dV.out (8,[(dA .u8 (bI .i64 n (56:Int))),(dA .u8 (bI .i64 n (48:Int))),(dA .u8 (bI .i64 n (40:Int))),(dA .u8 (bI .i64 n (32:Int))),(dA .u8 (bI .i64 n (24:Int))),(dA .u8 (bI .i64 n (16:Int))),(dA .u8 (bI .i64 n (8:Int))),(dA .u8 (bI .i64 n (0:Int)))])):=by kernel_rfl
theorem w6(n:Int): [dA .u8 (bI .i64 n 56),dA .u8 (bI .i64 n 48),dA .u8 (bI .i64 n 40),dA .u8 (bI .i64 n 32),dA .u8 (bI .i64 n 24),dA .u8 (bI .i64 n 16),dA .u8 (bI .i64 n 8),dA .u8 (bI .i64 n 0)]=fJ n:=by
 rw[iQ n 56 (by omega) (by omega),iQ n 48 (by omega) (by omega),iQ n 40 (by omega) (by omega),iQ n 32 (by omega) (by omega),iQ n 24 (by omega) (by omega),iQ n 16 (by omega) (by omega),iQ n 8 (by omega) (by omega),iQ n 0 (by omega) (by omega)]
 simp[fJ]
theorem dV.ok:dV.Ok:=by
 intro n _
 rw[dV.eq,w6]
 rfl
noncomputable def dV.E:=Entry.ct [none,some ti] dV.st dV.aB dV.add dV.F dV.out
noncomputable def dV.call:dV.D→Option dV.X:=bG dV.E dV.st
theorem dV.run:bB dV.call dV.aB dV.add dV.F:=cO (cM [.d ti] fun _=>by kernel_rfl)
noncomputable def dV.sg:SG Tryz.prog:=⟨109,zo,dV.E,.fn 1 (by kernel_rfl) dV.ok (And.intro (.none (by kernel_rfl)) trivial)⟩
abbrev dx.D:=Nat×Int×Bs
def dx.st:dx.D→SA:=fun(bL,n,o0)=>([.cd (.fB 0) 0 [] 0 0 bL,.d ti n],[.obj 0 false (.vec 5 tb o0)])
abbrev dx.Y:=Nat×(List Int)
abbrev dx.X:=Nat×(List Int)
def dx.out:dx.X→aY:=fun x=>⟨.cd (.fB 0) 8 [] 0 0 x.1,[.obj 8 false (.vec 5 tb x.2)],[]⟩
def dx.add:dx.D→dx.Y→dx.X:=fun(bL,n,o0) y=>y
def dx.aB:dx.D→Prop:=fun(m,n,l)=>m=l.length∧l.length≤140737488355320
def dx.F:dx.D→dx.Y:=fun(m,n,l)=>(l.length+8,l++fJ n)
noncomputable def dx.G:dR:=eO (P:=Tryz.prog) []
noncomputable def dx.an:eu:= {loops:=jO [(2,{bh:=[0,1,5],sites:=[16]})],outs:=jN [(2,{bh:=[0],sites:=[16]},{bh:=[4],sites:=[16]})]}
noncomputable def dx.A:= @cI Tryz.prog dx.G dx.an 12 Tryz.f109 _ dx.st
abbrev dx.Ok:=cJ @dx.A dx.aB dx.add dx.F dx.out
theorem dx.eq{R:Type}(bL:Nat)(n:Int)(o0:Bs)(k:aY→Option R):dx.A (bL,n,o0) k=
 aJ (decide (bL≤(List.length o0))) (
 aJ (dh (bL+1) 1) (
 aJ (decide ((bL+1)≤(List.length ((List.take bL o0)++ [(dA .u8 (bI .i64 n (56:Int)))])))) (
 aJ (dh ((bL+1)+1) 1) (
 aJ (decide (((bL+1)+1)≤(List.length ((List.take (bL+1) ((List.take bL o0)++ [(dA .u8 (bI .i64 n (56:Int)))]))++ [(dA .u8 (bI .i64 n (48:Int)))])))) (
 aJ (dh (((bL+1)+1)+1) 1) (
 aJ (decide ((((bL+1)+1)+1)≤(List.length ((List.take ((bL+1)+1) ((List.take (bL+1) ((List.take bL o0)++ [(dA .u8 (bI .i64 n (56:Int)))]))++ [(dA .u8 (bI .i64 n (48:Int)))]))++ [(dA .u8 (bI .i64 n (40:Int)))])))) (
 aJ (dh ((((bL+1)+1)+1)+1) 1) (
 aJ (decide (((((bL+1)+1)+1)+1)≤(List.length ((List.take (((bL+1)+1)+1) ((List.take ((bL+1)+1) ((List.take (bL+1) ((List.take bL o0)++ [(dA .u8 (bI .i64 n (56:Int)))]))++ [(dA .u8 (bI .i64 n (48:Int)))]))++ [(dA .u8 (bI .i64 n (40:Int)))]))++ [(dA .u8 (bI .i64 n (32:Int)))])))) (
 aJ (dh (((((bL+1)+1)+1)+1)+1) 1) (
 aJ (decide ((((((bL+1)+1)+1)+1)+1)≤(List.length ((List.take ((((bL+1)+1)+1)+1) ((List.take (((bL+1)+1)+1) ((List.take ((bL+1)+1) ((List.take (bL+1) ((List.take bL o0)++ [(dA .u8 (bI .i64 n (56:Int)))]))++ [(dA .u8 (bI .i64 n (48:Int)))]))++ [(dA .u8 (bI .i64 n (40:Int)))]))++ [(dA .u8 (bI .i64 n (32:Int)))]))++ [(dA .u8 (bI .i64 n (24:Int)))])))) (
 aJ (dh ((((((bL+1)+1)+1)+1)+1)+1) 1) (
 aJ (decide (((((((bL+1)+1)+1)+1)+1)+1)≤(List.length ((List.take (((((bL+1)+1)+1)+1)+1) ((List.take ((((bL+1)+1)+1)+1) ((List.take (((bL+1)+1)+1) ((List.take ((bL+1)+1) ((List.take (bL+1) ((List.take bL o0)++ [(dA .u8 (bI .i64 n (56:Int)))]))++ [(dA .u8 (bI .i64 n (48:Int)))]))++ [(dA .u8 (bI .i64 n (40:Int)))]))++ [(dA .u8 (bI .i64 n (32:Int)))]))++ [(dA .u8 (bI .i64 n (24:Int)))]))++ [(dA .u8 (bI .i64 n (16:Int)))])))) (
 aJ (dh (((((((bL+1)+1)+1)+1)+1)+1)+1) 1) (
 aJ (decide ((((((((bL+1)+1)+1)+1)+1)+1)+1)≤(List.length ((List.take ((((((bL+1)+1)+1)+1)+1)+1) ((List.take (((((bL+1)+1)+1)+1)+1) ((List.take ((((bL+1)+1)+1)+1) ((List.take (((bL+1)+1)+1) ((List.take ((bL+1)+1) ((List.take (bL+1) ((List.take bL o0)++ [(dA .u8 (bI .i64 n (56:Int)))]))++ [(dA .u8 (bI .i64 n (48:Int)))]))++ [(dA .u8 (bI .i64 n (40:Int)))]))++ [(dA .u8 (bI .i64 n (32:Int)))]))++ [(dA .u8 (bI .i64 n (24:Int)))]))++ [(dA .u8 (bI .i64 n (16:Int)))]))++ [(dA .u8 (bI .i64 n (8:Int)))])))) (
 aJ (dh ((((((((bL+1)+1)+1)+1)+1)+1)+1)+1) 1) (
 k (dx.out (((((((((bL+1)+1)+1)+1)+1)+1)+1)+1),((List.take (((((((bL+1)+1)+1)+1)+1)+1)+1) ((List.take ((((((bL+1)+1)+1)+1)+1)+1) ((List.take (((((bL+1)+1)+1)+1)+1) ((List.take ((((bL+1)+1)+1)+1) ((List.take (((bL+1)+1)+1) ((List.take ((bL+1)+1) ((List.take (bL+1) ((List.take bL o0)++ [(dA .u8 (bI .i64 n (56:Int)))]))++ [(dA .u8 (bI .i64 n (48:Int)))]))++ [(dA .u8 (bI .i64 n (40:Int)))]))++ [(dA .u8 (bI .i64 n (32:Int)))]))++ [(dA .u8 (bI .i64 n (24:Int)))]))++ [(dA .u8 (bI .i64 n (16:Int)))]))++ [(dA .u8 (bI .i64 n (8:Int)))]))++ [(dA .u8 (bI .i64 n (0:Int)))])))) none) none) none) none) none) none) none) none) none) none) none) none) none) none) none) none:=by kernel_rfl
theorem dx.ok:dx.Ok:=by
 rintro⟨m,n,l⟩ ⟨rfl,hl⟩
 have hl:l.length≤140737488355320:=hl
 rw[dx.eq]
 simp only[Nat.le_refl,decide_true,az,List.take_of_length_le,List.length_append,List.length_cons,List.length_nil,Nat.zero_add]
 rw[lP (by omega),lP (by omega),lP (by omega),lP (by omega),lP (by omega),lP (by omega),lP (by omega),lP (by omega)]
 simp only[az,dx.add,dx.F,←w6,List.append_assoc,List.cons_append,List.nil_append]
noncomputable def dx.E:=Entry.ct [none,some ti] dx.st dx.aB dx.add dx.F dx.out
noncomputable def dx.call:dx.D→Option dx.X:=bG dx.E dx.st
theorem dx.run:bB dx.call dx.aB dx.add dx.F:=cO (cM [.n,.d ti,.d tB] fun _=>by kernel_rfl)
noncomputable def dx.sg:SG Tryz.prog:=⟨109,zH,dx.E,.fn 1 (by kernel_rfl) dx.ok (And.intro (.none (by kernel_rfl)) trivial)⟩
set_option synthInstance.maxSize 5000
abbrev aL.L0.D:=Bs×Nat×Bs×(List Int)
def aL.L0.st:aL.L0.D→AS:=fun(b_2,endL,n2,n14)=>⟨([.d tB b_2,.undef,.ptr (.new 2 0) 0 [] 0,.cd (.new 14 0) 0 [] 0 0 endL]++ba 61 []),[],([[],[],[.obj 0 false (.d tH n2)]]++bN 11 ([[.obj 0 false (.vec 5 tb n14)]]++bN 50 []))⟩
abbrev aL.L0.Y0:=Nat×(List Int)
abbrev aL.L0.X0:=(Bs×Bs)×(Nat×(List Int))
def aL.L0.bq:aL.L0.X0→Exit×AS:=fun x=>(.exit 0,⟨([.d tB x.1.1,.undef,.ptr (.new 2 0) 0 [] 0,.cd (.new 14 0) 0 [] 0 0 x.2.1]++ba 61 []),[],([[],[],[.obj 0 false (.d tH x.1.2)]]++bN 11 ([[.obj 0 false (.vec 5 tb x.2.2)]]++bN 50 []))⟩)
abbrev aL.L0.X:=aL.L0.X0
abbrev aL.L0.Y:=aL.L0.Y0
def aL.L0.out:aL.L0.X→Out (Exit×AS):=fun x=> .ok (aL.L0.bq x)
def aL.L0.add:aL.L0.D→aL.L0.Y→aL.L0.X:=fun(b_2,endL,n2,n14) y=>((b_2,n2),y)
abbrev aL.L1.D:=Bs×Nat×Bs×(List Int)×(List Int)
def aL.L1.st:aL.L1.D→AS:=fun(b_3,endL_2,n2_2,n4,n14_2)=>⟨([.d tB b_3,.undef,.ptr (.new 2 0) 0 [] 0,.cd (.new 14 0) 8 [] 0 0 endL_2,.ptr (.new 4 0) 0 [] 0]++ba 60 []),[],([[],[],[.obj 0 false (.d tH n2_2)],[],[.obj 0 false (.d (.arr 8 (.int .u32)) n4)]]++bN 9 ([[.obj 8 false (.vec 5 tb n14_2)]]++bN 50 []))⟩
abbrev aL.L1.Y0:=(List Int)
abbrev aL.L1.X0:=(Nat×Bs×(List Int))×((List Int))
def aL.L1.bq:aL.L1.X0→Exit×AS:=fun x=>(.exit 2,⟨([.undef,.undef,.ptr (.new 2 0) 0 [] 0,.cd (.new 14 0) 8 [] 0 0 x.1.1,.ptr (.new 4 0) 0 [] 0]++ba 60 []),[],([[],[],[.obj 0 false (.d tH x.1.2.1)],[],[.obj 0 false (.d (.arr 8 (.int .u32)) x.2)]]++bN 9 ([[.obj 8 false (.vec 5 tb x.1.2.2)]]++bN 50 []))⟩)
abbrev aL.L1.X:=aL.L1.X0
abbrev aL.L1.Y:=aL.L1.Y0
def aL.L1.out:aL.L1.X→Out (Exit×AS):=fun x=> .ok (aL.L1.bq x)
def aL.L1.add:aL.L1.D→aL.L1.Y→aL.L1.X:=fun(b_3,endL_2,n2_2,n4,n14_2) y=>((endL_2,n2_2,n14_2),y)
abbrev aL.L2.D:=Bs×Bs×(List Int)
def aL.L2.st:aL.L2.D→AS:=fun(endv,n2_3,n4_2)=>⟨([.undef,.undef,.ptr (.new 2 0) 0 [] 0,.d tB endv,.ptr (.new 4 0) 0 [] 0]++ba 60 []),[],([[],[],[.obj 0 false (.d tH n2_3)],[],[.obj 0 false (.d (.arr 8 (.int .u32)) n4_2)]]++bN 60 [])⟩
abbrev aL.L2.Y0:=(List Int)
abbrev aL.L2.X0:=(Bs)×((List Int))
def aL.L2.bq:aL.L2.X0→Exit×AS:=fun x=>(.exit 4,⟨([.undef,.undef,.ptr (.new 2 0) 0 [] 0,.undef,.ptr (.new 4 0) 0 [] 0]++ba 60 []),[],([[],[],[.obj 0 false (.d tH x.1)],[],[.obj 0 false (.d (.arr 8 (.int .u32)) x.2)]]++bN 60 [])⟩)
abbrev aL.L2.X:=aL.L2.X0
abbrev aL.L2.Y:=aL.L2.Y0
def aL.L2.out:aL.L2.X→Out (Exit×AS):=fun x=> .ok (aL.L2.bq x)
def aL.L2.add:aL.L2.D→aL.L2.Y→aL.L2.X:=fun(endv,n2_3,n4_2) y=>(n2_3,y)
abbrev aL.L3.D:=Int×Bs×(List Int)
def aL.L3.st:aL.L3.D→AS:=fun(t48,n2_4,n4_3)=>⟨([.undef,.undef,.ptr (.new 2 0) 0 [] 0,.undef,.ptr (.new 4 0) 0 [] 0]++ba 43 ([.d ti t48]++ba 16 [])),[],([[],[],[.obj 0 false (.d tH n2_4)],[],[.obj 0 false (.d (.arr 8 (.int .u32)) n4_3)]]++bN 60 [])⟩
abbrev aL.L3.Y0:=Bs
abbrev aL.L3.X0:=Bs
def aL.L3.bq:aL.L3.X0→Exit×AS:=fun x=>(.exit 6,⟨([.undef,.undef,.ptr (.new 2 0) 0 [] 0]++ba 62 []),[],([[],[],[.obj 0 false (.d tH x)]]++bN 62 [])⟩)
abbrev aL.L3.X:=aL.L3.X0
abbrev aL.L3.Y:=aL.L3.Y0
def aL.L3.out:aL.L3.X→Out (Exit×AS):=fun x=> .ok (aL.L3.bq x)
def aL.L3.add:aL.L3.D→aL.L3.Y→aL.L3.X:=fun(t48,n2_4,n4_3) y=>y
abbrev aL.D:=Bs
def aL.st:aL.D→SA:=fun b=>([.d tB b],[])
abbrev aL.Y:=Bs
abbrev aL.X:=Bs
def aL.out:aL.X→aY:=fun x=>⟨.d tH x,[],[]⟩
def aL.add:aL.D→aL.Y→aL.X:=fun b y=>y
def zc(n:Nat):Nat:=(120 - n%64)%64
def aL.L0.aB:aL.L0.D→Prop:=fun(b,m,n2,l)=>m=l.length∧l.length+zc l.length≤140737488355328
def aL.L0.F:aL.L0.D→aL.L0.Y:=fun(b,m,n2,l)=>(l.length+zc l.length,l++List.replicate (zc l.length) 0)
def aL.L1.aB:aL.L1.D→Prop:=fun(b,m,n2,h,l)=>∃s:St,h=s.l
def aL.L1.F:aL.L1.D→aL.L1.Y:=fun(b,m,n2,h,l)=>(blocks (uO h) b).l
def aL.L2.aB:aL.L2.D→Prop:=fun(b,n2,h)=>b.length%64=0∧∃s:St,h=s.l
def aL.L2.F:aL.L2.D→aL.L2.Y:=fun(b,n2,h)=>(blocks (uO h) b).l
def nQ(h:List Int)(i:Nat)(_:Int):Int:=dA .u8 (bI .u32 (nth (.int .u32) h (i / 4)) ((24 - 8*(i%4):Nat):Int))
def aL.L3.aB:aL.L3.D→Prop:=fun(t,n2,h)=>n2.length=32∧h.length=8∧∃k:Nat,k≤32∧t=k
def aL.L3.F:aL.L3.D→aL.L3.Y:=fun(t,n2,h)=>from_ (nQ h) t.toNat n2
def aL.aB:aL.D→Prop:=fun b=>b.length≤140737488350000
def aL.F:aL.D→aL.Y:=fun b=>C1 b
noncomputable def aL.G:dR:=eO (P:=Tryz.prog) [ck.sg,dx.sg,first.sg,mix.sg]
noncomputable def aL.L0.E:=bM.ct aL.L0.st aL.L0.aB aL.L0.add aL.L0.F aL.L0.out
noncomputable def aL.L0.call:aL.L0.D→Option aL.L0.X:=dg aL.L0.E aL.L0.st
noncomputable def aL.L1.E:=bM.ct aL.L1.st aL.L1.aB aL.L1.add aL.L1.F aL.L1.out
noncomputable def aL.L1.call:aL.L1.D→Option aL.L1.X:=dg aL.L1.E aL.L1.st
noncomputable def aL.L2.E:=bM.ct aL.L2.st aL.L2.aB aL.L2.add aL.L2.F aL.L2.out
noncomputable def aL.L2.call:aL.L2.D→Option aL.L2.X:=dg aL.L2.E aL.L2.st
noncomputable def aL.L3.E:=bM.ct aL.L3.st aL.L3.aB aL.L3.add aL.L3.F aL.L3.out
noncomputable def aL.L3.call:aL.L3.D→Option aL.L3.X:=dg aL.L3.E aL.L3.st
noncomputable def aL.an:eu:= {loops:=jO [(2,{bh:=[0,2,3],sites:=[2,14],iu:=[⟨3,[],14,25⟩]}),(6,{bh:=[0,2,3,4],sites:=[2,4,14]}),(9,{bh:=[2,3,4],sites:=[2,4],data:=[(3,tB)]}),(13,{bh:=[2,4,48],sites:=[2,4]})],outs:=jN [(2,{bh:=[0,2,3],sites:=[2,14]},{bh:=[2]}),(6,{bh:=[2,3,4],sites:=[2,4,14]},{bh:=[2]}),(9,{bh:=[2,4],sites:=[2,4]},{bh:=[2]}),(13,{bh:=[2],sites:=[2]},{bh:=[2]})],fF:=ky [(2,aL.L0.E),(6,aL.L1.E),(9,aL.L2.E),(13,aL.L3.E)]}
noncomputable def aL.A:= @cI Tryz.prog aL.G aL.an 0 Tryz.f51 _ aL.st
abbrev aL.Ok:=cJ @aL.A aL.aB aL.add aL.F aL.out
noncomputable def aL.L0.R:= @cf Tryz.prog aL.G aL.an 0 Tryz.f51 0 _ aL.L0.st
abbrev aL.L0.Ok:=ez Tryz.prog aL.G aL.an 0 Tryz.f51 0 aL.L0.st aL.L0.aB aL.L0.add aL.L0.F aL.L0.out
noncomputable def aL.L1.R:= @cf Tryz.prog aL.G aL.an 0 Tryz.f51 1 _ aL.L1.st
abbrev aL.L1.Ok:=ez Tryz.prog aL.G aL.an 0 Tryz.f51 1 aL.L1.st aL.L1.aB aL.L1.add aL.L1.F aL.L1.out
noncomputable def aL.L2.R:= @cf Tryz.prog aL.G aL.an 0 Tryz.f51 2 _ aL.L2.st
abbrev aL.L2.Ok:=ez Tryz.prog aL.G aL.an 0 Tryz.f51 2 aL.L2.st aL.L2.aB aL.L2.add aL.L2.F aL.L2.out
noncomputable def aL.L3.R:= @cf Tryz.prog aL.G aL.an 0 Tryz.f51 3 _ aL.L3.st
abbrev aL.L3.Ok:=ez Tryz.prog aL.G aL.an 0 Tryz.f51 3 aL.L3.st aL.L3.aB aL.L3.add aL.L3.F aL.L3.out
theorem aL.L0.run:bB aL.L0.call aL.L0.aB aL.L0.add aL.L0.F:=eE (eD [.d tB,.n,.d tB,.d tB] fun _=>by kernel_rfl)
theorem aL.L0.aH:fP @aL.L0.R aL.L0.st aL.L0.aB aL.L0.add aL.L0.F aL.L0.bq aL.L0.Ok:=fS
theorem aL.L0.step{R:Type}(b_2:Bs)(endL:Nat)(n2:Bs)(n14:(List Int))(kn:AS→Option R)(kx:Exit→AS→Option R):aL.L0.R (b_2,endL,n2,n14) kn kx=
  aJ ((ku (iT ((endL:Nat):Int) (64:Int)) (56:Int))) (
   aJ (decide (endL≤(List.length n14))) (
   aJ (dh (endL+1) 1) (
   kn (aL.L0.st (b_2,(endL+1),n2,((List.take endL n14)++ [(0:Int)])))) none) none) (
   kx (aL.L0.bq ((b_2,n2),(endL,n14))).1 (aL.L0.bq ((b_2,n2),(endL,n14))).2):=by kernel_rfl
theorem aL.L1.run:bB aL.L1.call aL.L1.aB aL.L1.add aL.L1.F:=eE (eD [.d tB,.n,.d tB,.d (.slice (.int .u32)),.d tB] fun _=>by kernel_rfl)
theorem aL.L1.aH:fP @aL.L1.R aL.L1.st aL.L1.aB aL.L1.add aL.L1.F aL.L1.bq aL.L1.Ok:=fS
theorem aL.L1.step{R:Type}(b_3:Bs)(endL_2:Nat)(n2_2:Bs)(n4:(List Int))(n14_2:(List Int))(kn:AS→Option R)(kx:Exit→AS→Option R):aL.L1.R (b_3,endL_2,n2_2,n4,n14_2) kn kx=
  aJ ((mZ (((List.length b_3):Nat):Int) (64:Int))) (
   aJ (inc (64:Int) (((List.length b_3):Nat):Int)) (
   aq (mix.call (n4,(cut b_3 0 64))) fun x1=>
   aJ (inc (64:Int) (((List.length b_3):Nat):Int)) (
   kn (aL.L1.st ((cut b_3 64 ((List.length b_3) - 64)),endL_2,n2_2,x1,n14_2))) none) none) (
   kx (aL.L1.bq ((endL_2,n2_2,n14_2),n4)).1 (aL.L1.bq ((endL_2,n2_2,n14_2),n4)).2):=by kernel_rfl
theorem aL.L2.run:bB aL.L2.call aL.L2.aB aL.L2.add aL.L2.F:=eE (eD [.d tB,.d tB,.d (.slice (.int .u32))] fun _=>by kernel_rfl)
theorem aL.L2.aH:fP @aL.L2.R aL.L2.st aL.L2.aB aL.L2.add aL.L2.F aL.L2.bq aL.L2.Ok:=fS
theorem aL.L2.step{R:Type}(endv:Bs)(n2_3:Bs)(n4_2:(List Int))(kn:AS→Option R)(kx:Exit→AS→Option R):aL.L2.R (endv,n2_3,n4_2) kn kx=
  aJ ((mG (((List.length endv):Nat):Int) (0:Int))) (
   aJ (inc (64:Int) (((List.length endv):Nat):Int)) (
   aq (mix.call (n4_2,(cut endv 0 64))) fun x1=>
   aJ (inc (64:Int) (((List.length endv):Nat):Int)) (
   kn (aL.L2.st ((cut endv 64 ((List.length endv) - 64)),n2_3,x1))) none) none) (
   kx (aL.L2.bq (n2_3,n4_2)).1 (aL.L2.bq (n2_3,n4_2)).2):=by kernel_rfl
theorem aL.L3.run:bB aL.L3.call aL.L3.aB aL.L3.add aL.L3.F:=eE (eD [.d ti,.d tB,.d (.slice (.int .u32))] fun _=>by kernel_rfl)
theorem aL.L3.aH:fP @aL.L3.R aL.L3.st aL.L3.aB aL.L3.add aL.L3.F aL.L3.bq aL.L3.Ok:=fS
theorem aL.L3.step{R:Type}(t48:Int)(n2_4:Bs)(n4_3:(List Int))(kn:AS→Option R)(kx:Exit→AS→Option R):aL.L3.R (t48,n2_4,n4_3) kn kx=
  aJ ((fY t48 (32:Int))) (
   aJ (eh (kF .i64 t48 (4:Int)) (8:Int)) (
   aJ (decide ((Int.toNat (kF .i64 t48 (4:Int))) < (List.length n4_3))) (
   aJ (decide ((((Int.toNat (kF .i64 t48 (4:Int)))*1)+0)=(0+((Int.toNat (kF .i64 t48 (4:Int)))*1)))) (
   aJ (gD (dd .i64 (24:Int) (eT .i64 (8:Int) (iT t48 (4:Int))))) (
   aJ (eh t48 (32:Int)) (
   aJ (decide ((Int.toNat t48) < (List.length n2_4))) (
   aJ (decide ((((Int.toNat t48)*1)+0)=(0+((Int.toNat t48)*1)))) (
   aJ (decide ((Int.toNat t48) < (List.length n2_4))) (
   kn (aL.L3.st ((bK .i64 t48 (1:Int)),(List.set n2_4 (Int.toNat t48) (dA .u8 (bI .u32 (nth (.int .u32) n4_3 (Int.toNat (kF .i64 t48 (4:Int)))) (dd .i64 (24:Int) (eT .i64 (8:Int) (iT t48 (4:Int))))))),n4_3))) none) none) none) none) none) none) none) none) (
   kx (aL.L3.bq n2_4).1 (aL.L3.bq n2_4).2):=by kernel_rfl
theorem aL.eq{R:Type}(b:Bs)(k:aY→Option R):aL.A b k=
 aJ (inc (dd .i64 (((List.length b):Nat):Int) (iT (((List.length b):Nat):Int) (64:Int))) (((List.length b):Nat):Int)) (
 aq (ck.call (cut b (Int.toNat (dd .i64 (((List.length b):Nat):Int) (iT (((List.length b):Nat):Int) (64:Int)))) ((List.length b) - (Int.toNat (dd .i64 (((List.length b):Nat):Int) (iT (((List.length b):Nat):Int) (64:Int))))))) fun x1=>
 aJ (decide (x1.1≤(List.length x1.2))) (
 aJ (dh (x1.1+1) 1) (
 aq (aL.L0.call (b,(x1.1+1),(List.replicate 32 (0:Int)),((List.take x1.1 x1.2)++ [(128:Int)]))) fun x2=>
 aq (dx.call (x2.2.1,(eT .i64 (8:Int) (((List.length x2.1.1):Nat):Int)),x2.2.2)) fun x3=>
 aq (first.call ()) fun x4=>
 aq (aL.L1.call (x2.1.1,x3.1,x2.1.2,x4,x3.2)) fun x6=>
 aJ (decide (0=0∧(0+x6.1.1)≤(List.length x6.1.2.2))) (
 aq (aL.L2.call ((cut x6.1.2.2 0 x6.1.1),x6.1.2.1,x6.2)) fun x9=>
 aq (aL.L3.call ((0:Int),x9.1,x9.2)) fun x10=>
 k (aL.out x10)) none) none) none) none:=by kernel_rfl
theorem aL.L0.ok:aL.L0.Ok:=by
 refine aL.L0.aH (fun(b,m,n2,l)=>zc l.length) ?_
 rintro⟨b,m,n2,l⟩ ⟨rfl,hl⟩
 have hl:l.length+zc l.length≤140737488355328:=hl
 have hr:iT ((l.length:Nat):Int) 64=((l.length%64:Nat):Int):=by
  unfold iT
  rw[Int.tmod_eq_emod_of_nonneg (by omega)]
  omega
 by_cases h:l.length%64=56
 ·right
  intro R kn kx
  have hz:zc l.length=0:=by unfold zc;omega
  rw[aL.L0.step,hr,bT (by omega)]
  simp only[ay,aL.L0.add,aL.L0.F,hz,Nat.add_zero,List.replicate_zero,List.append_nil]
 ·left
  have hz:zc l.length=zc (l.length+1)+1:=by unfold zc;omega
  refine⟨(b,l.length+1,n2,l++ [0]),⟨by simp,by simp only[List.length_append,List.length_cons,List.length_nil,Nat.zero_add];omega⟩,by simp only[List.length_append,List.length_cons,List.length_nil,Nat.zero_add];omega,?_,fun kn kx=> ?_⟩
  ·simp only[aL.L0.add,aL.L0.F,List.length_append,List.length_cons,List.length_nil,Nat.zero_add,hz,List.append_assoc,List.cons_append,List.nil_append,List.replicate_succ]
   rw[show l.length+1+zc (l.length+1)=l.length+(zc (l.length+1)+1) by omega]
  ·rw[aL.L0.step,hr,dB (by omega),lP (by omega)]
   simp only[az,Nat.le_refl,decide_true,List.take_length]
theorem aL.L1.ok:aL.L1.Ok:=by
 refine aL.L1.aH (fun(b,m,n2,h,l)=>b.length) ?_
 rintro⟨b,m,n2,h,l⟩ ⟨s,rfl⟩
 by_cases hb:64≤b.length
 ·left
  have e1:cut b 64 (b.length - 64)=b.drop 64:=by unfold cut;rw[List.take_of_length_le (by simp)]
  have e2:cut b 0 64=b.take 64:=rfl
  have hp:mix.aB (s.l,b.take 64):=⟨⟨s,rfl⟩,by simp;omega⟩
  refine⟨(b.drop 64,m,n2,(pU s (b.take 64)).l,l),⟨_,rfl⟩,by simp;omega,?_,fun kn kx=> ?_⟩
  ·simp only[aL.L1.add,aL.L1.F,gN]
   rw[mP s b hb]
  ·rw[aL.L1.step,fU (by omega),kD (by omega) (by omega),e1,e2]
   simp only[az,mix.run hp,ab,mix.add,mix.F,gN]
 ·right
  intro R kn kx
  rw[aL.L1.step,eM (by omega)]
  simp only[ay,aL.L1.add,aL.L1.F,gN]
  rw[lS s b (by omega)]
theorem aL.L2.ok:aL.L2.Ok:=by
 refine aL.L2.aH (fun(b,n2,h)=>b.length) ?_
 rintro⟨b,n2,h⟩ ⟨hm,s,rfl⟩
 have hm:b.length%64=0:=hm
 by_cases hb:0 < b.length
 ·left
  have e1:cut b 64 (b.length - 64)=b.drop 64:=by unfold cut;rw[List.take_of_length_le (by simp)]
  have e2:cut b 0 64=b.take 64:=rfl
  have hp:mix.aB (s.l,b.take 64):=⟨⟨s,rfl⟩,by simp;omega⟩
  refine⟨(b.drop 64,n2,(pU s (b.take 64)).l),⟨by simp;omega,_,rfl⟩,by simp;omega,?_,fun kn kx=> ?_⟩
  ·simp only[aL.L2.add,aL.L2.F,gN]
   rw[mP s b (by omega)]
  ·rw[aL.L2.step,dQ (by omega),kD (by omega) (by omega),e1,e2]
   simp only[az,mix.run hp,ab,mix.add,mix.F,gN]
 ·right
  intro R kn kx
  rw[aL.L2.step,dE (by omega)]
  simp only[ay,aL.L2.add,aL.L2.F,gN]
  rw[lS s b (by omega)]
theorem aL.L3.ok:aL.L3.Ok:=by
 refine aL.L3.aH (fun(t,n2,h)=>32 - t.toNat) ?_
 rintro⟨t,m,h⟩ ⟨hl,h8,k,hk,rfl⟩
 have hl:m.length=32:=hl
 have h8:h.length=8:=h8
 have e2:Int.toNat (k:Int)=k:=by omega
 have e3:Int.toNat ((k+1:Nat):Int)=k+1:=by omega
 by_cases hlt:k < 32
 ·left
  have e1:bK .i64 (k:Int) 1=((k+1:Nat):Int):=by rw[gF (by omega) (by omega)];omega
  have q4:kF .i64 (k:Int) 4=((k / 4:Nat):Int):=by
   have:(k:Int).tdiv 4=((k / 4:Nat):Int):=by rw[Int.tdiv_eq_ediv_of_nonneg (by omega)];omega
   unfold kF
   rw[this,iY (by omega) (by omega)]
  have r4:iT (k:Int) 4=((k%4:Nat):Int):=by
   unfold iT
   rw[Int.tmod_eq_emod_of_nonneg (by omega)]
   omega
  have s4:dd .i64 24 (eT .i64 8 ((k%4:Nat):Int))=((24 - 8*(k%4):Nat):Int):=by
   rw[oT (by omega) (by omega),fw (by omega) (by omega)]
   omega
  have e4:Int.toNat ((k / 4:Nat):Int)=k / 4:=by omega
  refine⟨(((k+1:Nat):Int),m.set k (nQ h k m[k]),h),⟨by simpa using hl,h8,k+1,by omega,rfl⟩,by simp;omega,?_,fun kn kx=> ?_⟩
  ·simp only[aL.L3.add,aL.L3.F,e2,e3]
   rw[nC (nQ h) m k (by omega)]
  ·have d0:decide (k < 32)=true:=aO hlt
   have d1:decide (k / 4 < 8)=true:=aO (by omega)
   rw[aL.L3.step,bw (by omega),q4,r4,s4,bn (by omega) (by omega),bn (by omega) (by omega),jS (by omega)]
   simp only[e1,e2,e4,Nat.mul_one,Nat.zero_add,Nat.add_zero,decide_true,az,hl,h8,d0,d1,nQ]
 ·right
  obtain rfl:k=32:=by omega
  intro R kn kx
  rw[aL.L3.step,bm (by omega)]
  simp only[ay,aL.L3.add,aL.L3.F,e2]
  rw[oS _ _ _ (by omega)]
theorem zs(w:W):BitVec.ofInt 8 (vw w)=w.setWidth 8:=by
 apply BitVec.eq_of_toNat_eq
 rw[BitVec.toNat_ofInt,BitVec.toNat_setWidth]
 unfold vw
 omega
theorem CI(w:W)(k:Int):dA .u8 (bI .u32 (vw w) k)=vw ((w >>> k.toNat).setWidth 8):=by
 rw[m9,rB,zs]
theorem yt(s:St):from_ (nQ s.l) 0 (List.replicate 32 0)=BZ s:=by
 rw[rr]
 simp only[List.range_eq_range',List.range',List.map_cons,List.map_nil,nQ,Nat.reduceAdd,Nat.reduceDiv,Nat.reduceMod,Nat.reduceMul,Nat.reduceSub,n0,n1,n2,n3,n4,n5,n6,n7,CI]
 rfl
theorem aL.ok:aL.Ok:=by
 intro b hb
 have hb:b.length≤140737488350000:=hb
 have hr:iT ((b.length:Nat):Int) 64=((b.length%64:Nat):Int):=by
  unfold iT
  rw[Int.tmod_eq_emod_of_nonneg (by omega)]
  omega
 have hs:dd .i64 ((b.length:Nat):Int) ((b.length%64:Nat):Int)=((b.length - b.length%64:Nat):Int):=by
  rw[fw (by omega) (by omega)];omega
 have hn:Int.toNat ((b.length - b.length%64:Nat):Int)=b.length - b.length%64:=by omega
 have hm:eT .i64 8 ((b.length:Nat):Int)=8*(b.length:Int):=oT (by omega) (by omega)
 generalize hq:b.length - b.length%64=q at hs hn
 have hc:cut b q (b.length - q)=b.drop q:=by unfold cut;rw[List.take_of_length_le (by simp)]
 have hcl:(b.drop q).length=b.length%64:=by simp;omega
 have p1:ck.aB (b.drop q):=by show(b.drop q).length≤_;omega
 rw[aL.eq,hr,hs,kD (by omega) (by omega),hn,hc]
 simp only[az,ck.run p1,ab,ck.add,ck.F,Nat.le_refl,decide_true,List.take_length]
 have p2:aL.L0.aB (b,(b.drop q).length+1,List.replicate 32 0,b.drop q++ [128]):=by
  refine⟨by simp,?_⟩
  simp only[List.length_append,List.length_cons,List.length_nil,zc]
  omega
 have hz:zc (b.drop q++ [128]).length=kJ b.length:=by
  simp only[List.length_append,List.length_cons,List.length_nil,zc,kJ]
  omega
 rw[lP (by omega)]
 simp only[az,aL.L0.run p2,ab,aL.L0.add,aL.L0.F,hm,hz]
 have hlen:(b.drop q++ [128]).length+kJ b.length=(b.drop q++ [128]++List.replicate (kJ b.length) 0).length:=by rw[@List.length_append _ (b.drop q++ [128]),List.length_replicate]
 have p3:dx.aB ((b.drop q++ [128]).length+kJ b.length,8*(b.length:Int),b.drop q++ [128]++List.replicate (kJ b.length) 0):=by
  refine⟨hlen,?_⟩
  simp only[List.length_append,List.length_cons,List.length_nil,List.length_replicate,kJ]
  omega
 have p4:aL.L1.aB (b,(b.drop q++ [128]++List.replicate (kJ b.length) 0).length+8,List.replicate 32 0,iE.l,b.drop q++ [128]++List.replicate (kJ b.length) 0++fJ (8*(b.length:Int))):=⟨iE,rfl⟩
 simp only[dx.run p3,ab,dx.add,dx.F,first.run (d:=()) trivial,first.add,first.F,aL.L1.run p4,aL.L1.add,aL.L1.F,gN]
 generalize he:b.drop q++ [128]++List.replicate (kJ b.length) 0++fJ (8*(b.length:Int))=e
 have hel:(b.drop q++ [128]++List.replicate (kJ b.length) 0).length+8=e.length:=by rw[←he,@List.length_append _ _ (fJ _),bJ]
 have hem:e.length%64=0:=by
  rw[←hel]
  simp only[List.length_append,List.length_cons,List.length_nil,List.length_replicate,kJ,hcl]
  omega
 have hce:cut e 0 ((b.drop q++ [128]++List.replicate (kJ b.length) 0).length+8)=e:=by
  rw[hel];unfold cut;rw[List.drop_zero,List.take_length]
 rw[hce,hel,aO ⟨trivial,by omega⟩]
 have p5:aL.L2.aB (e,List.replicate 32 0,(blocks iE b).l):=⟨hem,blocks iE b,rfl⟩
 have p6:aL.L3.aB (0,List.replicate 32 0,(blocks (blocks iE b) e).l):=⟨rfl,rfl,0,by omega,rfl⟩
 simp only[az,aL.L2.run p5,ab,aL.L2.add,aL.L2.F,gN,aL.L3.run p6,aL.L3.add,aL.L3.F,aL.add,aL.F]
 rw[show Int.toNat 0=0 from rfl,yt]
 have hbl:blocks iE (pad b)=blocks (blocks iE b) e:=by
  have h1:pad b=b.take q++e:=by
   rw[←he]
   unfold pad
   rw[List.append_assoc,List.append_assoc,←List.append_assoc (b.take q),List.take_append_drop]
   rfl
  have h2:blocks iE b=blocks (blocks iE (b.take q)) (b.drop q):=by
   rw[←nP _ _ _ (by simp;omega),List.take_append_drop]
  rw[h1,nP _ _ _ (by simp;omega),h2,lS _ (b.drop q) (by omega)]
 rw[C1,hbl]
noncomputable def aL.E:=Entry.ct [some tB] aL.st aL.aB aL.add aL.F aL.out
noncomputable def aL.call:aL.D→Option aL.X:=bG aL.E aL.st
theorem aL.run:bB aL.call aL.aB aL.add aL.F:=cO (cM [.d tB] fun _=>by kernel_rfl)
noncomputable def aL.sg:SG Tryz.prog:=⟨51,aU,aL.E,.fn 4 (by kernel_rfl) aL.ok (And.intro (.ct aL.L0.ok (by kernel_rfl)) (And.intro (.ct aL.L1.ok (by kernel_rfl)) (And.intro (.ct aL.L2.ok (by kernel_rfl)) (And.intro (.ct aL.L3.ok (by kernel_rfl)) trivial))))⟩
set_option synthInstance.maxSize 5000
abbrev bP.L0.D:=Nat×(List Bs)×Int×Int×Bs×(List Int)
def bP.L0.st:bP.L0.D→AS:=fun(bL,t13,t14,t15,n4,n10)=>⟨(ba 4 ([.ptr (.new 4 0) 0 [] 0,.cd (.new 10 0) 0 [] 0 0 bL]++ba 7 ([.d (.slice tB) t13,.d ti t14,.d ti t15]++ba 12 []))),[],(bN 4 ([[.obj 0 false (.d tH n4)]]++bN 5 ([[.obj 0 false (.vec 5 tb n10)]]++bN 17 [])))⟩
abbrev bP.L0.Y0:=Nat×(List Int)
abbrev bP.L0.X0:=(Bs)×(Nat×(List Int))
def bP.L0.bq:bP.L0.X0→Exit×AS:=fun x=>(.exit 0,⟨(ba 4 ([.ptr (.new 4 0) 0 [] 0,.cd (.new 10 0) 0 [] 0 0 x.2.1]++ba 22 [])),[],(bN 4 ([[.obj 0 false (.d tH x.1)]]++bN 5 ([[.obj 0 false (.vec 5 tb x.2.2)]]++bN 17 [])))⟩)
abbrev bP.L0.X:=bP.L0.X0
abbrev bP.L0.Y:=bP.L0.Y0
def bP.L0.out:bP.L0.X→Out (Exit×AS):=fun x=> .ok (bP.L0.bq x)
def bP.L0.add:bP.L0.D→bP.L0.Y→bP.L0.X:=fun(bL,t13,t14,t15,n4,n10) y=>(n4,y)
abbrev bP.D:=ByteArray×(List Bs)
def bP.st:bP.D→SA:=fun(name,parts)=>([.d .str name,.d (.slice tB) parts],[])
abbrev bP.Y:=Bs
abbrev bP.X:=Bs
def bP.out:bP.X→aY:=fun x=>⟨.d tH x,[],[]⟩
def bP.add:bP.D→bP.Y→bP.X:=fun(name,parts) y=>y
def bP.L0.aB:bP.L0.D→Prop:=fun(m,ps,n,i,n4,l)=>m=l.length∧n=ps.length∧ps.length≤140737488350000∧∃k:Nat,k≤ps.length∧i=k∧l.length+(gQ (ps.drop k)).length≤140737488350000
def bP.L0.F:bP.L0.D→bP.L0.Y:=fun(m,ps,n,i,n4,l)=>(l.length+(gQ (ps.drop i.toNat)).length,l++gQ (ps.drop i.toNat))
def bP.aB:bP.D→Prop:=fun(name,ps)=>(qf (bf name) ps).length≤140737488350000
def bP.F:bP.D→bP.Y:=fun(name,ps)=>tag (bf name) ps
noncomputable def bP.G:dR:=eO (P:=Tryz.prog) [dV.sg,dx.sg,aL.sg]
noncomputable def bP.L0.E:=bM.ct bP.L0.st bP.L0.aB bP.L0.add bP.L0.F bP.L0.out
noncomputable def bP.L0.call:bP.L0.D→Option bP.L0.X:=dg bP.L0.E bP.L0.st
noncomputable def bP.an:eu:= {loops:=jO [(3,{bh:=[4,5,13,14,15],sites:=[4,10],iu:=[⟨5,[],10,25⟩]})],outs:=jN [(3,{bh:=[4,5],sites:=[4,10]},{bh:=[4]})],fF:=ky [(3,bP.L0.E)]}
noncomputable def bP.A:= @cI Tryz.prog bP.G bP.an 0 Tryz.f54 _ bP.st
abbrev bP.Ok:=cJ @bP.A bP.aB bP.add bP.F bP.out
noncomputable def bP.L0.R:= @cf Tryz.prog bP.G bP.an 0 Tryz.f54 0 _ bP.L0.st
abbrev bP.L0.Ok:=ez Tryz.prog bP.G bP.an 0 Tryz.f54 0 bP.L0.st bP.L0.aB bP.L0.add bP.L0.F bP.L0.out
theorem bP.L0.run:bB bP.L0.call bP.L0.aB bP.L0.add bP.L0.F:=eE (eD [.n,.d (.slice tB),.d ti,.d ti,.d tB,.d tB] fun _=>by kernel_rfl)
theorem bP.L0.aH:fP @bP.L0.R bP.L0.st bP.L0.aB bP.L0.add bP.L0.F bP.L0.bq bP.L0.Ok:=fS
theorem bP.L0.step{R:Type}(bL:Nat)(t13:(List Bs))(t14:Int)(t15:Int)(n4:Bs)(n10:(List Int))(kn:AS→Option R)(kx:Exit→AS→Option R):bP.L0.R (bL,t13,t14,t15,n4,n10) kn kx=
  aJ ((fY t15 t14)) (
   aJ (eh t15 (((List.length t13):Nat):Int)) (
   aq (dx.call (bL,(((List.length (nth tB t13 (Int.toNat t15))):Nat):Int),n10)) fun x1=>
   aJ (decide (x1.1≤(List.length x1.2))) (
   aJ (dh (x1.1+(List.length (nth tB t13 (Int.toNat t15)))) 1) (
   kn (bP.L0.st ((x1.1+(List.length (nth tB t13 (Int.toNat t15)))),t13,t14,(bK .i64 t15 (1:Int)),n4,((List.take x1.1 x1.2)++(nth tB t13 (Int.toNat t15)))))) none) none) none) (
   kx (bP.L0.bq (n4,(bL,n10))).1 (bP.L0.bq (n4,(bL,n10))).2):=by kernel_rfl
theorem bP.eq{R:Type}(name:ByteArray)(parts:(List Bs))(k:aY→Option R):bP.A (name,parts) k=
 aq (dV.call (((ByteArray.size name):Nat):Int)) fun x1=>
 aJ (decide (x1.1≤(List.length x1.2))) (
 aJ (dh (x1.1+(List.length (bf name))) 1) (
 aq (bP.L0.call ((x1.1+(List.length (bf name))),parts,(((List.length parts):Nat):Int),(0:Int),(List.replicate 32 (0:Int)),((List.take x1.1 x1.2)++(bf name)))) fun x4=>
 aJ (decide (0=0∧(0+x4.2.1)≤(List.length x4.2.2))) (
 aq (aL.call (cut x4.2.2 0 x4.2.1)) fun x5=>
 k (bP.out x5)) none) none) none:=by kernel_rfl
theorem tA(p:List Int)(ps:List (List Int)):gQ (p::ps)=fJ p.length++p++gQ ps:=by simp[gQ]
theorem tC(ps:List (List Int))(k:Nat)(h:k < ps.length):gQ (ps.drop k)=fJ ps[k].length++ps[k]++gQ (ps.drop (k+1)):=by
 rw[List.drop_eq_getElem_cons h,tA]
theorem bP.L0.ok:bP.L0.Ok:=by
 refine bP.L0.aH (fun(m,ps,n,i,n4,l)=>ps.length - i.toNat) ?_
 rintro⟨m,ps,n,i,n4,l⟩ ⟨rfl,rfl,hpl,k,hk,rfl,hl⟩
 have hl:l.length+(gQ (ps.drop k)).length≤140737488350000:=hl
 have hk:k≤ps.length:=hk
 have e2:Int.toNat (k:Int)=k:=by omega
 have e3:Int.toNat ((k+1:Nat):Int)=k+1:=by omega
 by_cases h:k < ps.length
 ·left
  have ht:=tC ps k h
  have hlen:(gQ (ps.drop k)).length=8+ps[k].length+(gQ (ps.drop (k+1))).length:=by rw[ht];simp only[List.length_append,bJ]
  have hn:nth (.slice (.int .u8)) ps k=ps[k]:=cw (t:= .slice (.int .u8)) h
  have hpl:ps.length≤140737488350000:=hpl
  have e1:bK .i64 (k:Int) 1=((k+1:Nat):Int):=by rw[gF (by omega) (by omega)];omega
  refine⟨((l++fJ ps[k].length++ps[k]).length,ps,(ps.length:Int),((k+1:Nat):Int),n4,l++fJ ps[k].length++ps[k]),⟨rfl,rfl,hpl,k+1,by show k+1≤ps.length;omega,rfl,?_⟩,?_,?_,fun kn kx=> ?_⟩
  ·show(l++fJ ps[k].length++ps[k]).length+(gQ (ps.drop (k+1))).length≤_
   simp only[List.length_append,bJ];omega
  ·show ps.length - Int.toNat ((k+1:Nat):Int) < ps.length - Int.toNat (k:Int)
   omega
  ·simp only[bP.L0.add,bP.L0.F,e2,e3,ht,List.append_assoc]
   simp only[List.length_append,bJ,Nat.add_assoc]
  ·have p1:dx.aB (l.length,(ps[k].length:Int),l):=⟨rfl,by show l.length≤_;omega⟩
   rw[bP.L0.step,bw (by omega),bn (by omega) (by omega),e1,e2]
   simp only[az,hn,dx.run p1,ab,dx.add,dx.F]
   have hlb:(l++fJ ps[k].length).length=l.length+8:=by simp[bJ]
   rw[hlb,aO (Nat.le_refl _),lP (by omega)]
   simp only[az]
   rw[List.take_of_length_le (by rw[hlb];omega)]
   simp only[List.length_append,bJ,Nat.add_assoc]
 ·right
  obtain rfl:k=ps.length:=by omega
  intro R kn kx
  rw[bP.L0.step,bm (by omega)]
  simp only[ay,bP.L0.add,bP.L0.F,e2,List.drop_length]
  simp[gQ]
theorem sm:∀ps:List (List Int),8*ps.length≤(gQ ps).length
 |[]=>by simp[gQ]
 |p::ps=>by
  rw[tA]
  have:=sm ps
  simp only[List.length_append,bJ,List.length_cons]
  omega
theorem gf(s:ByteArray):(bf s).length=s.size:=by simp only[bf,List.length_map,Array.length_toList];rfl
theorem bP.ok:bP.Ok:=by
 rintro⟨name,ps⟩ hp
 have hp:(fJ (bf name).length++bf name++gQ ps).length≤140737488350000:=hp
 have hl:(fJ (bf name).length++bf name++gQ ps).length=8+(bf name).length+(gQ ps).length:=by simp only[List.length_append,bJ]
 have hpl:=sm ps
 have hsz:((name.size:Nat):Int)=(((bf name).length:Nat):Int):=by rw[gf]
 rw[bP.eq,dV.run (d:=((name.size:Nat):Int)) trivial,hsz]
 simp only[ab,dV.add,dV.F,bJ,Nat.le_refl,decide_true,az]
 rw[lP (by omega),List.take_of_length_le (by rw[bJ];omega)]
 have p2:bP.L0.aB (8+(bf name).length,ps,(ps.length:Int),0,List.replicate 32 0,fJ ((bf name).length:Int)++bf name):=by
  refine⟨by simp only[List.length_append,bJ],rfl,by show ps.length≤_;omega,0,Nat.zero_le _,rfl,?_⟩
  rw[List.drop_zero]
  simp only[List.length_append,bJ]
  omega
 simp only[az,bP.L0.run p2,ab,bP.L0.add,bP.L0.F,Int.toNat_zero,List.drop_zero]
 have hcut:cut (fJ ((bf name).length:Int)++bf name++gQ ps) 0 ((fJ ((bf name).length:Int)++bf name).length+(gQ ps).length)=qf (bf name) ps:=by
  unfold cut
  rw[List.drop_zero,List.take_of_length_le (by simp only[List.length_append];omega)]
  rfl
 have p3:aL.aB (qf (bf name) ps):=hp
 rw[aO ⟨trivial,by simp only[List.length_append];omega⟩,hcut]
 simp only[az,aL.run p3,ab,aL.add,aL.F,bP.add,bP.F,tag]
noncomputable def bP.E:=Entry.ct [some .str,some (.slice tB)] bP.st bP.aB bP.add bP.F bP.out
noncomputable def bP.call:bP.D→Option bP.X:=bG bP.E bP.st
theorem bP.run:bB bP.call bP.aB bP.add bP.F:=cO (cM [.d .str,.d (.slice tB)] fun _=>by kernel_rfl)
noncomputable def bP.sg:SG Tryz.prog:=⟨54,aU,bP.E,.fn 1 (by kernel_rfl) bP.ok (And.intro (.ct bP.L0.ok (by kernel_rfl)) trivial)⟩
set_option synthInstance.maxSize 5000
abbrev cX.D:=Int×Int
def cX.st:cX.D→SA:=fun(x,n)=>([.d (.int .u32) x,.d ti n],[])
abbrev cX.Y:=Int
abbrev cX.X:=Int
def cX.out:cX.X→aY:=fun x=>⟨.d (.int .u32) x,[],[]⟩
def cX.add:cX.D→cX.Y→cX.X:=fun(x,n) y=>y
def cX.aB:cX.D→Prop:=fun(x,n)=>0≤x∧x < 4294967296∧0≤n∧n≤32
def cX.F:cX.D→cX.Y:=fun(x,n)=>vw (jt (BitVec.ofInt 32 x) n.toNat)
noncomputable def cX.G:dR:=eO (P:=Tryz.prog) []
noncomputable def cX.an:eu:= {}
noncomputable def cX.A:= @cI Tryz.prog cX.G cX.an 0 Tryz.f173 _ cX.st
abbrev cX.Ok:=cJ @cX.A cX.aB cX.add cX.F cX.out
theorem cX.eq{R:Type}(x:Int)(n:Int)(k:aY→Option R):cX.A (x,n) k=
 aJ (gD n) (
 aJ (gD (dd .i64 (32:Int) n)) (
 k (cX.out (cl .or .u32 (bI .u32 x n) (gm .u32 x (dd .i64 (32:Int) n))))) none) none:=by kernel_rfl
theorem cX.ok:cX.Ok:=by
 rintro⟨x,n⟩ ⟨h1,h2,h3,h4⟩
 obtain⟨n,rfl⟩:=Int.eq_ofNat_of_zero_le h3
 have hx:x=vw (BitVec.ofInt 32 x):=by rw[fD];have h1:0≤x:=h1;have h2:x < 4294967296:=h2;omega
 have h4:(n:Int)≤32:=h4
 rw[cX.eq]
 simp(disch:=omega) only[↓S1,↓if_pos,↓if_neg,if_pos,if_neg,if_true,if_false,S2]
 have e2:cl .or .u32 (bI .u32 x (n:Int)) (gm .u32 x ((32 - n:Nat):Int))=vw (jt (BitVec.ofInt 32 x) n):=by
  conv=>lhs;rw[hx]
  rw[oV,m9,g7]
  simp only[jt,Int.toNat_natCast]
  rw[BitVec.or_comm]
 rw[e2]
 rfl
noncomputable def cX.E:=Entry.ct [some (.int .u32),some ti] cX.st cX.aB cX.add cX.F cX.out
noncomputable def cX.call:cX.D→Option cX.X:=bG cX.E cX.st
theorem cX.run:bB cX.call cX.aB cX.add cX.F:=cO (cM [.d (.int .u32),.d ti] fun _=>by kernel_rfl)
noncomputable def cX.sg:SG Tryz.prog:=⟨173,aU,cX.E,.fn 0 (by kernel_rfl) cX.ok trivial⟩
theorem cX.at(w:W){k:Int}(h:0≤k∧k≤32):cX.call (vw w,k)=some (vw (jt w k.toNat)):=by
 have h:cX.aB (vw w,k):=⟨qh w,by have:=Bl w;simpa using this,h.1,h.2⟩
 rw[cX.run h]
 show some (vw (jt (BitVec.ofInt 32 (vw w)) k.toNat))=_
 rw[jd]
abbrev cm.D:=Unit
def cm.st:cm.D→SA:=fun _=>([],[])
abbrev cm.Y:=(List Int)
abbrev cm.X:=(List Int)
def cm.out:cm.X→aY:=fun x=>⟨.d (.slice (.int .u32)) x,[],[]⟩
def cm.add:cm.D→cm.Y→cm.X:=fun _ y=>y
def cm.aB:cm.D→Prop:=fun _=>True
def cm.F:cm.D→cm.Y:=fun _=>iE.l
noncomputable def cm.G:dR:=eO (P:=Tryz.prog) []
noncomputable def cm.an:eu:= {bH:=[1],res:=[some (.slice (.int .u32))]}
noncomputable def cm.A:= @cI Tryz.prog cm.G cm.an 0 Tryz.f155 _ cm.st
abbrev cm.Ok:=cJ @cm.A cm.aB cm.add cm.F cm.out
theorem cm.eq{R:Type}(k:aY→Option R):cm.A () k=
 k (cm.out [(1779033703:Int),(3144134277:Int),(1013904242:Int),(2773480762:Int),(1359893119:Int),(2600822924:Int),(528734635:Int),(1541459225:Int)]):=by kernel_rfl
theorem cm.ok:cm.Ok:=by
 intro d _
 rw[cm.eq]
 rfl
noncomputable def cm.E:=Entry.ct [] cm.st cm.aB cm.add cm.F cm.out
noncomputable def cm.call:cm.D→Option cm.X:=bG cm.E cm.st
theorem cm.run:bB cm.call cm.aB cm.add cm.F:=cO (cM [] fun _=>by kernel_rfl)
noncomputable def cm.sg:SG Tryz.prog:=⟨155,aU,cm.E,.fn 0 (by kernel_rfl) cm.ok trivial⟩
abbrev dW.D:=Unit
def dW.st:dW.D→SA:=fun _=>([],[])
abbrev dW.Y:=(List Int)
abbrev dW.X:=(List Int)
def dW.out:dW.X→aY:=fun x=>⟨.d (.slice (.int .u32)) x,[],[]⟩
def dW.add:dW.D→dW.Y→dW.X:=fun _ y=>y
def dW.aB:dW.D→Prop:=fun _=>True
def dW.F:dW.D→dW.Y:=fun _=>pR
noncomputable def dW.G:dR:=eO (P:=Tryz.prog) []
noncomputable def dW.an:eu:= {bH:=[1],res:=[some (.slice (.int .u32))]}
noncomputable def dW.A:= @cI Tryz.prog dW.G dW.an 0 Tryz.f172 _ dW.st
abbrev dW.Ok:=cJ @dW.A dW.aB dW.add dW.F dW.out
theorem dW.eq{R:Type}(k:aY→Option R):dW.A () k=
 k (dW.out [(1116352408:Int),(1899447441:Int),(3049323471:Int),(3921009573:Int),(961987163:Int),(1508970993:Int),(2453635748:Int),(2870763221:Int),(3624381080:Int),(310598401:Int),(607225278:Int),(1426881987:Int),(1925078388:Int),(2162078206:Int),(2614888103:Int),(3248222580:Int),(3835390401:Int),(4022224774:Int),(264347078:Int),(604807628:Int),(770255983:Int),(1249150122:Int),(1555081692:Int),(1996064986:Int),(2554220882:Int),(2821834349:Int),(2952996808:Int),(3210313671:Int),(3336571891:Int),(3584528711:Int),(113926993:Int),(338241895:Int),(666307205:Int),(773529912:Int),(1294757372:Int),(1396182291:Int),(1695183700:Int),(1986661051:Int),(2177026350:Int),(2456956037:Int),(2730485921:Int),(2820302411:Int),(3259730800:Int),(3345764771:Int),(3516065817:Int),(3600352804:Int),(4094571909:Int),(275423344:Int),(430227734:Int),(506948616:Int),(659060556:Int),(883997877:Int),(958139571:Int),(1322822218:Int),(1537002063:Int),(1747873779:Int),(1955562222:Int),(2024104815:Int),(2227730452:Int),(2361852424:Int),(2428436474:Int),(2756734187:Int),(3204031479:Int),(3329325298:Int)]):=by kernel_rfl
theorem dW.ok:dW.Ok:=by
 intro d _
 rw[dW.eq]
 rfl
noncomputable def dW.E:=Entry.ct [] dW.st dW.aB dW.add dW.F dW.out
noncomputable def dW.call:dW.D→Option dW.X:=bG dW.E dW.st
theorem dW.run:bB dW.call dW.aB dW.add dW.F:=cO (cM [] fun _=>by kernel_rfl)
noncomputable def dW.sg:SG Tryz.prog:=⟨172,aU,dW.E,.fn 0 (by kernel_rfl) dW.ok trivial⟩
abbrev aw.L0.D:=Bs×Nat×(List Int)
def aw.L0.st:aw.L0.D→AS:=fun(b_2,outL,n6)=>⟨([.d tB b_2,.undef,.undef,.cd (.new 6 0) 0 [] 0 0 outL]++ba 31 []),[],(bN 6 ([[.obj 0 false (.vec 5 tb n6)]]++bN 28 []))⟩
abbrev aw.L0.Y0:=Nat×(List Int)
abbrev aw.L0.X0:=(Bs)×(Nat×(List Int))
def aw.L0.bq:aw.L0.X0→Exit×AS:=fun x=>(.exit 0,⟨([.d tB x.1,.undef,.undef,.cd (.new 6 0) 0 [] 0 0 x.2.1]++ba 31 []),[],(bN 6 ([[.obj 0 false (.vec 5 tb x.2.2)]]++bN 28 []))⟩)
abbrev aw.L0.X:=aw.L0.X0
abbrev aw.L0.Y:=aw.L0.Y0
def aw.L0.out:aw.L0.X→Out (Exit×AS):=fun x=> .ok (aw.L0.bq x)
def aw.L0.add:aw.L0.D→aw.L0.Y→aw.L0.X:=fun(b_2,outL,n6) y=>(b_2,y)
abbrev aw.L1.D:=Nat×Int×Int×(List Int)
def aw.L1.st:aw.L1.D→AS:=fun(outL_2,n,kv,n6_2)=>⟨([.undef,.undef,.undef,.cd (.new 6 0) 0 [] 0 0 outL_2,.d tu n,.d ti kv]++ba 29 []),[],(bN 6 ([[.obj 0 false (.vec 5 tb n6_2)]]++bN 28 []))⟩
abbrev aw.L1.Y0:=Nat×(List Int)
abbrev aw.L1.X0:=Nat×(List Int)
def aw.L1.bq:aw.L1.X0→Exit×AS:=fun x=>(.exit 2,⟨([.undef,.undef,.undef,.cd (.new 6 0) 0 [] 0 0 x.1]++ba 31 []),[],(bN 6 ([[.obj 0 false (.vec 5 tb x.2)]]++bN 28 []))⟩)
abbrev aw.L1.X:=aw.L1.X0
abbrev aw.L1.Y:=aw.L1.Y0
def aw.L1.out:aw.L1.X→Out (Exit×AS):=fun x=> .ok (aw.L1.bq x)
def aw.L1.add:aw.L1.D→aw.L1.Y→aw.L1.X:=fun(outL_2,n,kv,n6_2) y=>y
abbrev aw.D:=Bs
def aw.st:aw.D→SA:=fun b=>([.d tB b],[])
abbrev aw.Y:=Bs
abbrev aw.X:=Bs
def aw.out:aw.X→aY:=fun x=>⟨.d tB x,[],[]⟩
def aw.add:aw.D→aw.Y→aw.X:=fun b y=>y
def aw.L0.aB:aw.L0.D→Prop:=fun(b,m,l)=>m=l.length∧l.length+zc l.length≤140737488355328
def aw.L0.F:aw.L0.D→aw.L0.Y:=fun(b,m,l)=>(l.length+zc l.length,l++List.replicate (zc l.length) 0)
def aw.L1.aB:aw.L1.D→Prop:=fun(m,n,kv,l)=>0≤n∧n < 18446744073709551616∧∃j:Nat,j≤8∧kv=56 - 8*(j:Int)∧m=l.length∧l.length≤140737488355320+j
def aw.L1.F:aw.L1.D→aw.L1.Y:=fun(m,n,kv,l)=>(l.length+(fJ n).length - (7 - (kv / 8)).toNat,l++(fJ n).drop (7 - (kv / 8)).toNat)
def aw.aB:aw.D→Prop:=fun b=>b.length≤140737488350000
def aw.F:aw.D→aw.Y:=fun b=>pad b
noncomputable def aw.G:dR:=eO (P:=Tryz.prog) []
noncomputable def aw.L0.E:=bM.ct aw.L0.st aw.L0.aB aw.L0.add aw.L0.F aw.L0.out
noncomputable def aw.L0.call:aw.L0.D→Option aw.L0.X:=dg aw.L0.E aw.L0.st
noncomputable def aw.L1.E:=bM.ct aw.L1.st aw.L1.aB aw.L1.add aw.L1.F aw.L1.out
noncomputable def aw.L1.call:aw.L1.D→Option aw.L1.X:=dg aw.L1.E aw.L1.st
noncomputable def aw.an:eu:= {bH:=[6],loops:=jO [(3,{bh:=[0,3],sites:=[6],iu:=[⟨3,[],6,25⟩]}),(7,{bh:=[3,4,5],sites:=[6],iu:=[⟨3,[],6,25⟩]})],outs:=jN [(3,{bh:=[0,3],sites:=[6]},{bh:=[2]}),(7,{bh:=[3],sites:=[6]},{bh:=[2]})],fF:=ky [(3,aw.L0.E),(7,aw.L1.E)],res:=[some tB]}
noncomputable def aw.A:= @cI Tryz.prog aw.G aw.an 0 Tryz.f154 _ aw.st
abbrev aw.Ok:=cJ @aw.A aw.aB aw.add aw.F aw.out
noncomputable def aw.L0.R:= @cf Tryz.prog aw.G aw.an 0 Tryz.f154 0 _ aw.L0.st
abbrev aw.L0.Ok:=ez Tryz.prog aw.G aw.an 0 Tryz.f154 0 aw.L0.st aw.L0.aB aw.L0.add aw.L0.F aw.L0.out
noncomputable def aw.L1.R:= @cf Tryz.prog aw.G aw.an 0 Tryz.f154 1 _ aw.L1.st
abbrev aw.L1.Ok:=ez Tryz.prog aw.G aw.an 0 Tryz.f154 1 aw.L1.st aw.L1.aB aw.L1.add aw.L1.F aw.L1.out
theorem aw.L0.run:bB aw.L0.call aw.L0.aB aw.L0.add aw.L0.F:=eE (eD [.d tB,.n,.d tB] fun _=>by kernel_rfl)
theorem aw.L0.aH:fP @aw.L0.R aw.L0.st aw.L0.aB aw.L0.add aw.L0.F aw.L0.bq aw.L0.Ok:=fS
theorem aw.L0.step{R:Type}(b_2:Bs)(outL:Nat)(n6:(List Int))(kn:AS→Option R)(kx:Exit→AS→Option R):aw.L0.R (b_2,outL,n6) kn kx=
  aJ ((ku (iT ((outL:Nat):Int) (64:Int)) (56:Int))) (
   aJ (decide (outL≤(List.length n6))) (
   aJ (dh (outL+1) 1) (
   kn (aw.L0.st (b_2,(outL+1),((List.take outL n6)++ [(0:Int)])))) none) none) (
   kx (aw.L0.bq (b_2,(outL,n6))).1 (aw.L0.bq (b_2,(outL,n6))).2):=by kernel_rfl
theorem aw.L1.run:bB aw.L1.call aw.L1.aB aw.L1.add aw.L1.F:=eE (eD [.n,.d tu,.d ti,.d tB] fun _=>by kernel_rfl)
theorem aw.L1.aH:fP @aw.L1.R aw.L1.st aw.L1.aB aw.L1.add aw.L1.F aw.L1.bq aw.L1.Ok:=fS
theorem aw.L1.step{R:Type}(outL_2:Nat)(n:Int)(kv:Int)(n6_2:(List Int))(kn:AS→Option R)(kx:Exit→AS→Option R):aw.L1.R (outL_2,n,kv,n6_2) kn kx=
  aJ ((mZ kv (0:Int))) (
   aJ (gD kv) (
   aJ (decide (outL_2≤(List.length n6_2))) (
   aJ (dh (outL_2+1) 1) (
   kn (aw.L1.st ((outL_2+1),n,(dd .i64 kv (8:Int)),((List.take outL_2 n6_2)++ [(dA .u8 (bI .u64 n kv))])))) none) none) none) (
   kx (aw.L1.bq (outL_2,n6_2)).1 (aw.L1.bq (outL_2,n6_2)).2):=by kernel_rfl
theorem aw.eq{R:Type}(b:Bs)(k:aY→Option R):aw.A b k=
 aJ (dh (0+(List.length b)) 1) (
 aJ (decide ((0+(List.length b))≤(List.length ((List.take 0 (List.replicate 0 (0:Int)))++b)))) (
 aJ (dh ((0+(List.length b))+1) 1) (
 aq (aw.L0.call (b,((0+(List.length b))+1),((List.take (0+(List.length b)) ((List.take 0 (List.replicate 0 (0:Int)))++b))++ [(128:Int)]))) fun x1=>
 aq (aw.L1.call (x1.2.1,(eT .u64 (8:Int) (dA .u64 (((List.length x1.1):Nat):Int))),(56:Int),x1.2.2)) fun x2=>
 aJ (decide (0=0∧(0+x2.1)≤(List.length x2.2))) (
 k (aw.out (cut x2.2 0 x2.1))) none) none) none) none:=by kernel_rfl
theorem aw.L0.ok:aw.L0.Ok:=by
 refine aw.L0.aH (fun(b,m,l)=>zc l.length) ?_
 rintro⟨b,m,l⟩ ⟨rfl,hl⟩
 have hl:l.length+zc l.length≤140737488355328:=hl
 by_cases h:l.length%64=56
 ·right
  intro R kn kx
  have hz:zc l.length=0:=by unfold zc;omega
  rw[aw.L0.step]
  simp(disch:=omega) only[↓S1,↓if_pos,↓if_neg,if_pos,if_neg,if_true,if_false,S2,aw.L0.add,aw.L0.F,hz,Nat.add_zero,List.replicate_zero,List.append_nil]
 ·left
  have hz:zc l.length=zc (l.length+1)+1:=by unfold zc;omega
  refine⟨(b,l.length+1,l++ [0]),⟨by simp,by simp only[List.length_append,List.length_cons,List.length_nil,Nat.zero_add];omega⟩,by simp only[List.length_append,List.length_cons,List.length_nil,Nat.zero_add];omega,?_,fun kn kx=> ?_⟩
  ·simp only[aw.L0.add,aw.L0.F,List.length_append,List.length_cons,List.length_nil,Nat.zero_add,hz,List.append_assoc,List.cons_append,List.nil_append,List.replicate_succ]
   rw[show l.length+1+zc (l.length+1)=l.length+(zc (l.length+1)+1) by omega]
  ·rw[aw.L0.step]
   simp(disch:=omega) only[↓S1,↓if_pos,↓if_neg,if_pos,if_neg,if_true,if_false,S2,List.take_length]
theorem zY(n:Int)(j:Nat)(h:j < 8):(fJ n).drop j=n / 2^(56 - 8*j)%256::(fJ n).drop (j+1):=by
 rcases(by omega:j=0∨j=1∨j=2∨j=3∨j=4∨j=5∨j=6∨j=7) with rfl | rfl | rfl | rfl | rfl | rfl | rfl | rfl <;> simp[fJ]
theorem wT(n:Int)(k:Nat)(h1:k≤64):dA .u8 (bI .u64 n (k:Int))=n / 2^k%256:=by
 rw[rB,fD,bI]
 have e:min (k:Int).toNat IntKind.u64.bits=k:=by simp only[IntKind.bits];omega
 rw[e,Int.fdiv_eq_ediv_of_nonneg _ (Int.le_of_lt (Int.pow_pos (by omega)))]
 rfl
theorem aw.L1.ok:aw.L1.Ok:=by
 refine aw.L1.aH (fun(m,n,kv,l)=>(kv+8).toNat) ?_
 rintro⟨m,n,kv,l⟩ ⟨h1,h2,j,hj,rfl,rfl,hl⟩
 have hl:l.length≤140737488355320+j:=hl
 have e1:(7 - ((56 - 8*(j:Int)) / 8)).toNat=j:=by omega
 by_cases h:j < 8
 ·left
  have e2:dd .i64 (56 - 8*(j:Int)) 8=56 - 8*((j+1:Nat):Int):=by rw[fw (by omega) (by omega)];omega
  have e3:(7 - ((56 - 8*((j+1:Nat):Int)) / 8)).toNat=j+1:=by omega
  have e4:(56 - 8*(j:Int))=((56 - 8*j:Nat):Int):=by omega
  refine⟨(l.length+1,n,56 - 8*((j+1:Nat):Int),l++ [n / 2^(56 - 8*j)%256]),⟨h1,h2,j+1,by omega,rfl,by simp,by simp only[List.length_append,List.length_cons,List.length_nil];omega⟩,by simp only;omega,?_,fun kn kx=> ?_⟩
  ·simp only[aw.L1.add,aw.L1.F,e1,e3,zY n j h,List.length_append,List.length_cons,List.length_nil,List.append_assoc,List.cons_append,List.nil_append,bJ]
   rw[show l.length+(0+1)+8 - (j+1)=l.length+8 - j by omega]
  ·rw[aw.L1.step,e2,e4,wT n _ (by omega)]
   simp(disch:=omega) only[↓S1,↓if_pos,↓if_neg,if_pos,if_neg,if_true,if_false,S2,List.take_length]
 ·right
  obtain rfl:j=8:=by omega
  intro R kn kx
  rw[aw.L1.step]
  simp(disch:=omega) only[↓S1,↓if_pos,↓if_neg,if_pos,if_neg,if_true,if_false,S2,aw.L1.add,aw.L1.F,e1]
  simp[fJ]
theorem aw.ok:aw.Ok:=by
 intro b hb
 have hb:b.length≤140737488350000:=hb
 have hz:zc (b++ [128]).length=kJ b.length:=by
  simp only[List.length_append,List.length_cons,List.length_nil,zc,kJ]
  omega
 have hzb:kJ b.length < 64:=by unfold kJ;omega
 have p1:aw.L0.aB (b,b.length+1,b++ [128]):=⟨by simp,by rw[hz];simp only[List.length_append,List.length_cons,List.length_nil] <;> omega⟩
 have e1:dA .u64 ((b.length:Nat):Int)=((b.length:Nat):Int):=by rw[uk,fD];omega
 have e2:eT .u64 8 ((b.length:Nat):Int)=8*(b.length:Int):=by
  unfold eT;rw[wrap_u64,fD];omega
 have e3:List.take b.length b=b:=List.take_length
 rw[aw.eq]
 simp only[List.replicate_zero,List.take_nil,List.nil_append,Nat.zero_add,e1,e2,e3]
 simp(disch:=omega) only[↓S1,↓if_pos,↓if_neg,if_pos,if_neg,if_true,if_false,S2,aw.L0.run p1,aw.L0.add,aw.L0.F,hz]
 have p2:aw.L1.aB ((b++ [128]).length+kJ b.length,8*(b.length:Int),56,b++ [128]++List.replicate (kJ b.length) 0):=by
  refine⟨by omega,by omega,0,by omega,rfl,by simp only[List.length_append,List.length_cons,List.length_nil,List.length_replicate] <;> omega,?_⟩
  simp only[List.length_append,List.length_cons,List.length_nil,List.length_replicate]
  omega
 simp(disch:=omega) only[↓S1,↓if_pos,↓if_neg,if_pos,if_neg,if_true,if_false,S2,e1,e2,aw.L1.run p2,aw.L1.add,aw.L1.F]
 have e5:(7 - ((56:Int) / 8)).toNat=0:=by decide
 rw[e5,List.drop_zero]
 have e6:(b++ [128]++List.replicate (kJ b.length) 0).length+(fJ (8*(b.length:Int))).length - 0=(b++ [128]++List.replicate (kJ b.length) 0++fJ (8*(b.length:Int))).length:=by rw[@List.length_append _ _ (fJ _)];omega
 rw[e6,if_pos (Nat.le_refl _)]
 unfold cut
 rw[List.drop_zero,List.take_length]
 simp only[aw.add,aw.F,pad,List.append_assoc,List.cons_append,List.nil_append]
noncomputable def aw.E:=Entry.ct [some tB] aw.st aw.aB aw.add aw.F aw.out
noncomputable def aw.call:aw.D→Option aw.X:=bG aw.E aw.st
theorem aw.run:bB aw.call aw.aB aw.add aw.F:=cO (cM [.d tB] fun _=>by kernel_rfl)
noncomputable def aw.sg:SG Tryz.prog:=⟨154,aU,aw.E,.fn 2 (by kernel_rfl) aw.ok (And.intro (.ct aw.L0.ok (by kernel_rfl)) (And.intro (.ct aw.L1.ok (by kernel_rfl)) trivial))⟩
set_option synthInstance.maxSize 5000
abbrev aI.L0.D:=Bs×Nat×Int×(List Int)
def aI.L0.st:aI.L0.D→AS:=fun(b_2,wL,i,n49)=>⟨([.d tB b_2,.undef,.undef,.cd (.new 49 0) 0 [] 0 0 wL,.d ti i]++ba 94 []),[],(bN 49 ([[.obj 0 false (.vec 127 (.int .u32) n49)]]++bN 49 []))⟩
abbrev aI.L0.Y0:=Nat×(List Int)
abbrev aI.L0.X0:=Nat×(List Int)
def aI.L0.bq:aI.L0.X0→Exit×AS:=fun x=>(.exit 0,⟨([.undef,.undef,.undef,.cd (.new 49 0) 0 [] 0 0 x.1]++ba 95 []),[],(bN 49 ([[.obj 0 false (.vec 127 (.int .u32) x.2)]]++bN 49 []))⟩)
abbrev aI.L0.X:=aI.L0.X0
abbrev aI.L0.Y:=aI.L0.Y0
def aI.L0.out:aI.L0.X→Out (Exit×AS):=fun x=> .ok (aI.L0.bq x)
def aI.L0.add:aI.L0.D→aI.L0.Y→aI.L0.X:=fun(b_2,wL,i,n49) y=>y
abbrev aI.L1.D:=Nat×Int×(List Int)
def aI.L1.st:aI.L1.D→AS:=fun(wL_2,i_2,n49_2)=>⟨([.undef,.undef,.undef,.cd (.new 49 0) 0 [] 0 0 wL_2,.undef,.d ti i_2]++ba 93 []),[],(bN 49 ([[.obj 0 false (.vec 127 (.int .u32) n49_2)]]++bN 49 []))⟩
abbrev aI.L1.Y0:=Nat×(List Int)
abbrev aI.L1.X0:=Nat×(List Int)
def aI.L1.bq:aI.L1.X0→Exit×AS:=fun x=>(.exit 2,⟨([.undef,.undef,.undef,.cd (.new 49 0) 0 [] 0 0 x.1]++ba 95 []),[],(bN 49 ([[.obj 0 false (.vec 127 (.int .u32) x.2)]]++bN 49 []))⟩)
abbrev aI.L1.X:=aI.L1.X0
abbrev aI.L1.Y:=aI.L1.Y0
def aI.L1.out:aI.L1.X→Out (Exit×AS):=fun x=> .ok (aI.L1.bq x)
def aI.L1.add:aI.L1.D→aI.L1.Y→aI.L1.X:=fun(wL_2,i_2,n49_2) y=>y
abbrev aI.D:=Bs
def aI.st:aI.D→SA:=fun b=>([.d tB b],[])
abbrev aI.Y:=(List Int)
abbrev aI.X:=(List Int)
def aI.out:aI.X→aY:=fun x=>⟨.d (.slice (.int .u32)) x,[],[]⟩
def aI.add:aI.D→aI.Y→aI.X:=fun b y=>y
def aI.L0.aB:aI.L0.D→Prop:=fun(b,m,i,l)=>64≤b.length∧∃k:Nat,k≤16∧i=k∧k=m∧l=wl ((words b).take k)
def aI.L0.F:aI.L0.D→aI.L0.Y:=fun(b,m,i,l)=>(16,wl (words b))
def aI.L1.aB:aI.L1.D→Prop:=fun(m,i,l)=>∃ws:List W,16≤ws.length∧ws.length≤64∧l=wl ws∧m=ws.length∧i=(ws.length:Nat)
def aI.L1.F:aI.L1.D→aI.L1.Y:=fun(m,i,l)=>(64,wl (Bu (Bj l) (64 - l.length)))
def aI.aB:aI.D→Prop:=fun b=>64≤b.length
def aI.F:aI.D→aI.Y:=fun b=>wl (sched b)
noncomputable def aI.G:dR:=eO (P:=Tryz.prog) [cX.sg]
noncomputable def aI.L0.E:=bM.ct aI.L0.st aI.L0.aB aI.L0.add aI.L0.F aI.L0.out
noncomputable def aI.L0.call:aI.L0.D→Option aI.L0.X:=dg aI.L0.E aI.L0.st
noncomputable def aI.L1.E:=bM.ct aI.L1.st aI.L1.aB aI.L1.add aI.L1.F aI.L1.out
noncomputable def aI.L1.call:aI.L1.D→Option aI.L1.X:=dg aI.L1.E aI.L1.st
noncomputable def aI.an:eu:= {loops:=jO [(3,{bh:=[0,3,4],sites:=[49],iu:=[⟨3,[],49,162⟩]}),(7,{bh:=[3,5],sites:=[49],iu:=[⟨3,[],49,162⟩]})],outs:=jN [(3,{bh:=[3],sites:=[49]},{bh:=[2]}),(7,{bh:=[3],sites:=[49]},{bh:=[2]})],fF:=ky [(3,aI.L0.E),(7,aI.L1.E)],res:=[some (.slice (.int .u32))]}
noncomputable def aI.A:= @cI Tryz.prog aI.G aI.an 0 Tryz.f171 _ aI.st
abbrev aI.Ok:=cJ @aI.A aI.aB aI.add aI.F aI.out
noncomputable def aI.L0.R:= @cf Tryz.prog aI.G aI.an 0 Tryz.f171 0 _ aI.L0.st
abbrev aI.L0.Ok:=ez Tryz.prog aI.G aI.an 0 Tryz.f171 0 aI.L0.st aI.L0.aB aI.L0.add aI.L0.F aI.L0.out
noncomputable def aI.L1.R:= @cf Tryz.prog aI.G aI.an 0 Tryz.f171 1 _ aI.L1.st
abbrev aI.L1.Ok:=ez Tryz.prog aI.G aI.an 0 Tryz.f171 1 aI.L1.st aI.L1.aB aI.L1.add aI.L1.F aI.L1.out
theorem aI.L0.run:bB aI.L0.call aI.L0.aB aI.L0.add aI.L0.F:=eE (eD [.d tB,.n,.d ti,.d (.slice (.int .u32))] fun _=>by kernel_rfl)
theorem aI.L0.aH:fP @aI.L0.R aI.L0.st aI.L0.aB aI.L0.add aI.L0.F aI.L0.bq aI.L0.Ok:=fS
theorem aI.L0.step{R:Type}(b_2:Bs)(wL:Nat)(i:Int)(n49:(List Int))(kn:AS→Option R)(kx:Exit→AS→Option R):aI.L0.R (b_2,wL,i,n49) kn kx=
  aJ ((fY i (16:Int))) (
   aJ (eh (eT .i64 (4:Int) i) (((List.length b_2):Nat):Int)) (
   aJ (eh (bK .i64 (eT .i64 (4:Int) i) (1:Int)) (((List.length b_2):Nat):Int)) (
   aJ (eh (bK .i64 (eT .i64 (4:Int) i) (2:Int)) (((List.length b_2):Nat):Int)) (
   aJ (eh (bK .i64 (eT .i64 (4:Int) i) (3:Int)) (((List.length b_2):Nat):Int)) (
   aJ (decide (wL≤(List.length n49))) (
   aJ (dh (wL+1) 4) (
   kn (aI.L0.st (b_2,(wL+1),(bK .i64 i (1:Int)),((List.take wL n49)++ [(cl .or .u32 (cl .or .u32 (cl .or .u32 (gm .u32 (dA .u32 (nth tb b_2 (Int.toNat (eT .i64 (4:Int) i)))) (24:Int)) (gm .u32 (dA .u32 (nth tb b_2 (Int.toNat (bK .i64 (eT .i64 (4:Int) i) (1:Int))))) (16:Int))) (gm .u32 (dA .u32 (nth tb b_2 (Int.toNat (bK .i64 (eT .i64 (4:Int) i) (2:Int))))) (8:Int))) (dA .u32 (nth tb b_2 (Int.toNat (bK .i64 (eT .i64 (4:Int) i) (3:Int))))))])))) none) none) none) none) none) none) (
   kx (aI.L0.bq (wL,n49)).1 (aI.L0.bq (wL,n49)).2):=by kernel_rfl
theorem aI.L1.run:bB aI.L1.call aI.L1.aB aI.L1.add aI.L1.F:=eE (eD [.n,.d ti,.d (.slice (.int .u32))] fun _=>by kernel_rfl)
theorem aI.L1.aH:fP @aI.L1.R aI.L1.st aI.L1.aB aI.L1.add aI.L1.F aI.L1.bq aI.L1.Ok:=fS
theorem aI.L1.step{R:Type}(wL_2:Nat)(i_2:Int)(n49_2:(List Int))(kn:AS→Option R)(kx:Exit→AS→Option R):aI.L1.R (wL_2,i_2,n49_2) kn kx=
  aJ ((fY i_2 (64:Int))) (
   aJ (eh (dd .i64 i_2 (15:Int)) ((wL_2:Nat):Int)) (
   aJ (decide ((0+(Int.toNat (dd .i64 i_2 (15:Int)))) < (List.length n49_2))) (
   aJ (decide ((((0+(Int.toNat (dd .i64 i_2 (15:Int))))*1)+0)=(0+((Int.toNat (dd .i64 i_2 (15:Int)))*1)))) (
   aJ (eh (dd .i64 i_2 (2:Int)) ((wL_2:Nat):Int)) (
   aJ (decide ((0+(Int.toNat (dd .i64 i_2 (2:Int)))) < (List.length n49_2))) (
   aJ (decide ((((0+(Int.toNat (dd .i64 i_2 (2:Int))))*1)+0)=(0+((Int.toNat (dd .i64 i_2 (2:Int)))*1)))) (
   aq (cX.call ((nth (.int .u32) n49_2 (0+(Int.toNat (dd .i64 i_2 (15:Int))))),(7:Int))) fun x1=>
   aq (cX.call ((nth (.int .u32) n49_2 (0+(Int.toNat (dd .i64 i_2 (15:Int))))),(18:Int))) fun x2=>
   aq (cX.call ((nth (.int .u32) n49_2 (0+(Int.toNat (dd .i64 i_2 (2:Int))))),(17:Int))) fun x3=>
   aq (cX.call ((nth (.int .u32) n49_2 (0+(Int.toNat (dd .i64 i_2 (2:Int))))),(19:Int))) fun x4=>
   aJ (eh (dd .i64 i_2 (16:Int)) ((wL_2:Nat):Int)) (
   aJ (decide ((0+(Int.toNat (dd .i64 i_2 (16:Int)))) < (List.length n49_2))) (
   aJ (decide ((((0+(Int.toNat (dd .i64 i_2 (16:Int))))*1)+0)=(0+((Int.toNat (dd .i64 i_2 (16:Int)))*1)))) (
   aJ (eh (dd .i64 i_2 (7:Int)) ((wL_2:Nat):Int)) (
   aJ (decide ((0+(Int.toNat (dd .i64 i_2 (7:Int)))) < (List.length n49_2))) (
   aJ (decide ((((0+(Int.toNat (dd .i64 i_2 (7:Int))))*1)+0)=(0+((Int.toNat (dd .i64 i_2 (7:Int)))*1)))) (
   aJ (decide (wL_2≤(List.length n49_2))) (
   aJ (dh (wL_2+1) 4) (
   kn (aI.L1.st ((wL_2+1),(bK .i64 i_2 (1:Int)),((List.take wL_2 n49_2)++ [(bK .u32 (bK .u32 (bK .u32 (nth (.int .u32) n49_2 (0+(Int.toNat (dd .i64 i_2 (16:Int))))) (cl .xor .u32 (cl .xor .u32 x1 x2) (bI .u32 (nth (.int .u32) n49_2 (0+(Int.toNat (dd .i64 i_2 (15:Int))))) (3:Int)))) (nth (.int .u32) n49_2 (0+(Int.toNat (dd .i64 i_2 (7:Int)))))) (cl .xor .u32 (cl .xor .u32 x3 x4) (bI .u32 (nth (.int .u32) n49_2 (0+(Int.toNat (dd .i64 i_2 (2:Int))))) (10:Int))))])))) none) none) none) none) none) none) none) none) none) none) none) none) none) none) (
   kx (aI.L1.bq (wL_2,n49_2)).1 (aI.L1.bq (wL_2,n49_2)).2):=by kernel_rfl
theorem aI.eq{R:Type}(b:Bs)(k:aY→Option R):aI.A b k=
 aq (aI.L0.call (b,0,(0:Int),([]:List Int))) fun x1=>
 aq (aI.L1.call (x1.1,(16:Int),x1.2)) fun x10=>
 aJ (decide (0=0∧(0+x10.1)≤(List.length x10.2))) (
 k (aI.out (cut x10.2 0 x10.1))) none:=by kernel_rfl
theorem kz(ws:List W):(wl ws).length=ws.length:=by simp[wl]
theorem yK(m:List W):∀n,Bu (ext m) n=Bu m (n+1)
 | 0=>rfl
 |n+1=>by rw[Bu,yK m n];rfl
theorem CD(b:List Int)(k:Nat)(h:4*k+3 < b.length):be b k=Dm (nth (.int .u8) b (4*k)) (nth (.int .u8) b (4*k+1)) (nth (.int .u8) b (4*k+2)) (nth (.int .u8) b (4*k+3)):=rfl
theorem aI.L0.ok:aI.L0.Ok:=by
 refine aI.L0.aH (fun(b,m,i,l)=>16 - m) ?_
 rintro⟨b,m,i,l⟩ ⟨hb,k,hk,rfl,rfl,rfl⟩
 have hb:64≤b.length:=hb
 have hl:(wl ((words b).take k)).length=k:=by rw[kz,List.length_take,ea];omega
 by_cases h:k < 16
 ·left
  refine⟨(b,k+1,((k+1:Nat):Int),wl ((words b).take (k+1))),⟨hb,k+1,by omega,rfl,rfl,rfl⟩,by simp only;omega,rfl,fun kn kx=> ?_⟩
  rw[aI.L0.step]
  simp(disch:=omega) only[↓S1,↓if_pos,↓if_neg,if_pos,if_neg,if_true,if_false,S2,hl,List.take_of_length_le (Nat.le_of_eq hl)]
  rw[List.take_succ_eq_append_getElem (by rw[ea];exact h)]
  simp only[yf,oV,g7,wl,List.map_append,List.map_cons,List.map_nil]
  have e:(words b)[k]'(by rw[ea];exact h)=be b k:=by simp[words]
  rw[e,CD b k (by omega)]
  rfl
 ·right
  obtain rfl:k=16:=by omega
  intro R kn kx
  rw[aI.L0.step]
  simp(disch:=omega) only[↓S1,↓if_pos,↓if_neg,if_pos,if_neg,if_true,if_false,S2,aI.L0.add,aI.L0.F]
  rw[List.take_of_length_le (by rw[ea];omega)]
theorem aI.L1.ok:aI.L1.Ok:=by
 refine aI.L1.aH (fun(m,i,l)=>64 - m) ?_
 rintro⟨m,i,l⟩ ⟨ws,h1,h2,rfl,rfl,rfl⟩
 have hl:=kz ws
 by_cases h:ws.length < 64
 ·left
  refine⟨(ws.length+1,((ws.length+1:Nat):Int),wl (ext ws)),⟨ext ws,by rw[jn];omega,by rw[jn];omega,rfl,by rw[jn],by rw[jn]⟩,by simp only;omega,?_,fun kn kx=> ?_⟩
  ·simp only[aI.L1.add,aI.L1.F,ml,kz,jn]
   rw[yK,show 64 - (ws.length+1)+1=64 - ws.length by omega]
  ·rw[aI.L1.step]
   simp(disch:=omega) only[↓S1,↓if_pos,↓if_neg,if_pos,if_neg,if_true,if_false,S2,hl,Nat.zero_add,Nat.mul_one,Nat.add_zero,qj ws _ (by omega:ws.length - 15 < ws.length),qj ws _ (by omega:ws.length - 2 < ws.length),qj ws _ (by omega:ws.length - 16 < ws.length),qj ws _ (by omega:ws.length - 7 < ws.length),cX.at,g7,m9,lJ,List.take_of_length_le (Nat.le_of_eq hl)]
   unfold ext wl
   rw[List.map_append]
   rfl
 ·right
  have h64:ws.length=64:=by omega
  intro R kn kx
  rw[aI.L1.step]
  simp(disch:=omega) only[↓S1,↓if_pos,↓if_neg,if_pos,if_neg,if_true,if_false,S2,aI.L1.add,aI.L1.F,hl,h64,ml,Nat.sub_self]
  rfl
theorem aI.ok:aI.Ok:=by
 intro b hb
 have p1:aI.L0.aB (b,0,0,[]):=⟨hb,0,by omega,rfl,rfl,rfl⟩
 have p2:aI.L1.aB (16,16,wl (words b)):=⟨words b,by rw[ea];omega,by rw[ea];omega,rfl,by rw[ea],by rw[ea];rfl⟩
 have hs:(sched b).length=64:=by unfold sched;rw[kS,ea]
 rw[aI.eq]
 simp(disch:=omega) only[↓S1,↓if_pos,↓if_neg,if_pos,if_neg,if_true,if_false,S2,aI.L0.run p1,aI.L0.add,aI.L0.F,aI.L1.run p2,aI.L1.add,aI.L1.F,ml,kz,ea,Nat.zero_add,Nat.reduceSub]
 have e:Bu (words b) 48=sched b:=rfl
 rw[e,hs,if_pos (Nat.le_refl _)]
 unfold cut
 rw[List.drop_zero,List.take_of_length_le (by rw[kz];omega)]
 simp only[aI.add,aI.F]
noncomputable def aI.E:=Entry.ct [some tB] aI.st aI.aB aI.add aI.F aI.out
noncomputable def aI.call:aI.D→Option aI.X:=bG aI.E aI.st
theorem aI.run:bB aI.call aI.aB aI.add aI.F:=cO (cM [.d tB] fun _=>by kernel_rfl)
noncomputable def aI.sg:SG Tryz.prog:=⟨171,aU,aI.E,.fn 2 (by kernel_rfl) aI.ok (And.intro (.ct aI.L0.ok (by kernel_rfl)) (And.intro (.ct aI.L1.ok (by kernel_rfl)) trivial))⟩
set_option synthInstance.maxSize 5000
abbrev aG.L0.D:=(List Int)×(List Int)×(List Int)×Nat×Int×(List Int)
def aG.L0.st:aG.L0.D→AS:=fun(h_2,wv,kv,vL,i,n18)=>⟨([.d (.slice (.int .u32)) h_2]++ba 4 ([.d (.slice (.int .u32)) wv,.d (.slice (.int .u32)) kv,.cd (.new 18 0) 0 [] 0 0 vL,.d ti i]++ba 146 [])),[],(bN 18 ([[.obj 0 false (.vec 127 (.int .u32) n18)]]++bN 136 []))⟩
abbrev aG.L0.Y0:=Nat×(List Int)
abbrev aG.L0.X0:=((List Int))×(Nat×(List Int))
def aG.L0.bq:aG.L0.X0→Exit×AS:=fun x=>(.exit 0,⟨([.d (.slice (.int .u32)) x.1]++ba 6 ([.cd (.new 18 0) 0 [] 0 0 x.2.1]++ba 147 [])),[],(bN 18 ([[.obj 0 false (.vec 127 (.int .u32) x.2.2)]]++bN 136 []))⟩)
abbrev aG.L0.X:=aG.L0.X0
abbrev aG.L0.Y:=aG.L0.Y0
def aG.L0.out:aG.L0.X→Out (Exit×AS):=fun x=> .ok (aG.L0.bq x)
def aG.L0.add:aG.L0.D→aG.L0.Y→aG.L0.X:=fun(h_2,wv,kv,vL,i,n18) y=>(h_2,y)
abbrev aG.L1.D:=(List Int)×Nat×Int×(List Int)
def aG.L1.st:aG.L1.D→AS:=fun(h_3,vL_2,i_2,n18_2)=>⟨([.d (.slice (.int .u32)) h_3]++ba 6 ([.cd (.new 18 0) 0 [] 0 0 vL_2]++ba 6 ([.d ti i_2]++ba 140 []))),[],(bN 18 ([[.obj 0 false (.vec 127 (.int .u32) n18_2)]]++bN 136 []))⟩
abbrev aG.L1.Y0:=(List Int)
abbrev aG.L1.X0:=(Nat)×((List Int))
def aG.L1.bq:aG.L1.X0→Exit×AS:=fun x=>(.exit 2,⟨(ba 7 ([.cd (.new 18 0) 0 [] 0 0 x.1]++ba 147 [])),[],(bN 18 ([[.obj 0 false (.vec 127 (.int .u32) x.2)]]++bN 136 []))⟩)
abbrev aG.L1.X:=aG.L1.X0
abbrev aG.L1.Y:=aG.L1.Y0
def aG.L1.out:aG.L1.X→Out (Exit×AS):=fun x=> .ok (aG.L1.bq x)
def aG.L1.add:aG.L1.D→aG.L1.Y→aG.L1.X:=fun(h_3,vL_2,i_2,n18_2) y=>(vL_2,y)
abbrev aG.D:=(List Int)×Bs
def aG.st:aG.D→SA:=fun(h,b)=>([.d (.slice (.int .u32)) h,.d tB b],[])
abbrev aG.Y:=(List Int)
abbrev aG.X:=(List Int)
def aG.out:aG.X→aY:=fun x=>⟨.d (.slice (.int .u32)) x,[],[]⟩
def aG.add:aG.D→aG.Y→aG.X:=fun(h,b) y=>y
def aG.L0.aB:aG.L0.D→Prop:=fun(h,wv,kv,m,i,l)=>∃(s:St) (ws:List W) (k:Nat),h=s.l∧wv=wl ws∧ws.length=64∧k≤64∧i=k∧kv=pR∧m=8∧l=(rounds ws s k).l
def aG.L0.F:aG.L0.D→aG.L0.Y:=fun(h,wv,kv,m,i,l)=>(8,(rounds (Bj wv) (uO h) 64).l)
def aG.L1.aB:aG.L1.D→Prop:=fun(h,m,i,l)=>h.length=8∧l.length=8∧m=8∧∃k:Nat,k≤8∧i=k
def aG.L1.F:aG.L1.D→aG.L1.Y:=fun(h,m,i,l)=>from_ (fun i x=>bK .u32 x (nth (.int .u32) h i)) i.toNat l
def aG.aB:aG.D→Prop:=fun(h,b)=>(∃s:St,h=s.l)∧64≤b.length
def aG.F:aG.D→aG.Y:=fun(h,b)=>(pU (uO h) b).l
noncomputable def aG.G:dR:=eO (P:=Tryz.prog) [aI.sg,dW.sg,cX.sg]
noncomputable def aG.L0.E:=bM.ct aG.L0.st aG.L0.aB aG.L0.add aG.L0.F aG.L0.out
noncomputable def aG.L0.call:aG.L0.D→Option aG.L0.X:=dg aG.L0.E aG.L0.st
noncomputable def aG.L1.E:=bM.ct aG.L1.st aG.L1.aB aG.L1.add aG.L1.F aG.L1.out
noncomputable def aG.L1.call:aG.L1.D→Option aG.L1.X:=dg aG.L1.E aG.L1.st
noncomputable def aG.an:eu:= {bH:=[18,137],loops:=jO [(5,{bh:=[0,5,6,7,8],sites:=[18,137],iu:=[⟨7,[],18,0⟩]}),(14,{bh:=[0,7,14],sites:=[18]})],outs:=jN [(5,{bh:=[0,7],sites:=[18]},{bh:=[4]}),(14,{bh:=[7],sites:=[18]},{bh:=[4]})],fF:=ky [(5,aG.L0.E),(14,aG.L1.E)],res:=[some (.slice (.int .u32))]}
noncomputable def aG.A:= @cI Tryz.prog aG.G aG.an 0 Tryz.f156 _ aG.st
abbrev aG.Ok:=cJ @aG.A aG.aB aG.add aG.F aG.out
noncomputable def aG.L0.R:= @cf Tryz.prog aG.G aG.an 0 Tryz.f156 0 _ aG.L0.st
abbrev aG.L0.Ok:=ez Tryz.prog aG.G aG.an 0 Tryz.f156 0 aG.L0.st aG.L0.aB aG.L0.add aG.L0.F aG.L0.out
noncomputable def aG.L1.R:= @cf Tryz.prog aG.G aG.an 0 Tryz.f156 1 _ aG.L1.st
abbrev aG.L1.Ok:=ez Tryz.prog aG.G aG.an 0 Tryz.f156 1 aG.L1.st aG.L1.aB aG.L1.add aG.L1.F aG.L1.out
theorem aG.L0.run:bB aG.L0.call aG.L0.aB aG.L0.add aG.L0.F:=eE (eD [.d (.slice (.int .u32)),.d (.slice (.int .u32)),.d (.slice (.int .u32)),.n,.d ti,.d (.slice (.int .u32))] fun _=>by kernel_rfl)
theorem aG.L0.aH:fP @aG.L0.R aG.L0.st aG.L0.aB aG.L0.add aG.L0.F aG.L0.bq aG.L0.Ok:=fS
theorem aG.L0.step{R:Type}(h_2:(List Int))(wv:(List Int))(kv:(List Int))(vL:Nat)(i:Int)(n18:(List Int))(kn:AS→Option R)(kx:Exit→AS→Option R):aG.L0.R (h_2,wv,kv,vL,i,n18) kn kx=
  aJ ((fY i (64:Int))) (
   aJ (eh (4:Int) ((vL:Nat):Int)) (
   aJ (decide (4 < (List.length n18))) (
   aq (cX.call ((nth (.int .u32) n18 4),(6:Int))) fun x1=>
   aJ (eh (4:Int) ((vL:Nat):Int)) (
   aJ (decide (4 < (List.length n18))) (
   aq (cX.call ((nth (.int .u32) n18 4),(11:Int))) fun x2=>
   aJ (eh (4:Int) ((vL:Nat):Int)) (
   aJ (decide (4 < (List.length n18))) (
   aq (cX.call ((nth (.int .u32) n18 4),(25:Int))) fun x3=>
   aJ (eh (4:Int) ((vL:Nat):Int)) (
   aJ (decide (4 < (List.length n18))) (
   aJ (eh (5:Int) ((vL:Nat):Int)) (
   aJ (decide (5 < (List.length n18))) (
   aJ (eh (4:Int) ((vL:Nat):Int)) (
   aJ (decide (4 < (List.length n18))) (
   aJ (eh (6:Int) ((vL:Nat):Int)) (
   aJ (decide (6 < (List.length n18))) (
   aJ (eh (7:Int) ((vL:Nat):Int)) (
   aJ (decide (7 < (List.length n18))) (
   aJ (eh i (((List.length kv):Nat):Int)) (
   aJ (eh i (((List.length wv):Nat):Int)) (
   aJ (eh (0:Int) ((vL:Nat):Int)) (
   aJ (decide (0 < (List.length n18))) (
   aq (cX.call ((nth (.int .u32) n18 0),(2:Int))) fun x4=>
   aJ (eh (0:Int) ((vL:Nat):Int)) (
   aJ (decide (0 < (List.length n18))) (
   aq (cX.call ((nth (.int .u32) n18 0),(13:Int))) fun x5=>
   aJ (eh (0:Int) ((vL:Nat):Int)) (
   aJ (decide (0 < (List.length n18))) (
   aq (cX.call ((nth (.int .u32) n18 0),(22:Int))) fun x6=>
   aJ (eh (0:Int) ((vL:Nat):Int)) (
   aJ (decide (0 < (List.length n18))) (
   aJ (eh (1:Int) ((vL:Nat):Int)) (
   aJ (decide (1 < (List.length n18))) (
   aJ (eh (0:Int) ((vL:Nat):Int)) (
   aJ (decide (0 < (List.length n18))) (
   aJ (eh (2:Int) ((vL:Nat):Int)) (
   aJ (decide (2 < (List.length n18))) (
   aJ (eh (1:Int) ((vL:Nat):Int)) (
   aJ (decide (1 < (List.length n18))) (
   aJ (eh (2:Int) ((vL:Nat):Int)) (
   aJ (decide (2 < (List.length n18))) (
   aJ (eh (0:Int) ((vL:Nat):Int)) (
   aJ (decide (0 < (List.length n18))) (
   aJ (eh (1:Int) ((vL:Nat):Int)) (
   aJ (decide (1 < (List.length n18))) (
   aJ (eh (2:Int) ((vL:Nat):Int)) (
   aJ (decide (2 < (List.length n18))) (
   aJ (eh (3:Int) ((vL:Nat):Int)) (
   aJ (decide (3 < (List.length n18))) (
   aJ (eh (4:Int) ((vL:Nat):Int)) (
   aJ (decide (4 < (List.length n18))) (
   aJ (eh (5:Int) ((vL:Nat):Int)) (
   aJ (decide (5 < (List.length n18))) (
   aJ (eh (6:Int) ((vL:Nat):Int)) (
   aJ (decide (6 < (List.length n18))) (
   kn (aG.L0.st (h_2,wv,kv,8,(bK .i64 i (1:Int)),[(bK .u32 (bK .u32 (bK .u32 (bK .u32 (bK .u32 (bK .u32 (nth (.int .u32) n18 7) (cl .xor .u32 (cl .xor .u32 x1 x2) x3)) (cl .xor .u32 (cl .and .u32 (nth (.int .u32) n18 4) (nth (.int .u32) n18 5)) (cl .and .u32 (BP .u32 (nth (.int .u32) n18 4)) (nth (.int .u32) n18 6)))) (nth (.int .u32) kv (Int.toNat i))) (nth (.int .u32) wv (Int.toNat i))) (cl .xor .u32 (cl .xor .u32 x4 x5) x6)) (cl .xor .u32 (cl .xor .u32 (cl .and .u32 (nth (.int .u32) n18 0) (nth (.int .u32) n18 1)) (cl .and .u32 (nth (.int .u32) n18 0) (nth (.int .u32) n18 2))) (cl .and .u32 (nth (.int .u32) n18 1) (nth (.int .u32) n18 2)))),(nth (.int .u32) n18 0),(nth (.int .u32) n18 1),(nth (.int .u32) n18 2),(bK .u32 (nth (.int .u32) n18 3) (bK .u32 (bK .u32 (bK .u32 (bK .u32 (nth (.int .u32) n18 7) (cl .xor .u32 (cl .xor .u32 x1 x2) x3)) (cl .xor .u32 (cl .and .u32 (nth (.int .u32) n18 4) (nth (.int .u32) n18 5)) (cl .and .u32 (BP .u32 (nth (.int .u32) n18 4)) (nth (.int .u32) n18 6)))) (nth (.int .u32) kv (Int.toNat i))) (nth (.int .u32) wv (Int.toNat i)))),(nth (.int .u32) n18 4),(nth (.int .u32) n18 5),(nth (.int .u32) n18 6)]))) none) none) none) none) none) none) none) none) none) none) none) none) none) none) none) none) none) none) none) none) none) none) none) none) none) none) none) none) none) none) none) none) none) none) none) none) none) none) none) none) none) none) none) none) none) none) none) none) none) none) (
   kx (aG.L0.bq (h_2,(vL,n18))).1 (aG.L0.bq (h_2,(vL,n18))).2):=by kernel_rfl
theorem aG.L1.run:bB aG.L1.call aG.L1.aB aG.L1.add aG.L1.F:=eE (eD [.d (.slice (.int .u32)),.n,.d ti,.d (.slice (.int .u32))] fun _=>by kernel_rfl)
theorem aG.L1.aH:fP @aG.L1.R aG.L1.st aG.L1.aB aG.L1.add aG.L1.F aG.L1.bq aG.L1.Ok:=fS
theorem aG.L1.step{R:Type}(h_3:(List Int))(vL_2:Nat)(i_2:Int)(n18_2:(List Int))(kn:AS→Option R)(kx:Exit→AS→Option R):aG.L1.R (h_3,vL_2,i_2,n18_2) kn kx=
  aJ ((fY i_2 (8:Int))) (
   aJ (eh i_2 ((vL_2:Nat):Int)) (
   aJ (decide ((0+(Int.toNat i_2)) < (List.length n18_2))) (
   aJ (decide ((((0+(Int.toNat i_2))*1)+0)=(0+((Int.toNat i_2)*1)))) (
   aJ (eh i_2 (((List.length h_3):Nat):Int)) (
   aJ (eh i_2 ((vL_2:Nat):Int)) (
   aJ (decide ((0+(Int.toNat i_2)) < (List.length n18_2))) (
   aJ (decide ((((0+(Int.toNat i_2))*1)+0)=(0+((Int.toNat i_2)*1)))) (
   aJ (decide ((0+(Int.toNat i_2)) < (List.length n18_2))) (
   kn (aG.L1.st (h_3,vL_2,(bK .i64 i_2 (1:Int)),(List.set n18_2 (0+(Int.toNat i_2)) (bK .u32 (nth (.int .u32) n18_2 (0+(Int.toNat i_2))) (nth (.int .u32) h_3 (Int.toNat i_2))))))) none) none) none) none) none) none) none) none) (
   kx (aG.L1.bq (vL_2,n18_2)).1 (aG.L1.bq (vL_2,n18_2)).2):=by kernel_rfl
theorem aG.eq{R:Type}(h:(List Int))(b:Bs)(k:aY→Option R):aG.A (h,b) k=
 aq (aI.call b) fun x1=>
 aq (dW.call ()) fun x2=>
 aJ (dh (0+(List.length h)) 4) (
 aq (aG.L0.call (h,x1,x2,(0+(List.length h)),(0:Int),((List.take 0 (List.replicate 0 (0:Int)))++h))) fun x15=>
 aq (aG.L1.call (x15.1,x15.2.1,(0:Int),x15.2.2)) fun x16=>
 aJ (decide (0=0∧(0+x16.1)≤(List.length x16.2))) (
 k (aG.out (cut x16.2 0 x16.1))) none) none:=by kernel_rfl
theorem Ax(w:W):BP .u32 (vw w)=vw (~~~w):=by
 have e:(if IntKind.u32.signed then -1 else IntKind.u32.max:Int)=vw (BitVec.allOnes 32):=rfl
 unfold BP
 rw[e,g7]
 simp only[BitVec.allOnes_xor]
theorem Dp(e f g:W):(e &&& f)^^^(~~~e &&& g)=g^^^(e &&& (f^^^g)):=by
 ext i hi
 simp only[BitVec.getElem_xor,BitVec.getElem_and,BitVec.getElem_not]
 cases e[i] <;> cases f[i] <;> cases g[i] <;> rfl
theorem CS(a b c:W):(a &&& b)^^^(a &&& c)^^^(b &&& c)=(a &&& b) ||| (c &&& (a ||| b)):=by
 ext i hi
 simp only[BitVec.getElem_xor,BitVec.getElem_and,BitVec.getElem_or]
 cases a[i] <;> cases b[i] <;> cases c[i] <;> rfl
theorem aG.L0.ok:aG.L0.Ok:=by
 refine aG.L0.aH (fun(h,wv,kv,m,i,l)=>64 - i.toNat) ?_
 rintro⟨h,wv,kv,m,i,l⟩ ⟨s,ws,k,rfl,rfl,hw,hk,rfl,rfl,rfl,rfl⟩
 by_cases hlt:k < 64
 ·left
  refine⟨(s.l,wl ws,pR,8,((k+1:Nat):Int),(rounds ws s (k+1)).l),⟨s,ws,k+1,rfl,rfl,hw,by omega,rfl,rfl,rfl,rfl⟩,by simp only;omega,rfl,fun kn kx=> ?_⟩
  rw[aG.L0.step]
  generalize hv:rounds ws s k=v
  have t1:∀w:W,cX.call (vw w,6)=some (vw (jt w 6)):=fun w=>cX.at w (by omega)
  have t2:∀w:W,cX.call (vw w,11)=some (vw (jt w 11)):=fun w=>cX.at w (by omega)
  have t3:∀w:W,cX.call (vw w,25)=some (vw (jt w 25)):=fun w=>cX.at w (by omega)
  have t4:∀w:W,cX.call (vw w,2)=some (vw (jt w 2)):=fun w=>cX.at w (by omega)
  have t5:∀w:W,cX.call (vw w,13)=some (vw (jt w 13)):=fun w=>cX.at w (by omega)
  have t6:∀w:W,cX.call (vw w,22)=some (vw (jt w 22)):=fun w=>cX.at w (by omega)
  rw[n0,n1,n2,n3,n4,n5,n6,n7,t1,ab,t2,ab,t3,ab,t4,ab,t5,ab,t6,ab]
  simp(disch:=omega) only[↓S1,↓if_pos,↓if_neg,if_pos,if_neg,if_true,if_false,S2,St.vM,qn,kz,hw,vK k hlt,qj ws k (by omega),g7,lJ,Ax,Dp,CS]
  show kn _=kn (aG.L0.st (s.l,wl ws,pR,8,((k+1:Nat):Int),(Ew (rounds ws s k) (kw k) (ws.getD k 0)).l))
  rw[hv]
  rfl
 ·right
  obtain rfl:k=64:=by omega
  intro R kn kx
  rw[aG.L0.step]
  simp(disch:=omega) only[↓S1,↓if_pos,↓if_neg,if_pos,if_neg,if_true,if_false,S2,aG.L0.add,aG.L0.F,ml,gN]
theorem aG.L1.ok:aG.L1.Ok:=by
 refine aG.L1.aH (fun(h,m,i,l)=>8 - i.toNat) ?_
 rintro⟨h,m,i,l⟩ ⟨hh,hl,rfl,k,hk,rfl⟩
 have hl:l.length=8:=hl
 have hh:h.length=8:=hh
 by_cases hlt:k < 8
 ·left
  have hn:nth (.int .u32) l k=l[k]:=cw (t:= .int .u32) (by omega)
  refine⟨(h,8,((k+1:Nat):Int),l.set k (bK .u32 l[k] (nth (.int .u32) h k))),⟨hh,by simpa using hl,rfl,k+1,by omega,rfl⟩,by simp only;omega,?_,fun kn kx=> ?_⟩
  ·simp only[aG.L1.add,aG.L1.F,Int.toNat_natCast]
   rw[nC (fun i x=>bK .u32 x (nth (.int .u32) h i)) l k (by omega)]
  ·rw[aG.L1.step]
   simp(disch:=omega) only[↓S1,↓if_pos,↓if_neg,if_pos,if_neg,if_true,if_false,S2,hl,hh,Nat.zero_add,Nat.mul_one,Nat.add_zero,hn]
 ·right
  obtain rfl:k=8:=by omega
  intro R kn kx
  rw[aG.L1.step]
  simp(disch:=omega) only[↓S1,↓if_pos,↓if_neg,if_pos,if_neg,if_true,if_false,S2,aG.L1.add,aG.L1.F]
  rw[oS _ _ _ (by omega)]
theorem CT(s:St)(b:List Int):from_ (fun i x=>bK .u32 x (nth (.int .u32) s.l i)) 0 (rounds (sched b) s 64).l=(pU s b).l:=by
 unfold pU
 generalize rounds (sched b) s 64=v
 obtain⟨a1,b1,c1,d1,f1,g1,h1,i1⟩:=v
 simp only[St.l,from_,List.mapIdx_cons,List.mapIdx_nil,Nat.not_lt_zero,if_false,Nat.zero_add,Nat.reduceAdd]
 simp only[nth,List.getD_cons_zero,List.getD_cons_succ,lJ]
theorem aG.ok:aG.Ok:=by
 rintro⟨h,b⟩ ⟨⟨s,rfl⟩,hb⟩
 have p0:aI.aB b:=hb
 have hsl:(sched b).length=64:=by unfold sched;rw[kS,ea]
 have p1:aG.L0.aB (s.l,wl (sched b),pR,8,0,s.l):=⟨s,sched b,0,rfl,rfl,hsl,by omega,rfl,rfl,rfl,rfl⟩
 have p2:aG.L1.aB (s.l,8,0,(rounds (sched b) s 64).l):=⟨rfl,rfl,rfl,0,by omega,rfl⟩
 have e0:0+s.l.length=8:=rfl
 have e1:List.take 0 (List.replicate 0 (0:Int))++s.l=s.l:=rfl
 rw[aG.eq]
 simp(disch:=omega) only[↓S1,↓if_pos,↓if_neg,if_pos,if_neg,if_true,if_false,S2,aI.run p0,aI.add,aI.F,dW.run (d:=()) trivial,dW.add,dW.F,e0,e1,aG.L0.run p1,aG.L0.add,aG.L0.F,ml,gN,aG.L1.run p2,aG.L1.add,aG.L1.F,Int.toNat_zero,CT]
 have e2:(pU s b).l.length=8:=rfl
 have e3:cut (pU s b).l 0 8=(pU s b).l:=rfl
 simp only[e2,Nat.zero_add,Nat.le_refl,if_true,e3,aG.add,aG.F,gN]
noncomputable def aG.E:=Entry.ct [some (.slice (.int .u32)),some tB] aG.st aG.aB aG.add aG.F aG.out
noncomputable def aG.call:aG.D→Option aG.X:=bG aG.E aG.st
theorem aG.run:bB aG.call aG.aB aG.add aG.F:=cO (cM [.d (.slice (.int .u32)),.d tB] fun _=>by kernel_rfl)
noncomputable def aG.sg:SG Tryz.prog:=⟨156,aU,aG.E,.fn 2 (by kernel_rfl) aG.ok (And.intro (.ct aG.L0.ok (by kernel_rfl)) (And.intro (.ct aG.L1.ok (by kernel_rfl)) trivial))⟩
set_option synthInstance.maxSize 5000
abbrev bu.L0.D:=Bs×(List Int)×Int×Bs
def bu.L0.st:bu.L0.D→AS:=fun(p,h,i,n2)=>⟨([.undef,.undef,.ptr (.new 2 0) 0 [] 0,.d tB p,.d (.slice (.int .u32)) h,.d ti i]++ba 36 []),[],([[],[],[.obj 0 false (.d tH n2)]]++bN 39 [])⟩
abbrev bu.L0.Y0:=(List Int)
abbrev bu.L0.X0:=(Bs)×((List Int))
def bu.L0.bq:bu.L0.X0→Exit×AS:=fun x=>(.exit 0,⟨([.undef,.undef,.ptr (.new 2 0) 0 [] 0,.undef,.d (.slice (.int .u32)) x.2]++ba 37 []),[],([[],[],[.obj 0 false (.d tH x.1)]]++bN 39 [])⟩)
abbrev bu.L0.X:=bu.L0.X0
abbrev bu.L0.Y:=bu.L0.Y0
def bu.L0.out:bu.L0.X→Out (Exit×AS):=fun x=> .ok (bu.L0.bq x)
def bu.L0.add:bu.L0.D→bu.L0.Y→bu.L0.X:=fun(p,h,i,n2) y=>(n2,y)
abbrev bu.L1.D:=(List Int)×Int×Bs×Bs
def bu.L1.st:bu.L1.D→AS:=fun(h_2,i_2,n2_2,n6)=>⟨([.undef,.undef,.ptr (.new 2 0) 0 [] 0,.undef,.d (.slice (.int .u32)) h_2,.undef,.ptr (.new 6 0) 0 [] 0,.d ti i_2]++ba 34 []),[],([[],[],[.obj 0 false (.d tH n2_2)],[],[],[],[.obj 0 false (.d tH n6)]]++bN 35 [])⟩
abbrev bu.L1.Y0:=Bs
abbrev bu.L1.X0:=(Bs)×(Bs)
def bu.L1.bq:bu.L1.X0→Exit×AS:=fun x=>(.exit 2,⟨([.undef,.undef,.ptr (.new 2 0) 0 [] 0,.undef,.undef,.undef,.ptr (.new 6 0) 0 [] 0]++ba 35 []),[],([[],[],[.obj 0 false (.d tH x.1)],[],[],[],[.obj 0 false (.d tH x.2)]]++bN 35 [])⟩)
abbrev bu.L1.X:=bu.L1.X0
abbrev bu.L1.Y:=bu.L1.Y0
def bu.L1.out:bu.L1.X→Out (Exit×AS):=fun x=> .ok (bu.L1.bq x)
def bu.L1.add:bu.L1.D→bu.L1.Y→bu.L1.X:=fun(h_2,i_2,n2_2,n6) y=>(n2_2,y)
abbrev bu.D:=Bs
def bu.st:bu.D→SA:=fun b=>([.d tB b],[])
abbrev bu.Y:=Bs
abbrev bu.X:=Bs
def bu.out:bu.X→aY:=fun x=>⟨.d tH x,[],[]⟩
def bu.add:bu.D→bu.Y→bu.X:=fun b y=>y
def bu.L0.aB:bu.L0.D→Prop:=fun(p,h,i,n2)=>p.length%64=0∧p.length≤140737488355328∧∃(s:St) (k:Nat),h=s.l∧i=((64*k:Nat):Int)∧64*k≤p.length
def bu.L0.F:bu.L0.D→bu.L0.Y:=fun(p,h,i,n2)=>(blocks (uO h) (p.drop i.toNat)).l
def bu.L1.aB:bu.L1.D→Prop:=fun(h,i,n2,l)=>h.length=8∧l.length=32∧∃k:Nat,k≤32∧i=k
def bu.L1.F:bu.L1.D→bu.L1.Y:=fun(h,i,n2,l)=>from_ (nQ h) i.toNat l
def bu.aB:bu.D→Prop:=fun b=>b.length≤140737488350000
def bu.F:bu.D→bu.Y:=fun b=>C1 b
noncomputable def bu.G:dR:=eO (P:=Tryz.prog) [aw.sg,cm.sg,aG.sg]
noncomputable def bu.L0.E:=bM.ct bu.L0.st bu.L0.aB bu.L0.add bu.L0.F bu.L0.out
noncomputable def bu.L0.call:bu.L0.D→Option bu.L0.X:=dg bu.L0.E bu.L0.st
noncomputable def bu.L1.E:=bM.ct bu.L1.st bu.L1.aB bu.L1.add bu.L1.F bu.L1.out
noncomputable def bu.L1.call:bu.L1.D→Option bu.L1.X:=dg bu.L1.E bu.L1.st
noncomputable def bu.an:eu:= {loops:=jO [(4,{bh:=[2,3,4,5],sites:=[2]}),(9,{bh:=[2,4,6,7],sites:=[2,6]})],outs:=jN [(4,{bh:=[2,4],sites:=[2]},{bh:=[2]}),(9,{bh:=[2,6],sites:=[2,6]},{bh:=[2]})],fF:=ky [(4,bu.L0.E),(9,bu.L1.E)]}
noncomputable def bu.A:= @cI Tryz.prog bu.G bu.an 0 Tryz.f123 _ bu.st
abbrev bu.Ok:=cJ @bu.A bu.aB bu.add bu.F bu.out
noncomputable def bu.L0.R:= @cf Tryz.prog bu.G bu.an 0 Tryz.f123 0 _ bu.L0.st
abbrev bu.L0.Ok:=ez Tryz.prog bu.G bu.an 0 Tryz.f123 0 bu.L0.st bu.L0.aB bu.L0.add bu.L0.F bu.L0.out
noncomputable def bu.L1.R:= @cf Tryz.prog bu.G bu.an 0 Tryz.f123 1 _ bu.L1.st
abbrev bu.L1.Ok:=ez Tryz.prog bu.G bu.an 0 Tryz.f123 1 bu.L1.st bu.L1.aB bu.L1.add bu.L1.F bu.L1.out
theorem bu.L0.run:bB bu.L0.call bu.L0.aB bu.L0.add bu.L0.F:=eE (eD [.d tB,.d (.slice (.int .u32)),.d ti,.d tB] fun _=>by kernel_rfl)
theorem bu.L0.aH:fP @bu.L0.R bu.L0.st bu.L0.aB bu.L0.add bu.L0.F bu.L0.bq bu.L0.Ok:=fS
theorem bu.L0.step{R:Type}(p:Bs)(h:(List Int))(i:Int)(n2:Bs)(kn:AS→Option R)(kx:Exit→AS→Option R):bu.L0.R (p,h,i,n2) kn kx=
  aJ ((fY i (((List.length p):Nat):Int))) (
   aJ (inc (bK .i64 i (64:Int)) (((List.length p):Nat):Int)) (
   aJ (inc i (((Int.toNat (bK .i64 i (64:Int))):Nat):Int)) (
   aq (aG.call (h,(cut p (Int.toNat i) ((Int.toNat (bK .i64 i (64:Int))) - (Int.toNat i))))) fun x1=>
   kn (bu.L0.st (p,x1,(bK .i64 i (64:Int)),n2))) none) none) (
   kx (bu.L0.bq (n2,h)).1 (bu.L0.bq (n2,h)).2):=by kernel_rfl
theorem bu.L1.run:bB bu.L1.call bu.L1.aB bu.L1.add bu.L1.F:=eE (eD [.d (.slice (.int .u32)),.d ti,.d tB,.d tB] fun _=>by kernel_rfl)
theorem bu.L1.aH:fP @bu.L1.R bu.L1.st bu.L1.aB bu.L1.add bu.L1.F bu.L1.bq bu.L1.Ok:=fS
theorem bu.L1.step{R:Type}(h_2:(List Int))(i_2:Int)(n2_2:Bs)(n6:Bs)(kn:AS→Option R)(kx:Exit→AS→Option R):bu.L1.R (h_2,i_2,n2_2,n6) kn kx=
  aJ ((fY i_2 (32:Int))) (
   aJ (eh (kF .i64 i_2 (4:Int)) (((List.length h_2):Nat):Int)) (
   aJ (gD (dd .i64 (24:Int) (eT .i64 (8:Int) (iT i_2 (4:Int))))) (
   aJ (eh i_2 (32:Int)) (
   aJ (decide ((Int.toNat i_2) < (List.length n6))) (
   aJ (decide ((((Int.toNat i_2)*1)+0)=(0+((Int.toNat i_2)*1)))) (
   aJ (decide ((Int.toNat i_2) < (List.length n6))) (
   kn (bu.L1.st (h_2,(bK .i64 i_2 (1:Int)),n2_2,(List.set n6 (Int.toNat i_2) (dA .u8 (bI .u32 (nth (.int .u32) h_2 (Int.toNat (kF .i64 i_2 (4:Int)))) (dd .i64 (24:Int) (eT .i64 (8:Int) (iT i_2 (4:Int)))))))))) none) none) none) none) none) none) (
   kx (bu.L1.bq (n2_2,n6)).1 (bu.L1.bq (n2_2,n6)).2):=by kernel_rfl
theorem bu.eq{R:Type}(b:Bs)(k:aY→Option R):bu.A b k=
 aq (aw.call b) fun x1=>
 aq (cm.call ()) fun x2=>
 aq (bu.L0.call (x1,x2,(0:Int),(List.replicate 32 (0:Int)))) fun x4=>
 aq (bu.L1.call (x4.2,(0:Int),x4.1,(List.replicate 32 (0:Int)))) fun x5=>
 k (bu.out x5.2):=by kernel_rfl
theorem bu.L0.ok:bu.L0.Ok:=by
 refine bu.L0.aH (fun(p,h,i,n2)=>p.length - i.toNat) ?_
 rintro⟨p,h,i,n2⟩ ⟨hm,hb,s,k,rfl,rfl,hk⟩
 have hm:p.length%64=0:=hm
 have hb:p.length≤140737488355328:=hb
 have hk:64*k≤p.length:=hk
 by_cases hlt:64*k < p.length
 ·left
  have e1:cut p (64*k) (64*k+64 - 64*k)=(p.drop (64*k)).take 64:=by unfold cut;rw[show 64*k+64 - 64*k=64 by omega]
  have e2:(p.drop (64*k)).drop 64=p.drop (64*(k+1)):=by rw[List.drop_drop];congr 1
  have e3:(64*(k+1):Nat)=64*k+64:=by omega
  have p1:aG.aB (s.l,(p.drop (64*k)).take 64):=⟨⟨s,rfl⟩,by simp;omega⟩
  refine⟨(p,(pU s ((p.drop (64*k)).take 64)).l,((64*(k+1):Nat):Int),n2),⟨hm,hb,_,k+1,rfl,rfl,by omega⟩,by simp only[Int.toNat_natCast];omega,?_,fun kn kx=> ?_⟩
  ·simp only[bu.L0.add,bu.L0.F,gN,Int.toNat_natCast]
   rw[mP s (p.drop (64*k)) (by simp;omega),e2]
  ·rw[bu.L0.step]
   simp(disch:=omega) only[↓S1,↓if_pos,↓if_neg,if_pos,if_neg,if_true,if_false,S2,e1,aG.run p1,aG.add,aG.F,gN,e3]
 ·right
  intro R kn kx
  rw[bu.L0.step]
  simp(disch:=omega) only[↓S1,↓if_pos,↓if_neg,if_pos,if_neg,if_true,if_false,S2,bu.L0.add,bu.L0.F,gN]
  rw[lS s _ (by simp;omega)]
theorem bu.L1.ok:bu.L1.Ok:=by
 refine bu.L1.aH (fun(h,i,n2,l)=>32 - i.toNat) ?_
 rintro⟨h,i,n2,l⟩ ⟨h8,hl,k,hk,rfl⟩
 have hl:l.length=32:=hl
 have h8:h.length=8:=h8
 by_cases hlt:k < 32
 ·left
  refine⟨(h,((k+1:Nat):Int),n2,l.set k (nQ h k l[k])),⟨h8,by simpa using hl,k+1,by omega,rfl⟩,by simp only[Int.toNat_natCast];omega,?_,fun kn kx=> ?_⟩
  ·simp only[bu.L1.add,bu.L1.F,Int.toNat_natCast]
   rw[nC (nQ h) l k (by omega)]
  ·rw[bu.L1.step]
   simp(disch:=omega) only[↓S1,↓if_pos,↓if_neg,if_pos,if_neg,if_true,if_false,S2,hl,h8,Nat.mul_one,Nat.add_zero,Nat.zero_add,nQ]
 ·right
  obtain rfl:k=32:=by omega
  intro R kn kx
  rw[bu.L1.step]
  simp(disch:=omega) only[↓S1,↓if_pos,↓if_neg,if_pos,if_neg,if_true,if_false,S2,bu.L1.add,bu.L1.F]
  rw[oS _ _ _ (by omega)]
theorem xx(b:List Int):(pad b).length%64=0∧(pad b).length≤b.length+73:=by
 unfold pad
 simp only[List.length_append,List.length_cons,List.length_replicate,bJ,kJ]
 omega
theorem bu.ok:bu.Ok:=by
 intro b hb
 have hb:b.length≤140737488350000:=hb
 have p1:aw.aB b:=hb
 obtain⟨h1,h2⟩:=xx b
 have p2:bu.L0.aB (pad b,iE.l,0,List.replicate 32 0):=⟨h1,by omega,iE,0,rfl,rfl,by omega⟩
 have p3:bu.L1.aB ((blocks iE (pad b)).l,0,List.replicate 32 0,List.replicate 32 0):=⟨rfl,rfl,0,by omega,rfl⟩
 rw[bu.eq]
 simp(disch:=omega) only[↓S1,↓if_pos,↓if_neg,if_pos,if_neg,if_true,if_false,S2,aw.run p1,aw.add,aw.F,cm.run (d:=()) trivial,cm.add,cm.F,bu.L0.run p2,bu.L0.add,bu.L0.F,gN,Int.toNat_zero,List.drop_zero,bu.L1.run p3,bu.L1.add,bu.L1.F,yt]
 rfl
noncomputable def bu.E:=Entry.ct [some tB] bu.st bu.aB bu.add bu.F bu.out
noncomputable def bu.call:bu.D→Option bu.X:=bG bu.E bu.st
theorem bu.run:bB bu.call bu.aB bu.add bu.F:=cO (cM [.d tB] fun _=>by kernel_rfl)
noncomputable def bu.sg:SG Tryz.prog:=⟨123,aU,bu.E,.fn 2 (by kernel_rfl) bu.ok (And.intro (.ct bu.L0.ok (by kernel_rfl)) (And.intro (.ct bu.L1.ok (by kernel_rfl)) trivial))⟩
abbrev dM.D:=Int
def dM.st:dM.D→SA:=fun n=>([.d tu n],[])
abbrev dM.Y:=Nat×(List Int)
abbrev dM.X:=Nat×(List Int)
def dM.out:dM.X→aY:=fun x=>⟨.cd (.new 0 0) 0 [] 0 0 x.1,[],[.obj 0 false (.vec 5 tb x.2)]⟩
def dM.add:dM.D→dM.Y→dM.X:=fun n y=>y
def dM.aB:dM.D→Prop:=fun n=>0≤n∧n < 18446744073709551616
def dM.F:dM.D→dM.Y:=fun n=>(8,fJ n)
noncomputable def dM.G:dR:=eO (P:=Tryz.prog) []
noncomputable def dM.an:eu:= {loops:=jO [(3,{bh:=[0,3,4],sites:=[15]})],outs:=jN [(3,{bh:=[3],sites:=[15]},{bh:=[2],sites:=[15]})],iu:=[⟨2,[],15,25⟩]}
noncomputable def dM.A:= @cI Tryz.prog dM.G dM.an 10 Tryz.f122 _ dM.st
abbrev dM.Ok:=cJ @dM.A dM.aB dM.add dM.F dM.out
theorem dM.eq{R:Type}(n:Int)(k:aY→Option R):dM.A n k=
 k (dM.out (8,[(dA .u8 (bI .u64 n (56:Int))),(dA .u8 (bI .u64 n (48:Int))),(dA .u8 (bI .u64 n (40:Int))),(dA .u8 (bI .u64 n (32:Int))),(dA .u8 (bI .u64 n (24:Int))),(dA .u8 (bI .u64 n (16:Int))),(dA .u8 (bI .u64 n (8:Int))),(dA .u8 (bI .u64 n (0:Int)))])):=by kernel_rfl
theorem dM.ok:dM.Ok:=by
 intro n _
 have e:∀k:Nat,k≤64→dA .u8 (bI .u64 n (k:Int))=n / 2^k%256:=fun k hk=>wT n k hk
 rw[dM.eq]
 have e56:dA .u8 (bI .u64 n 56)=n / 2^56%256:=e 56 (by omega)
 have e48:dA .u8 (bI .u64 n 48)=n / 2^48%256:=e 48 (by omega)
 have e40:dA .u8 (bI .u64 n 40)=n / 2^40%256:=e 40 (by omega)
 have e32:dA .u8 (bI .u64 n 32)=n / 2^32%256:=e 32 (by omega)
 have e24:dA .u8 (bI .u64 n 24)=n / 2^24%256:=e 24 (by omega)
 have e16:dA .u8 (bI .u64 n 16)=n / 2^16%256:=e 16 (by omega)
 have e8:dA .u8 (bI .u64 n 8)=n / 2^8%256:=e 8 (by omega)
 have e0:=e 0 (by omega)
 rw[e56,e48,e40,e32,e24,e16,e8]
 have e0:dA .u8 (bI .u64 n 0)=n%256:=by rw[show(0:Int)=((0:Nat):Int) from rfl,e0];simp
 rw[e0]
 rfl
noncomputable def dM.E:=Entry.ct [some tu] dM.st dM.aB dM.add dM.F dM.out
noncomputable def dM.call:dM.D→Option dM.X:=bG dM.E dM.st
theorem dM.run:bB dM.call dM.aB dM.add dM.F:=cO (cM [.d tu] fun _=>by kernel_rfl)
noncomputable def dM.sg:SG Tryz.prog:=⟨122,aU,dM.E,.fn 1 (by kernel_rfl) dM.ok (And.intro (.none (by kernel_rfl)) trivial)⟩
abbrev cD.L0.D:=(List Bs)×Nat×Int×Bs×(List Int)
def cD.L0.st:cD.L0.D→AS:=fun(parts_2,bL,i,n4,n11)=>⟨([.undef,.d (.slice tB) parts_2,.undef,.undef,.ptr (.new 4 0) 0 [] 0,.cd (.new 11 0) 0 [] 0 0 bL,.d ti i]++ba 32 []),[],(bN 4 ([[.obj 0 false (.d tH n4)]]++bN 6 ([[.obj 0 false (.vec 5 tb n11)]]++bN 27 [])))⟩
abbrev cD.L0.Y0:=Nat×(List Int)
abbrev cD.L0.X0:=(Bs)×(Nat×(List Int))
def cD.L0.bq:cD.L0.X0→Exit×AS:=fun x=>(.exit 0,⟨(ba 4 ([.ptr (.new 4 0) 0 [] 0,.cd (.new 11 0) 0 [] 0 0 x.2.1]++ba 33 [])),[],(bN 4 ([[.obj 0 false (.d tH x.1)]]++bN 6 ([[.obj 0 false (.vec 5 tb x.2.2)]]++bN 27 [])))⟩)
abbrev cD.L0.X:=cD.L0.X0
abbrev cD.L0.Y:=cD.L0.Y0
def cD.L0.out:cD.L0.X→Out (Exit×AS):=fun x=> .ok (cD.L0.bq x)
def cD.L0.add:cD.L0.D→cD.L0.Y→cD.L0.X:=fun(parts_2,bL,i,n4,n11) y=>(n4,y)
abbrev cD.D:=ByteArray×(List Bs)
def cD.st:cD.D→SA:=fun(name,parts)=>([.d .str name,.d (.slice tB) parts],[])
abbrev cD.Y:=Bs
abbrev cD.X:=Bs
def cD.out:cD.X→aY:=fun x=>⟨.d tH x,[],[]⟩
def cD.add:cD.D→cD.Y→cD.X:=fun(name,parts) y=>y
def cD.L0.aB:cD.L0.D→Prop:=fun(ps,m,i,n4,l)=>m=l.length∧∃k:Nat,k≤ps.length∧ps.length≤140737488350000∧i=k∧l.length+(gQ (ps.drop k)).length≤140737488350000
def cD.L0.F:cD.L0.D→cD.L0.Y:=fun(ps,m,i,n4,l)=>(l.length+(gQ (ps.drop i.toNat)).length,l++gQ (ps.drop i.toNat))
def cD.aB:cD.D→Prop:=fun(name,ps)=>(qf (bf name) ps).length≤140737488350000
def cD.F:cD.D→cD.Y:=fun(name,ps)=>tag (bf name) ps
noncomputable def cD.G:dR:=eO (P:=Tryz.prog) [dM.sg,bu.sg]
noncomputable def cD.L0.E:=bM.ct cD.L0.st cD.L0.aB cD.L0.add cD.L0.F cD.L0.out
noncomputable def cD.L0.call:cD.L0.D→Option cD.L0.X:=dg cD.L0.E cD.L0.st
noncomputable def cD.an:eu:= {loops:=jO [(3,{bh:=[1,4,5,6],sites:=[4,11],iu:=[⟨5,[],11,25⟩]})],outs:=jN [(3,{bh:=[4,5],sites:=[4,11]},{bh:=[4]})],fF:=ky [(3,cD.L0.E)]}
noncomputable def cD.A:= @cI Tryz.prog cD.G cD.an 0 Tryz.f73 _ cD.st
abbrev cD.Ok:=cJ @cD.A cD.aB cD.add cD.F cD.out
noncomputable def cD.L0.R:= @cf Tryz.prog cD.G cD.an 0 Tryz.f73 0 _ cD.L0.st
abbrev cD.L0.Ok:=ez Tryz.prog cD.G cD.an 0 Tryz.f73 0 cD.L0.st cD.L0.aB cD.L0.add cD.L0.F cD.L0.out
theorem cD.L0.run:bB cD.L0.call cD.L0.aB cD.L0.add cD.L0.F:=eE (eD [.d (.slice tB),.n,.d ti,.d tB,.d tB] fun _=>by kernel_rfl)
theorem cD.L0.aH:fP @cD.L0.R cD.L0.st cD.L0.aB cD.L0.add cD.L0.F cD.L0.bq cD.L0.Ok:=fS
theorem cD.L0.step{R:Type}(parts_2:(List Bs))(bL:Nat)(i:Int)(n4:Bs)(n11:(List Int))(kn:AS→Option R)(kx:Exit→AS→Option R):cD.L0.R (parts_2,bL,i,n4,n11) kn kx=
  aJ ((fY i (((List.length parts_2):Nat):Int))) (
   aJ (eh i (((List.length parts_2):Nat):Int)) (
   aq (dM.call (dA .u64 (((List.length (nth tB parts_2 (Int.toNat i))):Nat):Int))) fun x1=>
   aJ (decide (0=0∧(0+x1.1)≤(List.length x1.2))) (
   aJ (decide (bL≤(List.length n11))) (
   aJ (dh (bL+(List.length (cut x1.2 0 x1.1))) 1) (
   aJ (eh i (((List.length parts_2):Nat):Int)) (
   aJ (decide ((bL+(List.length (cut x1.2 0 x1.1)))≤(List.length ((List.take bL n11)++(cut x1.2 0 x1.1))))) (
   aJ (dh ((bL+(List.length (cut x1.2 0 x1.1)))+(List.length (nth tB parts_2 (Int.toNat i)))) 1) (
   kn (cD.L0.st (parts_2,((bL+(List.length (cut x1.2 0 x1.1)))+(List.length (nth tB parts_2 (Int.toNat i)))),(bK .i64 i (1:Int)),n4,((List.take (bL+(List.length (cut x1.2 0 x1.1))) ((List.take bL n11)++(cut x1.2 0 x1.1)))++(nth tB parts_2 (Int.toNat i)))))) none) none) none) none) none) none) none) (
   kx (cD.L0.bq (n4,(bL,n11))).1 (cD.L0.bq (n4,(bL,n11))).2):=by kernel_rfl
theorem cD.eq{R:Type}(name:ByteArray)(parts:(List Bs))(k:aY→Option R):cD.A (name,parts) k=
 aq (dM.call (dA .u64 (((ByteArray.size name):Nat):Int))) fun x1=>
 aJ (decide (x1.1≤(List.length x1.2))) (
 aJ (dh (x1.1+(List.length (bf name))) 1) (
 aq (cD.L0.call (parts,(x1.1+(List.length (bf name))),(0:Int),(List.replicate 32 (0:Int)),((List.take x1.1 x1.2)++(bf name)))) fun x4=>
 aJ (decide (0=0∧(0+x4.2.1)≤(List.length x4.2.2))) (
 aq (bu.call (cut x4.2.2 0 x4.2.1)) fun x5=>
 k (cD.out x5)) none) none) none:=by kernel_rfl
theorem yH{n:Nat}(h:n < 18446744073709551616):dA .u64 ((n:Nat):Int)=n:=by rw[uk,fD];omega
theorem dM.at{n:Nat}(h:n < 18446744073709551616):dM.call (n:Int)=some (8,fJ (n:Int)):=dM.run (d:=(n:Int)) (show 0≤(n:Int)∧(n:Int) < 18446744073709551616 from⟨by omega,by omega⟩)
theorem Dq{l:List Int}{n:Nat}(h:l.length=n):cut l 0 n=l:=by unfold cut;rw[List.drop_zero,List.take_of_length_le (by omega)]
theorem cD.L0.ok:cD.L0.Ok:=by
 refine cD.L0.aH (fun(ps,m,i,n4,l)=>ps.length - i.toNat) ?_
 rintro⟨ps,m,i,n4,l⟩ ⟨rfl,k,hk,hpl,rfl,hl⟩
 have hk:k≤ps.length:=hk
 have hpl:ps.length≤140737488350000:=hpl
 have hl:l.length+(gQ (ps.drop k)).length≤140737488350000:=hl
 by_cases h:k < ps.length
 ·left
  have ht:=tC ps k h
  have hlen:(gQ (ps.drop k)).length=8+ps[k].length+(gQ (ps.drop (k+1))).length:=by rw[ht];simp only[List.length_append,bJ]
  have hn:nth (.slice (.int .u8)) ps k=ps[k]:=cw (t:= .slice (.int .u8)) h
  have hlb:(l++fJ (ps[k].length:Int)).length=l.length+8:=by simp[bJ]
  refine⟨(ps,(l++fJ ps[k].length++ps[k]).length,((k+1:Nat):Int),n4,l++fJ ps[k].length++ps[k]),⟨rfl,k+1,by omega,hpl,rfl,?_⟩,by simp only[Int.toNat_natCast];omega,?_,fun kn kx=> ?_⟩
  ·simp only[List.length_append,bJ];omega
  ·simp only[cD.L0.add,cD.L0.F,Int.toNat_natCast,ht,List.append_assoc]
   simp only[List.length_append,bJ,Nat.add_assoc]
  ·have c8:cut (fJ (ps[k].length:Int)) 0 8=fJ (ps[k].length:Int):=Dq (bJ _)
   have h64:ps[k].length < 18446744073709551616:=by omega
   rw[cD.L0.step]
   simp(disch:=omega) only[↓S1,↓if_pos,↓if_neg,if_pos,if_neg,if_true,if_false,S2,hn,yH h64,dM.at h64,bJ,c8,List.take_length,hlb,Nat.zero_add,Nat.le_refl,and_self,if_true]
   rw[List.take_of_length_le (by rw[hlb];omega)]
   simp only[List.length_append,bJ,Nat.add_assoc]
 ·right
  obtain rfl:k=ps.length:=by omega
  intro R kn kx
  rw[cD.L0.step]
  simp(disch:=omega) only[↓S1,↓if_pos,↓if_neg,if_pos,if_neg,if_true,if_false,S2,cD.L0.add,cD.L0.F,List.drop_length]
  simp[gQ]
theorem cD.ok:cD.Ok:=by
 rintro⟨name,ps⟩ hp
 have hp:(fJ (bf name).length++bf name++gQ ps).length≤140737488350000:=hp
 have hl:(fJ (bf name).length++bf name++gQ ps).length=8+(bf name).length+(gQ ps).length:=by simp only[List.length_append,bJ]
 have hpl:=sm ps
 have hsz:name.size=(bf name).length:=by rw[gf]
 have h64:(bf name).length < 18446744073709551616:=by omega
 have p2:cD.L0.aB (ps,8+(bf name).length,0,List.replicate 32 0,fJ ((bf name).length:Int)++bf name):=by
  refine⟨by simp only[List.length_append,bJ],0,Nat.zero_le _,by omega,rfl,?_⟩
  rw[List.drop_zero]
  simp only[List.length_append,bJ]
  omega
 rw[cD.eq,hsz]
 simp(disch:=omega) only[↓S1,↓if_pos,↓if_neg,if_pos,if_neg,if_true,if_false,S2,yH h64,dM.at h64,bJ,List.take_of_length_le (Nat.le_of_eq (bJ _)),cD.L0.run p2,cD.L0.add,cD.L0.F,Int.toNat_zero,List.drop_zero,Nat.zero_add]
 have hcut:cut (fJ ((bf name).length:Int)++bf name++gQ ps) 0 ((fJ ((bf name).length:Int)++bf name).length+(gQ ps).length)=qf (bf name) ps:=Dq (by simp only[List.length_append])
 have p3:bu.aB (qf (bf name) ps):=hp
 rw[if_pos (by simp only[List.length_append];omega),hcut,bu.run p3]
 rfl
noncomputable def cD.E:=Entry.ct [some .str,some (.slice tB)] cD.st cD.aB cD.add cD.F cD.out
noncomputable def cD.call:cD.D→Option cD.X:=bG cD.E cD.st
theorem cD.run:bB cD.call cD.aB cD.add cD.F:=cO (cM [.d .str,.d (.slice tB)] fun _=>by kernel_rfl)
noncomputable def cD.sg:SG Tryz.prog:=⟨73,aU,cD.E,.fn 1 (by kernel_rfl) cD.ok (And.intro (.ct cD.L0.ok (by kernel_rfl)) trivial)⟩
set_option synthInstance.maxSize 5000
theorem pC{n:Int}(h1:0≤n)(h2:n < 18446744073709551616):IntKind.u64.wrap n=n:=by
 rw[wrap_u64,fD];omega
theorem pB(n:Int):IntKind.u64.wrap n=n%18446744073709551616:=by
 rw[wrap_u64,fD];rfl
theorem kk(x y:Int):bK .u64 x y=(x+y)%18446744073709551616:=pB _
theorem qQ(x y:Int):dd .u64 x y=(x - y)%18446744073709551616:=pB _
theorem km(x y:Int):eT .u64 x y=(x*y)%18446744073709551616:=pB _
theorem Au(x:Int):dA .u64 x=x%18446744073709551616:=pB _
theorem u9{x:Int}(h:0≤x)(h2:x < 18446744073709551616):cl .and .u64 x 4294967295=x%4294967296:=by
 obtain⟨n,rfl⟩:∃n:Nat,x=n:=⟨x.toNat,by omega⟩
 have e:(BitVec.ofInt 64 (n:Int) &&& BitVec.ofInt 64 4294967295).toNat=n%4294967296:=by
  rw[BitVec.toNat_and]
  have a:(BitVec.ofInt 64 (n:Int)).toNat=n:=by rw[BitVec.ofInt_natCast,BitVec.toNat_ofNat];omega
  have b:(BitVec.ofInt 64 4294967295).toNat=2^32 - 1:=by decide
  rw[a,b,Nat.and_two_pow_sub_one_eq_mod]
 show IntKind.u64.wrap ((BitVec.ofInt 64 (n:Int) &&& BitVec.ofInt 64 4294967295).toNat:Int)=_
 rw[e,pC (by omega) (by omega)];omega
theorem Ee{x:Int}(h:0≤x)(h2:x < 18446744073709551616):cl .and .u64 x 1=x%2:=by
 obtain⟨n,rfl⟩:∃n:Nat,x=n:=⟨x.toNat,by omega⟩
 have e:(BitVec.ofInt 64 (n:Int) &&& BitVec.ofInt 64 1).toNat=n%2:=by
  rw[BitVec.toNat_and]
  have a:(BitVec.ofInt 64 (n:Int)).toNat=n:=by rw[BitVec.ofInt_natCast,BitVec.toNat_ofNat];omega
  have b:(BitVec.ofInt 64 1).toNat=2^1 - 1:=by decide
  rw[a,b,Nat.and_two_pow_sub_one_eq_mod]
 show IntKind.u64.wrap ((BitVec.ofInt 64 (n:Int) &&& BitVec.ofInt 64 1).toNat:Int)=_
 rw[e,pC (by omega) (by omega)];omega
theorem jF{x k:Int}(n:Nat)(hk:k=n)(hn:n≤64):bI .u64 x k=x / 2^n:=by
 subst hk
 rw[bI]
 have e:min (Int.toNat (n:Int)) IntKind.u64.bits=n:=by simp only[IntKind.bits];omega
 rw[e,Int.fdiv_eq_ediv_of_nonneg _ (Int.le_of_lt (Int.pow_pos (by omega)))]
theorem jE{x k:Int}(n:Nat)(hk:k=n)(hn:n≤64):gm .u64 x k=x*2^n%18446744073709551616:=by
 subst hk
 rw[gm,pB]
 have e:min (Int.toNat (n:Int)) IntKind.u64.bits=n:=by simp only[IntKind.bits];omega
 rw[e]
theorem pa{x y:Int}(k:Nat)(m:Int)(hm:m=2^k)(hx:x%m=0)(h0:0≤x)(h1:x < 18446744073709551616)(hy:0≤y)(hy2:y < m)(h2:x+y < 18446744073709551616):cl .or .u64 x y=x+y:=by
 subst hm
 obtain⟨n,rfl⟩:∃n:Nat,x=n:=⟨x.toNat,by omega⟩
 obtain⟨j,rfl⟩:∃j:Nat,y=j:=⟨y.toNat,by omega⟩
 have hx:n%2^k=0:=by
  have:((n%2^k:Nat):Int)=0:=by rw[Int.natCast_emod];simpa using hx
  omega
 have hj:j < 2^k:=by
  have:((j:Nat):Int) < ((2^k:Nat):Int):=by simpa using hy2
  omega
 obtain⟨q,rfl⟩:∃q,n=2^k*q:=⟨n / 2^k,by have:=Nat.div_add_mod n (2^k);omega⟩
 have e:(BitVec.ofInt 64 ((2^k*q:Nat):Int) ||| BitVec.ofInt 64 (j:Int)).toNat=2^k*q+j:=by
  rw[BitVec.toNat_or]
  have a:(BitVec.ofInt 64 ((2^k*q:Nat):Int)).toNat=2^k*q:=by rw[BitVec.ofInt_natCast,BitVec.toNat_ofNat];exact Nat.mod_eq_of_lt (by omega)
  have b:(BitVec.ofInt 64 (j:Int)).toNat=j:=by rw[BitVec.ofInt_natCast,BitVec.toNat_ofNat];exact Nat.mod_eq_of_lt (by omega)
  rw[a,b,Nat.two_pow_add_eq_or_of_lt hj]
 show IntKind.u64.wrap ((BitVec.ofInt 64 ((2^k*q:Nat):Int) ||| BitVec.ofInt 64 (j:Int)).toNat:Int)=_
 rw[e,pC (by omega) (by omega)];omega
theorem yi{x y:Int}(h:0≤x)(h1:0≤y)(h2:x < 18446744073709551616):kF .u64 x y=x / y:=by
 rw[kF,Int.tdiv_eq_ediv_of_nonneg h]
 exact pC (Int.ediv_nonneg h h1) (Int.lt_of_le_of_lt (Int.ediv_le_self _ h) h2)
theorem nE{x y:Int}(h:0≤x):iT x y=x%y:=by rw[iT,Int.tmod_eq_emod_of_nonneg h]
theorem k1{e u w r q:Int}(he:e=42260∨e=42264∨e=42272)(hu:0≤u)(hu2:u < 18446744073709551616 - e)(hw:0≤w)(hw2:w < 4294967296)(hr:0≤r)(hr2:r < 4294967296)
  (hq:q*4294967295+r=u) (hQ:(u*4294967296+w) / (18446744073709551616 - e)≤q):
  (4294967296≤q→(u*4294967296+w) / (18446744073709551616 - e)≤q - 1)∧
  (q < 4294967296→4294967296*r+w < q*(4294967296 - e)→(u*4294967296+w) / (18446744073709551616 - e)≤q - 1)∧
  (q < 4294967296→q*(4294967296 - e)≤4294967296*r+w→(u*4294967296+w) / (18446744073709551616 - e)=q)∧
  (4294967296≤r+4294967295→(u*4294967296+w) / (18446744073709551616 - e)≤q - 1→(u*4294967296+w) / (18446744073709551616 - e)=q - 1)∧0≤(u*4294967296+w) / (18446744073709551616 - e)∧q≤4294967297:=by
 rcases he with rfl | rfl | rfl
 ·refine⟨?_,?_,?_,?_,?_,?_⟩ <;> omega
 ·refine⟨?_,?_,?_,?_,?_,?_⟩ <;> omega
 ·refine⟨?_,?_,?_,?_,?_,?_⟩ <;> omega
theorem k0{e u w:Int}(he:e=42260∨e=42264∨e=42272)(hu:0≤u)(hu2:u < 18446744073709551616 - e)(hw:0≤w)(hw2:w < 4294967296):
  (u*4294967296+w) / (18446744073709551616 - e)≤u / 4294967295∧0≤u - u / 4294967295*4294967295∧u - u / 4294967295*4294967295 < 4294967296∧
  (u*4294967296+w) - (u*4294967296+w) / (18446744073709551616 - e)*(18446744073709551616 - e)=(u*4294967296+w)%(18446744073709551616 - e)∧
  0≤(u*4294967296+w)%(18446744073709551616 - e)∧(u*4294967296+w)%(18446744073709551616 - e) < 18446744073709551616 - e∧
  0≤(u*4294967296+w) / (18446744073709551616 - e)∧(u*4294967296+w) / (18446744073709551616 - e) < 4294967296:=by
 rcases he with rfl | rfl | rfl
 ·refine⟨?_,?_,?_,?_,?_,?_,?_,?_⟩ <;> omega
 ·refine⟨?_,?_,?_,?_,?_,?_,?_,?_⟩ <;> omega
 ·refine⟨?_,?_,?_,?_,?_,?_,?_,?_⟩ <;> omega
theorem kd(Y u w1 w0:Int)(hY:0 < Y)(h0:0≤w0)(h1:w0 < 4294967296):
  ((u*4294967296+w1)*4294967296+w0) / Y=(u*4294967296+w1) / Y*4294967296+((u*4294967296+w1)%Y*4294967296+w0) / Y∧
  ((u*4294967296+w1)*4294967296+w0)%Y=((u*4294967296+w1)%Y*4294967296+w0)%Y:=by
 generalize u*4294967296+w1=n
 have e:n*4294967296+w0=(n%Y*4294967296+w0)+Y*(n / Y*4294967296):=by
  have:=Int.emod_add_mul_ediv n Y
  have h:Y*(n / Y*4294967296)=(Y*(n / Y))*4294967296:=by rw[Int.mul_assoc]
  rw[h];omega
 rw[e,Int.add_mul_ediv_left _ _ (by omega),Int.add_mul_emod_self_left]
 exact⟨by omega,rfl⟩
abbrev dF.D:=Int
def dF.st:dF.D→SA:=fun x=>([.d tu x],[])
abbrev dF.Y:=Int
abbrev dF.X:=Int
def dF.out:dF.X→aY:=fun x=>⟨.d ti x,[],[]⟩
def dF.add:dF.D→dF.Y→dF.X:=fun x y=>y
def Dz(y:Int):Prop:=y=4611686018427377339∨y=2305843009213688669∨y=2305843009213688668
def dF.aB:dF.D→Prop:=Dz
def dF.F:dF.D→dF.Y:=fun y=>if y=4611686018427377339 then 62 else 61
noncomputable def dF.G:dR:=eO (P:=Tryz.prog) []
noncomputable def dF.an:eu:= {}
noncomputable def dF.A:= @cI Tryz.prog dF.G dF.an 0 Tryz.f183 _ dF.st
abbrev dF.Ok:=cJ @dF.A dF.aB dF.add dF.F dF.out
theorem dF.eq{R:Type}(x:Int)(k:aY→Option R):dF.A x k=
  aJ ((mZ x (4294967296:Int))) (
   aJ ((mZ (bI .u64 x (32:Int)) (65536:Int))) (
    aJ ((mZ (bI .u64 (bI .u64 x (32:Int)) (16:Int)) (256:Int))) (
     aJ (eh (dA .u8 (bI .u64 (bI .u64 (bI .u64 x (32:Int)) (16:Int)) (8:Int))) (256:Int)) (
     k (dF.out (bK .i64 (56:Int) (dA .i64 (wD (⟨#[0,1,2,2,3,3,3,3,4,4,4,4,4,4,4,4,5,5,5,5,5,5,5,5,5,5,5,5,5,5,5,5,6,6,6,6,6,6,6,6,6,6,6,6,6,6,6,6,6,6,6,6,6,6,6,6,6,6,6,6,6,6,6,6,7,7,7,7,7,7,7,7,7,7,7,7,7,7,7,7,7,7,7,7,7,7,7,7,7,7,7,7,7,7,7,7,7,7,7,7,7,7,7,7,7,7,7,7,7,7,7,7,7,7,7,7,7,7,7,7,7,7,7,7,7,7,7,7,8,8,8,8,8,8,8,8,8,8,8,8,8,8,8,8,8,8,8,8,8,8,8,8,8,8,8,8,8,8,8,8,8,8,8,8,8,8,8,8,8,8,8,8,8,8,8,8,8,8,8,8,8,8,8,8,8,8,8,8,8,8,8,8,8,8,8,8,8,8,8,8,8,8,8,8,8,8,8,8,8,8,8,8,8,8,8,8,8,8,8,8,8,8,8,8,8,8,8,8,8,8,8,8,8,8,8,8,8,8,8,8,8,8,8,8,8,8,8,8,8,8,8,8,8,8,8,8]⟩:ByteArray) (dA .u8 (bI .u64 (bI .u64 (bI .u64 x (32:Int)) (16:Int)) (8:Int)))))))) none) (
     aJ (eh (dA .u8 (bI .u64 (bI .u64 x (32:Int)) (16:Int))) (256:Int)) (
     k (dF.out (bK .i64 (48:Int) (dA .i64 (wD (⟨#[0,1,2,2,3,3,3,3,4,4,4,4,4,4,4,4,5,5,5,5,5,5,5,5,5,5,5,5,5,5,5,5,6,6,6,6,6,6,6,6,6,6,6,6,6,6,6,6,6,6,6,6,6,6,6,6,6,6,6,6,6,6,6,6,7,7,7,7,7,7,7,7,7,7,7,7,7,7,7,7,7,7,7,7,7,7,7,7,7,7,7,7,7,7,7,7,7,7,7,7,7,7,7,7,7,7,7,7,7,7,7,7,7,7,7,7,7,7,7,7,7,7,7,7,7,7,7,7,8,8,8,8,8,8,8,8,8,8,8,8,8,8,8,8,8,8,8,8,8,8,8,8,8,8,8,8,8,8,8,8,8,8,8,8,8,8,8,8,8,8,8,8,8,8,8,8,8,8,8,8,8,8,8,8,8,8,8,8,8,8,8,8,8,8,8,8,8,8,8,8,8,8,8,8,8,8,8,8,8,8,8,8,8,8,8,8,8,8,8,8,8,8,8,8,8,8,8,8,8,8,8,8,8,8,8,8,8,8,8,8,8,8,8,8,8,8,8,8,8,8,8,8,8,8,8,8]⟩:ByteArray) (dA .u8 (bI .u64 (bI .u64 x (32:Int)) (16:Int)))))))) none)) (
    aJ ((mZ (bI .u64 x (32:Int)) (256:Int))) (
     aJ (eh (dA .u8 (bI .u64 (bI .u64 x (32:Int)) (8:Int))) (256:Int)) (
     k (dF.out (bK .i64 (40:Int) (dA .i64 (wD (⟨#[0,1,2,2,3,3,3,3,4,4,4,4,4,4,4,4,5,5,5,5,5,5,5,5,5,5,5,5,5,5,5,5,6,6,6,6,6,6,6,6,6,6,6,6,6,6,6,6,6,6,6,6,6,6,6,6,6,6,6,6,6,6,6,6,7,7,7,7,7,7,7,7,7,7,7,7,7,7,7,7,7,7,7,7,7,7,7,7,7,7,7,7,7,7,7,7,7,7,7,7,7,7,7,7,7,7,7,7,7,7,7,7,7,7,7,7,7,7,7,7,7,7,7,7,7,7,7,7,8,8,8,8,8,8,8,8,8,8,8,8,8,8,8,8,8,8,8,8,8,8,8,8,8,8,8,8,8,8,8,8,8,8,8,8,8,8,8,8,8,8,8,8,8,8,8,8,8,8,8,8,8,8,8,8,8,8,8,8,8,8,8,8,8,8,8,8,8,8,8,8,8,8,8,8,8,8,8,8,8,8,8,8,8,8,8,8,8,8,8,8,8,8,8,8,8,8,8,8,8,8,8,8,8,8,8,8,8,8,8,8,8,8,8,8,8,8,8,8,8,8,8,8,8,8,8,8]⟩:ByteArray) (dA .u8 (bI .u64 (bI .u64 x (32:Int)) (8:Int)))))))) none) (
     aJ (eh (dA .u8 (bI .u64 x (32:Int))) (256:Int)) (
     k (dF.out (bK .i64 (32:Int) (dA .i64 (wD (⟨#[0,1,2,2,3,3,3,3,4,4,4,4,4,4,4,4,5,5,5,5,5,5,5,5,5,5,5,5,5,5,5,5,6,6,6,6,6,6,6,6,6,6,6,6,6,6,6,6,6,6,6,6,6,6,6,6,6,6,6,6,6,6,6,6,7,7,7,7,7,7,7,7,7,7,7,7,7,7,7,7,7,7,7,7,7,7,7,7,7,7,7,7,7,7,7,7,7,7,7,7,7,7,7,7,7,7,7,7,7,7,7,7,7,7,7,7,7,7,7,7,7,7,7,7,7,7,7,7,8,8,8,8,8,8,8,8,8,8,8,8,8,8,8,8,8,8,8,8,8,8,8,8,8,8,8,8,8,8,8,8,8,8,8,8,8,8,8,8,8,8,8,8,8,8,8,8,8,8,8,8,8,8,8,8,8,8,8,8,8,8,8,8,8,8,8,8,8,8,8,8,8,8,8,8,8,8,8,8,8,8,8,8,8,8,8,8,8,8,8,8,8,8,8,8,8,8,8,8,8,8,8,8,8,8,8,8,8,8,8,8,8,8,8,8,8,8,8,8,8,8,8,8,8,8,8,8]⟩:ByteArray) (dA .u8 (bI .u64 x (32:Int)))))))) none))) (
   aJ ((mZ x (65536:Int))) (
    aJ ((mZ (bI .u64 x (16:Int)) (256:Int))) (
     aJ (eh (dA .u8 (bI .u64 (bI .u64 x (16:Int)) (8:Int))) (256:Int)) (
     k (dF.out (bK .i64 (24:Int) (dA .i64 (wD (⟨#[0,1,2,2,3,3,3,3,4,4,4,4,4,4,4,4,5,5,5,5,5,5,5,5,5,5,5,5,5,5,5,5,6,6,6,6,6,6,6,6,6,6,6,6,6,6,6,6,6,6,6,6,6,6,6,6,6,6,6,6,6,6,6,6,7,7,7,7,7,7,7,7,7,7,7,7,7,7,7,7,7,7,7,7,7,7,7,7,7,7,7,7,7,7,7,7,7,7,7,7,7,7,7,7,7,7,7,7,7,7,7,7,7,7,7,7,7,7,7,7,7,7,7,7,7,7,7,7,8,8,8,8,8,8,8,8,8,8,8,8,8,8,8,8,8,8,8,8,8,8,8,8,8,8,8,8,8,8,8,8,8,8,8,8,8,8,8,8,8,8,8,8,8,8,8,8,8,8,8,8,8,8,8,8,8,8,8,8,8,8,8,8,8,8,8,8,8,8,8,8,8,8,8,8,8,8,8,8,8,8,8,8,8,8,8,8,8,8,8,8,8,8,8,8,8,8,8,8,8,8,8,8,8,8,8,8,8,8,8,8,8,8,8,8,8,8,8,8,8,8,8,8,8,8,8,8]⟩:ByteArray) (dA .u8 (bI .u64 (bI .u64 x (16:Int)) (8:Int)))))))) none) (
     aJ (eh (dA .u8 (bI .u64 x (16:Int))) (256:Int)) (
     k (dF.out (bK .i64 (16:Int) (dA .i64 (wD (⟨#[0,1,2,2,3,3,3,3,4,4,4,4,4,4,4,4,5,5,5,5,5,5,5,5,5,5,5,5,5,5,5,5,6,6,6,6,6,6,6,6,6,6,6,6,6,6,6,6,6,6,6,6,6,6,6,6,6,6,6,6,6,6,6,6,7,7,7,7,7,7,7,7,7,7,7,7,7,7,7,7,7,7,7,7,7,7,7,7,7,7,7,7,7,7,7,7,7,7,7,7,7,7,7,7,7,7,7,7,7,7,7,7,7,7,7,7,7,7,7,7,7,7,7,7,7,7,7,7,8,8,8,8,8,8,8,8,8,8,8,8,8,8,8,8,8,8,8,8,8,8,8,8,8,8,8,8,8,8,8,8,8,8,8,8,8,8,8,8,8,8,8,8,8,8,8,8,8,8,8,8,8,8,8,8,8,8,8,8,8,8,8,8,8,8,8,8,8,8,8,8,8,8,8,8,8,8,8,8,8,8,8,8,8,8,8,8,8,8,8,8,8,8,8,8,8,8,8,8,8,8,8,8,8,8,8,8,8,8,8,8,8,8,8,8,8,8,8,8,8,8,8,8,8,8,8,8]⟩:ByteArray) (dA .u8 (bI .u64 x (16:Int)))))))) none)) (
    aJ ((mZ x (256:Int))) (
     aJ (eh (dA .u8 (bI .u64 x (8:Int))) (256:Int)) (
     k (dF.out (bK .i64 (8:Int) (dA .i64 (wD (⟨#[0,1,2,2,3,3,3,3,4,4,4,4,4,4,4,4,5,5,5,5,5,5,5,5,5,5,5,5,5,5,5,5,6,6,6,6,6,6,6,6,6,6,6,6,6,6,6,6,6,6,6,6,6,6,6,6,6,6,6,6,6,6,6,6,7,7,7,7,7,7,7,7,7,7,7,7,7,7,7,7,7,7,7,7,7,7,7,7,7,7,7,7,7,7,7,7,7,7,7,7,7,7,7,7,7,7,7,7,7,7,7,7,7,7,7,7,7,7,7,7,7,7,7,7,7,7,7,7,8,8,8,8,8,8,8,8,8,8,8,8,8,8,8,8,8,8,8,8,8,8,8,8,8,8,8,8,8,8,8,8,8,8,8,8,8,8,8,8,8,8,8,8,8,8,8,8,8,8,8,8,8,8,8,8,8,8,8,8,8,8,8,8,8,8,8,8,8,8,8,8,8,8,8,8,8,8,8,8,8,8,8,8,8,8,8,8,8,8,8,8,8,8,8,8,8,8,8,8,8,8,8,8,8,8,8,8,8,8,8,8,8,8,8,8,8,8,8,8,8,8,8,8,8,8,8,8]⟩:ByteArray) (dA .u8 (bI .u64 x (8:Int)))))))) none) (
     aJ (eh (dA .u8 x) (256:Int)) (
     k (dF.out (bK .i64 (0:Int) (dA .i64 (wD (⟨#[0,1,2,2,3,3,3,3,4,4,4,4,4,4,4,4,5,5,5,5,5,5,5,5,5,5,5,5,5,5,5,5,6,6,6,6,6,6,6,6,6,6,6,6,6,6,6,6,6,6,6,6,6,6,6,6,6,6,6,6,6,6,6,6,7,7,7,7,7,7,7,7,7,7,7,7,7,7,7,7,7,7,7,7,7,7,7,7,7,7,7,7,7,7,7,7,7,7,7,7,7,7,7,7,7,7,7,7,7,7,7,7,7,7,7,7,7,7,7,7,7,7,7,7,7,7,7,7,8,8,8,8,8,8,8,8,8,8,8,8,8,8,8,8,8,8,8,8,8,8,8,8,8,8,8,8,8,8,8,8,8,8,8,8,8,8,8,8,8,8,8,8,8,8,8,8,8,8,8,8,8,8,8,8,8,8,8,8,8,8,8,8,8,8,8,8,8,8,8,8,8,8,8,8,8,8,8,8,8,8,8,8,8,8,8,8,8,8,8,8,8,8,8,8,8,8,8,8,8,8,8,8,8,8,8,8,8,8,8,8,8,8,8,8,8,8,8,8,8,8,8,8,8,8,8,8]⟩:ByteArray) (dA .u8 x)))))) none))):=by kernel_rfl
theorem dF.ok:dF.Ok:=by
 intro y h
 rw[dF.eq]
 obtain rfl | rfl | rfl:=h <;> kernel_rfl
noncomputable def dF.E:=Entry.ct [some tu] dF.st dF.aB dF.add dF.F dF.out
noncomputable def dF.call:dF.D→Option dF.X:=bG dF.E dF.st
theorem dF.run:bB dF.call dF.aB dF.add dF.F:=cO (cM [.d tu] fun _=>by kernel_rfl)
noncomputable def dF.sg:SG Tryz.prog:=⟨183,aU,dF.E,.fn 0 (by kernel_rfl) dF.ok trivial⟩
abbrev fp.D:=Int
def fp.st:fp.D→SA:=fun x=>([.d tu x],[])
abbrev fp.Y:=Int
abbrev fp.X:=Int
def fp.out:fp.X→aY:=fun x=>⟨.d ti x,[],[]⟩
def fp.add:fp.D→fp.Y→fp.X:=fun x y=>y
def fp.aB:fp.D→Prop:=Dz
def fp.F:fp.D→fp.Y:=fun y=>if y=4611686018427377339 then 2 else 3
noncomputable def fp.G:dR:=eO (P:=Tryz.prog) [dF.sg]
noncomputable def fp.an:eu:= {}
noncomputable def fp.A:= @cI Tryz.prog fp.G fp.an 0 Tryz.f182 _ fp.st
abbrev fp.Ok:=cJ @fp.A fp.aB fp.add fp.F fp.out
theorem fp.eq{R:Type}(x:Int)(k:aY→Option R):fp.A x k=
 aq (dF.call x) fun x1=>
 k (fp.out (dd .i64 (64:Int) x1)):=by kernel_rfl
theorem fp.ok:fp.Ok:=by
 intro y h
 rw[fp.eq,dF.run (d:=y) h]
 obtain rfl | rfl | rfl:=h <;> rfl
noncomputable def fp.E:=Entry.ct [some tu] fp.st fp.aB fp.add fp.F fp.out
noncomputable def fp.call:fp.D→Option fp.X:=bG fp.E fp.st
theorem fp.run:bB fp.call fp.aB fp.add fp.F:=cO (cM [.d tu] fun _=>by kernel_rfl)
noncomputable def fp.sg:SG Tryz.prog:=⟨182,aU,fp.E,.fn 0 (by kernel_rfl) fp.ok trivial⟩
set_option synthInstance.maxSize 5000
abbrev aQ.L0.D:=Int×Int×Int×Int×Int×Int×Int×Int×Int
def aQ.L0.st:aQ.L0.D→AS:=fun(yv_2,sv,yn1,yn0,un32,un1,un0,q1,rhat)=>⟨([.undef,.undef,.d tu yv_2]++ba 5 ([.d tu sv,.d tu yn1,.d tu yn0,.d tu un32,.undef,.d tu un1,.d tu un0,.d tu q1,.d tu rhat]++ba 118 [])),[],(List.replicate 135 [])⟩
abbrev aQ.L0.Y0:=Int
abbrev aQ.L0.X0:=(Int×Int×Int×Int×Int×Int×Int)×(Int)
def aQ.L0.bq:aQ.L0.X0→Exit×AS:=fun x=>(.exit 0,⟨([.undef,.undef,.d tu x.1.1]++ba 5 ([.d tu x.1.2.1,.d tu x.1.2.2.1,.d tu x.1.2.2.2.1,.d tu x.1.2.2.2.2.1,.undef,.d tu x.1.2.2.2.2.2.1,.d tu x.1.2.2.2.2.2.2,.d tu x.2]++ba 119 [])),[],(List.replicate 135 [])⟩)
abbrev aQ.L0.X:=aQ.L0.X0
abbrev aQ.L0.Y:=aQ.L0.Y0
def aQ.L0.out:aQ.L0.X→Out (Exit×AS):=fun x=> .ok (aQ.L0.bq x)
def aQ.L0.add:aQ.L0.D→aQ.L0.Y→aQ.L0.X:=fun(yv_2,sv,yn1,yn0,un32,un1,un0,q1,rhat) y=>((yv_2,sv,yn1,yn0,un32,un1,un0),y)
abbrev aQ.L1.D:=Int×Int×Int×Int×Int×Int×Int×Int×Int
def aQ.L1.st:aQ.L1.D→AS:=fun(yv_3,sv_2,yn1_2,yn0_2,un0_2,q1_2,rhat_2,un21,q0)=>⟨([.undef,.undef,.d tu yv_3]++ba 5 ([.d tu sv_2,.d tu yn1_2,.d tu yn0_2,.undef,.undef,.undef,.d tu un0_2,.d tu q1_2,.d tu rhat_2,.d tu un21,.d tu q0]++ba 116 [])),[],(List.replicate 135 [])⟩
abbrev aQ.L1.Y0:=Int
abbrev aQ.L1.X0:=(Int×Int×Int×Int×Int)×(Int)
def aQ.L1.bq:aQ.L1.X0→Exit×AS:=fun x=>(.exit 2,⟨([.undef,.undef,.d tu x.1.1]++ba 5 ([.d tu x.1.2.1]++ba 5 ([.d tu x.1.2.2.1,.d tu x.1.2.2.2.1,.undef,.d tu x.1.2.2.2.2,.d tu x.2]++ba 116 []))),[],(List.replicate 135 [])⟩)
abbrev aQ.L1.X:=aQ.L1.X0
abbrev aQ.L1.Y:=aQ.L1.Y0
def aQ.L1.out:aQ.L1.X→Out (Exit×AS):=fun x=> .ok (aQ.L1.bq x)
def aQ.L1.add:aQ.L1.D→aQ.L1.Y→aQ.L1.X:=fun(yv_3,sv_2,yn1_2,yn0_2,un0_2,q1_2,rhat_2,un21,q0) y=>((yv_3,sv_2,un0_2,q1_2,un21),y)
abbrev aQ.D:=Int×Int×Int
def aQ.st:aQ.D→SA:=fun(hi,lo,yv)=>([.d tu hi,.d tu lo,.d tu yv],[])
abbrev aQ.Y:=Int×Int
abbrev aQ.X:=Int×Int
def aQ.out:aQ.X→aY:=fun x=>⟨.cons (.d tu x.1) (.cons (.d tu x.2) (.nil)),[],[]⟩
def aQ.add:aQ.D→aQ.Y→aQ.X:=fun(hi,lo,yv) y=>y
def aQ.L0.aB:aQ.L0.D→Prop:=fun(y,sv,yn1,yn0,u,w,un0,q,r)=>∃e:Int,(e=42260∨e=42264∨e=42272)∧y=18446744073709551616 - e∧yn1=4294967295∧yn0=4294967296 - e∧0≤u∧u < 18446744073709551616 - e∧0≤w∧w < 4294967296∧0≤r∧r < 4294967296∧q*4294967295+r=u∧(u*4294967296+w) / (18446744073709551616 - e)≤q
def aQ.L0.F:aQ.L0.D→aQ.L0.Y:=fun(y,sv,yn1,yn0,u,w,un0,q,r)=>(u*4294967296+w) / y
def aQ.L1.aB:aQ.L1.D→Prop:=fun(y,sv,yn1,yn0,w,q1,r,u,q)=>∃e:Int,(e=42260∨e=42264∨e=42272)∧y=18446744073709551616 - e∧yn1=4294967295∧yn0=4294967296 - e∧0≤u∧u < 18446744073709551616 - e∧0≤w∧w < 4294967296∧0≤r∧r < 4294967296∧q*4294967295+r=u∧(u*4294967296+w) / (18446744073709551616 - e)≤q
def aQ.L1.F:aQ.L1.D→aQ.L1.Y:=fun(y,sv,yn1,yn0,w,q1,r,u,q)=>(u*4294967296+w) / y
def aQ.aB:aQ.D→Prop:=fun(hi,lo,y)=>Dz y∧0≤hi∧hi < y∧0≤lo∧lo < 18446744073709551616
def aQ.F:aQ.D→aQ.Y:=fun(hi,lo,y)=>((hi*18446744073709551616+lo) / y,(hi*18446744073709551616+lo)%y)
noncomputable def aQ.G:dR:=eO (P:=Tryz.prog) [fp.sg]
noncomputable def aQ.L0.E:=bM.ct aQ.L0.st aQ.L0.aB aQ.L0.add aQ.L0.F aQ.L0.out
noncomputable def aQ.L0.call:aQ.L0.D→Option aQ.L0.X:=dg aQ.L0.E aQ.L0.st
noncomputable def aQ.L1.E:=bM.ct aQ.L1.st aQ.L1.aB aQ.L1.add aQ.L1.F aQ.L1.out
noncomputable def aQ.L1.call:aQ.L1.D→Option aQ.L1.X:=dg aQ.L1.E aQ.L1.st
noncomputable def aQ.an:eu:= {loops:=jO [(17,{bh:=[2,8,9,10,11,13,14,15,16]}),(24,{bh:=[2,8,9,10,14,15,16,17,18]})],outs:=jN [(17,{bh:=[2,8,9,10,11,13,14,15]},{bh:=[6,7]}),(24,{bh:=[2,8,14,15,17,18]},{bh:=[6,7]})],fF:=ky [(17,aQ.L0.E),(24,aQ.L1.E)]}
noncomputable def aQ.A:= @cI Tryz.prog aQ.G aQ.an 0 Tryz.f174 _ aQ.st
abbrev aQ.Ok:=cJ @aQ.A aQ.aB aQ.add aQ.F aQ.out
noncomputable def aQ.L0.R:= @cf Tryz.prog aQ.G aQ.an 0 Tryz.f174 0 _ aQ.L0.st
abbrev aQ.L0.Ok:=ez Tryz.prog aQ.G aQ.an 0 Tryz.f174 0 aQ.L0.st aQ.L0.aB aQ.L0.add aQ.L0.F aQ.L0.out
noncomputable def aQ.L1.R:= @cf Tryz.prog aQ.G aQ.an 0 Tryz.f174 1 _ aQ.L1.st
abbrev aQ.L1.Ok:=ez Tryz.prog aQ.G aQ.an 0 Tryz.f174 1 aQ.L1.st aQ.L1.aB aQ.L1.add aQ.L1.F aQ.L1.out
theorem aQ.L0.run:bB aQ.L0.call aQ.L0.aB aQ.L0.add aQ.L0.F:=eE (eD [.d tu,.d tu,.d tu,.d tu,.d tu,.d tu,.d tu,.d tu,.d tu] fun _=>by kernel_rfl)
theorem aQ.L0.aH:fP @aQ.L0.R aQ.L0.st aQ.L0.aB aQ.L0.add aQ.L0.F aQ.L0.bq aQ.L0.Ok:=fS
theorem aQ.L0.step{R:Type}(yv_2:Int)(sv:Int)(yn1:Int)(yn0:Int)(un32:Int)(un1:Int)(un0:Int)(q1:Int)(rhat:Int)(kn:AS→Option R)(kx:Exit→AS→Option R):aQ.L0.R (yv_2,sv,yn1,yn0,un32,un1,un0,q1,rhat) kn kx=
  aJ ((mZ q1 (4294967296:Int))) (
   aJ ((mZ (bK .u64 rhat yn1) (4294967296:Int))) (
    kx (aQ.L0.bq ((yv_2,sv,yn1,yn0,un32,un1,un0),(dd .u64 q1 (1:Int)))).1 (aQ.L0.bq ((yv_2,sv,yn1,yn0,un32,un1,un0),(dd .u64 q1 (1:Int)))).2) (
    kn (aQ.L0.st (yv_2,sv,yn1,yn0,un32,un1,un0,(dd .u64 q1 (1:Int)),(bK .u64 rhat yn1))))) (
   aJ ((mG (eT .u64 q1 yn0) (bK .u64 (eT .u64 (4294967296:Int) rhat) un1))) (
    aJ ((mZ (bK .u64 rhat yn1) (4294967296:Int))) (
     kx (aQ.L0.bq ((yv_2,sv,yn1,yn0,un32,un1,un0),(dd .u64 q1 (1:Int)))).1 (aQ.L0.bq ((yv_2,sv,yn1,yn0,un32,un1,un0),(dd .u64 q1 (1:Int)))).2) (
     kn (aQ.L0.st (yv_2,sv,yn1,yn0,un32,un1,un0,(dd .u64 q1 (1:Int)),(bK .u64 rhat yn1))))) (
    kx (aQ.L0.bq ((yv_2,sv,yn1,yn0,un32,un1,un0),q1)).1 (aQ.L0.bq ((yv_2,sv,yn1,yn0,un32,un1,un0),q1)).2)):=by kernel_rfl
theorem aQ.L1.run:bB aQ.L1.call aQ.L1.aB aQ.L1.add aQ.L1.F:=eE (eD [.d tu,.d tu,.d tu,.d tu,.d tu,.d tu,.d tu,.d tu,.d tu] fun _=>by kernel_rfl)
theorem aQ.L1.aH:fP @aQ.L1.R aQ.L1.st aQ.L1.aB aQ.L1.add aQ.L1.F aQ.L1.bq aQ.L1.Ok:=fS
theorem aQ.L1.step{R:Type}(yv_3:Int)(sv_2:Int)(yn1_2:Int)(yn0_2:Int)(un0_2:Int)(q1_2:Int)(rhat_2:Int)(un21:Int)(q0:Int)(kn:AS→Option R)(kx:Exit→AS→Option R):aQ.L1.R (yv_3,sv_2,yn1_2,yn0_2,un0_2,q1_2,rhat_2,un21,q0) kn kx=
  aJ ((mZ q0 (4294967296:Int))) (
   aJ ((mZ (bK .u64 rhat_2 yn1_2) (4294967296:Int))) (
    kx (aQ.L1.bq ((yv_3,sv_2,un0_2,q1_2,un21),(dd .u64 q0 (1:Int)))).1 (aQ.L1.bq ((yv_3,sv_2,un0_2,q1_2,un21),(dd .u64 q0 (1:Int)))).2) (
    kn (aQ.L1.st (yv_3,sv_2,yn1_2,yn0_2,un0_2,q1_2,(bK .u64 rhat_2 yn1_2),un21,(dd .u64 q0 (1:Int)))))) (
   aJ ((mG (eT .u64 q0 yn0_2) (bK .u64 (eT .u64 (4294967296:Int) rhat_2) un0_2))) (
    aJ ((mZ (bK .u64 rhat_2 yn1_2) (4294967296:Int))) (
     kx (aQ.L1.bq ((yv_3,sv_2,un0_2,q1_2,un21),(dd .u64 q0 (1:Int)))).1 (aQ.L1.bq ((yv_3,sv_2,un0_2,q1_2,un21),(dd .u64 q0 (1:Int)))).2) (
     kn (aQ.L1.st (yv_3,sv_2,yn1_2,yn0_2,un0_2,q1_2,(bK .u64 rhat_2 yn1_2),un21,(dd .u64 q0 (1:Int)))))) (
    kx (aQ.L1.bq ((yv_3,sv_2,un0_2,q1_2,un21),q0)).1 (aQ.L1.bq ((yv_3,sv_2,un0_2,q1_2,un21),q0)).2)):=by kernel_rfl
theorem aQ.eq{R:Type}(hi:Int)(lo:Int)(yv:Int)(k:aY→Option R):aQ.A (hi,lo,yv) k=
  aJ ((nN yv (0:Int))) (
   none) (
   aJ ((za yv hi)) (
    none) (
    aJ ((nN hi (0:Int))) (
     aJ (iB yv) (
     aJ (iB yv) (
     k (aQ.out ((kF .u64 lo yv),(iT lo yv)))) none) none) (
     aq (fp.call yv) fun x1=>
     aJ (gD (dA .u64 x1)) (
     aJ (gD (dA .u64 x1)) (
     aJ (gD (dd .u64 (64:Int) (dA .u64 x1))) (
     aJ (gD (dA .u64 x1)) (
     aJ (iB (bI .u64 (gm .u64 yv (dA .u64 x1)) (32:Int))) (
     aq (aQ.L0.call ((gm .u64 yv (dA .u64 x1)),(dA .u64 x1),(bI .u64 (gm .u64 yv (dA .u64 x1)) (32:Int)),(cl .and .u64 (gm .u64 yv (dA .u64 x1)) (4294967295:Int)),(cl .or .u64 (gm .u64 hi (dA .u64 x1)) (bI .u64 lo (dd .u64 (64:Int) (dA .u64 x1)))),(bI .u64 (gm .u64 lo (dA .u64 x1)) (32:Int)),(cl .and .u64 (gm .u64 lo (dA .u64 x1)) (4294967295:Int)),(kF .u64 (cl .or .u64 (gm .u64 hi (dA .u64 x1)) (bI .u64 lo (dd .u64 (64:Int) (dA .u64 x1)))) (bI .u64 (gm .u64 yv (dA .u64 x1)) (32:Int))),(dd .u64 (cl .or .u64 (gm .u64 hi (dA .u64 x1)) (bI .u64 lo (dd .u64 (64:Int) (dA .u64 x1)))) (eT .u64 (kF .u64 (cl .or .u64 (gm .u64 hi (dA .u64 x1)) (bI .u64 lo (dd .u64 (64:Int) (dA .u64 x1)))) (bI .u64 (gm .u64 yv (dA .u64 x1)) (32:Int))) (bI .u64 (gm .u64 yv (dA .u64 x1)) (32:Int)))))) fun x2=>
     aJ (iB x2.1.2.2.1) (
     aq (aQ.L1.call (x2.1.1,x2.1.2.1,x2.1.2.2.1,x2.1.2.2.2.1,x2.1.2.2.2.2.2.2,x2.2,(dd .u64 (dd .u64 (bK .u64 (eT .u64 x2.1.2.2.2.2.1 (4294967296:Int)) x2.1.2.2.2.2.2.1) (eT .u64 x2.2 x2.1.1)) (eT .u64 (kF .u64 (dd .u64 (bK .u64 (eT .u64 x2.1.2.2.2.2.1 (4294967296:Int)) x2.1.2.2.2.2.2.1) (eT .u64 x2.2 x2.1.1)) x2.1.2.2.1) x2.1.2.2.1)),(dd .u64 (bK .u64 (eT .u64 x2.1.2.2.2.2.1 (4294967296:Int)) x2.1.2.2.2.2.2.1) (eT .u64 x2.2 x2.1.1)),(kF .u64 (dd .u64 (bK .u64 (eT .u64 x2.1.2.2.2.2.1 (4294967296:Int)) x2.1.2.2.2.2.2.1) (eT .u64 x2.2 x2.1.1)) x2.1.2.2.1))) fun x3=>
     aJ (gD x3.1.2.1) (
     k (aQ.out ((bK .u64 (eT .u64 x3.1.2.2.2.1 (4294967296:Int)) x3.2),(bI .u64 (dd .u64 (bK .u64 (eT .u64 x3.1.2.2.2.2 (4294967296:Int)) x3.1.2.2.1) (eT .u64 x3.2 x3.1.1)) x3.1.2.1)))) none) none) none) none) none) none) none))):=by kernel_rfl
theorem aQ.L0.ok:aQ.L0.Ok:=by
 refine aQ.L0.aH (fun(y,sv,yn1,yn0,u,w,un0,q,r)=>q.toNat) ?_
 rintro⟨y,sv,yn1,yn0,u,w,un0,q,r⟩ ⟨e,he,rfl,rfl,rfl,hu,hu2,hw,hw2,hr,hr2,hq,hQ⟩
 have hu:0≤u:=hu
 have hu2:u < 18446744073709551616 - e:=hu2
 have hw:0≤w:=hw
 have hw2:w < 4294967296:=hw2
 have hr:0≤r:=hr
 have hr2:r < 4294967296:=hr2
 have hq:q*4294967295+r=u:=hq
 obtain⟨k1,k2,k3,k4,k5,k6⟩:=k1 he hu hu2 hw hw2 hr hr2 hq hQ
 have q0:0≤q:=Int.le_trans k5 hQ
 have a1:bK .u64 r 4294967295=r+4294967295:=by rw[kk];omega
 have a2:bK .u64 (eT .u64 4294967296 r) w=4294967296*r+w:=by rw[km,kk];omega
 have a3:q < 4294967296→eT .u64 q (4294967296 - e)=q*(4294967296 - e):=by
  intro h;rw[km];rcases he with rfl | rfl | rfl <;> omega
 have a4:0 < q→dd .u64 q 1=q - 1:=by intro h;rw[qQ];omega
 have pos:4294967296≤q∨(q < 4294967296∧4294967296*r+w < q*(4294967296 - e))→0 < q∧(u*4294967296+w) / (18446744073709551616 - e)≤q - 1:=by
  rintro(h | ⟨h,h2⟩)
  ·exact⟨by omega,k1 h⟩
  ·exact⟨by have:=k2 h h2;omega,k2 h h2⟩
 by_cases hc:4294967296≤q∨(q < 4294967296∧4294967296*r+w < q*(4294967296 - e))
 ·obtain⟨p1,p2⟩:=pos hc
  by_cases hb:4294967296≤r+4294967295
  ·right
   have hF:aQ.L0.F (18446744073709551616 - e,sv,4294967295,4294967296 - e,u,w,un0,q,r)=q - 1:=k4 hb p2
   intro R kn kx
   rw[aQ.L0.step,a1,a2,a4 p1,fU hb,hF]
   rcases hc with h | ⟨h,h2⟩
   ·rw[fU h];rfl
   ·rw[eM (by omega),a3 h,dQ h2];rfl
  ·left
   refine⟨(18446744073709551616 - e,sv,4294967295,4294967296 - e,u,w,un0,q - 1,r+4294967295),⟨e,he,rfl,rfl,rfl,hu,hu2,hw,hw2,by omega,by omega,by omega,p2⟩,by simp only[];omega,rfl,fun kn kx=> ?_⟩
   rw[aQ.L0.step,a1,a2,a4 p1,eM hb]
   rcases hc with h | ⟨h,h2⟩
   ·rw[fU h];rfl
   ·rw[eM (by omega),a3 h,dQ h2];rfl
 ·right
  have h:q < 4294967296:=by omega
  have h2:¬4294967296*r+w < q*(4294967296 - e):=fun x=>hc (Or.inr ⟨h,x⟩)
  have hF:aQ.L0.F (18446744073709551616 - e,sv,4294967295,4294967296 - e,u,w,un0,q,r)=q:=k3 h (by omega)
  intro R kn kx
  rw[aQ.L0.step,a2,a3 h,eM (by omega),dE h2,hF]
  rfl
theorem aQ.L1.ok:aQ.L1.Ok:=by
 refine aQ.L1.aH (fun(y,sv,yn1,yn0,w,q1,r,u,q)=>q.toNat) ?_
 rintro⟨y,sv,yn1,yn0,w,q1,r,u,q⟩ ⟨e,he,rfl,rfl,rfl,hu,hu2,hw,hw2,hr,hr2,hq,hQ⟩
 have hu:0≤u:=hu
 have hu2:u < 18446744073709551616 - e:=hu2
 have hw:0≤w:=hw
 have hw2:w < 4294967296:=hw2
 have hr:0≤r:=hr
 have hr2:r < 4294967296:=hr2
 have hq:q*4294967295+r=u:=hq
 obtain⟨k1,k2,k3,k4,k5,k6⟩:=k1 he hu hu2 hw hw2 hr hr2 hq hQ
 have q0:0≤q:=Int.le_trans k5 hQ
 have a1:bK .u64 r 4294967295=r+4294967295:=by rw[kk];omega
 have a2:bK .u64 (eT .u64 4294967296 r) w=4294967296*r+w:=by rw[km,kk];omega
 have a3:q < 4294967296→eT .u64 q (4294967296 - e)=q*(4294967296 - e):=by
  intro h;rw[km];rcases he with rfl | rfl | rfl <;> omega
 have a4:0 < q→dd .u64 q 1=q - 1:=by intro h;rw[qQ];omega
 have pos:4294967296≤q∨(q < 4294967296∧4294967296*r+w < q*(4294967296 - e))→0 < q∧(u*4294967296+w) / (18446744073709551616 - e)≤q - 1:=by
  rintro(h | ⟨h,h2⟩)
  ·exact⟨by omega,k1 h⟩
  ·exact⟨by have:=k2 h h2;omega,k2 h h2⟩
 by_cases hc:4294967296≤q∨(q < 4294967296∧4294967296*r+w < q*(4294967296 - e))
 ·obtain⟨p1,p2⟩:=pos hc
  by_cases hb:4294967296≤r+4294967295
  ·right
   have hF:aQ.L1.F (18446744073709551616 - e,sv,4294967295,4294967296 - e,w,q1,r,u,q)=q - 1:=k4 hb p2
   intro R kn kx
   rw[aQ.L1.step,a1,a2,a4 p1,fU hb,hF]
   rcases hc with h | ⟨h,h2⟩
   ·rw[fU h];rfl
   ·rw[eM (by omega),a3 h,dQ h2];rfl
  ·left
   refine⟨(18446744073709551616 - e,sv,4294967295,4294967296 - e,w,q1,r+4294967295,u,q - 1),⟨e,he,rfl,rfl,rfl,hu,hu2,hw,hw2,by omega,by omega,by omega,p2⟩,by simp only[];omega,rfl,fun kn kx=> ?_⟩
   rw[aQ.L1.step,a1,a2,a4 p1,eM hb]
   rcases hc with h | ⟨h,h2⟩
   ·rw[fU h];rfl
   ·rw[eM (by omega),a3 h,dQ h2];rfl
 ·right
  have h:q < 4294967296:=by omega
  have h2:¬4294967296*r+w < q*(4294967296 - e):=fun x=>hc (Or.inr ⟨h,x⟩)
  have hF:aQ.L1.F (18446744073709551616 - e,sv,4294967295,4294967296 - e,w,q1,r,u,q)=q:=k3 h (by omega)
  intro R kn kx
  rw[aQ.L1.step,a2,a3 h,eM (by omega),dE h2,hF]
  rfl
theorem CL{y hi lo:Int}(hy:Dz y)(h0:0≤hi)(h1:hi < y)(h2:0≤lo)(h3:lo < 18446744073709551616):∃(s:Nat) (e m:Int),fp.F y=s∧(s=2∨s=3)∧m=2^s∧(e=42260∨e=42264∨e=42272)∧y*m=18446744073709551616 - e∧
  gm .u64 y (s:Int)=18446744073709551616 - e∧
  cl .or .u64 (gm .u64 hi (s:Int)) (bI .u64 lo (dd .u64 64 (s:Int)))=(hi*18446744073709551616+lo)*m / 18446744073709551616∧
  gm .u64 lo (s:Int)=(hi*18446744073709551616+lo)*m%18446744073709551616∧
  (hi*18446744073709551616+lo)*m / 18446744073709551616 < 18446744073709551616 - e∧
  (hi*18446744073709551616+lo)*m / (18446744073709551616 - e)=(hi*18446744073709551616+lo) / y∧
  (hi*18446744073709551616+lo)*m%(18446744073709551616 - e) / m=(hi*18446744073709551616+lo)%y:=by
 have e1:dd .u64 64 ((2:Nat):Int)=((62:Nat):Int):=rfl
 have e2:dd .u64 64 ((3:Nat):Int)=((61:Nat):Int):=rfl
 have p2:(2:Int)^2=4:=rfl
 have p3:(2:Int)^3=8:=rfl
 have p61:(2:Int)^61=2305843009213693952:=rfl
 have p62:(2:Int)^62=4611686018427387904:=rfl
 obtain rfl | rfl | rfl:=hy
 ·refine⟨2,42260,4,rfl,Or.inl rfl,rfl,Or.inl rfl,rfl,by rw[jE 2 (by rfl) (by omega),p2];omega,?_,?_,by omega,by omega,by omega⟩
  ·rw[e1,jE 2 (by rfl) (by omega),jF 62 (by rfl) (by omega),p2,p62,pa 2 4 rfl (by omega) (by omega) (by omega) (by omega) (by omega) (by omega)];omega
  ·rw[jE 2 (by rfl) (by omega),p2];omega
 ·refine⟨3,42264,8,rfl,Or.inr rfl,rfl,Or.inr (Or.inl rfl),rfl,by rw[jE 3 (by rfl) (by omega),p3];omega,?_,?_,by omega,by omega,by omega⟩
  ·rw[e2,jE 3 (by rfl) (by omega),jF 61 (by rfl) (by omega),p3,p61,pa 3 8 rfl (by omega) (by omega) (by omega) (by omega) (by omega) (by omega)];omega
  ·rw[jE 3 (by rfl) (by omega),p3];omega
 ·refine⟨3,42272,8,rfl,Or.inr rfl,rfl,Or.inr (Or.inr rfl),rfl,by rw[jE 3 (by rfl) (by omega),p3];omega,?_,?_,by omega,by omega,by omega⟩
  ·rw[e2,jE 3 (by rfl) (by omega),jF 61 (by rfl) (by omega),p3,p61,pa 3 8 rfl (by omega) (by omega) (by omega) (by omega) (by omega) (by omega)];omega
  ·rw[jE 3 (by rfl) (by omega),p3];omega
theorem Eh(a b c:Int):(((a%18446744073709551616+b)%18446744073709551616) - c%18446744073709551616)%18446744073709551616=(a+b - c)%18446744073709551616:=by omega
theorem aQ.ok:aQ.Ok:=by
 rintro⟨hi,lo,y⟩ ⟨hy,h0,h1,h2,h3⟩
 have h0:0≤hi:=h0
 have h1:hi < y:=h1
 have h2:0≤lo:=h2
 have h3:lo < 18446744073709551616:=h3
 have yb:0 < y∧y < 18446744073709551616:=by obtain rfl | rfl | rfl:=hy <;> omega
 rw[aQ.eq,eL (by omega),kr (by omega)]
 simp only[ay]
 have z:iB y=true:=by simp[iB];omega
 by_cases hz:hi=0
 ·subst hz
  rw[dq rfl,z,yi h2 (by omega) h3,nE h2]
  simp only[az,aQ.F,aQ.add,Int.zero_mul,Int.zero_add]
 ·obtain⟨s,e,m,hs,hs2,hm,he,hym,a1,a2,a3,a4,a5,a6⟩:=CL hy h0 h1 h2 h3
  have c1:dA .u64 (s:Int)=(s:Int):=by rw[Au];omega
  have c2:gD (s:Int)=true:=jS (by omega)
  have c3:gD (dd .u64 64 (s:Int))=true:=by rcases hs2 with rfl | rfl <;> rfl
  rw[eL hz,fp.run (d:=y) hy]
  simp only[ay,ab,fp.add,hs,c1,c2,c3,az,a1,a2,a3]
  have hN:0≤(hi*18446744073709551616+lo)*m:=Int.mul_nonneg (by omega) (by rcases hs2 with rfl | rfl <;> omega)
  revert a4 a5 a6
  generalize (hi*18446744073709551616+lo)*m=N at hN
  intro a4 a5 a6
  have u0:0≤N / 18446744073709551616:=by omega
  have t0:0≤N%18446744073709551616:=by omega
  have t1:N%18446744073709551616 < 18446744073709551616:=by omega
  have hd:N=(N / 18446744073709551616*4294967296+N%18446744073709551616 / 4294967296)*4294967296+N%18446744073709551616%4294967296:=by omega
  have w10:0≤N%18446744073709551616 / 4294967296:=by omega
  have w11:N%18446744073709551616 / 4294967296 < 4294967296:=by omega
  have w00:0≤N%18446744073709551616%4294967296:=by omega
  have w01:N%18446744073709551616%4294967296 < 4294967296:=by omega
  have p32:(2:Int)^32=4294967296:=rfl
  have b1:bI .u64 (18446744073709551616 - e) 32=4294967295:=by rw[jF 32 (by rfl) (by omega),p32];rcases he with rfl | rfl | rfl <;> rfl
  have b2:cl .and .u64 (18446744073709551616 - e) 4294967295=4294967296 - e:=by rw[u9 (by omega) (by omega)];omega
  have b3:bI .u64 (N%18446744073709551616) 32=N%18446744073709551616 / 4294967296:=by rw[jF 32 (by rfl) (by omega),p32]
  have b4:cl .and .u64 (N%18446744073709551616) 4294967295=N%18446744073709551616%4294967296:=u9 t0 t1
  have z2:iB 4294967295=true:=rfl
  simp only[b1,b2,b3,b4,z2,az]
  clear a1 a2 a3 b1 b2 b3 b4
  have kdd:=kd (18446744073709551616 - e) (N / 18446744073709551616) (N%18446744073709551616 / 4294967296) (N%18446744073709551616%4294967296) (by omega) w00 w01
  rw[←hd,a5]at kdd
  revert a4 kdd
  generalize N / 18446744073709551616=u at u0
  generalize N%18446744073709551616 / 4294967296=w1 at w10 w11
  generalize N%18446744073709551616%4294967296=w0 at w00 w01
  intro a4 kdd
  have g:∀u w:Int,0≤u→u < 18446744073709551616 - e→0≤w→w < 4294967296→
    kF .u64 u 4294967295=u / 4294967295∧dd .u64 u (eT .u64 (u / 4294967295) 4294967295)=u - u / 4294967295*4294967295∧
    dd .u64 (bK .u64 (eT .u64 u 4294967296) w) (eT .u64 ((u*4294967296+w) / (18446744073709551616 - e)) (18446744073709551616 - e))=(u*4294967296+w)%(18446744073709551616 - e):=by
   intro u w k1 k2 k3 k4
   obtain⟨q1,q2,q3,q4,q5,q6,q7,q8⟩:=k0 he k1 k2 k3 k4
   refine⟨yi k1 (by omega) (by omega),by rw[qQ,km];omega,?_⟩
   rw[qQ,kk,km,km,Eh,q4]
   exact Int.emod_eq_of_lt q5 (by omega)
  obtain⟨f1,f2,f3⟩:=g u w1 u0 a4 w10 w11
  obtain⟨q1,q2,q3,q4,q5,q6,q7,q8⟩:=k0 he u0 a4 w10 w11
  have p1:aQ.L0.aB (18446744073709551616 - e,(s:Int),4294967295,4294967296 - e,u,w1,w0,u / 4294967295,u - u / 4294967295*4294967295):=⟨e,he,rfl,rfl,rfl,u0,a4,w10,w11,q2,q3,by omega,q1⟩
  rw[f1,f2,aQ.L0.run p1]
  simp only[ab,aQ.L0.add,aQ.L0.F,z2,az,f3]
  revert f3 q1 kdd
  generalize (u*4294967296+w1)%(18446744073709551616 - e)=v at q4 q5 q6
  generalize (u*4294967296+w1) / (18446744073709551616 - e)=Q at q4 q7 q8
  intro kdd f3 q1
  obtain⟨g1,g2,g3⟩:=g v w0 q5 q6 w00 w01
  obtain⟨r1,r2,r3,r4,r5,r6,r7,r8⟩:=k0 he q5 q6 w00 w01
  have p2:aQ.L1.aB (18446744073709551616 - e,(s:Int),4294967295,4294967296 - e,w0,Q,v - v / 4294967295*4294967295,v,v / 4294967295):=⟨e,he,rfl,rfl,rfl,q5,q6,w00,w01,r2,r3,by omega,r1⟩
  rw[g1,g2,aQ.L1.run p2]
  simp only[ab,aQ.L1.add,aQ.L1.F,c2,az,g3]
  rw[←kdd.2,jF s (by rfl) (by omega),←hm,a6,km,kk]
  have e9:(Q*4294967296%18446744073709551616+(v*4294967296+w0) / (18446744073709551616 - e))%18446744073709551616=(hi*18446744073709551616+lo) / y:=by rw[kdd.1];omega
  rw[e9]
  rfl
noncomputable def aQ.E:=Entry.ct [some tu,some tu,some tu] aQ.st aQ.aB aQ.add aQ.F aQ.out
noncomputable def aQ.call:aQ.D→Option aQ.X:=bG aQ.E aQ.st
theorem aQ.run:bB aQ.call aQ.aB aQ.add aQ.F:=cO (cM [.d tu,.d tu,.d tu] fun _=>by kernel_rfl)
noncomputable def aQ.sg:SG Tryz.prog:=⟨174,aU,aQ.E,.fn 2 (by kernel_rfl) aQ.ok (And.intro (.ct aQ.L0.ok (by kernel_rfl)) (And.intro (.ct aQ.L1.ok (by kernel_rfl)) trivial))⟩
abbrev dm.D:=Int×Int×Int
def dm.st:dm.D→SA:=fun(hi,lo,yv)=>([.d tu hi,.d tu lo,.d tu yv],[])
abbrev dm.Y:=Int
abbrev dm.X:=Int
def dm.out:dm.X→aY:=fun x=>⟨.d tu x,[],[]⟩
def dm.add:dm.D→dm.Y→dm.X:=fun(hi,lo,yv) y=>y
def dm.aB:dm.D→Prop:=fun(hi,lo,y)=>Dz y∧0≤hi∧hi < 18446744073709551616∧0≤lo∧lo < 18446744073709551616
def dm.F:dm.D→dm.Y:=fun(hi,lo,y)=>(hi*18446744073709551616+lo)%y
noncomputable def dm.G:dR:=eO (P:=Tryz.prog) [aQ.sg]
noncomputable def dm.an:eu:= {}
noncomputable def dm.A:= @cI Tryz.prog dm.G dm.an 0 Tryz.f157 _ dm.st
abbrev dm.Ok:=cJ @dm.A dm.aB dm.add dm.F dm.out
theorem dm.eq{R:Type}(hi:Int)(lo:Int)(yv:Int)(k:aY→Option R):dm.A (hi,lo,yv) k=
 aJ (iB yv) (
 aq (aQ.call ((iT hi yv),lo,yv)) fun x1=>
 k (dm.out x1.2)) none:=by kernel_rfl
theorem dm.ok:dm.Ok:=by
 rintro⟨hi,lo,y⟩ ⟨hy,h0,h1,h2,h3⟩
 have h0:0≤hi:=h0
 have yb:0 < y:=by obtain rfl | rfl | rfl:=hy <;> omega
 have z:iB y=true:=by simp[iB];omega
 have p:aQ.aB (hi%y,lo,y):=⟨hy,Int.emod_nonneg _ (by omega),Int.emod_lt_of_pos _ yb,h2,h3⟩
 rw[dm.eq,z,nE h0,aQ.run p]
 have e:(hi%y*18446744073709551616+lo)%y=(hi*18446744073709551616+lo)%y:=by
  rw[Int.add_emod,Int.mul_emod,Int.emod_emod_of_dvd _ (Int.dvd_refl y),←Int.mul_emod,←Int.add_emod]
 simp only[az,ab,aQ.add,aQ.F,dm.add,dm.F,e]
noncomputable def dm.E:=Entry.ct [some tu,some tu,some tu] dm.st dm.aB dm.add dm.F dm.out
noncomputable def dm.call:dm.D→Option dm.X:=bG dm.E dm.st
theorem dm.run:bB dm.call dm.aB dm.add dm.F:=cO (cM [.d tu,.d tu,.d tu] fun _=>by kernel_rfl)
noncomputable def dm.sg:SG Tryz.prog:=⟨157,aU,dm.E,.fn 0 (by kernel_rfl) dm.ok trivial⟩
abbrev dy.D:=Int×Int
def dy.st:dy.D→SA:=fun(x,yv)=>([.d tu x,.d tu yv],[])
abbrev dy.Y:=Int×Int
abbrev dy.X:=Int×Int
def dy.out:dy.X→aY:=fun x=>⟨.cons (.d tu x.1) (.cons (.d tu x.2) (.nil)),[],[]⟩
def dy.add:dy.D→dy.Y→dy.X:=fun(x,yv) y=>y
def dy.aB:dy.D→Prop:=fun(x,y)=>(0≤x∧x < 18446744073709551616)∧0≤y∧y < 18446744073709551616
def dy.F:dy.D→dy.Y:=fun(x,y)=>(x*y / 18446744073709551616,x*y%18446744073709551616)
noncomputable def dy.G:dR:=eO (P:=Tryz.prog) []
noncomputable def dy.an:eu:= {}
noncomputable def dy.A:= @cI Tryz.prog dy.G dy.an 0 Tryz.f168 _ dy.st
abbrev dy.Ok:=cJ @dy.A dy.aB dy.add dy.F dy.out
theorem dy.eq{R:Type}(x:Int)(yv:Int)(k:aY→Option R):dy.A (x,yv) k=
 k (dy.out ((bK .u64 (bK .u64 (eT .u64 (bI .u64 x (32:Int)) (bI .u64 yv (32:Int))) (bI .u64 (bK .u64 (eT .u64 (bI .u64 x (32:Int)) (cl .and .u64 yv (4294967295:Int))) (bI .u64 (eT .u64 (cl .and .u64 x (4294967295:Int)) (cl .and .u64 yv (4294967295:Int))) (32:Int))) (32:Int))) (bI .u64 (bK .u64 (cl .and .u64 (bK .u64 (eT .u64 (bI .u64 x (32:Int)) (cl .and .u64 yv (4294967295:Int))) (bI .u64 (eT .u64 (cl .and .u64 x (4294967295:Int)) (cl .and .u64 yv (4294967295:Int))) (32:Int))) (4294967295:Int)) (eT .u64 (cl .and .u64 x (4294967295:Int)) (bI .u64 yv (32:Int)))) (32:Int))),(eT .u64 x yv))):=by kernel_rfl
theorem pV{a b m n:Int}(h0:0≤a)(h1:a≤m)(h2:0≤b)(h3:b≤n):0≤a*b∧a*b≤m*n:=
 ⟨Int.mul_nonneg h0 h2,Int.mul_le_mul h1 h3 h2 (Int.le_trans h0 h1)⟩
theorem dy.ok:dy.Ok:=by
 rintro⟨x,y⟩ ⟨⟨h0,h1⟩,h2,h3⟩
 have h0:0≤x:=h0
 have h1:x < 18446744073709551616:=h1
 have h2:0≤y:=h2
 have h3:y < 18446744073709551616:=h3
 rw[dy.eq]
 have p32:(2:Int)^32=4294967296:=rfl
 have s32:∀x:Int,bI .u64 x 32=x / 4294967296:=fun x=>by rw[jF 32 (by rfl) (by omega),p32]
 simp only[s32,u9 h0 h1,u9 h2 h3]
 obtain⟨a,b,rfl,a0,a1,b0,b1⟩:∃a b:Int,x=a*4294967296+b∧0≤a∧a≤4294967295∧0≤b∧b≤4294967295:=⟨x / 4294967296,x%4294967296,by omega,by omega,by omega,by omega,by omega⟩
 obtain⟨c,d,rfl,c0,c1,d0,d1⟩:∃a b:Int,y=a*4294967296+b∧0≤a∧a≤4294967295∧0≤b∧b≤4294967295:=⟨y / 4294967296,y%4294967296,by omega,by omega,by omega,by omega,by omega⟩
 have e1:(a*4294967296+b) / 4294967296=a:=by omega
 have e2:(a*4294967296+b)%4294967296=b:=by omega
 have e3:(c*4294967296+d) / 4294967296=c:=by omega
 have e4:(c*4294967296+d)%4294967296=d:=by omega
 have e5:(a*4294967296+b)*(c*4294967296+d)=a*c*18446744073709551616+(a*d+b*c)*4294967296+b*d:=by
  have q:(4294967296:Int)*4294967296=18446744073709551616:=rfl
  rw[Int.add_mul,Int.mul_add,Int.mul_add]
  have q1:a*4294967296*(c*4294967296)=a*c*18446744073709551616:=by rw[←q];ac_rfl
  have q2:a*4294967296*d=a*d*4294967296:=by ac_rfl
  have q3:b*(c*4294967296)=b*c*4294967296:=by ac_rfl
  rw[q1,q2,q3];omega
 obtain⟨m1,m2⟩:=pV a0 a1 c0 c1
 obtain⟨m3,m4⟩:=pV a0 a1 d0 d1
 obtain⟨m5,m6⟩:=pV b0 b1 c0 c1
 obtain⟨m7,m8⟩:=pV b0 b1 d0 d1
 have n:(4294967295:Int)*4294967295=18446744065119617025:=rfl
 rw[n]at m2 m4 m6 m8
 simp only[e1,e2,e3,e4,dy.add,dy.F,e5,km,kk]
 revert m1 m2 m3 m4 m5 m6 m7 m8
 generalize a*c=ac
 generalize a*d=ad
 generalize b*c=bc
 generalize b*d=bd
 intro m1 m2 m3 m4 m5 m6 m7 m8
 have q1:bd%18446744073709551616=bd:=by omega
 have q2:ad%18446744073709551616=ad:=by omega
 have q3:bc%18446744073709551616=bc:=by omega
 have q4:ac%18446744073709551616=ac:=by omega
 rw[q1,q2,q3,q4]
 have q5:(ad+bd / 4294967296)%18446744073709551616=ad+bd / 4294967296:=by omega
 have q6:cl .and .u64 (ad+bd / 4294967296) 4294967295=(ad+bd / 4294967296)%4294967296:=u9 (by omega) (by omega)
 rw[q5,q6]
 refine congrArg some (congrArg dy.out (Prod.ext ?_ ?_))
 ·show _=(_:Int)
  simp only[]
  omega
 ·rfl
noncomputable def dy.E:=Entry.ct [some tu,some tu] dy.st dy.aB dy.add dy.F dy.out
noncomputable def dy.call:dy.D→Option dy.X:=bG dy.E dy.st
theorem dy.run:bB dy.call dy.aB dy.add dy.F:=cO (cM [.d tu,.d tu] fun _=>by kernel_rfl)
noncomputable def dy.sg:SG Tryz.prog:=⟨168,aU,dy.E,.fn 0 (by kernel_rfl) dy.ok trivial⟩
set_option synthInstance.maxSize 5000
def Pn(x:Int):Prop:=0≤x∧x < 4611686018427377339
def ia(x:Int):Prop:=0≤x∧x < 18446744073709551616
theorem Pn.u{x:Int}(h:Pn x):ia x:=⟨h.1,by have:=h.2;omega⟩
def ji(a b:Int):Int:=a*b%4611686018427377339
theorem kZ(a b:Int):Pn (ji a b):=⟨Int.emod_nonneg _ (by omega),Int.emod_lt_of_pos _ (by omega)⟩
def yy:Nat→Int→Nat→Int→Int
 | 0,_,_,out=>out
 |f+1,a,n,out=>if n=0 then out else yy f (ji a a) (n / 2) (if n%2=1 then ji out a else out)
def pw(a:Int)(n:Nat):Int:=yy 64 a n 1
theorem lO(f:Nat)(a out:Int):yy f a 0 out=out:=by cases f <;> rfl
theorem wo:∀(f g:Nat) (a:Int) (n:Nat) (out:Int),n < 2^f→n < 2^g→yy f a n out=yy g a n out
 | 0,g,a,n,out,h,_=>by
  obtain rfl:n=0:=by omega
  rw[lO,lO]
 |f+1,0,a,n,out,_,h=>by
  obtain rfl:n=0:=by omega
  rw[lO,lO]
 |f+1,g+1,a,n,out,h,h'=>by
  have e:(2:Nat)^(f+1)=2^f*2:=Nat.pow_succ 2 f
  have e':(2:Nat)^(g+1)=2^g*2:=Nat.pow_succ 2 g
  unfold yy
  split
  ·rfl
  ·exact wo f g _ _ _ (by omega) (by omega)
theorem AX:∀(f:Nat) (a:Int) (n:Nat) (out:Int),Pn out→Pn (yy f a n out)
 | 0,_,_,_,h=>h
 |f+1,a,n,out,h=>by
  unfold yy
  split
  ·exact h
  ·refine AX f _ _ _ ?_
   split
   ·exact kZ _ _
   ·exact h
theorem wq(a:Int)(n:Nat):Pn (pw a n):=AX _ _ _ _ ⟨by omega,by omega⟩
abbrev cV.D:=Int×Int
def cV.st:cV.D→SA:=fun(a,b)=>([.d tu a,.d tu b],[])
abbrev cV.Y:=Int
abbrev cV.X:=Int
def cV.out:cV.X→aY:=fun x=>⟨.d tu x,[],[]⟩
def cV.add:cV.D→cV.Y→cV.X:=fun(a,b) y=>y
def cV.aB:cV.D→Prop:=fun(a,b)=>ia a∧ia b
def cV.F:cV.D→cV.Y:=fun(a,b)=>ji a b
noncomputable def cV.G:dR:=eO (P:=Tryz.prog) [dy.sg,dm.sg]
noncomputable def cV.an:eu:= {}
noncomputable def cV.A:= @cI Tryz.prog cV.G cV.an 0 Tryz.f151 _ cV.st
abbrev cV.Ok:=cJ @cV.A cV.aB cV.add cV.F cV.out
theorem cV.eq{R:Type}(a:Int)(b:Int)(k:aY→Option R):cV.A (a,b) k=
 aq (dy.call (a,b)) fun x1=>
 aq (dm.call (x1.1,x1.2,(4611686018427377339:Int))) fun x2=>
 k (cV.out x2):=by kernel_rfl
theorem sx(n:Int):n / 18446744073709551616*18446744073709551616+n%18446744073709551616=n:=by omega
theorem cV.ok:cV.Ok:=by
 rintro⟨a,b⟩ ⟨ha,hb⟩
 have ha:ia a:=ha
 have hb:ia b:=hb
 obtain⟨m1,m2⟩:=pV ha.1 (show a≤18446744073709551615 by have:=ha.2;omega) hb.1 (show b≤18446744073709551615 by have:=hb.2;omega)
 have n:(18446744073709551615:Int)*18446744073709551615=340282366920938463426481119284349108225:=rfl
 rw[n]at m2
 have p:dm.aB (a*b / 18446744073709551616,a*b%18446744073709551616,4611686018427377339):=⟨Or.inl rfl,by omega,by omega,by omega,by omega⟩
 rw[cV.eq,dy.run (d:=(a,b)) ⟨ha,hb⟩]
 simp only[ab,dy.add,dy.F]
 rw[dm.run p]
 simp only[ab,dm.add,dm.F,sx]
 rfl
noncomputable def cV.E:=Entry.ct [some tu,some tu] cV.st cV.aB cV.add cV.F cV.out
noncomputable def cV.call:cV.D→Option cV.X:=bG cV.E cV.st
theorem cV.run:bB cV.call cV.aB cV.add cV.F:=cO (cM [.d tu,.d tu] fun _=>by kernel_rfl)
noncomputable def cV.sg:SG Tryz.prog:=⟨151,aU,cV.E,.fn 0 (by kernel_rfl) cV.ok trivial⟩
abbrev aX.L0.D:=Int×Int×Int
def aX.L0.st:aX.L0.D→AS:=fun(a_2,n_2,outv)=>⟨([.d tu a_2,.d tu n_2,.undef,.undef,.undef,.d tu outv]++ba 14 []),[],(List.replicate 20 [])⟩
abbrev aX.L0.Y0:=Int
abbrev aX.L0.X0:=Int
def aX.L0.bq:aX.L0.X0→Exit×AS:=fun x=>(.exit 0,⟨(ba 5 ([.d tu x]++ba 14 [])),[],(List.replicate 20 [])⟩)
abbrev aX.L0.X:=aX.L0.X0
abbrev aX.L0.Y:=aX.L0.Y0
def aX.L0.out:aX.L0.X→Out (Exit×AS):=fun x=> .ok (aX.L0.bq x)
def aX.L0.add:aX.L0.D→aX.L0.Y→aX.L0.X:=fun(a_2,n_2,outv) y=>y
abbrev aX.D:=Int×Int
def aX.st:aX.D→SA:=fun(a,n)=>([.d tu a,.d tu n],[])
abbrev aX.Y:=Int
abbrev aX.X:=Int
def aX.out:aX.X→aY:=fun x=>⟨.d tu x,[],[]⟩
def aX.add:aX.D→aX.Y→aX.X:=fun(a,n) y=>y
def aX.L0.aB:aX.L0.D→Prop:=fun(a,n,o)=>ia a∧ia n∧Pn o
def aX.L0.F:aX.L0.D→aX.L0.Y:=fun(a,n,o)=>yy 64 a n.toNat o
def aX.aB:aX.D→Prop:=fun(a,n)=>ia a∧ia n
def aX.F:aX.D→aX.Y:=fun(a,n)=>pw a n.toNat
noncomputable def aX.G:dR:=eO (P:=Tryz.prog) [cV.sg]
noncomputable def aX.L0.E:=bM.ct aX.L0.st aX.L0.aB aX.L0.add aX.L0.F aX.L0.out
noncomputable def aX.L0.call:aX.L0.D→Option aX.L0.X:=dg aX.L0.E aX.L0.st
noncomputable def aX.an:eu:= {loops:=jO [(2,{bh:=[0,1,5]})],outs:=jN [(2,{bh:=[5]},{bh:=[4]})],fF:=ky [(2,aX.L0.E)]}
noncomputable def aX.A:= @cI Tryz.prog aX.G aX.an 0 Tryz.f116 _ aX.st
abbrev aX.Ok:=cJ @aX.A aX.aB aX.add aX.F aX.out
noncomputable def aX.L0.R:= @cf Tryz.prog aX.G aX.an 0 Tryz.f116 0 _ aX.L0.st
abbrev aX.L0.Ok:=ez Tryz.prog aX.G aX.an 0 Tryz.f116 0 aX.L0.st aX.L0.aB aX.L0.add aX.L0.F aX.L0.out
theorem aX.L0.run:bB aX.L0.call aX.L0.aB aX.L0.add aX.L0.F:=eE (eD [.d tu,.d tu,.d tu] fun _=>by kernel_rfl)
theorem aX.L0.aH:fP @aX.L0.R aX.L0.st aX.L0.aB aX.L0.add aX.L0.F aX.L0.bq aX.L0.Ok:=fS
theorem aX.L0.step{R:Type}(a_2:Int)(n_2:Int)(outv:Int)(kn:AS→Option R)(kx:Exit→AS→Option R):aX.L0.R (a_2,n_2,outv) kn kx=
  aJ ((mG n_2 (0:Int))) (
   aJ ((nN (cl .and .u64 n_2 (1:Int)) (1:Int))) (
    aq (cV.call (outv,a_2)) fun x1=>
    aq (cV.call (a_2,a_2)) fun x2=>
    kn (aX.L0.st (x2,(bI .u64 n_2 (1:Int)),x1))) (
    aq (cV.call (a_2,a_2)) fun x3=>
    kn (aX.L0.st (x3,(bI .u64 n_2 (1:Int)),outv)))) (
   kx (aX.L0.bq outv).1 (aX.L0.bq outv).2):=by kernel_rfl
theorem aX.eq{R:Type}(a:Int)(n:Int)(k:aY→Option R):aX.A (a,n) k=
 aq (aX.L0.call (a,n,(1:Int))) fun x4=>
 k (aX.out x4):=by kernel_rfl
theorem Ey{n:Int}(h:ia n):bI .u64 n 1=n / 2:=jF 1 (by rfl) (by omega)
theorem aX.L0.ok:aX.L0.Ok:=by
 refine aX.L0.aH (fun(a,n,o)=>n.toNat) ?_
 rintro⟨a,n,o⟩ ⟨ha,hn,ho⟩
 have ha:ia a:=ha
 have hn:ia n:=hn
 have ho:Pn o:=ho
 have n0:=hn.1
 have n1:=hn.2
 by_cases h:0 < n
 ·left
  have e:aX.L0.F (a,n,o)=aX.L0.F (ji a a,n / 2,if n%2=1 then ji o a else o):=by
   show yy 64 a n.toNat o=yy 64 (ji a a) (n / 2).toNat _
   rw[wo 64 65 a n.toNat o (by omega) (by omega)]
   have t1:(n / 2).toNat=n.toNat / 2:=by omega
   have t2:(n%2=1)=(n.toNat%2=1):=by apply propext;omega
   rw[t1]
   simp only[t2]
   show(if n.toNat=0 then o else _)=_
   rw[if_neg (by omega)]
  refine⟨(ji a a,n / 2,if n%2=1 then ji o a else o),⟨(kZ a a).u,⟨by omega,by omega⟩,?_⟩,by show(n / 2).toNat < n.toNat;omega,?_,fun kn kx=> ?_⟩
  ·show Pn (if n%2=1 then ji o a else o)
   split
   ·exact kZ _ _
   ·exact ho
  ·exact congrArg _ e.symm
  ·rw[aX.L0.step,dQ h,Ey hn,Ee n0 n1,cV.run (d:=(o,a)) ⟨ho.u,ha⟩,cV.run (d:=(a,a)) ⟨ha,ha⟩]
   by_cases h1:n%2=1
   ·rw[dq h1,if_pos h1];rfl
   ·rw[eL h1,if_neg h1];rfl
 ·right
  intro R kn kx
  obtain rfl:n=0:=by omega
  rw[aX.L0.step,dE (by omega)]
  simp only[ay,aX.L0.add,aX.L0.F]
  rw[show yy 64 a (Int.toNat 0) o=o from lO _ _ _]
theorem aX.ok:aX.Ok:=by
 rintro⟨a,n⟩ ⟨ha,hn⟩
 rw[aX.eq,aX.L0.run (d:=(a,n,1)) ⟨ha,hn,by omega,by omega⟩]
 rfl
noncomputable def aX.E:=Entry.ct [some tu,some tu] aX.st aX.aB aX.add aX.F aX.out
noncomputable def aX.call:aX.D→Option aX.X:=bG aX.E aX.st
theorem aX.run:bB aX.call aX.aB aX.add aX.F:=cO (cM [.d tu,.d tu] fun _=>by kernel_rfl)
noncomputable def aX.sg:SG Tryz.prog:=⟨116,aU,aX.E,.fn 1 (by kernel_rfl) aX.ok (And.intro (.ct aX.L0.ok (by kernel_rfl)) trivial)⟩
set_option synthInstance.maxSize 5000
def lQ(p:Int):Bool:=decide (0 < p∧p < 4611686018427377339) && decide (pw p 2305843009213688669=1)
def tk(p:Int):Int:=if lQ p then p else 1
theorem Be(p:Int):Pn (tk p):=by
 unfold tk
 split
 ·rename_i h
  simp only[lQ,Bool.and_eq_true,decide_eq_true_eq]at h
  exact⟨by omega,by omega⟩
 ·exact⟨by omega,by omega⟩
def mh(p k:Int):Int:=pw (tk p) (k%2305843009213688669).toNat
def gE(k:Int):Int:=mh 4 k
def v3(p:Int):Int:=pw (tk p) 2305843009213688668
def qI(l:List Int):Int:=l.foldl (fun o p=>ji o (tk p)) 1
theorem B7(l:List Int)(o:Int)(h:Pn o):Pn (l.foldl (fun o p=>ji o (tk p)) o):=by
 induction l generalizing o with
 |nil=>exact h
 |cons p l ih=>exact ih _ (kZ _ _)
theorem B8(l:List Int):Pn (qI l):=B7 l 1 ⟨by omega,by omega⟩
abbrev ch.D:=Int
def ch.st:ch.D→SA:=fun p=>([.d tu p],[])
abbrev ch.Y:=Bool
abbrev ch.X:=Bool
def ch.out:ch.X→aY:=fun x=>⟨.d .bool x,[],[]⟩
def ch.add:ch.D→ch.Y→ch.X:=fun p y=>y
def ch.aB:ch.D→Prop:=fun p=>ia p
def ch.F:ch.D→ch.Y:=fun p=>lQ p
noncomputable def ch.G:dR:=eO (P:=Tryz.prog) [aX.sg]
noncomputable def ch.an:eu:= {}
noncomputable def ch.A:= @cI Tryz.prog ch.G ch.an 0 Tryz.f62 _ ch.st
abbrev ch.Ok:=cJ @ch.A ch.aB ch.add ch.F ch.out
theorem ch.eq{R:Type}(p:Int)(k:aY→Option R):ch.A p k=
  aJ ((mG p (0:Int))) (
   aJ ((fY p (4611686018427377339:Int))) (
    aq (aX.call (p,(2305843009213688669:Int))) fun x1=>
    k (ch.out (nN x1 (1:Int)))) (
    k (ch.out false))) (
   k (ch.out false)):=by kernel_rfl
theorem ch.ok:ch.Ok:=by
 intro p hp
 have hp:ia p:=hp
 rw[ch.eq,aX.run (d:=(p,2305843009213688669)) ⟨hp,by constructor <;> decide⟩]
 simp only[ab,aX.add,aX.F,ch.add,ch.F,lQ]
 by_cases h:0 < p
 ·rw[dQ h,az]
  by_cases h2:p < 4611686018427377339
  ·rw[bw h2,az,aO ⟨h,h2⟩,Bool.true_and]
   rfl
  ·rw[bm h2,ay,aK (fun x=>h2 x.2),Bool.false_and]
 ·rw[dE h,ay,aK (fun x=>h x.1),Bool.false_and]
noncomputable def ch.E:=Entry.ct [some tu] ch.st ch.aB ch.add ch.F ch.out
noncomputable def ch.call:ch.D→Option ch.X:=bG ch.E ch.st
theorem ch.run:bB ch.call ch.aB ch.add ch.F:=cO (cM [.d tu] fun _=>by kernel_rfl)
noncomputable def ch.sg:SG Tryz.prog:=⟨62,aU,ch.E,.fn 0 (by kernel_rfl) ch.ok trivial⟩
abbrev cq.D:=Int
def cq.st:cq.D→SA:=fun p=>([.d tu p],[])
abbrev cq.Y:=Int
abbrev cq.X:=Int
def cq.out:cq.X→aY:=fun x=>⟨.d tu x,[],[]⟩
def cq.add:cq.D→cq.Y→cq.X:=fun p y=>y
def cq.aB:cq.D→Prop:=fun p=>ia p
def cq.F:cq.D→cq.Y:=fun p=>tk p
noncomputable def cq.G:dR:=eO (P:=Tryz.prog) [ch.sg]
noncomputable def cq.an:eu:= {}
noncomputable def cq.A:= @cI Tryz.prog cq.G cq.an 0 Tryz.f147 _ cq.st
abbrev cq.Ok:=cJ @cq.A cq.aB cq.add cq.F cq.out
theorem cq.eq{R:Type}(p:Int)(k:aY→Option R):cq.A p k=
  aq (ch.call p) fun x1=>
  aJ (x1) (
   k (cq.out p)) (
   k (cq.out (1:Int))):=by kernel_rfl
theorem cq.ok:cq.Ok:=by
 intro p hp
 rw[cq.eq,ch.run (d:=p) hp]
 simp only[ab,ch.add,ch.F,cq.add,cq.F,tk]
 cases lQ p <;> rfl
noncomputable def cq.E:=Entry.ct [some tu] cq.st cq.aB cq.add cq.F cq.out
noncomputable def cq.call:cq.D→Option cq.X:=bG cq.E cq.st
theorem cq.run:bB cq.call cq.aB cq.add cq.F:=cO (cM [.d tu] fun _=>by kernel_rfl)
noncomputable def cq.sg:SG Tryz.prog:=⟨147,aU,cq.E,.fn 0 (by kernel_rfl) cq.ok trivial⟩
abbrev cY.D:=Int×Int
def cY.st:cY.D→SA:=fun(p,kv)=>([.d tu p,.d tu kv],[])
abbrev cY.Y:=Int
abbrev cY.X:=Int
def cY.out:cY.X→aY:=fun x=>⟨.d tu x,[],[]⟩
def cY.add:cY.D→cY.Y→cY.X:=fun(p,kv) y=>y
def cY.aB:cY.D→Prop:=fun(p,k)=>ia p∧ia k
def cY.F:cY.D→cY.Y:=fun(p,k)=>mh p k
noncomputable def cY.G:dR:=eO (P:=Tryz.prog) [cq.sg,aX.sg]
noncomputable def cY.an:eu:= {}
noncomputable def cY.A:= @cI Tryz.prog cY.G cY.an 0 Tryz.f106 _ cY.st
abbrev cY.Ok:=cJ @cY.A cY.aB cY.add cY.F cY.out
theorem cY.eq{R:Type}(p:Int)(kv:Int)(k:aY→Option R):cY.A (p,kv) k=
 aq (cq.call p) fun x1=>
 aq (aX.call (x1,(iT kv (2305843009213688669:Int)))) fun x2=>
 k (cY.out x2):=by kernel_rfl
theorem cY.ok:cY.Ok:=by
 rintro⟨p,k⟩ ⟨hp,hk⟩
 have hk:ia k:=hk
 have e:=nE (y:=2305843009213688669) hk.1
 have b:ia (k%2305843009213688669):=⟨by omega,by omega⟩
 rw[cY.eq,cq.run (d:=p) hp,e]
 simp only[ab,cq.add,cq.F]
 rw[aX.run (d:=(tk p,k%2305843009213688669)) ⟨(Be p).u,b⟩]
 rfl
noncomputable def cY.E:=Entry.ct [some tu,some tu] cY.st cY.aB cY.add cY.F cY.out
noncomputable def cY.call:cY.D→Option cY.X:=bG cY.E cY.st
theorem cY.run:bB cY.call cY.aB cY.add cY.F:=cO (cM [.d tu,.d tu] fun _=>by kernel_rfl)
noncomputable def cY.sg:SG Tryz.prog:=⟨106,aU,cY.E,.fn 0 (by kernel_rfl) cY.ok trivial⟩
abbrev dj.D:=Int
def dj.st:dj.D→SA:=fun kv=>([.d tu kv],[])
abbrev dj.Y:=Int
abbrev dj.X:=Int
def dj.out:dj.X→aY:=fun x=>⟨.d tu x,[],[]⟩
def dj.add:dj.D→dj.Y→dj.X:=fun kv y=>y
def dj.aB:dj.D→Prop:=fun k=>ia k
def dj.F:dj.D→dj.Y:=fun k=>gE k
noncomputable def dj.G:dR:=eO (P:=Tryz.prog) [cY.sg]
noncomputable def dj.an:eu:= {}
noncomputable def dj.A:= @cI Tryz.prog dj.G dj.an 0 Tryz.f44 _ dj.st
abbrev dj.Ok:=cJ @dj.A dj.aB dj.add dj.F dj.out
theorem dj.eq{R:Type}(kv:Int)(k:aY→Option R):dj.A kv k=
 aq (cY.call ((4:Int),kv)) fun x1=>
 k (dj.out x1):=by kernel_rfl
theorem dj.ok:dj.Ok:=by
 intro k hk
 rw[dj.eq,cY.run (d:=(4,k)) ⟨⟨by omega,by omega⟩,hk⟩]
 rfl
noncomputable def dj.E:=Entry.ct [some tu] dj.st dj.aB dj.add dj.F dj.out
noncomputable def dj.call:dj.D→Option dj.X:=bG dj.E dj.st
theorem dj.run:bB dj.call dj.aB dj.add dj.F:=cO (cM [.d tu] fun _=>by kernel_rfl)
noncomputable def dj.sg:SG Tryz.prog:=⟨44,aU,dj.E,.fn 0 (by kernel_rfl) dj.ok trivial⟩
abbrev fu.D:=Int
def fu.st:fu.D→SA:=fun p=>([.d tu p],[])
abbrev fu.Y:=Int
abbrev fu.X:=Int
def fu.out:fu.X→aY:=fun x=>⟨.d tu x,[],[]⟩
def fu.add:fu.D→fu.Y→fu.X:=fun p y=>y
def fu.aB:fu.D→Prop:=fun p=>ia p
def fu.F:fu.D→fu.Y:=fun p=>v3 p
noncomputable def fu.G:dR:=eO (P:=Tryz.prog) [cq.sg,aX.sg]
noncomputable def fu.an:eu:= {}
noncomputable def fu.A:= @cI Tryz.prog fu.G fu.an 0 Tryz.f146 _ fu.st
abbrev fu.Ok:=cJ @fu.A fu.aB fu.add fu.F fu.out
theorem fu.eq{R:Type}(p:Int)(k:aY→Option R):fu.A p k=
 aq (cq.call p) fun x1=>
 aq (aX.call (x1,(2305843009213688668:Int))) fun x2=>
 k (fu.out x2):=by kernel_rfl
theorem fu.ok:fu.Ok:=by
 intro p hp
 rw[fu.eq,cq.run (d:=p) hp]
 simp only[ab,cq.add,cq.F]
 rw[aX.run (d:=(tk p,2305843009213688668)) ⟨(Be p).u,by constructor <;> decide⟩]
 rfl
noncomputable def fu.E:=Entry.ct [some tu] fu.st fu.aB fu.add fu.F fu.out
noncomputable def fu.call:fu.D→Option fu.X:=bG fu.E fu.st
theorem fu.run:bB fu.call fu.aB fu.add fu.F:=cO (cM [.d tu] fun _=>by kernel_rfl)
noncomputable def fu.sg:SG Tryz.prog:=⟨146,aU,fu.E,.fn 0 (by kernel_rfl) fu.ok trivial⟩
abbrev cz.L0.D:=Int×Bs×Int×Int
def cz.L0.st:cz.L0.D→AS:=fun(outv,t6,t7,t8)=>⟨([.undef,.undef,.undef,.d tu outv,.undef,.undef,.d tU t6,.d ti t7,.d ti t8]++ba 9 []),[],(List.replicate 18 [])⟩
abbrev cz.L0.Y0:=Int
abbrev cz.L0.X0:=Int
def cz.L0.bq:cz.L0.X0→Exit×AS:=fun x=>(.exit 0,⟨([.undef,.undef,.undef,.d tu x]++ba 14 []),[],(List.replicate 18 [])⟩)
abbrev cz.L0.X:=cz.L0.X0
abbrev cz.L0.Y:=cz.L0.Y0
def cz.L0.out:cz.L0.X→Out (Exit×AS):=fun x=> .ok (cz.L0.bq x)
def cz.L0.add:cz.L0.D→cz.L0.Y→cz.L0.X:=fun(outv,t6,t7,t8) y=>y
abbrev cz.D:=Bs
def cz.st:cz.D→SA:=fun l=>([.d tU l],[])
abbrev cz.Y:=Int
abbrev cz.X:=Int
def cz.out:cz.X→aY:=fun x=>⟨.d tu x,[],[]⟩
def cz.add:cz.D→cz.Y→cz.X:=fun l y=>y
def cz.L0.aB:cz.L0.D→Prop:=fun(o,l,n,i)=>Pn o∧(∀x∈l,ia x)∧l.length≤1000000000∧n=l.length∧∃k:Nat,k≤l.length∧i=k
def cz.L0.F:cz.L0.D→cz.L0.Y:=fun(o,l,n,i)=>(l.drop i.toNat).foldl (fun o p=>ji o (tk p)) o
def cz.aB:cz.D→Prop:=fun l=>(∀x∈l,ia x)∧l.length≤1000000000
def cz.F:cz.D→cz.Y:=fun l=>qI l
noncomputable def cz.G:dR:=eO (P:=Tryz.prog) [cq.sg,cV.sg]
noncomputable def cz.L0.E:=bM.ct cz.L0.st cz.L0.aB cz.L0.add cz.L0.F cz.L0.out
noncomputable def cz.L0.call:cz.L0.D→Option cz.L0.X:=dg cz.L0.E cz.L0.st
noncomputable def cz.an:eu:= {loops:=jO [(3,{bh:=[3,6,7,8]})],outs:=jN [(3,{bh:=[3]},{bh:=[2]})],fF:=ky [(3,cz.L0.E)]}
noncomputable def cz.A:= @cI Tryz.prog cz.G cz.an 0 Tryz.f144 _ cz.st
abbrev cz.Ok:=cJ @cz.A cz.aB cz.add cz.F cz.out
noncomputable def cz.L0.R:= @cf Tryz.prog cz.G cz.an 0 Tryz.f144 0 _ cz.L0.st
abbrev cz.L0.Ok:=ez Tryz.prog cz.G cz.an 0 Tryz.f144 0 cz.L0.st cz.L0.aB cz.L0.add cz.L0.F cz.L0.out
theorem cz.L0.run:bB cz.L0.call cz.L0.aB cz.L0.add cz.L0.F:=eE (eD [.d tu,.d tU,.d ti,.d ti] fun _=>by kernel_rfl)
theorem cz.L0.aH:fP @cz.L0.R cz.L0.st cz.L0.aB cz.L0.add cz.L0.F cz.L0.bq cz.L0.Ok:=fS
theorem cz.L0.step{R:Type}(outv:Int)(t6:Bs)(t7:Int)(t8:Int)(kn:AS→Option R)(kx:Exit→AS→Option R):cz.L0.R (outv,t6,t7,t8) kn kx=
  aJ ((fY t8 t7)) (
   aJ (eh t8 (((List.length t6):Nat):Int)) (
   aq (cq.call (nth tu t6 (Int.toNat t8))) fun x1=>
   aq (cV.call (outv,x1)) fun x2=>
   kn (cz.L0.st (x2,t6,t7,(bK .i64 t8 (1:Int))))) none) (
   kx (cz.L0.bq outv).1 (cz.L0.bq outv).2):=by kernel_rfl
theorem cz.eq{R:Type}(l:Bs)(k:aY→Option R):cz.A l k=
 aq (cz.L0.call ((1:Int),l,(((List.length l):Nat):Int),(0:Int))) fun x3=>
 k (cz.out x3):=by kernel_rfl
theorem cz.L0.ok:cz.L0.Ok:=by
 refine cz.L0.aH (fun(o,l,n,i)=>l.length - i.toNat) ?_
 rintro⟨o,l,n,i⟩ ⟨ho,hl,hb,rfl,k,hk,rfl⟩
 have ho:Pn o:=ho
 have hb:l.length≤1000000000:=hb
 have hk:k≤l.length:=hk
 by_cases h:k < l.length
 ·left
  have hx:=hl _ (List.getElem_mem h)
  have n1:nth (.int .u64) l k=l[k]:=cw (t:= .int .u64) h
  refine⟨(ji o (tk l[k]),l,l.length,((k+1:Nat):Int)),⟨kZ _ _,hl,hb,rfl,k+1,by omega,rfl⟩,by simp only[Int.toNat_natCast];omega,?_,fun kn kx=> ?_⟩
  ·simp only[cz.L0.add,cz.L0.F,Int.toNat_natCast]
   rw[List.drop_eq_getElem_cons h]
   rfl
  ·rw[cz.L0.step]
   simp(disch:=omega) only[↓S1,↓if_pos,↓if_neg,if_pos,if_neg,if_true,if_false,S2,n1]
   rw[cq.run (d:=l[k]) hx]
   simp only[ab,cq.add,cq.F]
   rw[cV.run (d:=(o,tk l[k])) ⟨ho.u,(Be _).u⟩]
   rfl
 ·right
  obtain rfl:k=l.length:=by omega
  intro R kn kx
  rw[cz.L0.step]
  simp(disch:=omega) only[↓S1,↓if_pos,↓if_neg,if_pos,if_neg,if_true,if_false,S2,cz.L0.add,cz.L0.F,List.drop_length]
  rfl
theorem cz.ok:cz.Ok:=by
 rintro l ⟨hl,hb⟩
 rw[cz.eq,cz.L0.run (d:=(1,l,l.length,0)) ⟨⟨by omega,by omega⟩,hl,hb,rfl,0,by omega,rfl⟩]
 rfl
noncomputable def cz.E:=Entry.ct [some tU] cz.st cz.aB cz.add cz.F cz.out
noncomputable def cz.call:cz.D→Option cz.X:=bG cz.E cz.st
theorem cz.run:bB cz.call cz.aB cz.add cz.F:=cO (cM [.d tU] fun _=>by kernel_rfl)
noncomputable def cz.sg:SG Tryz.prog:=⟨144,aU,cz.E,.fn 1 (by kernel_rfl) cz.ok (And.intro (.ct cz.L0.ok (by kernel_rfl)) trivial)⟩
abbrev fq.D:=Int×Int
def fq.st:fq.D→SA:=fun(p,q)=>([.d tu p,.d tu q],[])
abbrev fq.Y:=Int
abbrev fq.X:=Int
def fq.out:fq.X→aY:=fun x=>⟨.d tu x,[],[]⟩
def fq.add:fq.D→fq.Y→fq.X:=fun(p,q) y=>y
def fq.aB:fq.D→Prop:=fun(p,q)=>ia p∧ia q
def fq.F:fq.D→fq.Y:=fun(p,q)=>qI [p,q]
noncomputable def fq.G:dR:=eO (P:=Tryz.prog) [cz.sg]
noncomputable def fq.an:eu:= {}
noncomputable def fq.A:= @cI Tryz.prog fq.G fq.an 0 Tryz.f158 _ fq.st
abbrev fq.Ok:=cJ @fq.A fq.aB fq.add fq.F fq.out
theorem fq.eq{R:Type}(p:Int)(q:Int)(k:aY→Option R):fq.A (p,q) k=
 aq (cz.call [p,q]) fun x1=>
 k (fq.out x1):=by kernel_rfl
theorem fq.ok:fq.Ok:=by
 rintro⟨p,q⟩ ⟨hp,hq⟩
 have h:cz.aB [p,q]:=⟨by intro x hx;simp only[List.mem_cons,List.not_mem_nil,or_false]at hx;rcases hx with rfl | rfl <;> assumption,by simp only[List.length_cons,List.length_nil];omega⟩
 rw[fq.eq,cz.run h]
 rfl
noncomputable def fq.E:=Entry.ct [some tu,some tu] fq.st fq.aB fq.add fq.F fq.out
noncomputable def fq.call:fq.D→Option fq.X:=bG fq.E fq.st
theorem fq.run:bB fq.call fq.aB fq.add fq.F:=cO (cM [.d tu,.d tu] fun _=>by kernel_rfl)
noncomputable def fq.sg:SG Tryz.prog:=⟨158,aU,fq.E,.fn 0 (by kernel_rfl) fq.ok trivial⟩
set_option synthInstance.maxSize 5000
def Qn(x:Int):Prop:=0≤x∧x < 2305843009213688669
theorem Qn.u{x:Int}(h:Qn x):ia x:=⟨h.1,by have:=h.2;omega⟩
def AO(a:Int):Int:=a%2305843009213688669
theorem uE(a:Int):Qn (AO a):=⟨Int.emod_nonneg _ (by omega),Int.emod_lt_of_pos _ (by omega)⟩
def w3(a b:Int):Int:=(AO a+AO b)%2305843009213688669
def uB(a b:Int):Int:=AO a*AO b%2305843009213688669
def mX(h:List Int):Int:=h.foldl (fun n b=>(n*256+b)%2305843009213688668) 0+1
def zQ.b(n:Int):Prop:=0≤n∧n < 2305843009213688668
theorem vA(h:List Int)(n:Int)(hn:zQ.b n):zQ.b (h.foldl (fun n b=>(n*256+b)%2305843009213688668) n):=by
 induction h generalizing n with
 |nil=>exact hn
 |cons p l ih=>exact ih _ ⟨Int.emod_nonneg _ (by omega),Int.emod_lt_of_pos _ (by omega)⟩
theorem rq(h:List Int):0 < mX h∧mX h < 2305843009213688669:=by
 have:=vA h 0 ⟨by omega,by omega⟩
 have h1:=this.1
 have h2:=this.2
 unfold mX
 omega
theorem xS(a b:Int):Qn (w3 a b):=⟨Int.emod_nonneg _ (by omega),Int.emod_lt_of_pos _ (by omega)⟩
theorem BU(a b:Int):Qn (uB a b):=⟨Int.emod_nonneg _ (by omega),Int.emod_lt_of_pos _ (by omega)⟩
abbrev cC.D:=Int
def cC.st:cC.D→SA:=fun a=>([.d tu a],[])
abbrev cC.Y:=Bool
abbrev cC.X:=Bool
def cC.out:cC.X→aY:=fun x=>⟨.d .bool x,[],[]⟩
def cC.add:cC.D→cC.Y→cC.X:=fun a y=>y
def cC.aB:cC.D→Prop:=fun _=>True
def cC.F:cC.D→cC.Y:=fun a=>fY a 2305843009213688669
noncomputable def cC.G:dR:=eO (P:=Tryz.prog) []
noncomputable def cC.an:eu:= {}
noncomputable def cC.A:= @cI Tryz.prog cC.G cC.an 0 Tryz.f88 _ cC.st
abbrev cC.Ok:=cJ @cC.A cC.aB cC.add cC.F cC.out
theorem cC.eq{R:Type}(a:Int)(k:aY→Option R):cC.A a k=
 k (cC.out (fY a (2305843009213688669:Int))):=by kernel_rfl
theorem cC.ok:cC.Ok:=by
 intro a _
 rw[cC.eq]
 rfl
noncomputable def cC.E:=Entry.ct [some tu] cC.st cC.aB cC.add cC.F cC.out
noncomputable def cC.call:cC.D→Option cC.X:=bG cC.E cC.st
theorem cC.run:bB cC.call cC.aB cC.add cC.F:=cO (cM [.d tu] fun _=>by kernel_rfl)
noncomputable def cC.sg:SG Tryz.prog:=⟨88,aU,cC.E,.fn 0 (by kernel_rfl) cC.ok trivial⟩
abbrev ik.D:=Int
def ik.st:ik.D→SA:=fun a=>([.d tu a],[])
abbrev ik.Y:=Int
abbrev ik.X:=Int
def ik.out:ik.X→aY:=fun x=>⟨.d tu x,[],[]⟩
def ik.add:ik.D→ik.Y→ik.X:=fun a y=>y
def ik.aB:ik.D→Prop:=fun a=>ia a
def ik.F:ik.D→ik.Y:=fun a=>AO a
noncomputable def ik.G:dR:=eO (P:=Tryz.prog) []
noncomputable def ik.an:eu:= {}
noncomputable def ik.A:= @cI Tryz.prog ik.G ik.an 0 Tryz.f175 _ ik.st
abbrev ik.Ok:=cJ @ik.A ik.aB ik.add ik.F ik.out
theorem ik.eq{R:Type}(a:Int)(k:aY→Option R):ik.A a k=
 k (ik.out (iT a (2305843009213688669:Int))):=by kernel_rfl
theorem ik.ok:ik.Ok:=by
 intro a ha
 rw[ik.eq,nE ha.1]
 rfl
noncomputable def ik.E:=Entry.ct [some tu] ik.st ik.aB ik.add ik.F ik.out
noncomputable def ik.call:ik.D→Option ik.X:=bG ik.E ik.st
theorem ik.run:bB ik.call ik.aB ik.add ik.F:=cO (cM [.d tu] fun _=>by kernel_rfl)
noncomputable def ik.sg:SG Tryz.prog:=⟨175,aU,ik.E,.fn 0 (by kernel_rfl) ik.ok trivial⟩
abbrev ed.D:=Int×Int
def ed.st:ed.D→SA:=fun(a,b)=>([.d tu a,.d tu b],[])
abbrev ed.Y:=Int
abbrev ed.X:=Int
def ed.out:ed.X→aY:=fun x=>⟨.d tu x,[],[]⟩
def ed.add:ed.D→ed.Y→ed.X:=fun(a,b) y=>y
def ed.aB:ed.D→Prop:=fun(a,b)=>Qn a∧Qn b
def ed.F:ed.D→ed.Y:=fun(a,b)=>(a+b)%2305843009213688669
noncomputable def ed.G:dR:=eO (P:=Tryz.prog) []
noncomputable def ed.an:eu:= {}
noncomputable def ed.A:= @cI Tryz.prog ed.G ed.an 0 Tryz.f176 _ ed.st
abbrev ed.Ok:=cJ @ed.A ed.aB ed.add ed.F ed.out
theorem ed.eq{R:Type}(a:Int)(b:Int)(k:aY→Option R):ed.A (a,b) k=
 k (ed.out (iT (bK .u64 a b) (2305843009213688669:Int))):=by kernel_rfl
theorem ed.ok:ed.Ok:=by
 rintro⟨a,b⟩ ⟨ha,hb⟩
 have ha:Qn a:=ha
 have hb:Qn b:=hb
 obtain⟨h1,h2⟩:=ha
 obtain⟨h3,h4⟩:=hb
 have e:bK .u64 a b=a+b:=by rw[kk];omega
 rw[ed.eq,e,nE (by omega)]
 rfl
noncomputable def ed.E:=Entry.ct [some tu,some tu] ed.st ed.aB ed.add ed.F ed.out
noncomputable def ed.call:ed.D→Option ed.X:=bG ed.E ed.st
theorem ed.run:bB ed.call ed.aB ed.add ed.F:=cO (cM [.d tu,.d tu] fun _=>by kernel_rfl)
noncomputable def ed.sg:SG Tryz.prog:=⟨176,aU,ed.E,.fn 0 (by kernel_rfl) ed.ok trivial⟩
abbrev di.D:=Int×Int
def di.st:di.D→SA:=fun(a,b)=>([.d tu a,.d tu b],[])
abbrev di.Y:=Int
abbrev di.X:=Int
def di.out:di.X→aY:=fun x=>⟨.d tu x,[],[]⟩
def di.add:di.D→di.Y→di.X:=fun(a,b) y=>y
def di.aB:di.D→Prop:=fun(a,b)=>Qn a∧Qn b
def di.F:di.D→di.Y:=fun(a,b)=>a*b%2305843009213688669
noncomputable def di.G:dR:=eO (P:=Tryz.prog) [dy.sg,dm.sg]
noncomputable def di.an:eu:= {}
noncomputable def di.A:= @cI Tryz.prog di.G di.an 0 Tryz.f177 _ di.st
abbrev di.Ok:=cJ @di.A di.aB di.add di.F di.out
theorem di.eq{R:Type}(a:Int)(b:Int)(k:aY→Option R):di.A (a,b) k=
 aq (dy.call (a,b)) fun x1=>
 aq (dm.call (x1.1,x1.2,(2305843009213688669:Int))) fun x2=>
 k (di.out x2):=by kernel_rfl
theorem di.ok:di.Ok:=by
 rintro⟨a,b⟩ ⟨ha,hb⟩
 have ha:Qn a:=ha
 have hb:Qn b:=hb
 obtain⟨m1,m2⟩:=pV ha.1 (show a≤18446744073709551615 by have:=ha.2;omega) hb.1 (show b≤18446744073709551615 by have:=hb.2;omega)
 have n:(18446744073709551615:Int)*18446744073709551615=340282366920938463426481119284349108225:=rfl
 rw[n]at m2
 have p:dm.aB (a*b / 18446744073709551616,a*b%18446744073709551616,2305843009213688669):=⟨Or.inr (Or.inl rfl),by omega,by omega,by omega,by omega⟩
 rw[di.eq,dy.run (d:=(a,b)) ⟨ha.u,hb.u⟩]
 simp only[ab,dy.add,dy.F]
 rw[dm.run p]
 simp only[ab,dm.add,dm.F,sx]
 rfl
noncomputable def di.E:=Entry.ct [some tu,some tu] di.st di.aB di.add di.F di.out
noncomputable def di.call:di.D→Option di.X:=bG di.E di.st
theorem di.run:bB di.call di.aB di.add di.F:=cO (cM [.d tu,.d tu] fun _=>by kernel_rfl)
noncomputable def di.sg:SG Tryz.prog:=⟨177,aU,di.E,.fn 0 (by kernel_rfl) di.ok trivial⟩
abbrev fy.D:=Int×Int
def fy.st:fy.D→SA:=fun(a,b)=>([.d tu a,.d tu b],[])
abbrev fy.Y:=Int
abbrev fy.X:=Int
def fy.out:fy.X→aY:=fun x=>⟨.d tu x,[],[]⟩
def fy.add:fy.D→fy.Y→fy.X:=fun(a,b) y=>y
def fy.aB:fy.D→Prop:=fun(a,b)=>ia a∧ia b
def fy.F:fy.D→fy.Y:=fun(a,b)=>w3 a b
noncomputable def fy.G:dR:=eO (P:=Tryz.prog) [ik.sg,ed.sg]
noncomputable def fy.an:eu:= {}
noncomputable def fy.A:= @cI Tryz.prog fy.G fy.an 0 Tryz.f159 _ fy.st
abbrev fy.Ok:=cJ @fy.A fy.aB fy.add fy.F fy.out
theorem fy.eq{R:Type}(a:Int)(b:Int)(k:aY→Option R):fy.A (a,b) k=
 aq (ik.call a) fun x1=>
 aq (ik.call b) fun x2=>
 aq (ed.call (x1,x2)) fun x3=>
 k (fy.out x3):=by kernel_rfl
theorem fy.ok:fy.Ok:=by
 rintro⟨a,b⟩ ⟨ha,hb⟩
 rw[fy.eq,ik.run (d:=a) ha,ik.run (d:=b) hb]
 simp only[ab,ik.add,ik.F]
 rw[ed.run (d:=(AO a,AO b)) ⟨uE a,uE b⟩]
 rfl
noncomputable def fy.E:=Entry.ct [some tu,some tu] fy.st fy.aB fy.add fy.F fy.out
noncomputable def fy.call:fy.D→Option fy.X:=bG fy.E fy.st
theorem fy.run:bB fy.call fy.aB fy.add fy.F:=cO (cM [.d tu,.d tu] fun _=>by kernel_rfl)
noncomputable def fy.sg:SG Tryz.prog:=⟨159,aU,fy.E,.fn 0 (by kernel_rfl) fy.ok trivial⟩
abbrev fo.D:=Int×Int
def fo.st:fo.D→SA:=fun(a,b)=>([.d tu a,.d tu b],[])
abbrev fo.Y:=Int
abbrev fo.X:=Int
def fo.out:fo.X→aY:=fun x=>⟨.d tu x,[],[]⟩
def fo.add:fo.D→fo.Y→fo.X:=fun(a,b) y=>y
def fo.aB:fo.D→Prop:=fun(a,b)=>ia a∧ia b
def fo.F:fo.D→fo.Y:=fun(a,b)=>uB a b
noncomputable def fo.G:dR:=eO (P:=Tryz.prog) [ik.sg,di.sg]
noncomputable def fo.an:eu:= {}
noncomputable def fo.A:= @cI Tryz.prog fo.G fo.an 0 Tryz.f160 _ fo.st
abbrev fo.Ok:=cJ @fo.A fo.aB fo.add fo.F fo.out
theorem fo.eq{R:Type}(a:Int)(b:Int)(k:aY→Option R):fo.A (a,b) k=
 aq (ik.call a) fun x1=>
 aq (ik.call b) fun x2=>
 aq (di.call (x1,x2)) fun x3=>
 k (fo.out x3):=by kernel_rfl
theorem fo.ok:fo.Ok:=by
 rintro⟨a,b⟩ ⟨ha,hb⟩
 rw[fo.eq,ik.run (d:=a) ha,ik.run (d:=b) hb]
 simp only[ab,ik.add,ik.F]
 rw[di.run (d:=(AO a,AO b)) ⟨uE a,uE b⟩]
 rfl
noncomputable def fo.E:=Entry.ct [some tu,some tu] fo.st fo.aB fo.add fo.F fo.out
noncomputable def fo.call:fo.D→Option fo.X:=bG fo.E fo.st
theorem fo.run:bB fo.call fo.aB fo.add fo.F:=cO (cM [.d tu,.d tu] fun _=>by kernel_rfl)
noncomputable def fo.sg:SG Tryz.prog:=⟨160,aU,fo.E,.fn 0 (by kernel_rfl) fo.ok trivial⟩
abbrev bt.L0.D:=Int×Bs×Int
def bt.L0.st:bt.L0.D→AS:=fun(n,t6,t7)=>⟨([.undef,.undef,.undef,.d tu n,.undef,.undef,.d tH t6,.d ti t7]++ba 13 []),[],(List.replicate 21 [])⟩
abbrev bt.L0.Y0:=Int
abbrev bt.L0.X0:=Int
def bt.L0.bq:bt.L0.X0→Exit×AS:=fun x=>(.exit 0,⟨([.undef,.undef,.undef,.d tu x]++ba 17 []),[],(List.replicate 21 [])⟩)
abbrev bt.L0.X:=bt.L0.X0
abbrev bt.L0.Y:=bt.L0.Y0
def bt.L0.out:bt.L0.X→Out (Exit×AS):=fun x=> .ok (bt.L0.bq x)
def bt.L0.add:bt.L0.D→bt.L0.Y→bt.L0.X:=fun(n,t6,t7) y=>y
abbrev bt.D:=Bs
def bt.st:bt.D→SA:=fun h=>([.d tH h],[])
abbrev bt.Y:=Int
abbrev bt.X:=Int
def bt.out:bt.X→aY:=fun x=>⟨.d tu x,[],[]⟩
def bt.add:bt.D→bt.Y→bt.X:=fun h y=>y
def bt.L0.aB:bt.L0.D→Prop:=fun(n,h,i)=>zQ.b n∧h.length=32∧Bytes h∧∃k:Nat,k≤32∧i=k
def bt.L0.F:bt.L0.D→bt.L0.Y:=fun(n,h,i)=>(h.drop i.toNat).foldl (fun n b=>(n*256+b)%2305843009213688668) n
def bt.aB:bt.D→Prop:=fun h=>h.length=32∧Bytes h
def bt.F:bt.D→bt.Y:=fun h=>mX h
noncomputable def bt.G:dR:=eO (P:=Tryz.prog) [dm.sg]
noncomputable def bt.L0.E:=bM.ct bt.L0.st bt.L0.aB bt.L0.add bt.L0.F bt.L0.out
noncomputable def bt.L0.call:bt.L0.D→Option bt.L0.X:=dg bt.L0.E bt.L0.st
noncomputable def bt.an:eu:= {loops:=jO [(3,{bh:=[3,6,7]})],outs:=jN [(3,{bh:=[3]},{bh:=[2]})],fF:=ky [(3,bt.L0.E)]}
noncomputable def bt.A:= @cI Tryz.prog bt.G bt.an 0 Tryz.f124 _ bt.st
abbrev bt.Ok:=cJ @bt.A bt.aB bt.add bt.F bt.out
noncomputable def bt.L0.R:= @cf Tryz.prog bt.G bt.an 0 Tryz.f124 0 _ bt.L0.st
abbrev bt.L0.Ok:=ez Tryz.prog bt.G bt.an 0 Tryz.f124 0 bt.L0.st bt.L0.aB bt.L0.add bt.L0.F bt.L0.out
theorem bt.L0.run:bB bt.L0.call bt.L0.aB bt.L0.add bt.L0.F:=eE (eD [.d tu,.d tB,.d ti] fun _=>by kernel_rfl)
theorem bt.L0.aH:fP @bt.L0.R bt.L0.st bt.L0.aB bt.L0.add bt.L0.F bt.L0.bq bt.L0.Ok:=fS
theorem bt.L0.step{R:Type}(n:Int)(t6:Bs)(t7:Int)(kn:AS→Option R)(kx:Exit→AS→Option R):bt.L0.R (n,t6,t7) kn kx=
  aJ ((fY t7 (32:Int))) (
   aJ (eh t7 (32:Int)) (
   aq (dm.call ((bI .u64 n (56:Int)),(cl .or .u64 (gm .u64 n (8:Int)) (dA .u64 (nth tb t6 (Int.toNat t7)))),(2305843009213688668:Int))) fun x1=>
   kn (bt.L0.st (x1,t6,(bK .i64 t7 (1:Int))))) none) (
   kx (bt.L0.bq n).1 (bt.L0.bq n).2):=by kernel_rfl
theorem bt.eq{R:Type}(h:Bs)(k:aY→Option R):bt.A h k=
 aq (bt.L0.call ((0:Int),h,(0:Int))) fun x2=>
 k (bt.out (bK .u64 x2 (1:Int))):=by kernel_rfl
theorem ql{n b:Int}(hn:zQ.b n)(hb:tN b):bI .u64 n 56*18446744073709551616+cl .or .u64 (gm .u64 n 8) (dA .u64 b)=n*256+b∧ia (bI .u64 n 56)∧ia (cl .or .u64 (gm .u64 n 8) (dA .u64 b)):=by
 obtain⟨h1,h2⟩:=hn
 obtain⟨h3,h4⟩:=hb
 have p56:(2:Int)^56=72057594037927936:=rfl
 have p8:(2:Int)^8=256:=rfl
 have e:dA .u64 b=b:=by rw[Au];omega
 rw[jF 56 (by rfl) (by omega),jE 8 (by rfl) (by omega),p56,p8,e,pa 8 256 rfl (by omega) (by omega) (by omega) (by omega) (by omega) (by omega)]
 exact⟨by omega,⟨by omega,by omega⟩,by omega,by omega⟩
theorem bt.L0.ok:bt.L0.Ok:=by
 refine bt.L0.aH (fun(n,h,i)=>32 - i.toNat) ?_
 rintro⟨n,h,i⟩ ⟨hn,hl,hb,k,hk,rfl⟩
 have hn:zQ.b n:=hn
 have hl:h.length=32:=hl
 have hb:Bytes h:=hb
 by_cases hlt:k < 32
 ·left
  have hx:tN (h[k]'(by omega)):=hb _ (List.getElem_mem _)
  have n1:nth (.int .u8) h k=h[k]'(by omega):=cw (t:= .int .u8) (by omega)
  obtain⟨d1,d2,d3⟩:=ql hn hx
  refine⟨((n*256+h[k]'(by omega))%2305843009213688668,h,((k+1:Nat):Int)),⟨⟨by omega,by omega⟩,hl,hb,k+1,by omega,rfl⟩,by simp only[Int.toNat_natCast];omega,?_,fun kn kx=> ?_⟩
  ·simp only[bt.L0.add,bt.L0.F,Int.toNat_natCast]
   rw[List.drop_eq_getElem_cons (by omega:k < h.length)]
   rfl
  ·rw[bt.L0.step]
   simp(disch:=omega) only[↓S1,↓if_pos,↓if_neg,if_pos,if_neg,if_true,if_false,S2,n1]
   rw[dm.run (d:=(_,_,2305843009213688668)) ⟨Or.inr (Or.inr rfl),d2.1,d2.2,d3.1,d3.2⟩]
   simp only[ab,dm.add,dm.F,d1]
 ·right
  obtain rfl:k=32:=by omega
  intro R kn kx
  rw[bt.L0.step]
  simp(disch:=omega) only[↓S1,↓if_pos,↓if_neg,if_pos,if_neg,if_true,if_false,S2,bt.L0.add,bt.L0.F]
  rw[List.drop_of_length_le (by omega)]
  rfl
theorem bt.ok:bt.Ok:=by
 rintro h ⟨hl,hb⟩
 have e:=vA h 0 ⟨by omega,by omega⟩
 have h1:=e.1
 have h2:=e.2
 rw[bt.eq,bt.L0.run (d:=(0,h,0)) ⟨⟨by omega,by omega⟩,hl,hb,0,by omega,rfl⟩]
 simp only[ab,bt.L0.add,bt.L0.F,bt.add,bt.F,mX,Int.toNat_zero,List.drop_zero]
 revert h1 h2
 generalize h.foldl (fun n b=>(n*256+b)%2305843009213688668) 0=m
 intro h1 h2
 have e:bK .u64 m 1=m+1:=by rw[kk];omega
 rw[e]
noncomputable def bt.E:=Entry.ct [some tH] bt.st bt.aB bt.add bt.F bt.out
noncomputable def bt.call:bt.D→Option bt.X:=bG bt.E bt.st
theorem bt.run:bB bt.call bt.aB bt.add bt.F:=cO (cM [.d tB] fun _=>by kernel_rfl)
noncomputable def bt.sg:SG Tryz.prog:=⟨124,aU,bt.E,.fn 1 (by kernel_rfl) bt.ok (And.intro (.ct bt.L0.ok (by kernel_rfl)) trivial)⟩
set_option synthInstance.maxSize 5000
theorem vc(n:Int): [dA .u8 (bI .u64 n 56),dA .u8 (bI .u64 n 48),dA .u8 (bI .u64 n 40),dA .u8 (bI .u64 n 32),dA .u8 (bI .u64 n 24),dA .u8 (bI .u64 n 16),dA .u8 (bI .u64 n 8),dA .u8 (bI .u64 n 0)]=fJ n:=w6 n
theorem fa{α:Type}{l:List α}{n:Nat}(h:l.length=n):cut l 0 n=l:=by subst h;simp[cut]
theorem Bd{n:ByteArray}{a b c:List Int}(hn:n.size≤100)(ha:a.length≤1000000)(hb:b.length≤1000000)(hc:c.length≤1000000):bP.aB (n,[a,b,c]):=by
 show(qf _ [a,b,c]).length≤_
 rw[qf]
 simp only[gQ,List.flatMap_cons,List.flatMap_nil,List.length_append,bJ,gf,List.length_nil]
 omega
theorem Bc{n:ByteArray}{a b:List Int}(hn:n.size≤100)(ha:a.length≤1000000)(hb:b.length≤1000000):bP.aB (n,[a,b]):=by
 show(qf _ [a,b]).length≤_
 rw[qf]
 simp only[gQ,List.flatMap_cons,List.flatMap_nil,List.length_append,bJ,gf,List.length_nil]
 omega
theorem sk{n:ByteArray}{a:List Int}(hn:n.size≤100)(ha:a.length≤1000000):bP.aB (n,[a]):=by
 show(qf _ [a]).length≤_
 rw[qf]
 simp only[gQ,List.flatMap_cons,List.flatMap_nil,List.length_append,bJ,gf,List.length_nil]
 omega
def Sm(m:List Int):Prop:=m.length=32∧Bytes m
theorem C6(b:List Int):Sm (C1 b):=⟨xD b,yV b⟩
theorem uM(n:List Int)(ps:List (List Int)):Sm (tag n ps):=C6 _
def wO(n:ByteArray)(ps:List (List Int)):List Int:=tag (bf n) ps
def DI:ByteArray:=⟨#[115,105,103]⟩
def xv:ByteArray:=⟨#[110,111,110,99,101]⟩
def mr(r p:Int)(m:List Int):Int:=mX (wO DI [fJ r,fJ p,m])
theorem rb(r p:Int)(m:List Int):Qn (mr r p m):=by
 have:=rq (wO DI [fJ r,fJ p,m])
 exact⟨by unfold mr;omega,by unfold mr;omega⟩
def Cy(s:Sg):Prop:=ia s.1∧ia s.2.1
def lf(p:Int)(m:List Int)(t:Int)(s:Sg):Bool:=
 if p=1∨lQ p=false∨lQ t=false∨lQ s.1=false∨¬s.2.1 < 2305843009213688669 then false
 else decide (gE s.2.1=qI [s.1,mh p (mr s.1 p m),v3 t])
def tR(k nonce:Int)(m:List Int)(t:Int):Sg:=
 (qI [gE nonce,t],w3 nonce (uB (mr (qI [gE nonce,t]) (gE k) m) k),())
def AM(k:Int)(m:List Int):Int:=mX (wO xv [fJ k,m])
def gX(k:Int)(m:List Int):Sg:=if k < 2305843009213688669∧k≠0 then tR k (AM k m) m 1 else(0,0,())
abbrev cG.D:=Int
def cG.st:cG.D→SA:=fun n=>([.d tu n],[])
abbrev cG.Y:=Bs
abbrev cG.X:=Bs
def cG.out:cG.X→aY:=fun x=>⟨.d tB x,[],[]⟩
def cG.add:cG.D→cG.Y→cG.X:=fun n y=>y
def cG.aB:cG.D→Prop:=fun _=>True
def cG.F:cG.D→cG.Y:=fun n=>fJ n
noncomputable def cG.G:dR:=eO (P:=Tryz.prog) []
noncomputable def cG.an:eu:= {loops:=jO [(3,{bh:=[0,3,7,8],sites:=[5]})],outs:=jN [(3,{bh:=[3],sites:=[5]},{bh:=[2],sites:=[5]})],res:=[some tB]}
noncomputable def cG.A:= @cI Tryz.prog cG.G cG.an 12 Tryz.f130 _ cG.st
abbrev cG.Ok:=cJ @cG.A cG.aB cG.add cG.F cG.out
theorem cG.eq{R:Type}(n:Int)(k:aY→Option R):cG.A n k=
 k (cG.out [(dA .u8 (bI .u64 n (56:Int))),(dA .u8 (bI .u64 n (48:Int))),(dA .u8 (bI .u64 n (40:Int))),(dA .u8 (bI .u64 n (32:Int))),(dA .u8 (bI .u64 n (24:Int))),(dA .u8 (bI .u64 n (16:Int))),(dA .u8 (bI .u64 n (8:Int))),(dA .u8 (bI .u64 n (0:Int)))]):=by kernel_rfl
theorem cG.ok:cG.Ok:=by
 intro n _
 rw[cG.eq,vc]
 rfl
noncomputable def cG.E:=Entry.ct [some tu] cG.st cG.aB cG.add cG.F cG.out
noncomputable def cG.call:cG.D→Option cG.X:=bG cG.E cG.st
theorem cG.run:bB cG.call cG.aB cG.add cG.F:=cO (cM [.d tu] fun _=>by kernel_rfl)
noncomputable def cG.sg:SG Tryz.prog:=⟨130,aU,cG.E,.fn 1 (by kernel_rfl) cG.ok (And.intro (.none (by kernel_rfl)) trivial)⟩
abbrev dD.D:=Int×Int×Bs
def dD.st:dD.D→SA:=fun(r,p,m)=>([.d tu r,.d tu p,.d tH m],[])
abbrev dD.Y:=Int
abbrev dD.X:=Int
def dD.out:dD.X→aY:=fun x=>⟨.d tu x,[],[]⟩
def dD.add:dD.D→dD.Y→dD.X:=fun(r,p,m) y=>y
def dD.aB:dD.D→Prop:=fun(r,p,m)=>Sm m
def dD.F:dD.D→dD.Y:=fun(r,p,m)=>mr r p m
noncomputable def dD.G:dR:=eO (P:=Tryz.prog) [cG.sg,bP.sg,bt.sg]
noncomputable def dD.an:eu:= {}
noncomputable def dD.A:= @cI Tryz.prog dD.G dD.an 0 Tryz.f145 _ dD.st
abbrev dD.Ok:=cJ @dD.A dD.aB dD.add dD.F dD.out
theorem dD.eq{R:Type}(r:Int)(p:Int)(m:Bs)(k:aY→Option R):dD.A (r,p,m) k=
 aq (cG.call r) fun x1=>
 aq (cG.call p) fun x2=>
 aq (bP.call ((⟨#[115,105,103]⟩:ByteArray),[x1,x2,(cut m 0 32)])) fun x3=>
 aq (bt.call x3) fun x4=>
 k (dD.out x4):=by kernel_rfl
theorem dD.ok:dD.Ok:=by
 rintro⟨r,p,m⟩ hm
 have hm:Sm m:=hm
 rw[dD.eq,cG.run (d:=r) trivial,cG.run (d:=p) trivial]
 simp only[ab,cG.add,cG.F]
 rw[fa hm.1,bP.run (Bd (by decide) (by rw[bJ];omega) (by rw[bJ];omega) (by rw[hm.1];omega))]
 simp only[ab,bP.add,bP.F]
 rw[bt.run (d:=tag (bf (⟨#[115,105,103]⟩:ByteArray)) [fJ r,fJ p,m]) (uM _ _)]
 rfl
noncomputable def dD.E:=Entry.ct [some tu,some tu,some tH] dD.st dD.aB dD.add dD.F dD.out
noncomputable def dD.call:dD.D→Option dD.X:=bG dD.E dD.st
theorem dD.run:bB dD.call dD.aB dD.add dD.F:=cO (cM [.d tu,.d tu,.d tB] fun _=>by kernel_rfl)
noncomputable def dD.sg:SG Tryz.prog:=⟨145,aU,dD.E,.fn 0 (by kernel_rfl) dD.ok trivial⟩
abbrev bV.D:=Int×Bs×Int×Sg
def bV.st:bV.D→SA:=fun(p,m,t,pre)=>([.d tu p,.d tH m,.d tu t,.d jg pre],[])
abbrev bV.Y:=Bool
abbrev bV.X:=Bool
def bV.out:bV.X→aY:=fun x=>⟨.d .bool x,[],[]⟩
def bV.add:bV.D→bV.Y→bV.X:=fun(p,m,t,pre) y=>y
def bV.aB:bV.D→Prop:=fun(p,m,t,s)=>ia p∧Sm m∧ia t∧Cy s
def bV.F:bV.D→bV.Y:=fun(p,m,t,s)=>lf p m t s
noncomputable def bV.G:dR:=eO (P:=Tryz.prog) [ch.sg,cC.sg,dD.sg,cY.sg,fu.sg,cz.sg,dj.sg]
noncomputable def bV.an:eu:= {}
noncomputable def bV.A:= @cI Tryz.prog bV.G bV.an 0 Tryz.f105 _ bV.st
abbrev bV.Ok:=cJ @bV.A bV.aB bV.add bV.F bV.out
theorem bV.eq{R:Type}(p:Int)(m:Bs)(t:Int)(pre:Sg)(k:aY→Option R):bV.A (p,m,t,pre) k=
  aJ ((nN p (1:Int))) (
   k (bV.out false)) (
   aq (ch.call p) fun x1=>
   aJ ((!x1)) (
    k (bV.out false)) (
    aq (ch.call t) fun x2=>
    aJ ((!x2)) (
     k (bV.out false)) (
     aq (ch.call pre.1) fun x3=>
     aJ ((!x3)) (
      k (bV.out false)) (
      aq (cC.call pre.2.1) fun x4=>
      aJ ((!x4)) (
       k (bV.out false)) (
       aq (dD.call (pre.1,p,m)) fun x5=>
       aq (cY.call (p,x5)) fun x6=>
       aq (fu.call t) fun x7=>
       aq (cz.call [pre.1,x6,x7]) fun x8=>
       aq (dj.call pre.2.1) fun x9=>
       k (bV.out (nN x9 x8))))))):=by kernel_rfl
theorem bV.ok:bV.Ok:=by
 rintro⟨p,m,t,s⟩ ⟨hp,hm,ht,hs⟩
 have hp:ia p:=hp
 have ht:ia t:=ht
 have hm:Sm m:=hm
 have hs:Cy s:=hs
 rw[bV.eq,ch.run (d:=p) hp,ch.run (d:=t) ht,ch.run (d:=s.1) hs.1,cC.run (d:=s.2.1) trivial]
 simp only[ab,ch.add,ch.F,cC.add,cC.F,bV.add,bV.F,lf]
 by_cases h1:p=1
 ·rw[dq h1,az,if_pos (Or.inl h1)]
 rw[eL h1,ay]
 cases h2:lQ p
 ·rw[if_pos (Or.inr (Or.inl rfl))];rfl
 cases h3:lQ t
 ·rw[if_pos (Or.inr (Or.inr (Or.inl rfl)))];rfl
 cases h4:lQ s.1
 ·rw[if_pos (Or.inr (Or.inr (Or.inr (Or.inl rfl))))];rfl
 by_cases h5:s.2.1 < 2305843009213688669
 ·rw[bw h5,if_neg (by simp[h1,h5])]
  have hq:=rb s.1 p m
  rw[dD.run (d:=(s.1,p,m)) hm]
  simp only[Bool.not_true,ay,ab,dD.add,dD.F]
  rw[cY.run (d:=(p,mr s.1 p m)) ⟨hp,hq.u⟩,fu.run (d:=t) ht]
  simp only[ab,cY.add,cY.F,fu.add,fu.F]
  have q:cz.aB [s.1,mh p (mr s.1 p m),v3 t]:=⟨by
   intro x hx
   simp only[List.mem_cons,List.not_mem_nil,or_false]at hx
   rcases hx with rfl | rfl | rfl
   ·exact hs.1
   ·exact(wq _ _).u
   ·exact(wq _ _).u,by simp only[List.length_cons,List.length_nil];omega⟩
  rw[cz.run q,dj.run (d:=s.2.1) hs.2]
  rfl
 ·rw[bm h5,if_pos (Or.inr (Or.inr (Or.inr (Or.inr h5))))];rfl
noncomputable def bV.E:=Entry.ct [some tu,some tH,some tu,some jg] bV.st bV.aB bV.add bV.F bV.out
noncomputable def bV.call:bV.D→Option bV.X:=bG bV.E bV.st
theorem bV.run:bB bV.call bV.aB bV.add bV.F:=cO (cM [.d tu,.d tB,.d tu,.d jg] fun _=>by kernel_rfl)
noncomputable def bV.sg:SG Tryz.prog:=⟨105,aU,bV.E,.fn 0 (by kernel_rfl) bV.ok trivial⟩
abbrev bO.D:=Int×Bs×Sg
def bO.st:bO.D→SA:=fun(p,m,sv)=>([.d tu p,.d tH m,.d jg sv],[])
abbrev bO.Y:=Bool
abbrev bO.X:=Bool
def bO.out:bO.X→aY:=fun x=>⟨.d .bool x,[],[]⟩
def bO.add:bO.D→bO.Y→bO.X:=fun(p,m,sv) y=>y
def bO.aB:bO.D→Prop:=fun(p,m,s)=>ia p∧Sm m∧Cy s
def bO.F:bO.D→bO.Y:=fun(p,m,s)=>lf p m 1 s
noncomputable def bO.G:dR:=eO (P:=Tryz.prog) [bV.sg]
noncomputable def bO.an:eu:= {}
noncomputable def bO.A:= @cI Tryz.prog bO.G bO.an 0 Tryz.f43 _ bO.st
abbrev bO.Ok:=cJ @bO.A bO.aB bO.add bO.F bO.out
theorem bO.eq{R:Type}(p:Int)(m:Bs)(sv:Sg)(k:aY→Option R):bO.A (p,m,sv) k=
 aq (bV.call (p,m,(1:Int),sv)) fun x1=>
 k (bO.out x1):=by kernel_rfl
theorem bO.ok:bO.Ok:=by
 rintro⟨p,m,s⟩ ⟨hp,hm,hs⟩
 rw[bO.eq,bV.run (d:=(p,m,1,s)) ⟨hp,hm,⟨by omega,by omega⟩,hs⟩]
 rfl
noncomputable def bO.E:=Entry.ct [some tu,some tH,some jg] bO.st bO.aB bO.add bO.F bO.out
noncomputable def bO.call:bO.D→Option bO.X:=bG bO.E bO.st
theorem bO.run:bB bO.call bO.aB bO.add bO.F:=cO (cM [.d tu,.d tB,.d jg] fun _=>by kernel_rfl)
noncomputable def bO.sg:SG Tryz.prog:=⟨43,aU,bO.E,.fn 0 (by kernel_rfl) bO.ok trivial⟩
abbrev fg.D:=Int
def fg.st:fg.D→SA:=fun kv=>([.d tu kv],[])
abbrev fg.Y:=Bool
abbrev fg.X:=Bool
def fg.out:fg.X→aY:=fun x=>⟨.d .bool x,[],[]⟩
def fg.add:fg.D→fg.Y→fg.X:=fun kv y=>y
def fg.aB:fg.D→Prop:=fun _=>True
def fg.F:fg.D→fg.Y:=fun k=>decide (k < 2305843009213688669∧k≠0)
noncomputable def fg.G:dR:=eO (P:=Tryz.prog) [cC.sg]
noncomputable def fg.an:eu:= {}
noncomputable def fg.A:= @cI Tryz.prog fg.G fg.an 0 Tryz.f128 _ fg.st
abbrev fg.Ok:=cJ @fg.A fg.aB fg.add fg.F fg.out
theorem fg.eq{R:Type}(kv:Int)(k:aY→Option R):fg.A kv k=
  aq (cC.call kv) fun x1=>
  aJ (x1) (
   k (fg.out (ku kv (0:Int)))) (
   k (fg.out false)):=by kernel_rfl
theorem fg.ok:fg.Ok:=by
 intro k _
 rw[fg.eq,cC.run (d:=k) trivial]
 simp only[ab,cC.add,cC.F,fg.add,fg.F]
 by_cases h:k < 2305843009213688669
 ·rw[bw h,az]
  by_cases h0:k=0
  ·rw[bT h0,aK (fun x=>x.2 h0)]
  ·rw[dB h0,aO ⟨h,h0⟩]
 ·rw[bm h,ay,aK (fun x=>h x.1)]
noncomputable def fg.E:=Entry.ct [some tu] fg.st fg.aB fg.add fg.F fg.out
noncomputable def fg.call:fg.D→Option fg.X:=bG fg.E fg.st
theorem fg.run:bB fg.call fg.aB fg.add fg.F:=cO (cM [.d tu] fun _=>by kernel_rfl)
noncomputable def fg.sg:SG Tryz.prog:=⟨128,aU,fg.E,.fn 0 (by kernel_rfl) fg.ok trivial⟩
abbrev cv.D:=Int×Int×Bs×Int
def cv.st:cv.D→SA:=fun(kv,nonce,m,t)=>([.d tu kv,.d tu nonce,.d tH m,.d tu t],[])
abbrev cv.Y:=Sg
abbrev cv.X:=Sg
def cv.out:cv.X→aY:=fun x=>⟨.d jg x,[],[]⟩
def cv.add:cv.D→cv.Y→cv.X:=fun(kv,nonce,m,t) y=>y
def cv.aB:cv.D→Prop:=fun(k,n,m,t)=>ia k∧ia n∧Sm m∧ia t
def cv.F:cv.D→cv.Y:=fun(k,n,m,t)=>tR k n m t
noncomputable def cv.G:dR:=eO (P:=Tryz.prog) [dj.sg,fq.sg,dD.sg,fo.sg,fy.sg]
noncomputable def cv.an:eu:= {}
noncomputable def cv.A:= @cI Tryz.prog cv.G cv.an 0 Tryz.f129 _ cv.st
abbrev cv.Ok:=cJ @cv.A cv.aB cv.add cv.F cv.out
theorem cv.eq{R:Type}(kv:Int)(nonce:Int)(m:Bs)(t:Int)(k:aY→Option R):cv.A (kv,nonce,m,t) k=
 aq (dj.call nonce) fun x1=>
 aq (fq.call (x1,t)) fun x2=>
 aq (dj.call kv) fun x3=>
 aq (dD.call (x2,x3,m)) fun x4=>
 aq (fo.call (x4,kv)) fun x5=>
 aq (fy.call (nonce,x5)) fun x6=>
 k (cv.out (x2,(x6,()))):=by kernel_rfl
theorem cv.ok:cv.Ok:=by
 rintro⟨k,n,m,t⟩ ⟨hk,hn,hm,ht⟩
 have hk:ia k:=hk
 have hn:ia n:=hn
 have hm:Sm m:=hm
 have ht:ia t:=ht
 rw[cv.eq,dj.run (d:=n) hn]
 simp only[ab,dj.add,dj.F]
 rw[fq.run (d:=(gE n,t)) ⟨(wq _ _).u,ht⟩,dj.run (d:=k) hk]
 simp only[ab,dj.add,dj.F,fq.add,fq.F]
 rw[dD.run (d:=(qI [gE n,t],gE k,m)) hm]
 simp only[ab,dD.add,dD.F]
 rw[fo.run (d:=(mr (qI [gE n,t]) (gE k) m,k)) ⟨(rb _ _ _).u,hk⟩]
 simp only[ab,fo.add,fo.F]
 rw[fy.run (d:=(n,uB (mr (qI [gE n,t]) (gE k) m) k)) ⟨hn,(BU _ _).u⟩]
 rfl
noncomputable def cv.E:=Entry.ct [some tu,some tu,some tH,some tu] cv.st cv.aB cv.add cv.F cv.out
noncomputable def cv.call:cv.D→Option cv.X:=bG cv.E cv.st
theorem cv.run:bB cv.call cv.aB cv.add cv.F:=cO (cM [.d tu,.d tu,.d tB,.d tu] fun _=>by kernel_rfl)
noncomputable def cv.sg:SG Tryz.prog:=⟨129,aU,cv.E,.fn 0 (by kernel_rfl) cv.ok trivial⟩
abbrev dz.D:=Int×Bs
def dz.st:dz.D→SA:=fun(kv,m)=>([.d tu kv,.d tH m],[])
abbrev dz.Y:=Sg
abbrev dz.X:=Sg
def dz.out:dz.X→aY:=fun x=>⟨.d jg x,[],[]⟩
def dz.add:dz.D→dz.Y→dz.X:=fun(kv,m) y=>y
def dz.aB:dz.D→Prop:=fun(k,m)=>ia k∧Sm m
def dz.F:dz.D→dz.Y:=fun(k,m)=>gX k m
noncomputable def dz.G:dR:=eO (P:=Tryz.prog) [fg.sg,cG.sg,bP.sg,bt.sg,cv.sg]
noncomputable def dz.an:eu:= {}
noncomputable def dz.A:= @cI Tryz.prog dz.G dz.an 0 Tryz.f91 _ dz.st
abbrev dz.Ok:=cJ @dz.A dz.aB dz.add dz.F dz.out
theorem dz.eq{R:Type}(kv:Int)(m:Bs)(k:aY→Option R):dz.A (kv,m) k=
  aq (fg.call kv) fun x1=>
  aJ ((!x1)) (
   k (dz.out ((0:Int),((0:Int),())))) (
   aq (cG.call kv) fun x2=>
   aq (bP.call ((⟨#[110,111,110,99,101]⟩:ByteArray),[x2,(cut m 0 32)])) fun x3=>
   aq (bt.call x3) fun x4=>
   aq (cv.call (kv,x4,m,(1:Int))) fun x5=>
   k (dz.out x5)):=by kernel_rfl
theorem dz.ok:dz.Ok:=by
 rintro⟨k,m⟩ ⟨hk,hm⟩
 have hk:ia k:=hk
 have hm:Sm m:=hm
 rw[dz.eq,fg.run (d:=k) trivial]
 simp only[ab,fg.add,fg.F,dz.add,dz.F,gX]
 by_cases h:k < 2305843009213688669∧k≠0
 ·rw[aO h,if_pos h,cG.run (d:=k) trivial,fa hm.1]
  simp only[Bool.not_true,ay,ab,cG.add,cG.F]
  rw[bP.run (Bc (by decide) (by rw[bJ];omega) (by rw[hm.1];omega))]
  simp only[ab,bP.add,bP.F]
  rw[bt.run (d:=tag (bf (⟨#[110,111,110,99,101]⟩:ByteArray)) [fJ k,m]) (uM _ _)]
  simp only[ab,bt.add,bt.F]
  have q:=rq (tag (bf (⟨#[110,111,110,99,101]⟩:ByteArray)) [fJ k,m])
  rw[cv.run (d:=(k,mX (tag (bf (⟨#[110,111,110,99,101]⟩:ByteArray)) [fJ k,m]),m,1)) ⟨hk,⟨by omega,by omega⟩,hm,by omega,by omega⟩]
  rfl
 ·rw[aK h,if_neg h];rfl
noncomputable def dz.E:=Entry.ct [some tu,some tH] dz.st dz.aB dz.add dz.F dz.out
noncomputable def dz.call:dz.D→Option dz.X:=bG dz.E dz.st
theorem dz.run:bB dz.call dz.aB dz.add dz.F:=cO (cM [.d tu,.d tB] fun _=>by kernel_rfl)
noncomputable def dz.sg:SG Tryz.prog:=⟨91,aU,dz.E,.fn 0 (by kernel_rfl) dz.ok trivial⟩
set_option synthInstance.maxSize 5000
def mK(l:List Int):Prop:=∀x∈l,ia x
def Ce(b:fX):Prop:=mK b.1∧ia b.2.2.2.1
def xQ(l:Lk):Prop:=∀b∈l.1,Ce b
def vE(n:Int):Bool:=decide (0≤n∧n≤1048576)
def nZ(b:fX):Bool:=decide (b.1.length≤12) && (b.1.all lQ && (vE b.2.1 && (vE b.2.2.1 && (decide (b.2.2.2.1=0) || lQ b.2.2.2.1))))
def iK(l:Lk):Bool:=l.1.all nZ && decide (0 < l.1.length∧l.1.length≤4)
def kg:List Int→Int→Int⊕Unit
 |[],_=> .inr ()
 |p::ps,i=>if lQ p then kg ps (i+1) else .inl i
def xU(l:List Int):Int:=match kg l 0 with | .inl i=>i | .inr _=> -1
theorem qk:∀(l:List Int) (i:Int),0≤i→(match kg l i with | .inl i=>decide (i≥0) | .inr _=>false)= !(l.all lQ)
 |[],_,_=>rfl
 |p::ps,i,h=>by
  rw[kg,List.all_cons]
  cases hp:lQ p
  ·simp[h]
  ·simp only[if_true,Bool.true_and]
   exact qk ps (i+1) (by omega)
theorem yN(l:List Int):mZ (xU l) 0= !(l.all lQ):=by
 have:=qk l 0 (by omega)
 unfold xU mZ
 cases h:kg l 0
 ·rw[h]at this;exact this
 ·rw[h]at this;rw[←this];rfl
abbrev eU.D:=Int
def eU.st:eU.D→SA:=fun p=>([.d tu p],[])
abbrev eU.Y:=Bool
abbrev eU.X:=Bool
def eU.out:eU.X→aY:=fun x=>⟨.d .bool x,[],[]⟩
def eU.add:eU.D→eU.Y→eU.X:=fun p y=>y
def eU.aB:eU.D→Prop:=fun p=>ia p
def eU.F:eU.D→eU.Y:=fun p=> !lQ p
noncomputable def eU.G:dR:=eO (P:=Tryz.prog) [ch.sg]
noncomputable def eU.an:eu:= {}
noncomputable def eU.A:= @cI Tryz.prog eU.G eU.an 0 Tryz.f61 _ eU.st
abbrev eU.Ok:=cJ @eU.A eU.aB eU.add eU.F eU.out
theorem eU.eq{R:Type}(p:Int)(k:aY→Option R):eU.A p k=
 aq (ch.call p) fun x1=>
 k (eU.out (!x1)):=by kernel_rfl
theorem eU.ok:eU.Ok:=by
 intro p hp
 rw[eU.eq,ch.run (d:=p) hp]
 rfl
noncomputable def eU.E:=Entry.ct [some tu] eU.st eU.aB eU.add eU.F eU.out
noncomputable def eU.call:eU.D→Option eU.X:=bG eU.E eU.st
theorem eU.run:bB eU.call eU.aB eU.add eU.F:=cO (cM [.d tu] fun _=>by kernel_rfl)
noncomputable def eU.sg:SG Tryz.prog:=⟨61,aU,eU.E,.fn 0 (by kernel_rfl) eU.ok trivial⟩
abbrev aW.L0.D:=Bs×Int×Int
def aW.L0.st:aW.L0.D→AS:=fun(sv_2,t7,t8)=>⟨([.d tU sv_2,.fn 61 (.nil)]++ba 5 ([.d ti t7,.d ti t8]++ba 10 [])),[],(List.replicate 19 [])⟩
abbrev aW.L0.Y0:=Int
abbrev aW.L0.X0:=Int
def aW.L0.bq:aW.L0.X0→Exit×AS:=fun x=>(.ret,⟨(ba 4 ([.d ti x]++ba 14 [])),[],(List.replicate 19 [])⟩)
abbrev aW.L0.Y1:=Unit
abbrev aW.L0.X1:=Unit
def aW.L0.eP:aW.L0.X1→Exit×AS:=fun x=>(.exit 0,⟨(ba 19 []),[],(List.replicate 19 [])⟩)
abbrev aW.L0.X:=(aW.L0.X0)⊕(aW.L0.X1)
abbrev aW.L0.Y:=(aW.L0.Y0)⊕(aW.L0.Y1)
def aW.L0.out:aW.L0.X→Out (Exit×AS):=fun x=> .br x.isLeft (.get x.getLeft? fun a=> .ok (aW.L0.bq a)) (.get x.getRight? fun b=> .ok (aW.L0.eP b))
def aW.L0.add:aW.L0.D→aW.L0.Y→aW.L0.X:=fun(sv_2,t7,t8) y=>match y with | .inl y=> .inl y | .inr z=> .inr (z)
abbrev aW.D:=Bs
def aW.st:aW.D→SA:=fun sv=>([.d tU sv,.fn 61 (.nil)],[])
abbrev aW.Y:=Int
abbrev aW.X:=Int
def aW.out:aW.X→aY:=fun x=>⟨.d ti x,[],[]⟩
def aW.add:aW.D→aW.Y→aW.X:=fun sv y=>y
def aW.L0.aB:aW.L0.D→Prop:=fun(l,n,i)=>mK l∧l.length≤1000000000∧n=l.length∧∃k:Nat,k≤l.length∧i=k
def aW.L0.F:aW.L0.D→aW.L0.Y:=fun(l,n,i)=>kg (l.drop i.toNat) i
def aW.aB:aW.D→Prop:=fun l=>mK l∧l.length≤1000000000
def aW.F:aW.D→aW.Y:=fun l=>xU l
noncomputable def aW.G:dR:=eO (P:=Tryz.prog) [eU.sg]
noncomputable def aW.L0.E:=bM.ct aW.L0.st aW.L0.aB aW.L0.add aW.L0.F aW.L0.out
noncomputable def aW.L0.call:aW.L0.D→Option aW.L0.X:=dg aW.L0.E aW.L0.st
noncomputable def aW.an:eu:= {loops:=jO [(2,{bh:=[0,1,7,8]})],outs:=jN [(2,{},{bh:=[4]})],fF:=ky [(2,aW.L0.E)]}
noncomputable def aW.A:= @cI Tryz.prog aW.G aW.an 0 Tryz.f117 _ aW.st
abbrev aW.Ok:=cJ @aW.A aW.aB aW.add aW.F aW.out
noncomputable def aW.L0.R:= @cf Tryz.prog aW.G aW.an 0 Tryz.f117 0 _ aW.L0.st
abbrev aW.L0.Ok:=ez Tryz.prog aW.G aW.an 0 Tryz.f117 0 aW.L0.st aW.L0.aB aW.L0.add aW.L0.F aW.L0.out
theorem aW.L0.run:bB aW.L0.call aW.L0.aB aW.L0.add aW.L0.F:=eE (eD [.d tU,.d ti,.d ti] fun _=>by kernel_rfl)
theorem aW.L0.aH:jl @aW.L0.R aW.L0.st aW.L0.aB aW.L0.add aW.L0.F aW.L0.out aW.L0.Ok:=jL
theorem aW.L0.step{R:Type}(sv_2:Bs)(t7:Int)(t8:Int)(kn:AS→Option R)(kx:Exit→AS→Option R):aW.L0.R (sv_2,t7,t8) kn kx=
  aJ ((fY t8 t7)) (
   aJ (eh t8 (((List.length sv_2):Nat):Int)) (
   aq (eU.call (nth tu sv_2 (Int.toNat t8))) fun x1=>
   aJ (x1) (
    kx (aW.L0.bq t8).1 (aW.L0.bq t8).2) (
    kn (aW.L0.st (sv_2,t7,(bK .i64 t8 (1:Int)))))) none) (
   kx (aW.L0.eP ()).1 (aW.L0.eP ()).2):=by kernel_rfl
theorem aW.eq{R:Type}(sv:Bs)(k:aY→Option R):aW.A sv k=
  aq (aW.L0.call (sv,(((List.length sv):Nat):Int),(0:Int))) fun x2=>
  aJ (x2.isLeft) (
   aq (x2.getLeft?) fun a3=>
   k (aW.out a3)) (
   aq (x2.getRight?) fun b4=>
   k (aW.out (-1:Int))):=by kernel_rfl
theorem aW.L0.ok:aW.L0.Ok:=by
 refine aW.L0.aH (fun(l,n,i)=>l.length - i.toNat) ?_
 rintro⟨l,n,i⟩ ⟨hl,hb,rfl,k,hk,rfl⟩
 have hb:l.length≤1000000000:=hb
 have hk:k≤l.length:=hk
 by_cases h:k < l.length
 ·have hx:=hl _ (List.getElem_mem h)
  have n1:nth (.int .u64) l k=l[k]:=cw (t:= .int .u64) h
  have hd:kg (l.drop k) k=if lQ l[k] then kg (l.drop (k+1)) ((k+1:Nat):Int) else .inl (k:Int):=by rw[List.drop_eq_getElem_cons h];rfl
  cases hp:lQ l[k]
  ·right
   refine⟨aW.L0.bq (k:Int),?_,fun kn kx=> ?_⟩
   ·simp only[aW.L0.add,aW.L0.F,Int.toNat_natCast,hd,hp,Bool.false_eq_true,if_false]
    rfl
   ·rw[aW.L0.step]
    simp(disch:=omega) only[↓S1,↓if_pos,↓if_neg,if_pos,if_neg,if_true,if_false,S2,n1]
    rw[eU.run (d:=l[k]) hx]
    simp only[ab,eU.add,eU.F,hp,Bool.not_false,az]
  ·left
   refine⟨(l,l.length,((k+1:Nat):Int)),⟨hl,hb,rfl,k+1,by omega,rfl⟩,by simp only[Int.toNat_natCast];omega,?_,fun kn kx=> ?_⟩
   ·simp only[aW.L0.add,aW.L0.F,Int.toNat_natCast,hd,hp,if_true]
   ·rw[aW.L0.step]
    simp(disch:=omega) only[↓S1,↓if_pos,↓if_neg,if_pos,if_neg,if_true,if_false,S2,n1]
    rw[eU.run (d:=l[k]) hx]
    simp only[ab,eU.add,eU.F,hp,Bool.not_true,ay]
 ·right
  obtain rfl:k=l.length:=by omega
  refine⟨aW.L0.eP (),?_,fun kn kx=> ?_⟩
  ·simp only[aW.L0.add,aW.L0.F,Int.toNat_natCast,List.drop_length]
   rfl
  ·rw[aW.L0.step]
   simp(disch:=omega) only[↓S1,↓if_pos,↓if_neg,if_pos,if_neg,if_true,if_false,S2]
theorem aW.ok:aW.Ok:=by
 rintro l ⟨hl,hb⟩
 rw[aW.eq,aW.L0.run (d:=(l,l.length,0)) ⟨hl,hb,rfl,0,by omega,rfl⟩]
 simp only[ab,aW.L0.add,aW.L0.F,Int.toNat_zero,List.drop_zero,aW.add,aW.F,xU]
 cases kg l 0 <;> rfl
noncomputable def aW.E:=Entry.ct [some tU,none] aW.st aW.aB aW.add aW.F aW.out
noncomputable def aW.call:aW.D→Option aW.X:=bG aW.E aW.st
theorem aW.run:bB aW.call aW.aB aW.add aW.F:=cO (cM [.d tU] fun _=>by kernel_rfl)
noncomputable def aW.sg:SG Tryz.prog:=⟨117,aU,aW.E,.fn 1 (by kernel_rfl) aW.ok (And.intro (.ct aW.L0.ok (by kernel_rfl)) trivial)⟩
abbrev bC.D:=Bs
def bC.st:bC.D→SA:=fun sv=>([.d tU sv,.fn 61 (.nil)],[])
abbrev bC.Y:=Bool
abbrev bC.X:=Bool
def bC.out:bC.X→aY:=fun x=>⟨.d .bool x,[],[]⟩
def bC.add:bC.D→bC.Y→bC.X:=fun sv y=>y
def bC.aB:bC.D→Prop:=fun l=>mK l∧l.length≤1000000000
def bC.F:bC.D→bC.Y:=fun l=> !(l.all lQ)
noncomputable def bC.G:dR:=eO (P:=Tryz.prog) [aW.sg]
noncomputable def bC.an:eu:= {}
noncomputable def bC.A:= @cI Tryz.prog bC.G bC.an 0 Tryz.f63 _ bC.st
abbrev bC.Ok:=cJ @bC.A bC.aB bC.add bC.F bC.out
theorem bC.eq{R:Type}(sv:Bs)(k:aY→Option R):bC.A sv k=
 aq (aW.call sv) fun x1=>
 k (bC.out (mZ x1 (0:Int))):=by kernel_rfl
theorem bC.ok:bC.Ok:=by
 rintro l ⟨hl,hb⟩
 rw[bC.eq,aW.run (d:=l) ⟨hl,hb⟩]
 simp only[ab,aW.add,aW.F,yN]
 rfl
noncomputable def bC.E:=Entry.ct [some tU,none] bC.st bC.aB bC.add bC.F bC.out
noncomputable def bC.call:bC.D→Option bC.X:=bG bC.E bC.st
theorem bC.run:bB bC.call bC.aB bC.add bC.F:=cO (cM [.d tU] fun _=>by kernel_rfl)
noncomputable def bC.sg:SG Tryz.prog:=⟨63,aU,bC.E,.fn 0 (by kernel_rfl) bC.ok trivial⟩
abbrev bU.D:=Int
def bU.st:bU.D→SA:=fun n=>([.d ti n],[])
abbrev bU.Y:=Bool
abbrev bU.X:=Bool
def bU.out:bU.X→aY:=fun x=>⟨.d .bool x,[],[]⟩
def bU.add:bU.D→bU.Y→bU.X:=fun n y=>y
def bU.aB:bU.D→Prop:=fun _=>True
def bU.F:bU.D→bU.Y:=fun n=>vE n
noncomputable def bU.G:dR:=eO (P:=Tryz.prog) []
noncomputable def bU.an:eu:= {}
noncomputable def bU.A:= @cI Tryz.prog bU.G bU.an 0 Tryz.f64 _ bU.st
abbrev bU.Ok:=cJ @bU.A bU.aB bU.add bU.F bU.out
theorem bU.eq{R:Type}(n:Int)(k:aY→Option R):bU.A n k=
  aJ ((mZ n (0:Int))) (
   k (bU.out (za n (1048576:Int)))) (
   k (bU.out false)):=by kernel_rfl
theorem bU.ok:bU.Ok:=by
 intro n _
 rw[bU.eq]
 simp only[bU.add,bU.F,vE]
 by_cases h:0≤n
 ·rw[fU h,az]
  by_cases h2:n≤1048576
  ·rw[m0 h2,aO ⟨h,h2⟩]
  ·rw[kr h2,aK (fun x=>h2 x.2)]
 ·rw[eM h,ay,aK (fun x=>h x.1)]
noncomputable def bU.E:=Entry.ct [some ti] bU.st bU.aB bU.add bU.F bU.out
noncomputable def bU.call:bU.D→Option bU.X:=bG bU.E bU.st
theorem bU.run:bB bU.call bU.aB bU.add bU.F:=cO (cM [.d ti] fun _=>by kernel_rfl)
noncomputable def bU.sg:SG Tryz.prog:=⟨64,aU,bU.E,.fn 0 (by kernel_rfl) bU.ok trivial⟩
set_option synthInstance.maxSize 5000
abbrev aM.L0.D:=Lk×(List fX)×Int×Int
def aM.L0.st:aM.L0.D→AS:=fun(l_2,t7,t8,t9)=>⟨([.undef,.eC j3 l_2,.undef,.fn 61 (.nil),.undef,.undef,.undef,.d (.slice fe) t7,.d ti t8,.d ti t9]++ba 47 []),[],(List.replicate 57 [])⟩
abbrev aM.L0.Y0:=Unit
abbrev aM.L0.X0:=Unit
def aM.L0.bq:aM.L0.X0→Exit×AS:=fun x=>(.ret,⟨([.undef,.undef,.d .bool false]++ba 54 []),[],(List.replicate 57 [])⟩)
abbrev aM.L0.Y1:=Unit
abbrev aM.L0.X1:=Lk
def aM.L0.eP:aM.L0.X1→Exit×AS:=fun x=>(.exit 0,⟨([.undef,.eC j3 x]++ba 55 []),[],(List.replicate 57 [])⟩)
abbrev aM.L0.X:=(aM.L0.X0)⊕(aM.L0.X1)
abbrev aM.L0.Y:=(aM.L0.Y0)⊕(aM.L0.Y1)
def aM.L0.out:aM.L0.X→Out (Exit×AS):=fun x=> .br x.isLeft (.get x.getLeft? fun a=> .ok (aM.L0.bq a)) (.get x.getRight? fun b=> .ok (aM.L0.eP b))
def aM.L0.add:aM.L0.D→aM.L0.Y→aM.L0.X:=fun(l_2,t7,t8,t9) y=>match y with | .inl y=> .inl y | .inr z=> .inr (l_2)
abbrev aM.D:=Lk
def aM.st:aM.D→SA:=fun l=>([.d j3 l],[])
abbrev aM.Y:=Bool
abbrev aM.X:=Bool
def aM.out:aM.X→aY:=fun x=>⟨.d .bool x,[],[]⟩
def aM.add:aM.D→aM.Y→aM.X:=fun l y=>y
def aM.L0.aB:aM.L0.D→Prop:=fun(l,bs,n,i)=>(∀b∈bs,Ce b)∧bs.length≤1000000000∧n=bs.length∧∃k:Nat,k≤bs.length∧i=k
def aM.L0.F:aM.L0.D→aM.L0.Y:=fun(l,bs,n,i)=>if(bs.drop i.toNat).all nZ then .inr () else .inl ()
def aM.aB:aM.D→Prop:=fun l=>xQ l∧l.1.length≤1000000000
def aM.F:aM.D→aM.Y:=fun l=>iK l
noncomputable def aM.G:dR:=eO (P:=Tryz.prog) [bC.sg,bU.sg,eU.sg]
noncomputable def aM.L0.E:=bM.ct aM.L0.st aM.L0.aB aM.L0.add aM.L0.F aM.L0.out
noncomputable def aM.L0.call:aM.L0.D→Option aM.L0.X:=dg aM.L0.E aM.L0.st
noncomputable def aM.an:eu:= {loops:=jO [(3,{bh:=[1,3,7,8,9]})],outs:=jN [(3,{bh:=[1]},{bh:=[2]})],fF:=ky [(3,aM.L0.E)]}
noncomputable def aM.A:= @cI Tryz.prog aM.G aM.an 0 Tryz.f13 _ aM.st
abbrev aM.Ok:=cJ @aM.A aM.aB aM.add aM.F aM.out
noncomputable def aM.L0.R:= @cf Tryz.prog aM.G aM.an 0 Tryz.f13 0 _ aM.L0.st
abbrev aM.L0.Ok:=ez Tryz.prog aM.G aM.an 0 Tryz.f13 0 aM.L0.st aM.L0.aB aM.L0.add aM.L0.F aM.L0.out
theorem aM.L0.run:bB aM.L0.call aM.L0.aB aM.L0.add aM.L0.F:=eE (eD [.d j3,.d (.slice fe),.d ti,.d ti] fun _=>by kernel_rfl)
theorem aM.L0.aH:jl @aM.L0.R aM.L0.st aM.L0.aB aM.L0.add aM.L0.F aM.L0.out aM.L0.Ok:=jL
theorem aM.L0.step{R:Type}(l_2:Lk)(t7:(List fX))(t8:Int)(t9:Int)(kn:AS→Option R)(kx:Exit→AS→Option R):aM.L0.R (l_2,t7,t8,t9) kn kx=
  aJ ((fY t9 t8)) (
   aJ (eh t9 (((List.length t7):Nat):Int)) (
   aJ ((mG (((List.length (nth fe t7 (Int.toNat t9)).1):Nat):Int) (12:Int))) (
    kx (aM.L0.bq ()).1 (aM.L0.bq ()).2) (
    aq (bC.call (nth fe t7 (Int.toNat t9)).1) fun x1=>
    aJ (x1) (
     kx (aM.L0.bq ()).1 (aM.L0.bq ()).2) (
     aq (bU.call (nth fe t7 (Int.toNat t9)).2.1) fun x2=>
     aJ ((!x2)) (
      kx (aM.L0.bq ()).1 (aM.L0.bq ()).2) (
      aq (bU.call (nth fe t7 (Int.toNat t9)).2.2.1) fun x3=>
      aJ ((!x3)) (
       kx (aM.L0.bq ()).1 (aM.L0.bq ()).2) (
       aJ ((ku (nth fe t7 (Int.toNat t9)).2.2.2.1 (0:Int))) (
        aq (eU.call (nth fe t7 (Int.toNat t9)).2.2.2.1) fun x4=>
        aJ (x4) (
         kx (aM.L0.bq ()).1 (aM.L0.bq ()).2) (
         kn (aM.L0.st (l_2,t7,t8,(bK .i64 t9 (1:Int)))))) (
        kn (aM.L0.st (l_2,t7,t8,(bK .i64 t9 (1:Int)))))))))) none) (
   kx (aM.L0.eP l_2).1 (aM.L0.eP l_2).2):=by kernel_rfl
theorem aM.eq{R:Type}(l:Lk)(k:aY→Option R):aM.A l k=
  aq (aM.L0.call (l,l.1,(((List.length l.1):Nat):Int),(0:Int))) fun x5=>
  aJ (x5.isLeft) (
   aq (x5.getLeft?) fun a6=>
   k (aM.out false)) (
   aq (x5.getRight?) fun b7=>
   aJ ((mG (((List.length b7.1):Nat):Int) (0:Int))) (
    k (aM.out (za (((List.length b7.1):Nat):Int) (4:Int)))) (
    k (aM.out false))):=by kernel_rfl
theorem aM.L0.ok:aM.L0.Ok:=by
 refine aM.L0.aH (fun(l,bs,n,i)=>bs.length - i.toNat) ?_
 rintro⟨l,bs,n,i⟩ ⟨hl,hb,rfl,k,hk,rfl⟩
 have hb:bs.length≤1000000000:=hb
 have hk:k≤bs.length:=hk
 by_cases h:k < bs.length
 ·have hx:Ce bs[k]:=hl _ (List.getElem_mem h)
  have n1:nth (.pair (.slice (.int .u64)) (.pair (.int .i64) (.pair (.int .i64) (.pair (.int .u64) .unit)))) bs k=bs[k]:=cw (t:=(.pair (.slice (.int .u64)) (.pair (.int .i64) (.pair (.int .i64) (.pair (.int .u64) .unit))))) h
  have hd:(bs.drop k).all nZ=(nZ bs[k] && (bs.drop (k+1)).all nZ):=by rw[List.drop_eq_getElem_cons h,List.all_cons]
  have step:∀ {R:Type} (kn:AS→Option R) (kx:Exit→AS→Option R),aM.L0.R (l,bs,(bs.length:Int),(k:Int)) kn kx=aJ (nZ bs[k]) (kn (aM.L0.st (l,bs,(bs.length:Int),((k+1:Nat):Int)))) (kx (aM.L0.bq ()).1 (aM.L0.bq ()).2):=by
   intro R kn kx
   rw[aM.L0.step,bw (by omega),bn (by omega) (by omega),Int.toNat_natCast,n1,N.kA (by omega)]
   obtain⟨⟨ks,af,dl,sc,u⟩,hbk⟩:∃b,bs[k]=b:=⟨_,rfl⟩
   rw[hbk]at hx ⊢
   have h1:mK ks:=hx.1
   have h2:ia sc:=hx.2
   simp only[az,nZ]
   by_cases hk:ks.length≤12
   ·rw[dE (by omega),bC.run (d:=ks) ⟨h1,by omega⟩,bU.run (d:=af) trivial,bU.run (d:=dl) trivial,eU.run (d:=sc) h2,aO hk]
    simp only[ay,ab,bC.add,bC.F,bU.add,bU.F,eU.add,eU.F,Bool.true_and]
    cases ks.all lQ
    ·rfl
    cases vE af
    ·rfl
    cases vE dl
    ·rfl
    by_cases hs:sc=0
    ·rw[bT hs,aO hs];rfl
    ·rw[dB hs,aK hs]
     cases lQ sc <;> rfl
   ·rw[dQ (by omega),aK hk];rfl
  cases hp:nZ bs[k]
  ·right
   refine⟨aM.L0.bq (),?_,fun kn kx=> ?_⟩
   ·simp only[aM.L0.add,aM.L0.F,Int.toNat_natCast,hd,hp,Bool.false_and,Bool.false_eq_true,if_false]
    rfl
   ·rw[step,hp,ay]
  ·left
   refine⟨(l,bs,bs.length,((k+1:Nat):Int)),⟨hl,hb,rfl,k+1,by omega,rfl⟩,by simp only[Int.toNat_natCast];omega,?_,fun kn kx=> ?_⟩
   ·simp only[aM.L0.add,aM.L0.F,Int.toNat_natCast,hd,hp,Bool.true_and]
   ·rw[step,hp,az]
 ·right
  obtain rfl:k=bs.length:=by omega
  refine⟨aM.L0.eP l,?_,fun kn kx=> ?_⟩
  ·simp only[aM.L0.add,aM.L0.F,Int.toNat_natCast,List.drop_length]
   rfl
  ·rw[aM.L0.step]
   simp(disch:=omega) only[↓S1,↓if_pos,↓if_neg,if_pos,if_neg,if_true,if_false,S2]
theorem aM.ok:aM.Ok:=by
 rintro l ⟨hl,hb⟩
 have hb:l.1.length≤1000000000:=hb
 rw[aM.eq,aM.L0.run (d:=(l,l.1,l.1.length,0)) ⟨hl,hb,rfl,0,by omega,rfl⟩]
 simp only[ab,aM.L0.add,aM.L0.F,Int.toNat_zero,List.drop_zero,aM.add,aM.F,iK]
 cases l.1.all nZ
 ·rfl
 ·simp only[if_true,Bool.true_and]
  show aJ (mG _ _) _ _=_
  by_cases h0:0 < l.1.length
  ·rw[dQ (by omega)]
   by_cases h4:l.1.length≤4
   ·rw[m0 (by omega),aO ⟨h0,h4⟩];rfl
   ·rw[kr (by omega),aK (fun x=>h4 x.2)];rfl
  ·rw[dE (by omega),aK (fun x=>h0 x.1)];rfl
noncomputable def aM.E:=Entry.ct [some j3] aM.st aM.aB aM.add aM.F aM.out
noncomputable def aM.call:aM.D→Option aM.X:=bG aM.E aM.st
theorem aM.run:bB aM.call aM.aB aM.add aM.F:=cO (cM [.d j3] fun _=>by kernel_rfl)
noncomputable def aM.sg:SG Tryz.prog:=⟨13,aU,aM.E,.fn 1 (by kernel_rfl) aM.ok (And.intro (.ct aM.L0.ok (by kernel_rfl)) trivial)⟩
def oH(m:List Int):List Int→List Sg→Bool
 |[],_=>true
 |p::ps,ss=>lf p m 1 (ss.headD (0,0,())) && oH m ps ss.tail
def Ct(l:Lk)(w:mE)(m:List Int)(height age:Int):Int:=
 if iK l=false∨w.1 < 0∨w.1≥l.1.length then 1
 else
  let b:=nth (.pair (.slice (.int .u64)) (.pair (.int .i64) (.pair (.int .i64) (.pair (.int .u64) .unit)))) l.1 w.1.toNat
  if height < b.2.1∨age < b.2.2.1 then 11
  else if b.2.2.2.1≠0∧gE w.2.2.1≠b.2.2.2.1 then 23
  else if w.2.1.length≠b.1.length then 7
  else if oH m b.1 w.2.1 then 0 else 7
theorem zM(m:List Int)(ks:List Int)(ss:List Sg)(h:ss.length=ks.length)(k:Nat)(hk:k < ks.length):oH m (ks.drop k) (ss.drop k)=(lf ks[k] m 1 (ss[k]'(by omega)) && oH m (ks.drop (k+1)) (ss.drop (k+1))):=by
 rw[List.drop_eq_getElem_cons hk,List.drop_eq_getElem_cons (by omega:k < ss.length)]
 rfl
def qB(w:mE):Prop:=(∀s∈w.2.1,Cy s)∧ia w.2.2.1
abbrev bg.L0.D:=mE×Bs×Bs×Int×Int
def bg.L0.st:bg.L0.D→AS:=fun(wv_2,m_2,t68,t69,t70)=>⟨(ba 6 ([.eC sC wv_2,.eC tH m_2]++ba 60 ([.d tU t68,.d ti t69,.d ti t70]++ba 14 []))),[],(List.replicate 85 [])⟩
abbrev bg.L0.Y0:=Unit
abbrev bg.L0.X0:=Unit
def bg.L0.bq:bg.L0.X0→Exit×AS:=fun x=>(.ret,⟨(ba 10 ([.d ti (7:Int)]++ba 74 [])),[],(List.replicate 85 [])⟩)
abbrev bg.L0.Y1:=Unit
abbrev bg.L0.X1:=Unit
def bg.L0.eP:bg.L0.X1→Exit×AS:=fun x=>(.exit 1,⟨(ba 85 []),[],(List.replicate 85 [])⟩)
abbrev bg.L0.X:=(bg.L0.X0)⊕(bg.L0.X1)
abbrev bg.L0.Y:=(bg.L0.Y0)⊕(bg.L0.Y1)
def bg.L0.out:bg.L0.X→Out (Exit×AS):=fun x=> .br x.isLeft (.get x.getLeft? fun a=> .ok (bg.L0.bq a)) (.get x.getRight? fun b=> .ok (bg.L0.eP b))
def bg.L0.add:bg.L0.D→bg.L0.Y→bg.L0.X:=fun(wv_2,m_2,t68,t69,t70) y=>match y with | .inl y=> .inl y | .inr z=> .inr (z)
abbrev bg.D:=Lk×mE×Bs×Int×Int
def bg.st:bg.D→SA:=fun(l,wv,m,height,age)=>([.d j3 l,.d sC wv,.d tH m,.d ti height,.d ti age],[])
abbrev bg.Y:=Int
abbrev bg.X:=Int
def bg.out:bg.X→aY:=fun x=>⟨.d ti x,[],[]⟩
def bg.add:bg.D→bg.Y→bg.X:=fun(l,wv,m,height,age) y=>y
def bg.L0.aB:bg.L0.D→Prop:=fun(w,m,ks,n,i)=>qB w∧Sm m∧mK ks∧ks.length≤1000000000∧w.2.1.length=ks.length∧n=ks.length∧∃k:Nat,k≤ks.length∧i=k
def bg.L0.F:bg.L0.D→bg.L0.Y:=fun(w,m,ks,n,i)=>if oH m (ks.drop i.toNat) (w.2.1.drop i.toNat) then .inr () else .inl ()
def bg.aB:bg.D→Prop:=fun(l,w,m,h,a)=>xQ l∧l.1.length≤1000000000∧qB w∧Sm m
def bg.F:bg.D→bg.Y:=fun(l,w,m,h,a)=>Ct l w m h a
noncomputable def bg.G:dR:=eO (P:=Tryz.prog) [aM.sg,dj.sg,bO.sg]
noncomputable def bg.L0.E:=bM.ct bg.L0.st bg.L0.aB bg.L0.add bg.L0.F bg.L0.out
noncomputable def bg.L0.call:bg.L0.D→Option bg.L0.X:=dg bg.L0.E bg.L0.st
noncomputable def bg.an:eu:= {loops:=jO [(11,{bh:=[6,7,68,69,70]})],outs:=jN [(11,{},{bh:=[10]})],fF:=ky [(11,bg.L0.E)]}
noncomputable def bg.A:= @cI Tryz.prog bg.G bg.an 0 Tryz.f47 _ bg.st
abbrev bg.Ok:=cJ @bg.A bg.aB bg.add bg.F bg.out
noncomputable def bg.L0.R:= @cf Tryz.prog bg.G bg.an 0 Tryz.f47 0 _ bg.L0.st
abbrev bg.L0.Ok:=ez Tryz.prog bg.G bg.an 0 Tryz.f47 0 bg.L0.st bg.L0.aB bg.L0.add bg.L0.F bg.L0.out
theorem bg.L0.run:bB bg.L0.call bg.L0.aB bg.L0.add bg.L0.F:=eE (eD [.d sC,.d tH,.d tU,.d ti,.d ti] fun _=>by kernel_rfl)
theorem bg.L0.aH:jl @bg.L0.R bg.L0.st bg.L0.aB bg.L0.add bg.L0.F bg.L0.out bg.L0.Ok:=jL
theorem bg.L0.step{R:Type}(wv_2:mE)(m_2:Bs)(t68:Bs)(t69:Int)(t70:Int)(kn:AS→Option R)(kx:Exit→AS→Option R):bg.L0.R (wv_2,m_2,t68,t69,t70) kn kx=
  aJ ((fY t70 t69)) (
   aJ (eh t70 (((List.length t68):Nat):Int)) (
   aJ (eh t70 (((List.length wv_2.2.1):Nat):Int)) (
   aq (bO.call ((nth tu t68 (Int.toNat t70)),m_2,(nth jg wv_2.2.1 (Int.toNat t70)))) fun x1=>
   aJ ((!x1)) (
    kx (bg.L0.bq ()).1 (bg.L0.bq ()).2) (
    kn (bg.L0.st (wv_2,m_2,t68,t69,(bK .i64 t70 (1:Int)))))) none) none) (
   kx (bg.L0.eP ()).1 (bg.L0.eP ()).2):=by kernel_rfl
theorem bg.eq{R:Type}(l:Lk)(wv:mE)(m:Bs)(height:Int)(age:Int)(k:aY→Option R):bg.A (l,wv,m,height,age) k=
  aq (aM.call l) fun x1=>
  aJ ((!x1)) (
   k (bg.out (1:Int))) (
   aJ ((fY wv.1 (0:Int))) (
    k (bg.out (1:Int))) (
    aJ ((mZ wv.1 (((List.length l.1):Nat):Int))) (
     k (bg.out (1:Int))) (
     aJ (eh wv.1 (((List.length l.1):Nat):Int)) (
     aJ ((fY height (nth fe l.1 (Int.toNat wv.1)).2.1)) (
      k (bg.out (11:Int))) (
      aJ ((fY age (nth fe l.1 (Int.toNat wv.1)).2.2.1)) (
       k (bg.out (11:Int))) (
       aJ ((ku (nth fe l.1 (Int.toNat wv.1)).2.2.2.1 (0:Int))) (
        aq (dj.call wv.2.2.1) fun x2=>
        aJ ((ku x2 (nth fe l.1 (Int.toNat wv.1)).2.2.2.1)) (
         k (bg.out (23:Int))) (
         aJ ((ku (((List.length wv.2.1):Nat):Int) (((List.length (nth fe l.1 (Int.toNat wv.1)).1):Nat):Int))) (
          k (bg.out (7:Int))) (
          aq (bg.L0.call (wv,m,(nth fe l.1 (Int.toNat wv.1)).1,(((List.length (nth fe l.1 (Int.toNat wv.1)).1):Nat):Int),(0:Int))) fun x4=>
          aJ (x4.isLeft) (
           aq (x4.getLeft?) fun a5=>
           k (bg.out (7:Int))) (
           aq (x4.getRight?) fun b6=>
           k (bg.out (0:Int)))))) (
        aJ ((ku (((List.length wv.2.1):Nat):Int) (((List.length (nth fe l.1 (Int.toNat wv.1)).1):Nat):Int))) (
         k (bg.out (7:Int))) (
         aq (bg.L0.call (wv,m,(nth fe l.1 (Int.toNat wv.1)).1,(((List.length (nth fe l.1 (Int.toNat wv.1)).1):Nat):Int),(0:Int))) fun x7=>
         aJ (x7.isLeft) (
          aq (x7.getLeft?) fun a8=>
          k (bg.out (7:Int))) (
          aq (x7.getRight?) fun b9=>
          k (bg.out (0:Int)))))))) none))):=by kernel_rfl
theorem bg.L0.ok:bg.L0.Ok:=by
 refine bg.L0.aH (fun(w,m,ks,n,i)=>ks.length - i.toNat) ?_
 rintro⟨w,m,ks,n,i⟩ ⟨hw,hm,hl,hb,hs,rfl,k,hk,rfl⟩
 have hb:ks.length≤1000000000:=hb
 have hk:k≤ks.length:=hk
 have hs:w.2.1.length=ks.length:=hs
 by_cases h:k < ks.length
 ·have hx:=hl _ (List.getElem_mem h)
  have hy:=hw.1 _ (List.getElem_mem (by omega:k < w.2.1.length))
  have n1:nth (.int .u64) ks k=ks[k]:=cw (t:= .int .u64) h
  have n2:nth (.pair (.int .u64) (.pair (.int .u64) .unit)) w.2.1 k=w.2.1[k]'(by omega):=cw (t:=(.pair (.int .u64) (.pair (.int .u64) .unit))) (by omega)
  have hd:=zM m ks w.2.1 hs k h
  have step:∀ {R:Type} (kn:AS→Option R) (kx:Exit→AS→Option R),bg.L0.R (w,m,ks,(ks.length:Int),(k:Int)) kn kx=aJ (lf ks[k] m 1 (w.2.1[k]'(by omega))) (kn (bg.L0.st (w,m,ks,(ks.length:Int),((k+1:Nat):Int)))) (kx (bg.L0.bq ()).1 (bg.L0.bq ()).2):=by
   intro R kn kx
   rw[bg.L0.step,bw (by omega),bn (by omega) (by omega),bn (by omega) (by omega),Int.toNat_natCast,n1,n2,N.kA (by omega),bO.run (d:=(ks[k],m,w.2.1[k]'(by omega))) ⟨hx,hm,hy⟩]
   simp only[az,ab,bO.add,bO.F]
   cases lf ks[k] m 1 (w.2.1[k]'(by omega)) <;> rfl
  cases hp:lf ks[k] m 1 (w.2.1[k]'(by omega))
  ·right
   refine⟨bg.L0.bq (),?_,fun kn kx=> ?_⟩
   ·simp only[bg.L0.add,bg.L0.F,Int.toNat_natCast,hd,hp,Bool.false_and,Bool.false_eq_true,if_false]
    rfl
   ·rw[step,hp,ay]
  ·left
   refine⟨(w,m,ks,ks.length,((k+1:Nat):Int)),⟨hw,hm,hl,hb,hs,rfl,k+1,by omega,rfl⟩,by simp only[Int.toNat_natCast];omega,?_,fun kn kx=> ?_⟩
   ·simp only[bg.L0.add,bg.L0.F,Int.toNat_natCast,hd,hp,Bool.true_and]
   ·rw[step,hp,az]
 ·right
  obtain rfl:k=ks.length:=by omega
  refine⟨bg.L0.eP (),?_,fun kn kx=> ?_⟩
  ·simp only[bg.L0.add,bg.L0.F,Int.toNat_natCast,List.drop_length]
   rfl
  ·rw[bg.L0.step]
   simp(disch:=omega) only[↓S1,↓if_pos,↓if_neg,if_pos,if_neg,if_true,if_false,S2]
theorem zi{l:Lk}(h:iK l=true){b:fX}(hb:b∈l.1):b.1.length≤12:=by
 unfold iK at h
 rw[Bool.and_eq_true,List.all_eq_true]at h
 have:=h.1 b hb
 unfold nZ at this
 rw[Bool.and_eq_true]at this
 simpa using this.1
theorem bg.ok:bg.Ok:=by
  rintro⟨l,w,m,h,a⟩ ⟨hl,hb,hw,hm⟩
  have hl:xQ l:=hl
  have hb:l.1.length≤1000000000:=hb
  have hw:qB w:=hw
  have hm:Sm m:=hm
  rw[bg.eq,aM.run (d:=l) ⟨hl,hb⟩]
  simp only[ab,aM.add,aM.F,bg.add,bg.F,Ct]
  cases hok:iK l
  · rw[if_pos (Or.inl rfl)];rfl
  by_cases h0:w.1 < 0
  · rw[bw h0,if_pos (Or.inr (Or.inl h0))];rfl
  by_cases h1:w.1≥l.1.length
  · rw[bm h0,fU h1,if_pos (Or.inr (Or.inr h1))];rfl
  rw[bm h0,eM h1,bn (by omega) (by omega),if_neg (by simp[h0];omega)]
  have hn:w.1.toNat < l.1.length:=by omega
  have n1:nth (.pair (.slice (.int .u64)) (.pair (.int .i64) (.pair (.int .i64) (.pair (.int .u64) .unit)))) l.1 w.1.toNat=l.1[w.1.toNat]:=cw (t:=(.pair (.slice (.int .u64)) (.pair (.int .i64) (.pair (.int .i64) (.pair (.int .u64) .unit))))) hn
  rw[n1]
  have hx:Ce l.1[w.1.toNat]:=hl _ (List.getElem_mem hn)
  have hkl:=zi hok (List.getElem_mem hn)
  obtain⟨⟨ks,af,dl,sc,u⟩,hbk⟩:∃b,l.1[w.1.toNat]=b:=⟨_,rfl⟩
  rw[hbk]at hx hkl ⊢
  have hks:mK ks:=hx.1
  have hkl:ks.length≤12:=hkl
  simp only[Bool.not_true,ay,az]
  by_cases e1:h < af
  · rw[bw e1,if_pos (Or.inl e1)];rfl
  by_cases e2:a < dl
  · rw[bm e1,bw e2,if_pos (Or.inr e2)];rfl
  rw[bm e1,bm e2,if_neg (by simp[e1,e2]),dj.run (d:=w.2.2.1) hw.2]
  simp only[ay,ab,dj.add,dj.F]
  have last:aJ (ku ((w.2.1.length:Nat):Int) ((ks.length:Nat):Int)) (some (bg.out (7:Int))) (
          aq (bg.L0.call (w,m,ks,((ks.length:Nat):Int),(0:Int))) fun x4=>
          aJ (x4.isLeft) (aq (x4.getLeft?) fun a5=>some (bg.out (7:Int))) (aq (x4.getRight?) fun b6=>some (bg.out (0:Int))))=some (bg.out (if w.2.1.length≠ks.length then 7 else if oH m ks w.2.1 then 0 else 7)):=by
    by_cases e3:w.2.1.length=ks.length
    · rw[bT (by omega),if_neg (by simp[e3]),ay,bg.L0.run (d:=(w,m,ks,ks.length,0)) ⟨hw,hm,hks,by show ks.length≤1000000000;omega,e3,rfl,0,by omega,rfl⟩]
      simp only[ab,bg.L0.add,bg.L0.F,Int.toNat_zero,List.drop_zero]
      cases oH m ks w.2.1 <;> rfl
    · rw[dB (by omega),if_pos e3];rfl
  by_cases e4:sc=0
  · rw[bT e4,if_neg (by simp[e4]),ay]
    exact last
  · rw[dB e4,az]
    by_cases e5:gE w.2.2.1=sc
    · rw[bT e5,if_neg (by simp[e5]),ay]
      exact last
    · rw[dB e5,if_pos ⟨e4,e5⟩];rfl
noncomputable def bg.E:=Entry.ct [some j3,some sC,some tH,some ti,some ti] bg.st bg.aB bg.add bg.F bg.out
noncomputable def bg.call:bg.D→Option bg.X:=bG bg.E bg.st
theorem bg.run:bB bg.call bg.aB bg.add bg.F:=cO (cM [.d j3,.d sC,.d tB,.d ti,.d ti] fun _=>by kernel_rfl)
noncomputable def bg.sg:SG Tryz.prog:=⟨47,aU,bg.E,.fn 1 (by kernel_rfl) bg.ok (And.intro (.ct bg.L0.ok (by kernel_rfl)) trivial)⟩
set_option synthInstance.maxSize 5000
abbrev dS.D:=Int
def dS.st:dS.D→SA:=fun n=>([.cU,.d ti n],[])
abbrev dS.Y:=Nat×(List Int)
abbrev dS.X:=Nat×(List Int)
def dS.out:dS.X→aY:=fun x=>⟨.cd (.new 0 0) 0 [] 0 0 x.1,[],[.obj 0 false (.vec 5 tb x.2)]⟩
def dS.add:dS.D→dS.Y→dS.X:=fun n y=>y
def dS.aB:dS.D→Prop:=fun n=>∃k:Nat,n=k∧k≤100000000
def dS.F:dS.D→dS.Y:=fun n=>(0,List.replicate n.toNat 0)
noncomputable def dS.G:dR:=eO (P:=Tryz.prog) []
noncomputable def dS.an:eu:= {iu:=[⟨4,[],22,25⟩]}
noncomputable def dS.A:= @cI Tryz.prog dS.G dS.an 0 Tryz.f170 _ dS.st
abbrev dS.Ok:=cJ @dS.A dS.aB dS.add dS.F dS.out
theorem dS.eq{R:Type}(n:Int)(k:aY→Option R):dS.A n k=
  aJ ((fY n (0:Int))) (
   none) (
   aJ ((mG (dd .i64 n (0:Int)) (0:Int))) (
    aJ (decide (0 < (dd .i64 n (0:Int))) && dh (Int.toNat (dd .i64 n (0:Int))) 1) (
    aJ (inc (0:Int) (((Int.toNat (dd .i64 n (0:Int))):Nat):Int)) (
    k (dS.out (0,(List.replicate (Int.toNat (dd .i64 n (0:Int))) (0:Int))))) none) none) (
    k (dS.out (0,([]:List Int))))):=by kernel_rfl
theorem dS.ok:dS.Ok:=by
 rintro n ⟨k,rfl,hk⟩
 have e:dd .i64 (k:Int) 0=(k:Int):=by rw[fw (by omega) (by omega)];omega
 rw[dS.eq,e,bm (by omega),ay]
 by_cases h:0 < k
 ·rw[dQ (by omega),Int.toNat_natCast,aO (by omega),eB (by omega) (by omega),kD (by omega) (by omega)]
  rfl
 ·obtain rfl:k=0:=by omega
  rfl
noncomputable def dS.E:=Entry.ct [none,some ti] dS.st dS.aB dS.add dS.F dS.out
noncomputable def dS.call:dS.D→Option dS.X:=bG dS.E dS.st
theorem dS.run:bB dS.call dS.aB dS.add dS.F:=cO (cM [.d ti] fun _=>by kernel_rfl)
noncomputable def dS.sg:SG Tryz.prog:=⟨170,aU,dS.E,.fn 0 (by kernel_rfl) dS.ok trivial⟩
def iZ(l:List (List Int)):Nat:=l.flatten.length
def sE(n:Nat)(l:List Int):List (List Int)→Nat×List Int
 |[]=>(n,l)
 |s::r=>(n+(s::r).flatten.length,l.take n++(s::r).flatten)
theorem yX(n:Nat)(l s:List Int)(r:List (List Int))(h:n≤l.length):sE n l (s::r)=sE (n+s.length) (l.take n++s) r:=by
 have hl:(l.take n++s).length=n+s.length:=by rw[List.length_append,List.length_take];omega
 cases r with
 |nil=>simp[sE]
 |cons t r=>
  simp only[sE]
  rw[List.take_of_length_le (Nat.le_of_eq hl)]
  simp only[List.flatten_cons,List.length_append,List.append_assoc,Nat.add_assoc]
theorem BD(n:Nat)(z:List Int)(r:List (List Int)):(sE 0 z r).1≤(sE 0 z r).2.length∧cut (sE 0 z r).2 0 (sE 0 z r).1=r.flatten:=by
 cases r with
 |nil=>exact⟨Nat.zero_le _,rfl⟩
 |cons s r=>
  simp only[sE,List.take_zero,List.nil_append,Nat.zero_add]
  exact⟨Nat.le_refl _,by show List.take _ (List.drop 0 _)=_;rw[List.drop_zero,List.take_length]⟩
abbrev av.L0.D:=(List Bs)×Int×(List Bs)×Int×Int
def av.L0.st:av.L0.D→AS:=fun(slices_2,size,t9,t10,t11)=>⟨([.d (.slice tB) slices_2,.undef,.undef,.d ti size]++ba 5 ([.d (.slice tB) t9,.d ti t10,.d ti t11]++ba 24 [])),[],(List.replicate 36 [])⟩
abbrev av.L0.Y0:=Int
abbrev av.L0.X0:=((List Bs))×(Int)
def av.L0.bq:av.L0.X0→Exit×AS:=fun x=>(.exit 0,⟨([.d (.slice tB) x.1,.undef,.undef,.d ti x.2]++ba 32 []),[],(List.replicate 36 [])⟩)
abbrev av.L0.X:=av.L0.X0
abbrev av.L0.Y:=av.L0.Y0
def av.L0.out:av.L0.X→Out (Exit×AS):=fun x=> .ok (av.L0.bq x)
def av.L0.add:av.L0.D→av.L0.Y→av.L0.X:=fun(slices_2,size,t9,t10,t11) y=>(slices_2,y)
abbrev av.L1.D:=Nat×(List Bs)×Int×Int×(List Int)
def av.L1.st:av.L1.D→AS:=fun(newsliceL,t25,t26,t27,n24)=>⟨(ba 6 ([.cd (.new 24 0) 0 [] 0 0 newsliceL]++ba 18 ([.d (.slice tB) t25,.d ti t26,.d ti t27]++ba 8 []))),[],(bN 24 ([[.obj 0 false (.vec 5 tb n24)]]++bN 11 []))⟩
abbrev av.L1.Y0:=Nat×(List Int)
abbrev av.L1.X0:=Nat×(List Int)
def av.L1.bq:av.L1.X0→Exit×AS:=fun x=>(.exit 2,⟨(ba 6 ([.cd (.new 24 0) 0 [] 0 0 x.1]++ba 29 [])),[],(bN 24 ([[.obj 0 false (.vec 5 tb x.2)]]++bN 11 []))⟩)
abbrev av.L1.X:=av.L1.X0
abbrev av.L1.Y:=av.L1.Y0
def av.L1.out:av.L1.X→Out (Exit×AS):=fun x=> .ok (av.L1.bq x)
def av.L1.add:av.L1.D→av.L1.Y→av.L1.X:=fun(newsliceL,t25,t26,t27,n24) y=>y
abbrev av.D:=(List Bs)
def av.st:av.D→SA:=fun slices=>([.d (.slice tB) slices],[])
abbrev av.Y:=Bs
abbrev av.X:=Bs
def av.out:av.X→aY:=fun x=>⟨.d tB x,[],[]⟩
def av.add:av.D→av.Y→av.X:=fun slices y=>y
def av.L0.aB:av.L0.D→Prop:=fun(s,size,t,n,i)=>s.length≤1000000∧t=s∧n=s.length∧∃k z:Nat,k≤s.length∧i=k∧size=z∧z+iZ (s.drop k)≤100000000
def av.L0.F:av.L0.D→av.L0.Y:=fun(s,size,t,n,i)=>((size:Int)+((iZ (s.drop i.toNat):Nat):Int):Int)
def av.L1.aB:av.L1.D→Prop:=fun(n,s,t,i,l)=>s.length≤1000000∧n≤l.length∧t=s.length∧∃k:Nat,k≤s.length∧i=k∧n+iZ (s.drop k)≤100000000
def av.L1.F:av.L1.D→av.L1.Y:=fun(n,s,t,i,l)=>sE n l (s.drop i.toNat)
def av.aB:av.D→Prop:=fun s=>s.length≤1000000∧iZ s≤100000000
def av.F:av.D→av.Y:=fun s=>s.flatten
noncomputable def av.G:dR:=eO (P:=Tryz.prog) [dS.sg]
noncomputable def av.L0.E:=bM.ct av.L0.st av.L0.aB av.L0.add av.L0.F av.L0.out
noncomputable def av.L0.call:av.L0.D→Option av.L0.X:=dg av.L0.E av.L0.st
noncomputable def av.L1.E:=bM.ct av.L1.st av.L1.aB av.L1.add av.L1.F av.L1.out
noncomputable def av.L1.call:av.L1.D→Option av.L1.X:=dg av.L1.E av.L1.st
noncomputable def av.an:eu:= {loops:=jO [(3,{bh:=[0,3,9,10,11]}),(11,{bh:=[6,25,26,27],sites:=[24],iu:=[⟨6,[],24,25⟩]})],outs:=jN [(3,{bh:=[0,3]},{bh:=[2]}),(11,{bh:=[6],sites:=[24]},{bh:=[2]})],fF:=ky [(3,av.L0.E),(11,av.L1.E)],res:=[some tB]}
noncomputable def av.A:= @cI Tryz.prog av.G av.an 0 Tryz.f153 _ av.st
abbrev av.Ok:=cJ @av.A av.aB av.add av.F av.out
noncomputable def av.L0.R:= @cf Tryz.prog av.G av.an 0 Tryz.f153 0 _ av.L0.st
abbrev av.L0.Ok:=ez Tryz.prog av.G av.an 0 Tryz.f153 0 av.L0.st av.L0.aB av.L0.add av.L0.F av.L0.out
noncomputable def av.L1.R:= @cf Tryz.prog av.G av.an 0 Tryz.f153 1 _ av.L1.st
abbrev av.L1.Ok:=ez Tryz.prog av.G av.an 0 Tryz.f153 1 av.L1.st av.L1.aB av.L1.add av.L1.F av.L1.out
theorem av.L0.run:bB av.L0.call av.L0.aB av.L0.add av.L0.F:=eE (eD [.d (.slice tB),.d ti,.d (.slice tB),.d ti,.d ti] fun _=>by kernel_rfl)
theorem av.L0.aH:fP @av.L0.R av.L0.st av.L0.aB av.L0.add av.L0.F av.L0.bq av.L0.Ok:=fS
theorem av.L0.step{R:Type}(slices_2:(List Bs))(size:Int)(t9:(List Bs))(t10:Int)(t11:Int)(kn:AS→Option R)(kx:Exit→AS→Option R):av.L0.R (slices_2,size,t9,t10,t11) kn kx=
  aJ ((fY t11 t10)) (
   aJ (eh t11 (((List.length t9):Nat):Int)) (
   aJ ((fY (bK .i64 size (((List.length (nth tB t9 (Int.toNat t11))):Nat):Int)) (0:Int))) (
    none) (
    kn (av.L0.st (slices_2,(bK .i64 size (((List.length (nth tB t9 (Int.toNat t11))):Nat):Int)),t9,t10,(bK .i64 t11 (1:Int)))))) none) (
   kx (av.L0.bq (slices_2,size)).1 (av.L0.bq (slices_2,size)).2):=by kernel_rfl
theorem av.L1.run:bB av.L1.call av.L1.aB av.L1.add av.L1.F:=eE (eD [.n,.d (.slice tB),.d ti,.d ti,.d tB] fun _=>by kernel_rfl)
theorem av.L1.aH:fP @av.L1.R av.L1.st av.L1.aB av.L1.add av.L1.F av.L1.bq av.L1.Ok:=fS
theorem av.L1.step{R:Type}(newsliceL:Nat)(t25:(List Bs))(t26:Int)(t27:Int)(n24:(List Int))(kn:AS→Option R)(kx:Exit→AS→Option R):av.L1.R (newsliceL,t25,t26,t27,n24) kn kx=
  aJ ((fY t27 t26)) (
   aJ (eh t27 (((List.length t25):Nat):Int)) (
   aJ (decide (newsliceL≤(List.length n24))) (
   aJ (dh (newsliceL+(List.length (nth tB t25 (Int.toNat t27)))) 1) (
   kn (av.L1.st ((newsliceL+(List.length (nth tB t25 (Int.toNat t27)))),t25,t26,(bK .i64 t27 (1:Int)),((List.take newsliceL n24)++(nth tB t25 (Int.toNat t27)))))) none) none) none) (
   kx (av.L1.bq (newsliceL,n24)).1 (av.L1.bq (newsliceL,n24)).2):=by kernel_rfl
theorem av.eq{R:Type}(slices:(List Bs))(k:aY→Option R):av.A slices k=
 aq (av.L0.call (slices,(0:Int),slices,(((List.length slices):Nat):Int),(0:Int))) fun x1=>
 aq (dS.call x1.2) fun x2=>
 aq (av.L1.call (x2.1,x1.1,(((List.length x1.1):Nat):Int),(0:Int),x2.2)) fun x3=>
 aJ (decide (0=0∧(0+x3.1)≤(List.length x3.2))) (
 k (av.out (cut x3.2 0 x3.1))) none:=by kernel_rfl
theorem ym(s:List (List Int))(k:Nat)(h:k < s.length):iZ (s.drop k)=s[k].length+iZ (s.drop (k+1)):=by
 unfold iZ
 rw[List.drop_eq_getElem_cons h,List.flatten_cons,List.length_append]
theorem av.L0.ok:av.L0.Ok:=by
 refine av.L0.aH (fun(s,size,t,n,i)=>s.length - i.toNat) ?_
 rintro⟨s,size,t,n,i⟩ ⟨hs,rfl,rfl,k,z,hk,rfl,rfl,hz⟩
 have hs:t.length≤1000000:=hs
 have hk:k≤t.length:=hk
 have hz:z+iZ (t.drop k)≤100000000:=hz
 by_cases h:k < t.length
 ·left
  have n1:nth (.slice (.int .u8)) t k=t[k]:=cw (t:= .slice (.int .u8)) h
  have hd:=ym t k h
  refine⟨(t,((z+t[k].length:Nat):Int),t,t.length,((k+1:Nat):Int)),⟨hs,rfl,rfl,k+1,z+t[k].length,by omega,rfl,rfl,by omega⟩,by simp only[Int.toNat_natCast];omega,?_,fun kn kx=> ?_⟩
  ·simp only[av.L0.add,av.L0.F,Int.toNat_natCast]
   rw[hd]
   refine congrArg _ ?_
   omega
  ·rw[av.L0.step]
   simp(disch:=omega) only[↓S1,↓if_pos,↓if_neg,if_pos,if_neg,if_true,if_false,S2,n1]
 ·right
  obtain rfl:k=t.length:=by omega
  intro R kn kx
  rw[av.L0.step]
  simp(disch:=omega) only[↓S1,↓if_pos,↓if_neg,if_pos,if_neg,if_true,if_false,S2,av.L0.add,av.L0.F,List.drop_length]
  simp only[iZ,List.flatten_nil,List.length_nil,Int.natCast_zero,Int.add_zero]
theorem av.L1.ok:av.L1.Ok:=by
 refine av.L1.aH (fun(n,s,t,i,l)=>s.length - i.toNat) ?_
 rintro⟨n,s,t,i,l⟩ ⟨hs,hn,rfl,k,hk,rfl,hz⟩
 have hs:s.length≤1000000:=hs
 have hn:n≤l.length:=hn
 have hk:k≤s.length:=hk
 have hz:n+iZ (s.drop k)≤100000000:=hz
 by_cases h:k < s.length
 ·left
  have n1:nth (.slice (.int .u8)) s k=s[k]:=cw (t:= .slice (.int .u8)) h
  have hd:=ym s k h
  refine⟨(n+s[k].length,s,s.length,((k+1:Nat):Int),l.take n++s[k]),⟨hs,by rw[List.length_append,List.length_take];omega,rfl,k+1,by omega,rfl,by omega⟩,by simp only[Int.toNat_natCast];omega,?_,fun kn kx=> ?_⟩
  ·simp only[av.L1.add,av.L1.F,Int.toNat_natCast]
   rw[List.drop_eq_getElem_cons h,yX _ _ _ _ hn]
  ·rw[av.L1.step]
   simp(disch:=omega) only[↓S1,↓if_pos,↓if_neg,if_pos,if_neg,if_true,if_false,S2,n1]
 ·right
  obtain rfl:k=s.length:=by omega
  intro R kn kx
  rw[av.L1.step]
  simp(disch:=omega) only[↓S1,↓if_pos,↓if_neg,if_pos,if_neg,if_true,if_false,S2,av.L1.add,av.L1.F,List.drop_length]
  rfl
theorem av.ok:av.Ok:=by
 rintro s ⟨hs,hz⟩
 have hs:s.length≤1000000:=hs
 have hz:iZ s≤100000000:=hz
 have p1:av.L0.aB (s,0,s,s.length,0):=⟨hs,rfl,rfl,0,0,by omega,rfl,rfl,by rw[List.drop_zero];omega⟩
 have p2:av.L1.aB (0,s,s.length,0,List.replicate (iZ s) 0):=⟨hs,by omega,rfl,0,by omega,rfl,by rw[List.drop_zero];omega⟩
 rw[av.eq,av.L0.run p1]
 simp only[ab,av.L0.add,av.L0.F,Int.toNat_zero,List.drop_zero,Int.zero_add]
 rw[dS.run (d:=((iZ s:Nat):Int)) ⟨iZ s,rfl,hz⟩]
 simp only[ab,dS.add,dS.F,Int.toNat_natCast]
 rw[av.L1.run p2]
 simp only[ab,av.L1.add,av.L1.F,Int.toNat_zero,List.drop_zero]
 obtain⟨c1,c2⟩:=BD 0 (List.replicate (iZ s) 0) s
 simp only[Nat.zero_add,c1,and_self,decide_true,az,c2]
 rfl
noncomputable def av.E:=Entry.ct [some (.slice tB)] av.st av.aB av.add av.F av.out
noncomputable def av.call:av.D→Option av.X:=bG av.E av.st
theorem av.run:bB av.call av.aB av.add av.F:=cO (cM [.d (.slice tB)] fun _=>by kernel_rfl)
noncomputable def av.sg:SG Tryz.prog:=⟨153,aU,av.E,.fn 2 (by kernel_rfl) av.ok (And.intro (.ct av.L0.ok (by kernel_rfl)) (And.intro (.ct av.L1.ok (by kernel_rfl)) trivial))⟩
abbrev dp.D:=Bs×Bs
def dp.st:dp.D→SA:=fun(b,more)=>([.d tB b,.d tB more],[])
abbrev dp.Y:=Bs
abbrev dp.X:=Bs
def dp.out:dp.X→aY:=fun x=>⟨.d tB x,[],[]⟩
def dp.add:dp.D→dp.Y→dp.X:=fun(b,more) y=>y
def dp.aB:dp.D→Prop:=fun(a,b)=>a.length+b.length≤100000000
def dp.F:dp.D→dp.Y:=fun(a,b)=>a++b
noncomputable def dp.G:dR:=eO (P:=Tryz.prog) [av.sg]
noncomputable def dp.an:eu:= {}
noncomputable def dp.A:= @cI Tryz.prog dp.G dp.an 0 Tryz.f119 _ dp.st
abbrev dp.Ok:=cJ @dp.A dp.aB dp.add dp.F dp.out
theorem dp.eq{R:Type}(b:Bs)(more:Bs)(k:aY→Option R):dp.A (b,more) k=
 aq (av.call [b,more]) fun x1=>
 k (dp.out x1):=by kernel_rfl
theorem dp.ok:dp.Ok:=by
 rintro⟨a,b⟩ h
 have h:a.length+b.length≤100000000:=h
 rw[dp.eq,av.run (d:=[a,b]) ⟨by show [a,b].length≤_;simp,by show iZ [a,b]≤_;simp only[iZ,List.flatten_cons,List.flatten_nil,List.append_nil,List.length_append];omega⟩]
 simp only[ab,av.add,av.F,dp.add,dp.F,List.flatten_cons,List.flatten_nil,List.append_nil]
noncomputable def dp.E:=Entry.ct [some tB,some tB] dp.st dp.aB dp.add dp.F dp.out
noncomputable def dp.call:dp.D→Option dp.X:=bG dp.E dp.st
theorem dp.run:bB dp.call dp.aB dp.add dp.F:=cO (cM [.d tB,.d tB] fun _=>by kernel_rfl)
noncomputable def dp.sg:SG Tryz.prog:=⟨119,aU,dp.E,.fn 0 (by kernel_rfl) dp.ok trivial⟩
set_option synthInstance.maxSize 5000
def eW:Nat→Int→List Int×Int
 | 0,n=>([],n)
 |f+1,n=>if 128≤n then((n%128+128)::(eW f (n / 128)).1,(eW f (n / 128)).2) else([],n)
def fi(n:Int):List Int:=(eW 10 n).1++ [(eW 10 n).2]
theorem nJ:∀(f g:Nat) (n:Int),n < 128^(f+1)→n < 128^(g+1)→eW f n=eW g n
 | 0,0,n,_,_=>rfl
 | 0,g+1,n,h,_=>by
  have h:n < 128:=h
  rw[eW,eW,if_neg (by omega)]
 |f+1,0,n,_,h=>by
  have h:n < 128:=h
  rw[eW,eW,if_neg (by omega)]
 |f+1,g+1,n,h,h'=>by
  rw[eW,eW]
  split
  ·have e:(128:Int)^(f+1+1)=128^(f+1)*128:=Int.pow_succ 128 (f+1)
   have e':(128:Int)^(g+1+1)=128^(g+1)*128:=Int.pow_succ 128 (g+1)
   rw[nJ f g (n / 128) (by omega) (by omega)]
  ·rfl
theorem rY:∀(f:Nat) (n:Int),(eW f n).1.length≤f
 | 0,_=>Nat.le_refl _
 |f+1,n=>by
  rw[eW]
  split
  ·have:=rY f (n / 128)
   simp only[List.length_cons];omega
  ·exact Nat.zero_le _
theorem tw:∀(f:Nat) (n:Int),0≤n→n < 128^(f+1)→0≤(eW f n).2∧(eW f n).2 < 128
 | 0,n,h,h'=>by have h':n < 128:=h';exact⟨h,h'⟩
 |f+1,n,h,h'=>by
  rw[eW]
  have e:(128:Int)^(f+1+1)=128^(f+1)*128:=Int.pow_succ 128 (f+1)
  split
  ·exact tw f (n / 128) (by omega) (by omega)
  ·exact⟨h,by omega⟩
theorem zB{n:Int}(h:128≤n)(h2:n≤9223372036854775807):eW 10 n=((n%128+128)::(eW 10 (n / 128)).1,(eW 10 (n / 128)).2):=by
 have e:(128:Int)^(9+1)=1180591620717411303424:=rfl
 have e2:(128:Int)^(10+1)=151115727451828646838272:=rfl
 rw[eW,if_pos h,nJ 9 10 (n / 128) (by rw[e];omega) (by rw[e2];omega)]
theorem gG(n:Int):(fi n).length≤11:=by
 have:=rY 10 n
 unfold fi
 simp only[List.length_append,List.length_cons,List.length_nil];omega
def mD(n:Int):Prop:=0≤n∧n≤9223372036854775807
abbrev cn.L0.D:=Int×Nat×(List Int)
def cn.L0.st:cn.L0.D→AS:=fun(n_2,outL,n14)=>⟨([.d ti n_2,.undef,.undef,.cd (.new 14 0) 0 [] 0 0 outL]++ba 16 []),[],(bN 14 ([[.obj 0 false (.vec 5 tb n14)]]++bN 5 []))⟩
abbrev cn.L0.Y0:=Int×Nat×(List Int)
abbrev cn.L0.X0:=Int×Nat×(List Int)
def cn.L0.bq:cn.L0.X0→Exit×AS:=fun x=>(.exit 0,⟨([.d ti x.1,.undef,.undef,.cd (.new 14 0) 0 [] 0 0 x.2.1]++ba 16 []),[],(bN 14 ([[.obj 0 false (.vec 5 tb x.2.2)]]++bN 5 []))⟩)
abbrev cn.L0.X:=cn.L0.X0
abbrev cn.L0.Y:=cn.L0.Y0
def cn.L0.out:cn.L0.X→Out (Exit×AS):=fun x=> .ok (cn.L0.bq x)
def cn.L0.add:cn.L0.D→cn.L0.Y→cn.L0.X:=fun(n_2,outL,n14) y=>y
abbrev cn.D:=Int
def cn.st:cn.D→SA:=fun n=>([.d ti n],[])
abbrev cn.Y:=Bs
abbrev cn.X:=Bs
def cn.out:cn.X→aY:=fun x=>⟨.d tB x,[],[]⟩
def cn.add:cn.D→cn.Y→cn.X:=fun n y=>y
def cn.L0.aB:cn.L0.D→Prop:=fun(n,m,l)=>mD n∧m=l.length∧l.length≤1000+0*n.toNat∧l.length+(eW 10 n).1.length≤100
def cn.L0.F:cn.L0.D→cn.L0.Y:=fun(n,m,l)=>((eW 10 n).2,(l++(eW 10 n).1).length,l++(eW 10 n).1)
def cn.aB:cn.D→Prop:=fun n=>mD n
def cn.F:cn.D→cn.Y:=fun n=>fi n
noncomputable def cn.G:dR:=eO (P:=Tryz.prog) []
noncomputable def cn.L0.E:=bM.ct cn.L0.st cn.L0.aB cn.L0.add cn.L0.F cn.L0.out
noncomputable def cn.L0.call:cn.L0.D→Option cn.L0.X:=dg cn.L0.E cn.L0.st
noncomputable def cn.an:eu:= {loops:=jO [(2,{bh:=[0,3],sites:=[14],iu:=[⟨3,[],14,25⟩]})],outs:=jN [(2,{bh:=[0,3],sites:=[14]},{bh:=[2]})],fF:=ky [(2,cn.L0.E)],res:=[some tB]}
noncomputable def cn.A:= @cI Tryz.prog cn.G cn.an 0 Tryz.f120 _ cn.st
abbrev cn.Ok:=cJ @cn.A cn.aB cn.add cn.F cn.out
noncomputable def cn.L0.R:= @cf Tryz.prog cn.G cn.an 0 Tryz.f120 0 _ cn.L0.st
abbrev cn.L0.Ok:=ez Tryz.prog cn.G cn.an 0 Tryz.f120 0 cn.L0.st cn.L0.aB cn.L0.add cn.L0.F cn.L0.out
theorem cn.L0.run:bB cn.L0.call cn.L0.aB cn.L0.add cn.L0.F:=eE (eD [.d ti,.n,.d tB] fun _=>by kernel_rfl)
theorem cn.L0.aH:fP @cn.L0.R cn.L0.st cn.L0.aB cn.L0.add cn.L0.F cn.L0.bq cn.L0.Ok:=fS
theorem cn.L0.step{R:Type}(n_2:Int)(outL:Nat)(n14:(List Int))(kn:AS→Option R)(kx:Exit→AS→Option R):cn.L0.R (n_2,outL,n14) kn kx=
  aJ ((mZ n_2 (128:Int))) (
   aJ (decide (outL≤(List.length n14))) (
   aJ (dh (outL+1) 1) (
   kn (cn.L0.st ((kF .i64 n_2 (128:Int)),(outL+1),((List.take outL n14)++ [(dA .u8 (bK .i64 (iT n_2 (128:Int)) (128:Int)))])))) none) none) (
   kx (cn.L0.bq (n_2,outL,n14)).1 (cn.L0.bq (n_2,outL,n14)).2):=by kernel_rfl
theorem cn.eq{R:Type}(n:Int)(k:aY→Option R):cn.A n k=
 aq (cn.L0.call (n,0,([]:List Int))) fun x1=>
 aJ (decide (x1.2.1≤(List.length x1.2.2))) (
 aJ (dh (x1.2.1+1) 1) (
 aJ (decide (0=0∧(0+(x1.2.1+1))≤(List.length ((List.take x1.2.1 x1.2.2)++ [(dA .u8 x1.1)])))) (
 k (cn.out (cut ((List.take x1.2.1 x1.2.2)++ [(dA .u8 x1.1)]) 0 (x1.2.1+1)))) none) none) none:=by kernel_rfl
theorem Ah{n:Int}(h:mD n):dA .u8 (bK .i64 (iT n 128) 128)=n%128+128:=by
 have h1:=h.1
 rw[nE h.1,gF (by omega) (by omega),rB,fD]
 omega
theorem cn.L0.ok:cn.L0.Ok:=by
 refine cn.L0.aH (fun(n,m,l)=>n.toNat) ?_
 rintro⟨n,m,l⟩ ⟨hn,rfl,hl,hz⟩
 have hn:mD n:=hn
 have hz:l.length+(eW 10 n).1.length≤100:=hz
 have h1:=hn.1
 have h2:=hn.2
 by_cases h:128≤n
 ·left
  have e:=zB h h2
  have hq:kF .i64 n 128=n / 128:=by
   rw[kF,Int.tdiv_eq_ediv_of_nonneg h1]
   exact iY (by omega) (by omega)
  have el:((n%128+128)::(eW 10 (n / 128)).1).length=(eW 10 (n / 128)).1.length+1:=List.length_cons
  rw[e]at hz
  have hz:l.length+((n%128+128)::(eW 10 (n / 128)).1).length≤100:=hz
  rw[el]at hz
  refine⟨(n / 128,l.length+1,l++ [n%128+128]),⟨⟨by omega,by omega⟩,by rw[List.length_append];rfl,by rw[List.length_append];simp only[List.length_cons,List.length_nil];omega,by rw[List.length_append];simp only[List.length_cons,List.length_nil];omega⟩,by simp only[];omega,?_,fun kn kx=> ?_⟩
  ·simp only[cn.L0.add,cn.L0.F,e,List.append_assoc,List.cons_append,List.nil_append]
  ·rw[cn.L0.step,fU h,Ah hn,hq]
   simp(disch:=omega) only[↓S1,↓if_pos,↓if_neg,if_pos,if_neg,if_true,if_false,S2,Nat.le_refl,List.take_length]
 ·right
  have e:eW 10 n=([],n):=by rw[eW,if_neg h]
  intro R kn kx
  rw[cn.L0.step,eM h]
  simp only[ay,cn.L0.add,cn.L0.F,e,List.append_nil]
theorem cn.ok:cn.Ok:=by
 intro n hn
 have hn:mD n:=hn
 have hl:=rY 10 n
 have e2:(128:Int)^(10+1)=151115727451828646838272:=rfl
 have hd:=tw 10 n hn.1 (by have:=hn.2;rw[e2];omega)
 have p:cn.L0.aB (n,0,[]):=⟨hn,rfl,by simp,by simp only[List.length_nil];omega⟩
 have hi:dA .u8 (eW 10 n).2=(eW 10 n).2:=by rw[rB,fD];omega
 rw[cn.eq,cn.L0.run p]
 simp only[ab,cn.L0.add,cn.L0.F,List.nil_append,hi,List.take_length,Nat.le_refl,decide_true,az]
 rw[eB (by omega) (by omega)]
 simp only[az,Nat.zero_add,List.length_append,List.length_cons,List.length_nil,Nat.le_refl,and_self,decide_true]
 rw[fa (by rw[List.length_append];rfl)]
 rfl
noncomputable def cn.E:=Entry.ct [some ti] cn.st cn.aB cn.add cn.F cn.out
noncomputable def cn.call:cn.D→Option cn.X:=bG cn.E cn.st
theorem cn.run:bB cn.call cn.aB cn.add cn.F:=cO (cM [.d ti] fun _=>by kernel_rfl)
noncomputable def cn.sg:SG Tryz.prog:=⟨120,aU,cn.E,.fn 1 (by kernel_rfl) cn.ok (And.intro (.ct cn.L0.ok (by kernel_rfl)) trivial)⟩
def dZ(b:List Int)(n:Int):List Int:=if n < 0 then b else b++fi n
theorem e7(b:List Int)(n:Int):(dZ b n).length≤b.length+11:=by
 unfold dZ
 have:=gG n
 split
 ·omega
 ·rw[List.length_append];omega
abbrev dw.D:=Bs×Int
def dw.st:dw.D→SA:=fun(b,n)=>([.d tB b,.d ti n],[])
abbrev dw.Y:=Bs
abbrev dw.X:=Bs
def dw.out:dw.X→aY:=fun x=>⟨.d tB x,[],[]⟩
def dw.add:dw.D→dw.Y→dw.X:=fun(b,n) y=>y
def dw.aB:dw.D→Prop:=fun(b,n)=>b.length≤90000000∧n≤9223372036854775807
def dw.F:dw.D→dw.Y:=fun(b,n)=>dZ b n
noncomputable def dw.G:dR:=eO (P:=Tryz.prog) [dp.sg,cn.sg]
noncomputable def dw.an:eu:= {}
noncomputable def dw.A:= @cI Tryz.prog dw.G dw.an 0 Tryz.f69 _ dw.st
abbrev dw.Ok:=cJ @dw.A dw.aB dw.add dw.F dw.out
theorem dw.eq{R:Type}(b:Bs)(n:Int)(k:aY→Option R):dw.A (b,n) k=
  aJ ((fY n (0:Int))) (
   aq (dp.call (b,([]:List Int))) fun x1=>
   k (dw.out x1)) (
   aq (cn.call n) fun x2=>
   aq (dp.call (b,x2)) fun x3=>
   k (dw.out x3)):=by kernel_rfl
theorem dw.ok:dw.Ok:=by
 rintro⟨b,n⟩ ⟨hb,hn⟩
 have hb:b.length≤90000000:=hb
 have hn:n≤9223372036854775807:=hn
 rw[dw.eq]
 simp only[dw.add,dw.F,dZ]
 by_cases h:n < 0
 ·rw[bw h,if_pos h,az,dp.run (d:=(b,[])) (by show b.length+([]:List Int).length≤_;simp only[List.length_nil];omega)]
  simp only[ab,dp.add,dp.F,List.append_nil]
 ·have hl:=gG n
  rw[bm h,if_neg h,ay,cn.run (d:=n) ⟨by omega,hn⟩]
  simp only[ab,cn.add,cn.F]
  rw[dp.run (d:=(b,fi n)) (by show b.length+(fi n).length≤_;omega)]
  rfl
noncomputable def dw.E:=Entry.ct [some tB,some ti] dw.st dw.aB dw.add dw.F dw.out
noncomputable def dw.call:dw.D→Option dw.X:=bG dw.E dw.st
theorem dw.run:bB dw.call dw.aB dw.add dw.F:=cO (cM [.d tB,.d ti] fun _=>by kernel_rfl)
noncomputable def dw.sg:SG Tryz.prog:=⟨69,aU,dw.E,.fn 0 (by kernel_rfl) dw.ok trivial⟩
abbrev dk.D:=Bs×Int
def dk.st:dk.D→SA:=fun(b,n)=>([.d tB b,.d tu n],[])
abbrev dk.Y:=Bs
abbrev dk.X:=Bs
def dk.out:dk.X→aY:=fun x=>⟨.d tB x,[],[]⟩
def dk.add:dk.D→dk.Y→dk.X:=fun(b,n) y=>y
def dk.aB:dk.D→Prop:=fun(b,n)=>b.length≤90000000
def dk.F:dk.D→dk.Y:=fun(b,n)=>b++fJ n
noncomputable def dk.G:dR:=eO (P:=Tryz.prog) [dp.sg]
noncomputable def dk.an:eu:= {loops:=jO [(3,{bh:=[0,1,5,7],sites:=[5,21]})],outs:=jN [(3,{bh:=[0,5],sites:=[5,21]},{bh:=[4],sites:=[5,21]})]}
noncomputable def dk.A:= @cI Tryz.prog dk.G dk.an 12 Tryz.f70 _ dk.st
abbrev dk.Ok:=cJ @dk.A dk.aB dk.add dk.F dk.out
theorem dk.eq{R:Type}(b:Bs)(n:Int)(k:aY→Option R):dk.A (b,n) k=
 aq (dp.call (b,[(dA .u8 (bI .u64 n (56:Int))),(dA .u8 (bI .u64 n (48:Int))),(dA .u8 (bI .u64 n (40:Int))),(dA .u8 (bI .u64 n (32:Int))),(dA .u8 (bI .u64 n (24:Int))),(dA .u8 (bI .u64 n (16:Int))),(dA .u8 (bI .u64 n (8:Int))),(dA .u8 (bI .u64 n (0:Int)))])) fun x1=>
 k (dk.out x1):=by kernel_rfl
theorem dk.ok:dk.Ok:=by
 rintro⟨b,n⟩ hb
 have hb:b.length≤90000000:=hb
 have p:dp.aB (b,fJ n):=by show b.length+(fJ n).length≤_;rw[bJ];omega
 have e:dp.call (b,[dA .u8 (bI .u64 n 56),dA .u8 (bI .u64 n 48),dA .u8 (bI .u64 n 40),dA .u8 (bI .u64 n 32),dA .u8 (bI .u64 n 24),dA .u8 (bI .u64 n 16),dA .u8 (bI .u64 n 8),dA .u8 (bI .u64 n 0)])=some (b++fJ n):=by
  rw[vc];exact dp.run p
 rw[dk.eq]
 refine Eq.trans (congrArg (fun x=>aq x _) e) ?_
 rfl
noncomputable def dk.E:=Entry.ct [some tB,some tu] dk.st dk.aB dk.add dk.F dk.out
noncomputable def dk.call:dk.D→Option dk.X:=bG dk.E dk.st
theorem dk.run:bB dk.call dk.aB dk.add dk.F:=cO (cM [.d tB,.d tu] fun _=>by kernel_rfl)
noncomputable def dk.sg:SG Tryz.prog:=⟨70,aU,dk.E,.fn 1 (by kernel_rfl) dk.ok (And.intro (.none (by kernel_rfl)) trivial)⟩
set_option synthInstance.maxSize 5000
def mB(w:mE):Bool:=decide (0≤w.1∧w.1 < 4) && decide (w.2.1.length≤12)
def rC(x:ff):Bool:=decide (0≤x.1.2.1∧x.1.2.1 < 64) && mB x.2.1
def rA(m:List (j4×Bool))(x:ff):Bool:=(nT kp x.1 m).getD false
def qE:List (j4×Bool)→List ff→Bool
 |_,[]=>true
 |m,x::l=>(!(rA m x) && rC x) && qE (nU kp x.1 true m) l
def mT(a:Int):Bool:=decide (0≤a∧a≤1125899906842624)
def oL(a b:Int):Bool:=mT a && (mT b && decide (a+b≤1125899906842624))
def mc:Int→List fM→Bool
 |_,[]=>true
 |s,o::l=>(oL s o.1 && iK o.2.1) && mc (s+o.1) l
def uQ(t:eX):Bool:=decide (1≤t.1.length∧t.1.length≤64∧t.2.1.length≤64∧0≤t.2.2.1)
def fH(t:eX):Bool:=uQ t && (qE [] t.1 && mc 0 t.2.1)
def Cx(l:Lk):Prop:=xQ l∧l.1.length≤1000000000
def DZ(t:eX):Prop:=(∀o∈t.2.1,Cx o.2.1)∧t.1.length≤1000000000∧t.2.1.length≤1000000000
abbrev eQ.D:=mE
def eQ.st:eQ.D→SA:=fun wv=>([.d sC wv],[])
abbrev eQ.Y:=Bool
abbrev eQ.X:=Bool
def eQ.out:eQ.X→aY:=fun x=>⟨.d .bool x,[],[]⟩
def eQ.add:eQ.D→eQ.Y→eQ.X:=fun wv y=>y
def eQ.aB:eQ.D→Prop:=fun _=>True
def eQ.F:eQ.D→eQ.Y:=fun w=>mB w
noncomputable def eQ.G:dR:=eO (P:=Tryz.prog) []
noncomputable def eQ.an:eu:= {}
noncomputable def eQ.A:= @cI Tryz.prog eQ.G eQ.an 0 Tryz.f89 _ eQ.st
abbrev eQ.Ok:=cJ @eQ.A eQ.aB eQ.add eQ.F eQ.out
theorem eQ.eq{R:Type}(wv:mE)(k:aY→Option R):eQ.A wv k=
  aJ ((mZ wv.1 (0:Int))) (
   aJ ((fY wv.1 (4:Int))) (
    k (eQ.out (za (((List.length wv.2.1):Nat):Int) (12:Int)))) (
    k (eQ.out false))) (
   k (eQ.out false)):=by kernel_rfl
theorem eQ.ok:eQ.Ok:=by
 rintro⟨b,ss,sc,u⟩ _
 rw[eQ.eq]
 simp only[eQ.add,eQ.F,mB]
 by_cases h:0≤b
 ·rw[fU h,az]
  by_cases h2:b < 4
  ·rw[bw h2,az,aO ⟨h,h2⟩]
   by_cases h3:ss.length≤12
   ·rw[m0 (by omega),aO h3];rfl
   ·rw[kr (by omega),aK h3];rfl
  ·rw[bm h2,ay,aK (fun x=>h2 x.2)];rfl
 ·rw[eM h,ay,aK (fun x=>h x.1)];rfl
noncomputable def eQ.E:=Entry.ct [some sC] eQ.st eQ.aB eQ.add eQ.F eQ.out
noncomputable def eQ.call:eQ.D→Option eQ.X:=bG eQ.E eQ.st
theorem eQ.run:bB eQ.call eQ.aB eQ.add eQ.F:=cO (cM [.d sC] fun _=>by kernel_rfl)
noncomputable def eQ.sg:SG Tryz.prog:=⟨89,aU,eQ.E,.fn 0 (by kernel_rfl) eQ.ok trivial⟩
abbrev cR.D:=Int
def cR.st:cR.D→SA:=fun a=>([.d ti a],[])
abbrev cR.Y:=Bool
abbrev cR.X:=Bool
def cR.out:cR.X→aY:=fun x=>⟨.d .bool x,[],[]⟩
def cR.add:cR.D→cR.Y→cR.X:=fun a y=>y
def cR.aB:cR.D→Prop:=fun _=>True
def cR.F:cR.D→cR.Y:=fun a=>mT a
noncomputable def cR.G:dR:=eO (P:=Tryz.prog) []
noncomputable def cR.an:eu:= {}
noncomputable def cR.A:= @cI Tryz.prog cR.G cR.an 0 Tryz.f139 _ cR.st
abbrev cR.Ok:=cJ @cR.A cR.aB cR.add cR.F cR.out
theorem cR.eq{R:Type}(a:Int)(k:aY→Option R):cR.A a k=
  aJ ((mZ a (0:Int))) (
   k (cR.out (za a (1125899906842624:Int)))) (
   k (cR.out false)):=by kernel_rfl
theorem cR.ok:cR.Ok:=by
 intro(a:Int) _
 rw[cR.eq]
 simp only[cR.add,cR.F,mT]
 by_cases h:0≤a
 ·rw[fU h,az]
  by_cases h2:a≤1125899906842624
  ·rw[m0 h2,aO ⟨h,h2⟩]
  ·rw[kr h2,aK (fun x=>h2 x.2)]
 ·rw[eM h,ay,aK (fun x=>h x.1)]
noncomputable def cR.E:=Entry.ct [some ti] cR.st cR.aB cR.add cR.F cR.out
noncomputable def cR.call:cR.D→Option cR.X:=bG cR.E cR.st
theorem cR.run:bB cR.call cR.aB cR.add cR.F:=cO (cM [.d ti] fun _=>by kernel_rfl)
noncomputable def cR.sg:SG Tryz.prog:=⟨139,aU,cR.E,.fn 0 (by kernel_rfl) cR.ok trivial⟩
abbrev eZ.D:=Int×Int
def eZ.st:eZ.D→SA:=fun(a,b)=>([.d ti a,.d ti b],[])
abbrev eZ.Y:=Int×Bool
abbrev eZ.X:=Int×Bool
def eZ.out:eZ.X→aY:=fun x=>⟨.cons (.d ti x.1) (.cons (.d .bool x.2) (.nil)),[],[]⟩
def eZ.add:eZ.D→eZ.Y→eZ.X:=fun(a,b) y=>y
def eZ.aB:eZ.D→Prop:=fun _=>True
def eZ.F:eZ.D→eZ.Y:=fun(a,b)=>(bif oL a b then a+b else 0,oL a b)
noncomputable def eZ.G:dR:=eO (P:=Tryz.prog) [cR.sg]
noncomputable def eZ.an:eu:= {}
noncomputable def eZ.A:= @cI Tryz.prog eZ.G eZ.an 0 Tryz.f95 _ eZ.st
abbrev eZ.Ok:=cJ @eZ.A eZ.aB eZ.add eZ.F eZ.out
theorem eZ.eq{R:Type}(a:Int)(b:Int)(k:aY→Option R):eZ.A (a,b) k=
  aq (cR.call a) fun x1=>
  aJ ((!x1)) (
   k (eZ.out ((0:Int),false))) (
   aq (cR.call b) fun x2=>
   aJ ((!x2)) (
    k (eZ.out ((0:Int),false))) (
    aJ ((mG a (dd .i64 (1125899906842624:Int) b))) (
     k (eZ.out ((0:Int),false))) (
     k (eZ.out ((bK .i64 a b),true))))):=by kernel_rfl
theorem eZ.ok:eZ.Ok:=by
 rintro⟨a,b⟩ _
 rw[eZ.eq,cR.run (d:=a) trivial,cR.run (d:=b) trivial]
 simp only[ab,cR.add,cR.F,eZ.add,eZ.F,oL]
 cases ha:mT a
 ·rfl
 ·cases hb:mT b
  ·rfl
  ·simp only[mT,decide_eq_true_eq]at ha hb
   simp only[Bool.not_true,ay,Bool.true_and]
   rw[fw (by omega) (by omega)]
   by_cases h:a+b≤1125899906842624
   ·rw[dE (by omega),ay,aO h,gF (by omega) (by omega)];rfl
   ·rw[dQ (by omega),az,aK h];rfl
noncomputable def eZ.E:=Entry.ct [some ti,some ti] eZ.st eZ.aB eZ.add eZ.F eZ.out
noncomputable def eZ.call:eZ.D→Option eZ.X:=bG eZ.E eZ.st
theorem eZ.run:bB eZ.call eZ.aB eZ.add eZ.F:=cO (cM [.d ti,.d ti] fun _=>by kernel_rfl)
noncomputable def eZ.sg:SG Tryz.prog:=⟨95,aU,eZ.E,.fn 0 (by kernel_rfl) eZ.ok trivial⟩
abbrev ak.L0.D:=eX×(List ff)×Int×Int×(List (j4×Bool))
def ak.L0.st:ak.L0.D→AS:=fun(t_2,t33,t34,t35,n31)=>⟨([.undef,.eC gb t_2,.undef,.ja (.new 31 0) 0]++ba 29 ([.d (.slice eH) t33,.d ti t34,.d ti t35]++ba 52 [])),[],(bN 31 ([[.obj 0 false (.mp kp .bool n31)]]++bN 56 []))⟩
abbrev ak.L0.Y0:=Unit
abbrev ak.L0.X0:=Unit
def ak.L0.bq:ak.L0.X0→Exit×AS:=fun x=>(.ret,⟨([.undef,.undef,.d .bool false]++ba 85 []),[],(List.replicate 88 [])⟩)
abbrev ak.L0.Y1:=Unit
abbrev ak.L0.X1:=eX
def ak.L0.eP:ak.L0.X1→Exit×AS:=fun x=>(.exit 0,⟨([.undef,.eC gb x]++ba 86 []),[],(List.replicate 88 [])⟩)
abbrev ak.L0.X:=(ak.L0.X0)⊕(ak.L0.X1)
abbrev ak.L0.Y:=(ak.L0.Y0)⊕(ak.L0.Y1)
def ak.L0.out:ak.L0.X→Out (Exit×AS):=fun x=> .br x.isLeft (.get x.getLeft? fun a=> .ok (ak.L0.bq a)) (.get x.getRight? fun b=> .ok (ak.L0.eP b))
def ak.L0.add:ak.L0.D→ak.L0.Y→ak.L0.X:=fun(t_2,t33,t34,t35,n31) y=>match y with | .inl y=> .inl y | .inr z=> .inr (t_2)
abbrev ak.L1.D:=Int×(List fM)×Int×Int
def ak.L1.st:ak.L1.D→AS:=fun(sum,t66,t67,t68)=>⟨(ba 6 ([.d ti sum]++ba 59 ([.d (.slice eR) t66,.d ti t67,.d ti t68]++ba 19 []))),[],(List.replicate 88 [])⟩
abbrev ak.L1.Y0:=Unit
abbrev ak.L1.X0:=Unit
def ak.L1.bq:ak.L1.X0→Exit×AS:=fun x=>(.ret,⟨([.undef,.undef,.d .bool false]++ba 85 []),[],(List.replicate 88 [])⟩)
abbrev ak.L1.Y1:=Unit
abbrev ak.L1.X1:=Unit
def ak.L1.eP:ak.L1.X1→Exit×AS:=fun x=>(.exit 2,⟨(ba 88 []),[],(List.replicate 88 [])⟩)
abbrev ak.L1.X:=(ak.L1.X0)⊕(ak.L1.X1)
abbrev ak.L1.Y:=(ak.L1.Y0)⊕(ak.L1.Y1)
def ak.L1.out:ak.L1.X→Out (Exit×AS):=fun x=> .br x.isLeft (.get x.getLeft? fun a=> .ok (ak.L1.bq a)) (.get x.getRight? fun b=> .ok (ak.L1.eP b))
def ak.L1.add:ak.L1.D→ak.L1.Y→ak.L1.X:=fun(sum,t66,t67,t68) y=>match y with | .inl y=> .inl y | .inr z=> .inr (z)
abbrev ak.D:=eX
def ak.st:ak.D→SA:=fun t=>([.d gb t],[])
abbrev ak.Y:=Bool
abbrev ak.X:=Bool
def ak.out:ak.X→aY:=fun x=>⟨.d .bool x,[],[]⟩
def ak.add:ak.D→ak.Y→ak.X:=fun t y=>y
def ak.L0.aB:ak.L0.D→Prop:=fun(t,l,n,i,m)=>l.length≤1000000000∧n=l.length∧∃k:Nat,k≤l.length∧i=k
def ak.L0.F:ak.L0.D→ak.L0.Y:=fun(t,l,n,i,m)=>if qE m (l.drop i.toNat) then .inr () else .inl ()
def ak.L1.aB:ak.L1.D→Prop:=fun(s,l,n,i)=>(∀o∈l,Cx o.2.1)∧l.length≤1000000000∧n=l.length∧∃k:Nat,k≤l.length∧i=k
def ak.L1.F:ak.L1.D→ak.L1.Y:=fun(s,l,n,i)=>if mc s (l.drop i.toNat) then .inr () else .inl ()
def ak.aB:ak.D→Prop:=fun t=>DZ t
def ak.F:ak.D→ak.Y:=fun t=>fH t
noncomputable def ak.G:dR:=eO (P:=Tryz.prog) [eQ.sg,eZ.sg,aM.sg]
noncomputable def ak.L0.E:=bM.ct ak.L0.st ak.L0.aB ak.L0.add ak.L0.F ak.L0.out
noncomputable def ak.L0.call:ak.L0.D→Option ak.L0.X:=dg ak.L0.E ak.L0.st
noncomputable def ak.L1.E:=bM.ct ak.L1.st ak.L1.aB ak.L1.add ak.L1.F ak.L1.out
noncomputable def ak.L1.call:ak.L1.D→Option ak.L1.X:=dg ak.L1.E ak.L1.st
noncomputable def ak.an:eu:= {loops:=jO [(5,{bh:=[1,3,33,34,35],sites:=[31]}),(13,{bh:=[6,66,67,68]})],outs:=jN [(5,{bh:=[1]},{bh:=[2]}),(13,{},{bh:=[2]})],fF:=ky [(5,ak.L0.E),(13,ak.L1.E)]}
noncomputable def ak.A:= @cI Tryz.prog ak.G ak.an 0 Tryz.f29 _ ak.st
abbrev ak.Ok:=cJ @ak.A ak.aB ak.add ak.F ak.out
noncomputable def ak.L0.R:= @cf Tryz.prog ak.G ak.an 0 Tryz.f29 0 _ ak.L0.st
abbrev ak.L0.Ok:=ez Tryz.prog ak.G ak.an 0 Tryz.f29 0 ak.L0.st ak.L0.aB ak.L0.add ak.L0.F ak.L0.out
noncomputable def ak.L1.R:= @cf Tryz.prog ak.G ak.an 0 Tryz.f29 1 _ ak.L1.st
abbrev ak.L1.Ok:=ez Tryz.prog ak.G ak.an 0 Tryz.f29 1 ak.L1.st ak.L1.aB ak.L1.add ak.L1.F ak.L1.out
theorem ak.L0.run:bB ak.L0.call ak.L0.aB ak.L0.add ak.L0.F:=eE (eD [.d gb,.d (.slice eH),.d ti,.d ti,.d (.slice (.pair kp .bool))] fun _=>by kernel_rfl)
theorem ak.L0.aH:jl @ak.L0.R ak.L0.st ak.L0.aB ak.L0.add ak.L0.F ak.L0.out ak.L0.Ok:=jL
theorem ak.L0.step{R:Type}(t_2:eX)(t33:(List ff))(t34:Int)(t35:Int)(n31:(List (j4×Bool)))(kn:AS→Option R)(kx:Exit→AS→Option R):ak.L0.R (t_2,t33,t34,t35,n31) kn kx=
  aJ ((fY t35 t34)) (
   aJ (eh t35 (((List.length t33):Nat):Int)) (
   aJ (((nT kp (nth eH t33 (Int.toNat t35)).1 n31).getD false)) (
    kx (ak.L0.bq ()).1 (ak.L0.bq ()).2) (
    aJ ((fY (nth eH t33 (Int.toNat t35)).1.2.1 (0:Int))) (
     kx (ak.L0.bq ()).1 (ak.L0.bq ()).2) (
     aJ ((mZ (nth eH t33 (Int.toNat t35)).1.2.1 (64:Int))) (
      kx (ak.L0.bq ()).1 (ak.L0.bq ()).2) (
      aq (eQ.call (nth eH t33 (Int.toNat t35)).2.1) fun x8=>
      aJ ((!x8)) (
       kx (ak.L0.bq ()).1 (ak.L0.bq ()).2) (
       kn (ak.L0.st (t_2,t33,t34,(bK .i64 t35 (1:Int)),(nU kp (nth eH t33 (Int.toNat t35)).1 true n31)))))))) none) (
   kx (ak.L0.eP t_2).1 (ak.L0.eP t_2).2):=by kernel_rfl
theorem ak.L1.run:bB ak.L1.call ak.L1.aB ak.L1.add ak.L1.F:=eE (eD [.d ti,.d (.slice eR),.d ti,.d ti] fun _=>by kernel_rfl)
theorem ak.L1.aH:jl @ak.L1.R ak.L1.st ak.L1.aB ak.L1.add ak.L1.F ak.L1.out ak.L1.Ok:=jL
theorem ak.L1.step{R:Type}(sum:Int)(t66:(List fM))(t67:Int)(t68:Int)(kn:AS→Option R)(kx:Exit→AS→Option R):ak.L1.R (sum,t66,t67,t68) kn kx=
  aJ ((fY t68 t67)) (
   aJ (eh t68 (((List.length t66):Nat):Int)) (
   aq (eZ.call (sum,(nth eR t66 (Int.toNat t68)).1)) fun x10=>
   aJ ((!x10.2)) (
    kx (ak.L1.bq ()).1 (ak.L1.bq ()).2) (
    aq (aM.call (nth eR t66 (Int.toNat t68)).2.1) fun x12=>
    aJ ((!x12)) (
     kx (ak.L1.bq ()).1 (ak.L1.bq ()).2) (
     kn (ak.L1.st (x10.1,t66,t67,(bK .i64 t68 (1:Int))))))) none) (
   kx (ak.L1.eP ()).1 (ak.L1.eP ()).2):=by kernel_rfl
theorem ak.eq{R:Type}(t:eX)(k:aY→Option R):ak.A t k=
  aJ ((fY (((List.length t.1):Nat):Int) (1:Int))) (
   k (ak.out false)) (
   aJ ((mG (((List.length t.1):Nat):Int) (64:Int))) (
    k (ak.out false)) (
    aJ ((mG (((List.length t.2.1):Nat):Int) (64:Int))) (
     k (ak.out false)) (
     aJ ((fY t.2.2.1 (0:Int))) (
      k (ak.out false)) (
      aq (ak.L0.call (t,t.1,(((List.length t.1):Nat):Int),(0:Int),([]:List (j4×Bool)))) fun x12=>
      aJ (x12.isLeft) (
       aq (x12.getLeft?) fun a13=>
       k (ak.out false)) (
       aq (x12.getRight?) fun b14=>
       aq (ak.L1.call ((0:Int),b14.2.1,(((List.length b14.2.1):Nat):Int),(0:Int))) fun x30=>
       aJ (x30.isLeft) (
        aq (x30.getLeft?) fun a31=>
        k (ak.out false)) (
        aq (x30.getRight?) fun b32=>
        k (ak.out true))))))):=by kernel_rfl
theorem ak.L0.ok:ak.L0.Ok:=by
 refine ak.L0.aH (fun(t,l,n,i,m)=>l.length - i.toNat) ?_
 rintro⟨t,l,n,i,m⟩ ⟨hb,rfl,k,hk,rfl⟩
 have hb:l.length≤1000000000:=hb
 have hk:k≤l.length:=hk
 by_cases h:k < l.length
 ·have n1:nth eH l k=l[k]:=cw (t:=eH) h
  have hd:qE m (l.drop k)=((!(rA m l[k]) && rC l[k]) && qE (nU kp l[k].1 true m) (l.drop (k+1))):=by rw[List.drop_eq_getElem_cons h];rfl
  have step:∀ {R:Type} (kn:AS→Option R) (kx:Exit→AS→Option R),ak.L0.R (t,l,(l.length:Int),(k:Int),m) kn kx=aJ (!(rA m l[k]) && rC l[k]) (kn (ak.L0.st (t,l,(l.length:Int),((k+1:Nat):Int),nU kp l[k].1 true m))) (kx (ak.L0.bq ()).1 (ak.L0.bq ()).2):=by
   intro R kn kx
   rw[ak.L0.step,bw (by omega),bn (by omega) (by omega),Int.toNat_natCast,n1,N.kA (by omega),eQ.run (d:=l[k].2.1) trivial]
   simp only[az,ab,eQ.add,eQ.F]
   have e:(nT kp l[k].1 m).getD false=rA m l[k]:=rfl
   rw[e]
   cases rA m l[k]
   ·simp only[Bool.not_false,Bool.true_and,ay,rC]
    by_cases h1:l[k].1.2.1 < 0
    ·rw[bw h1,az,aK (fun x=>by omega)];rfl
    ·rw[bm h1,ay]
     by_cases h2:64≤l[k].1.2.1
     ·rw[fU h2,az,aK (fun x=>by omega)];rfl
     ·rw[eM h2,ay,aO ⟨by omega,by omega⟩]
      cases mB l[k].2.1 <;> rfl
   ·rfl
  cases hp:(!(rA m l[k]) && rC l[k])
  ·right
   refine⟨ak.L0.bq (),?_,fun kn kx=> ?_⟩
   ·simp only[ak.L0.add,ak.L0.F,Int.toNat_natCast,hd,hp,Bool.false_and,Bool.false_eq_true,if_false]
    rfl
   ·rw[step,hp,ay]
  ·left
   refine⟨(t,l,l.length,((k+1:Nat):Int),nU kp l[k].1 true m),⟨hb,rfl,k+1,by omega,rfl⟩,by simp only[Int.toNat_natCast];omega,?_,fun kn kx=> ?_⟩
   ·simp only[ak.L0.add,ak.L0.F,Int.toNat_natCast,hd,hp,Bool.true_and]
   ·rw[step,hp,az]
 ·right
  obtain rfl:k=l.length:=by omega
  refine⟨ak.L0.eP t,?_,fun kn kx=> ?_⟩
  ·simp only[ak.L0.add,ak.L0.F,Int.toNat_natCast,List.drop_length]
   rfl
  ·rw[ak.L0.step]
   simp(disch:=omega) only[↓S1,↓if_pos,↓if_neg,if_pos,if_neg,if_true,if_false,S2]
theorem ak.L1.ok:ak.L1.Ok:=by
 refine ak.L1.aH (fun(s,l,n,i)=>l.length - i.toNat) ?_
 rintro⟨s,l,n,i⟩ ⟨hl,hb,rfl,k,hk,rfl⟩
 have hb:l.length≤1000000000:=hb
 have hk:k≤l.length:=hk
 by_cases h:k < l.length
 ·have hx:Cx l[k].2.1:=hl _ (List.getElem_mem h)
  have n1:nth eR l k=l[k]:=cw (t:=eR) h
  have hd:mc s (l.drop k)=((oL s l[k].1 && iK l[k].2.1) && mc (s+l[k].1) (l.drop (k+1))):=by rw[List.drop_eq_getElem_cons h];rfl
  have step:∀ {R:Type} (kn:AS→Option R) (kx:Exit→AS→Option R),ak.L1.R (s,l,(l.length:Int),(k:Int)) kn kx=aJ (oL s l[k].1 && iK l[k].2.1) (kn (ak.L1.st (s+l[k].1,l,(l.length:Int),((k+1:Nat):Int)))) (kx (ak.L1.bq ()).1 (ak.L1.bq ()).2):=by
   intro R kn kx
   rw[ak.L1.step,bw (by omega),bn (by omega) (by omega),Int.toNat_natCast,n1,N.kA (by omega),eZ.run (d:=(s,l[k].1)) trivial,aM.run (d:=l[k].2.1) hx]
   simp only[az,ab,eZ.add,eZ.F,aM.add,aM.F]
   cases oL s l[k].1
   ·rfl
   ·cases iK l[k].2.1 <;> rfl
  cases hp:(oL s l[k].1 && iK l[k].2.1)
  ·right
   refine⟨ak.L1.bq (),?_,fun kn kx=> ?_⟩
   ·simp only[ak.L1.add,ak.L1.F,Int.toNat_natCast,hd,hp,Bool.false_and,Bool.false_eq_true,if_false]
    rfl
   ·rw[step,hp,ay]
  ·left
   refine⟨(s+l[k].1,l,l.length,((k+1:Nat):Int)),⟨hl,hb,rfl,k+1,by omega,rfl⟩,by simp only[Int.toNat_natCast];omega,?_,fun kn kx=> ?_⟩
   ·simp only[ak.L1.add,ak.L1.F,Int.toNat_natCast,hd,hp,Bool.true_and]
   ·rw[step,hp,az]
 ·right
  obtain rfl:k=l.length:=by omega
  refine⟨ak.L1.eP (),?_,fun kn kx=> ?_⟩
  ·simp only[ak.L1.add,ak.L1.F,Int.toNat_natCast,List.drop_length]
   rfl
  ·rw[ak.L1.step]
   simp(disch:=omega) only[↓S1,↓if_pos,↓if_neg,if_pos,if_neg,if_true,if_false,S2]
theorem ak.ok:ak.Ok:=by
 rintro⟨is,os,nt,u⟩ ⟨hl,h1,h2⟩
 have h1:is.length≤1000000000:=h1
 have h2:os.length≤1000000000:=h2
 rw[ak.eq,ak.L0.run (d:=((is,os,nt,u),is,is.length,0,[])) ⟨h1,rfl,0,by omega,rfl⟩]
 simp only[ab,ak.L0.add,ak.L0.F,Int.toNat_zero,List.drop_zero,ak.add,ak.F,fH,uQ]
 by_cases a1:is.length < 1
 ·rw[bw (by omega),az,aK (fun x=>by omega)];rfl
 rw[bm (by omega),ay]
 by_cases a2:64 < is.length
 ·rw[dQ (by omega),az,aK (fun x=>by omega)];rfl
 rw[dE (by omega),ay]
 by_cases a3:64 < os.length
 ·rw[dQ (by omega),az,aK (fun x=>by omega)];rfl
 rw[dE (by omega),ay]
 by_cases a4:nt < 0
 ·rw[bw (by omega),az,aK (fun x=>by omega)];rfl
 rw[bm (by omega),ay,aO ⟨by omega,by omega,by omega,by omega⟩]
 cases qE [] is
 ·rfl
 ·simp only[if_true,Bool.true_and]
  show aq (ak.L1.call (0,os,(os.length:Int),0)) _=_
  rw[ak.L1.run (d:=(0,os,os.length,0)) ⟨hl,h2,rfl,0,by omega,rfl⟩]
  simp only[ab,ak.L1.add,ak.L1.F,Int.toNat_zero,List.drop_zero]
  cases mc 0 os <;> rfl
noncomputable def ak.E:=Entry.ct [some gb] ak.st ak.aB ak.add ak.F ak.out
noncomputable def ak.call:ak.D→Option ak.X:=bG ak.E ak.st
theorem ak.run:bB ak.call ak.aB ak.add ak.F:=cO (cM [.d gb] fun _=>by kernel_rfl)
noncomputable def ak.sg:SG Tryz.prog:=⟨29,aU,ak.E,.fn 2 (by kernel_rfl) ak.ok (And.intro (.ct ak.L0.ok (by kernel_rfl)) (And.intro (.ct ak.L1.ok (by kernel_rfl)) trivial))⟩
end Go.Ab
