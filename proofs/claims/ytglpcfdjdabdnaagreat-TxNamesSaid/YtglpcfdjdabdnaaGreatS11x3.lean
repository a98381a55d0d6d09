/-
  Made short by a program of mine (wip/tools/mini.py).
-/
import Derived.Test.YtglpcfdjdabdnaaGreatS11x2
import Derived.Test.YtglpcfdjdabdnaaGreatProg
set_option linter.unusedVariables false
set_option linter.unusedSimpArgs false
namespace Go.Ab
open Go.Proofs
set_option maxRecDepth 100000
set_option linter.unusedVariables false
set_option linter.unusedSimpArgs false
set_option synthInstance.maxSize 5000
abbrev binary.D:=Bs
def binary.st:binary.D→SA:=fun b=>([.d tB b],[])
abbrev binary.Y:=Int
abbrev binary.X:=Int
def binary.out:binary.X→aZ:=fun x=>⟨.d (.int .u32) x,[],[]⟩
def binary.add:binary.D→binary.Y→binary.X:=fun b y=>y
def binary.aD:binary.D→Prop:=fun b=>4≤b.length
def binary.F:binary.D→binary.Y:=fun b=>vw (DT (b.getD 0 0) (b.getD 1 0) (b.getD 2 0) (b.getD 3 0))
noncomputable def binary.G:dV:=eY (P:=Tryz.prog) []
noncomputable def binary.an:eJ:= {}
noncomputable def binary.A:= @cK Tryz.prog binary.G binary.an 0 Tryz.f167 _ binary.st
abbrev binary.Ok:=cM @binary.A binary.aD binary.add binary.F binary.out
theorem binary.eq{R:Type}(b:Bs)(k:aZ→Option R):binary.A b k=
 aF (dS (0:Int) (((List.length b):Nat):Int)) (
 aF (dS (1:Int) (((List.length b):Nat):Int)) (
 aF (dS (2:Int) (((List.length b):Nat):Int)) (
 aF (dS (3:Int) (((List.length b):Nat):Int)) (
 k (binary.out (ct .or .u32 (ct .or .u32 (ct .or .u32 (gC .u32 (dJ .u32 (nth tb b 0)) (24:Int)) (gC .u32 (dJ .u32 (nth tb b 1)) (16:Int))) (gC .u32 (dJ .u32 (nth tb b 2)) (8:Int))) (dJ .u32 (nth tb b 3))))) none) none) none) none:=by kernel_rfl
theorem binary.ok:binary.Ok:=by
 intro b h
 have h:4≤b.length:=h
 rw[binary.eq,bh (by omega) (by omega),bh (by omega) (by omega),bh (by omega) (by omega),bh (by omega) (by omega)]
 simp only[ay,yP,po,il]
 rfl
noncomputable def binary.E:=Entry.cv [some tB] binary.st binary.aD binary.add binary.F binary.out
noncomputable def binary.call:binary.D→Option binary.X:=bJ binary.E binary.st
theorem binary.run:bE binary.call binary.aD binary.add binary.F:=cQ (cP [.d tB] fun _=>by kernel_rfl)
noncomputable def binary.sg:SG Tryz.prog:=⟨167,aW,binary.E,.fn 0 (by kernel_rfl) binary.ok trivial⟩
abbrev cD.D:=Int×Int
def cD.st:cD.D→SA:=fun(x,kv)=>([.d (.int .u32) x,.d ti kv],[])
abbrev cD.Y:=Int
abbrev cD.X:=Int
def cD.out:cD.X→aZ:=fun x=>⟨.d (.int .u32) x,[],[]⟩
def cD.add:cD.D→cD.Y→cD.X:=fun(x,kv) y=>y
def rl(w:W)(k:Nat):W:=w <<< k ||| w >>> (32 - k)
def cD.aD:cD.D→Prop:=fun(x,k)=>0≤x∧x < 4294967296
def cD.F:cD.D→cD.Y:=fun(x,k)=>vw (rl (BitVec.ofInt 32 x) (k%32).toNat)
noncomputable def cD.G:dV:=eY (P:=Tryz.prog) []
noncomputable def cD.an:eJ:= {}
noncomputable def cD.A:= @cK Tryz.prog cD.G cD.an 0 Tryz.f150 _ cD.st
abbrev cD.Ok:=cM @cD.A cD.aD cD.add cD.F cD.out
theorem cD.eq{R:Type}(x:Int)(kv:Int)(k:aZ→Option R):cD.A (x,kv) k=
 aF (gR (ct .and .u64 (dJ .u64 kv) (31:Int))) (
 aF (gR (bT .u64 (32:Int) (ct .and .u64 (dJ .u64 kv) (31:Int)))) (
 k (cD.out (ct .or .u32 (gC .u32 x (ct .and .u64 (dJ .u64 kv) (31:Int))) (bQ .u32 x (bT .u64 (32:Int) (ct .and .u64 (dJ .u64 kv) (31:Int))))))) none) none:=by kernel_rfl
theorem DS(k:Int):ct .and .u64 (dJ .u64 k) 31=k%32:=by
 have e:(31:Int)=vw (31:BitVec 64):=rfl
 rw[uN,e,zt]
 simp only
 have:(31:BitVec 64)=BitVec.ofNat 64 (2^5 - 1):=rfl
 unfold vw
 rw[BitVec.toNat_and,BitVec.toNat_ofInt,show(31:BitVec 64).toNat=2^5 - 1 from rfl,Nat.and_two_pow_sub_one_eq_mod]
 omega
theorem cD.ok:cD.Ok:=by
 rintro⟨x,k⟩ ⟨h1,h2⟩
 have e1:bT .u64 32 (k%32)=32 - k%32:=by
  unfold bT
  rw[wrap_u64,fN]
  omega
 have hx:x=vw (BitVec.ofInt 32 x):=by rw[fN];omega
 rw[cD.eq,DS,e1,ke (by omega),ke (by omega)]
 simp only[ay]
 have e2:ct .or .u32 (gC .u32 x (k%32)) (bQ .u32 x (32 - k%32))=vw (rl (BitVec.ofInt 32 x) (k%32).toNat):=by
  conv=>lhs;rw[hx]
  rw[po,nC,il]
  simp only[rl]
  congr 3
  omega
 rw[e2]
 rfl
noncomputable def cD.E:=Entry.cv [some (.int .u32),some ti] cD.st cD.aD cD.add cD.F cD.out
noncomputable def cD.call:cD.D→Option cD.X:=bJ cD.E cD.st
theorem cD.run:bE cD.call cD.aD cD.add cD.F:=cQ (cP [.d (.int .u32),.d ti] fun _=>by kernel_rfl)
noncomputable def cD.sg:SG Tryz.prog:=⟨150,aW,cD.E,.fn 0 (by kernel_rfl) cD.ok trivial⟩
theorem cD.at(w:W)(k:Int):cD.call (vw w,k)=some (vw (rl w (k%32).toNat)):=by
 have h:cD.aD (vw w,k):=⟨qC w,by have:=BR w;simpa using this⟩
 rw[cD.run h]
 show some (vw (rl (BitVec.ofInt 32 (vw w)) (k%32).toNat))=_
 rw[jw]
abbrev table.D:=Unit
def table.st:table.D→SA:=fun _=>([],[])
abbrev table.Y:=(List Int)
abbrev table.X:=(List Int)
def table.out:table.X→aZ:=fun x=>⟨.d (.arr 64 (.int .u32)) x,[],[]⟩
def table.add:table.D→table.Y→table.X:=fun _ y=>y
def table.aD:table.D→Prop:=fun _=>True
def table.F:table.D→table.Y:=fun _=>ql
noncomputable def table.G:dV:=eY (P:=Tryz.prog) []
noncomputable def table.an:eJ:= {}
noncomputable def table.A:= @cK Tryz.prog table.G table.an 0 Tryz.f149 _ table.st
abbrev table.Ok:=cM @table.A table.aD table.add table.F table.out
theorem table.eq{R:Type}(k:aZ→Option R):table.A () k=
 k (table.out [(1116352408:Int),(1899447441:Int),(3049323471:Int),(3921009573:Int),(961987163:Int),(1508970993:Int),(2453635748:Int),(2870763221:Int),(3624381080:Int),(310598401:Int),(607225278:Int),(1426881987:Int),(1925078388:Int),(2162078206:Int),(2614888103:Int),(3248222580:Int),(3835390401:Int),(4022224774:Int),(264347078:Int),(604807628:Int),(770255983:Int),(1249150122:Int),(1555081692:Int),(1996064986:Int),(2554220882:Int),(2821834349:Int),(2952996808:Int),(3210313671:Int),(3336571891:Int),(3584528711:Int),(113926993:Int),(338241895:Int),(666307205:Int),(773529912:Int),(1294757372:Int),(1396182291:Int),(1695183700:Int),(1986661051:Int),(2177026350:Int),(2456956037:Int),(2730485921:Int),(2820302411:Int),(3259730800:Int),(3345764771:Int),(3516065817:Int),(3600352804:Int),(4094571909:Int),(275423344:Int),(430227734:Int),(506948616:Int),(659060556:Int),(883997877:Int),(958139571:Int),(1322822218:Int),(1537002063:Int),(1747873779:Int),(1955562222:Int),(2024104815:Int),(2227730452:Int),(2361852424:Int),(2428436474:Int),(2756734187:Int),(3204031479:Int),(3329325298:Int)]):=by kernel_rfl
theorem table.ok:table.Ok:=by
 intro d _
 rw[table.eq]
 rfl
noncomputable def table.E:=Entry.cv [] table.st table.aD table.add table.F table.out
noncomputable def table.call:table.D→Option table.X:=bJ table.E table.st
theorem table.run:bE table.call table.aD table.add table.F:=cQ (cP [] fun _=>by kernel_rfl)
noncomputable def table.sg:SG Tryz.prog:=⟨149,aW,table.E,.fn 0 (by kernel_rfl) table.ok trivial⟩
abbrev first.D:=Unit
def first.st:first.D→SA:=fun _=>([],[])
abbrev first.Y:=(List Int)
abbrev first.X:=(List Int)
def first.out:first.X→aZ:=fun x=>⟨.d (.arr 8 (.int .u32)) x,[],[]⟩
def first.add:first.D→first.Y→first.X:=fun _ y=>y
def first.aD:first.D→Prop:=fun _=>True
def first.F:first.D→first.Y:=fun _=>iR.l
noncomputable def first.G:dV:=eY (P:=Tryz.prog) []
noncomputable def first.an:eJ:= {}
noncomputable def first.A:= @cK Tryz.prog first.G first.an 0 Tryz.f110 _ first.st
abbrev first.Ok:=cM @first.A first.aD first.add first.F first.out
theorem first.eq{R:Type}(k:aZ→Option R):first.A () k=
 k (first.out [(1779033703:Int),(3144134277:Int),(1013904242:Int),(2773480762:Int),(1359893119:Int),(2600822924:Int),(528734635:Int),(1541459225:Int)]):=by kernel_rfl
theorem first.ok:first.Ok:=by
 intro d _
 rw[first.eq]
 rfl
noncomputable def first.E:=Entry.cv [] first.st first.aD first.add first.F first.out
noncomputable def first.call:first.D→Option first.X:=bJ first.E first.st
theorem first.run:bE first.call first.aD first.add first.F:=cQ (cP [] fun _=>by kernel_rfl)
noncomputable def first.sg:SG Tryz.prog:=⟨110,aW,first.E,.fn 0 (by kernel_rfl) first.ok trivial⟩
set_option synthInstance.maxSize 5000
abbrev schedule.L0.D:=Bs×Int×(List Int)
def schedule.L0.st:schedule.L0.D→AS:=fun(b_2,t8,n2)=>⟨([.d tB b_2,.undef,.ptr (.new 2 0) 0 [] 0]++ba 5 ([.d ti t8]++ba 52 [])),[],([[],[],[.obj 0 false (.d (.arr 64 (.int .u32)) n2)]]++bK 58 [])⟩
abbrev schedule.L0.Y0:=(List Int)
abbrev schedule.L0.X0:=(List Int)
def schedule.L0.bw:schedule.L0.X0→Exit×AS:=fun x=>(.exit 0,⟨([.undef,.undef,.ptr (.new 2 0) 0 [] 0]++ba 58 []),[],([[],[],[.obj 0 false (.d (.arr 64 (.int .u32)) x)]]++bK 58 [])⟩)
abbrev schedule.L0.X:=schedule.L0.X0
abbrev schedule.L0.Y:=schedule.L0.Y0
def schedule.L0.out:schedule.L0.X→Out (Exit×AS):=fun x=> .ok (schedule.L0.bw x)
def schedule.L0.add:schedule.L0.D→schedule.L0.Y→schedule.L0.X:=fun(b_2,t8,n2) y=>y
abbrev schedule.D:=Bs
def schedule.st:schedule.D→SA:=fun b=>([.d tB b],[])
abbrev schedule.Y:=(List Int)
abbrev schedule.X:=(List Int)
def schedule.out:schedule.X→aZ:=fun x=>⟨.d (.arr 64 (.int .u32)) x,[],[]⟩
def schedule.add:schedule.D→schedule.Y→schedule.X:=fun b y=>y
def wl(l:List W):List Int:=l.map vw
def ng(l:List W):List Int:=wl l++List.replicate (64 - l.length) 0
def mO(b:List Int)(k:Nat):List W:=if k≤16 then(words b).take k else B0 (words b) (k - 16)
def schedule.L0.aD:schedule.L0.D→Prop:=fun(b,t8,n2)=>64≤b.length∧∃k:Nat,k≤64∧t8=k∧n2=ng (mO b k)
def schedule.L0.F:schedule.L0.D→schedule.L0.Y:=fun(b,t8,n2)=>wl (sched b)
def schedule.aD:schedule.D→Prop:=fun b=>64≤b.length
def schedule.F:schedule.D→schedule.Y:=fun b=>wl (sched b)
noncomputable def schedule.G:dV:=eY (P:=Tryz.prog) [binary.sg,cD.sg]
noncomputable def schedule.L0.E:=bP.cv schedule.L0.st schedule.L0.aD schedule.L0.add schedule.L0.F schedule.L0.out
noncomputable def schedule.L0.call:schedule.L0.D→Option schedule.L0.X:=dk schedule.L0.E schedule.L0.st
noncomputable def schedule.an:eJ:= {loops:=jJ [(2,{bn:=[0,2,8],sites:=[2]})],outs:=jI [(2,{bn:=[2],sites:=[2]},{bn:=[2]})],fJ:=kz [(2,schedule.L0.E)]}
noncomputable def schedule.A:= @cK Tryz.prog schedule.G schedule.an 0 Tryz.f148 _ schedule.st
abbrev schedule.Ok:=cM @schedule.A schedule.aD schedule.add schedule.F schedule.out
noncomputable def schedule.L0.R:= @bV Tryz.prog schedule.G schedule.an 0 Tryz.f148 0 _ schedule.L0.st
abbrev schedule.L0.Ok:=eA Tryz.prog schedule.G schedule.an 0 Tryz.f148 0 schedule.L0.st schedule.L0.aD schedule.L0.add schedule.L0.F schedule.L0.out
theorem schedule.L0.run:bE schedule.L0.call schedule.L0.aD schedule.L0.add schedule.L0.F:=eK (eI [.d tB,.d ti,.d (.slice (.int .u32))] fun _=>by kernel_rfl)
theorem schedule.L0.aG:fX @schedule.L0.R schedule.L0.st schedule.L0.aD schedule.L0.add schedule.L0.F schedule.L0.bw schedule.L0.Ok:=gf
theorem schedule.L0.step{R:Type}(b_2:Bs)(t8:Int)(n2:(List Int))(kn:AS→Option R)(kx:Exit→AS→Option R):schedule.L0.R (b_2,t8,n2) kn kx=
  aF ((gb t8 (64:Int))) (
   aF ((gb t8 (16:Int))) (
    aF (inc (eW .i64 (4:Int) t8) (((List.length b_2):Nat):Int)) (
    ae (binary.call (cut b_2 (Int.toNat (eW .i64 (4:Int) t8)) ((List.length b_2) - (Int.toNat (eW .i64 (4:Int) t8))))) fun x1=>
    aF (dS t8 (64:Int)) (
    aF (decide ((Int.toNat t8) < (List.length n2))) (
    aF (decide ((((Int.toNat t8)*1)+0)=(0+((Int.toNat t8)*1)))) (
    aF (decide ((Int.toNat t8) < (List.length n2))) (
    kn (schedule.L0.st (b_2,(bO .i64 t8 (1:Int)),(List.set n2 (Int.toNat t8) x1)))) none) none) none) none) none) (
    aF (dS (bT .i64 t8 (15:Int)) (64:Int)) (
    aF (decide ((Int.toNat (bT .i64 t8 (15:Int))) < (List.length n2))) (
    aF (decide ((((Int.toNat (bT .i64 t8 (15:Int)))*1)+0)=(0+((Int.toNat (bT .i64 t8 (15:Int)))*1)))) (
    aF (dS (bT .i64 t8 (2:Int)) (64:Int)) (
    aF (decide ((Int.toNat (bT .i64 t8 (2:Int))) < (List.length n2))) (
    aF (decide ((((Int.toNat (bT .i64 t8 (2:Int)))*1)+0)=(0+((Int.toNat (bT .i64 t8 (2:Int)))*1)))) (
    ae (cD.call ((nth (.int .u32) n2 (Int.toNat (bT .i64 t8 (15:Int)))),(-7:Int))) fun x2=>
    ae (cD.call ((nth (.int .u32) n2 (Int.toNat (bT .i64 t8 (15:Int)))),(-18:Int))) fun x3=>
    ae (cD.call ((nth (.int .u32) n2 (Int.toNat (bT .i64 t8 (2:Int)))),(-17:Int))) fun x4=>
    ae (cD.call ((nth (.int .u32) n2 (Int.toNat (bT .i64 t8 (2:Int)))),(-19:Int))) fun x5=>
    aF (dS (bT .i64 t8 (16:Int)) (64:Int)) (
    aF (decide ((Int.toNat (bT .i64 t8 (16:Int))) < (List.length n2))) (
    aF (decide ((((Int.toNat (bT .i64 t8 (16:Int)))*1)+0)=(0+((Int.toNat (bT .i64 t8 (16:Int)))*1)))) (
    aF (dS (bT .i64 t8 (7:Int)) (64:Int)) (
    aF (decide ((Int.toNat (bT .i64 t8 (7:Int))) < (List.length n2))) (
    aF (decide ((((Int.toNat (bT .i64 t8 (7:Int)))*1)+0)=(0+((Int.toNat (bT .i64 t8 (7:Int)))*1)))) (
    aF (dS t8 (64:Int)) (
    aF (decide ((Int.toNat t8) < (List.length n2))) (
    aF (decide ((((Int.toNat t8)*1)+0)=(0+((Int.toNat t8)*1)))) (
    aF (decide ((Int.toNat t8) < (List.length n2))) (
    kn (schedule.L0.st (b_2,(bO .i64 t8 (1:Int)),(List.set n2 (Int.toNat t8) (bO .u32 (bO .u32 (bO .u32 (nth (.int .u32) n2 (Int.toNat (bT .i64 t8 (16:Int)))) (ct .xor .u32 (ct .xor .u32 x2 x3) (bQ .u32 (nth (.int .u32) n2 (Int.toNat (bT .i64 t8 (15:Int)))) (3:Int)))) (nth (.int .u32) n2 (Int.toNat (bT .i64 t8 (7:Int))))) (ct .xor .u32 (ct .xor .u32 x4 x5) (bQ .u32 (nth (.int .u32) n2 (Int.toNat (bT .i64 t8 (2:Int)))) (10:Int)))))))) none) none) none) none) none) none) none) none) none) none) none) none) none) none) none) none)) (
   kx (schedule.L0.bw n2).1 (schedule.L0.bw n2).2):=by kernel_rfl
theorem schedule.eq{R:Type}(b:Bs)(k:aZ→Option R):schedule.A b k=
 ae (schedule.L0.call (b,(0:Int),(List.replicate 64 (0:Int)))) fun x6=>
 k (schedule.out x6):=by kernel_rfl
theorem xq(b:List Int)(k:Nat)(h:k≤64):(mO b k).length=k:=by
 unfold mO
 split
 ·simp[eo];omega
 ·rw[ln,eo];omega
theorem CF(b:List Int):mO b 64=sched b:=rfl
theorem Ar(b:List Int)(k:Nat)(h:k < 16):mO b (k+1)=mO b k++ [be b k]:=by
 unfold mO
 rw[if_pos (by omega),if_pos (by omega),List.take_succ_eq_append_getElem (by rw[eo];exact h)]
 simp[words]
theorem BV(b:List Int)(k:Nat)(h:16≤k):mO b (k+1)=ext (mO b k):=by
 unfold mO
 rw[if_neg (by omega)]
 by_cases h16:k=16
 ·subst h16
  rw[if_pos (by omega),List.take_of_length_le (by rw[eo];omega)]
  rfl
 ·rw[if_neg (by omega),show k+1 - 16=(k - 16)+1 by omega]
  rfl
theorem uw(l:List W)(h:l.length≤64):(ng l).length=64:=by simp[ng,wl];omega
theorem nU(l:List W)(i:Nat)(h:i < l.length):nth (.int .u32) (ng l) i=vw (l.getD i 0):=by
 unfold nth ng wl
 rw[List.getD_eq_getElem?_getD,List.getElem?_append_left (by simpa using h)]
 simp[h]
theorem tr(l:List W)(w:W)(h:l.length < 64):(ng l).set l.length (vw w)=ng (l++ [w]):=by
 unfold ng wl
 rw[List.set_append_right _ _ (by simp)]
 simp only[List.length_map,Nat.sub_self,List.map_append,List.length_append,List.length_cons,List.length_nil]
 rw[show 64 - l.length=(64 - (l.length+(0+1)))+1 by omega,List.replicate_succ,List.set_cons_zero]
 simp
theorem xz(l:List W)(h:l.length=64):ng l=wl l:=by simp[ng,h]
theorem C5(b:List Int)(k:Nat)(h:4*k+4≤b.length):DT ((cut b (4*k) (b.length - 4*k)).getD 0 0) ((cut b (4*k) (b.length - 4*k)).getD 1 0) ((cut b (4*k) (b.length - 4*k)).getD 2 0) ((cut b (4*k) (b.length - 4*k)).getD 3 0)=be b k:=by
 have e:∀j,j < 4→(cut b (4*k) (b.length - 4*k)).getD j 0=b.getD (4*k+j) 0:=fun j hj=>by
  unfold cut
  rw[List.getD_eq_getElem?_getD,List.getD_eq_getElem?_getD,List.getElem?_take_of_lt (by omega),List.getElem?_drop]
 unfold be
 rw[e 0 (by omega),e 1 (by omega),e 2 (by omega),e 3 (by omega),Nat.add_zero]
theorem schedule.L0.ok:schedule.L0.Ok:=by
 refine schedule.L0.aG (fun(b,t8,n2)=>64 - t8.toNat) ?_
 rintro⟨b,t8,n2⟩ ⟨hb,k,hk,rfl,rfl⟩
 have hwl:=xq b k hk
 have hal:=uw (mO b k) (by omega)
 by_cases h:k < 64
 ·left
  refine⟨(b,((k+1:Nat):Int),ng (mO b (k+1))),⟨hb,k+1,by omega,rfl,rfl⟩,by simp;omega,rfl,fun kn kx=> ?_⟩
  have e1:bO .i64 (k:Int) 1=((k+1:Nat):Int):=by rw[fS (by omega) (by omega)];omega
  have e2:Int.toNat (k:Int)=k:=by omega
  rw[schedule.L0.step,bA (by omega)]
  simp only[ay,e1,e2,hal,Nat.mul_one,Nat.zero_add,Nat.add_zero,decide_true]
  by_cases h16:k < 16
  ·have e3:eW .i64 4 (k:Int)=((4*k:Nat):Int):=by rw[pk (by omega) (by omega)];omega
   have e4:Int.toNat ((4*k:Nat):Int)=4*k:=by omega
   rw[bA (by omega),e3,kV (by omega) (by omega),e4,bh (by omega) (by omega),aR h]
   have hp:binary.aD (cut b (4*k) (b.length - 4*k)):=by
    show 4≤_
    rw[mn (by omega)];omega
   simp only[ay,binary.run hp,aa]
   have e5:binary.add (cut b (4*k) (b.length - 4*k)) (binary.F (cut b (4*k) (b.length - 4*k)))=vw (be b k):=by
    show vw (DT _ _ _ _)=_
    rw[C5 b k (by omega)]
   have e6:=tr (mO b k) (be b k) (by omega)
   rw[hwl]at e6
   rw[e5,e6,Ar b k h16]
  ·have a15:Int.toNat (bT .i64 (k:Int) 15)=k - 15:=by rw[fb (by omega) (by omega)];omega
   have a2:Int.toNat (bT .i64 (k:Int) 2)=k - 2:=by rw[fb (by omega) (by omega)];omega
   have a16:Int.toNat (bT .i64 (k:Int) 16)=k - 16:=by rw[fb (by omega) (by omega)];omega
   have a7:Int.toNat (bT .i64 (k:Int) 7)=k - 7:=by rw[fb (by omega) (by omega)];omega
   have i15:dS (bT .i64 (k:Int) 15) 64=true:=bh (by rw[fb (by omega) (by omega)];omega) (by rw[fb (by omega) (by omega)];omega)
   have i2:dS (bT .i64 (k:Int) 2) 64=true:=bh (by rw[fb (by omega) (by omega)];omega) (by rw[fb (by omega) (by omega)];omega)
   have i16:dS (bT .i64 (k:Int) 16) 64=true:=bh (by rw[fb (by omega) (by omega)];omega) (by rw[fb (by omega) (by omega)];omega)
   have i7:dS (bT .i64 (k:Int) 7) 64=true:=bh (by rw[fb (by omega) (by omega)];omega) (by rw[fb (by omega) (by omega)];omega)
   have i0:dS (k:Int) 64=true:=bh (by omega) (by omega)
   have d15:decide (k - 15 < 64)=true:=aR (by omega)
   have d2:decide (k - 2 < 64)=true:=aR (by omega)
   have d16:decide (k - 16 < 64)=true:=aR (by omega)
   have d7:decide (k - 7 < 64)=true:=aR (by omega)
   have d0:decide (k < 64)=true:=aR h
   rw[bm (by omega)]
   simp only[ay,ao,a15,a2,a16,a7,i15,i2,i16,i7,i0,d15,d2,d16,d7,d0,nU (mO b k) (k - 15) (by omega),nU (mO b k) (k - 2) (by omega),nU (mO b k) (k - 16) (by omega),nU (mO b k) (k - 7) (by omega),cD.at,aa,il,nC,l5]
   have e6:=tr (mO b k) (CS (mO b k) k) (by omega)
   rw[hwl]at e6
   rw[BV b k (by omega),ext,hwl,←e6]
   rfl
 ·right
  obtain rfl:k=64:=by omega
  intro R kn kx
  rw[schedule.L0.step,bm (by omega),xz _ hwl,CF]
  simp only[ao,schedule.L0.add,schedule.L0.F]
theorem schedule.ok:schedule.Ok:=by
 intro b hb
 have hp:schedule.L0.aD (b,0,List.replicate 64 0):=⟨hb,0,by omega,rfl,rfl⟩
 rw[schedule.eq,schedule.L0.run hp]
 simp only[aa,schedule.L0.add,schedule.L0.F,schedule.add,schedule.F]
noncomputable def schedule.E:=Entry.cv [some tB] schedule.st schedule.aD schedule.add schedule.F schedule.out
noncomputable def schedule.call:schedule.D→Option schedule.X:=bJ schedule.E schedule.st
theorem schedule.run:bE schedule.call schedule.aD schedule.add schedule.F:=cQ (cP [.d tB] fun _=>by kernel_rfl)
noncomputable def schedule.sg:SG Tryz.prog:=⟨148,aW,schedule.E,.fn 1 (by kernel_rfl) schedule.ok (And.intro (.cv schedule.L0.ok (by kernel_rfl)) trivial)⟩
set_option synthInstance.maxSize 5000
abbrev mix.L0.D:=(List Int)×Int×(List Int)×(List Int)×(List Int)×(List Int)
def mix.L0.st:mix.L0.D→AS:=fun(h_2,t18,n4,n5,n6,n7)=>⟨([.undef,.undef,.ej (.arr 8 (.int .u32)) h_2,.undef,.ptr (.new 4 0) 0 [] 0,.ptr (.new 5 0) 0 [] 0,.ptr (.new 6 0) 0 [] 0,.ptr (.new 7 0) 0 [] 0]++ba 10 ([.d ti t18]++ba 98 [])),[],(bK 4 ([[.obj 0 false (.d (.arr 8 (.int .u32)) n4)],[.obj 0 false (.d (.arr 64 (.int .u32)) n5)],[.obj 0 false (.d (.arr 64 (.int .u32)) n6)],[.obj 0 false (.d (.arr 8 (.int .u32)) n7)]]++bK 109 []))⟩
abbrev mix.L0.Y0:=(List Int)
abbrev mix.L0.X0:=((List Int)×(List Int))×((List Int))
def mix.L0.bw:mix.L0.X0→Exit×AS:=fun x=>(.exit 0,⟨([.undef,.undef,.ej (.arr 8 (.int .u32)) x.1.1,.undef,.ptr (.new 4 0) 0 [] 0,.undef,.undef,.ptr (.new 7 0) 0 [] 0]++ba 109 []),[],(bK 4 ([[.obj 0 false (.d (.arr 8 (.int .u32)) x.1.2)],[],[],[.obj 0 false (.d (.arr 8 (.int .u32)) x.2)]]++bK 109 []))⟩)
abbrev mix.L0.X:=mix.L0.X0
abbrev mix.L0.Y:=mix.L0.Y0
def mix.L0.out:mix.L0.X→Out (Exit×AS):=fun x=> .ok (mix.L0.bw x)
def mix.L0.add:mix.L0.D→mix.L0.Y→mix.L0.X:=fun(h_2,t18,n4,n5,n6,n7) y=>((h_2,n4),y)
abbrev mix.L1.D:=(List Int)×Int×(List Int)×(List Int)
def mix.L1.st:mix.L1.D→AS:=fun(h_3,t104,n4_2,n7_2)=>⟨([.undef,.undef,.ej (.arr 8 (.int .u32)) h_3,.undef,.ptr (.new 4 0) 0 [] 0,.undef,.undef,.ptr (.new 7 0) 0 [] 0]++ba 96 ([.d ti t104]++ba 12 [])),[],(bK 4 ([[.obj 0 false (.d (.arr 8 (.int .u32)) n4_2)],[],[],[.obj 0 false (.d (.arr 8 (.int .u32)) n7_2)]]++bK 109 []))⟩
abbrev mix.L1.Y0:=(List Int)
abbrev mix.L1.X0:=((List Int))×((List Int))
def mix.L1.bw:mix.L1.X0→Exit×AS:=fun x=>(.exit 2,⟨(ba 4 ([.ptr (.new 4 0) 0 [] 0,.undef,.undef,.ptr (.new 7 0) 0 [] 0]++ba 109 [])),[],(bK 4 ([[.obj 0 false (.d (.arr 8 (.int .u32)) x.1)],[],[],[.obj 0 false (.d (.arr 8 (.int .u32)) x.2)]]++bK 109 []))⟩)
abbrev mix.L1.X:=mix.L1.X0
abbrev mix.L1.Y:=mix.L1.Y0
def mix.L1.out:mix.L1.X→Out (Exit×AS):=fun x=> .ok (mix.L1.bw x)
def mix.L1.add:mix.L1.D→mix.L1.Y→mix.L1.X:=fun(h_3,t104,n4_2,n7_2) y=>(n4_2,y)
abbrev mix.D:=(List Int)×Bs
def mix.st:mix.D→SA:=fun(h,b)=>([.d (.arr 8 (.int .u32)) h,.d tB b],[])
abbrev mix.Y:=(List Int)
abbrev mix.X:=(List Int)
def mix.out:mix.X→aZ:=fun x=>⟨.d (.arr 8 (.int .u32)) x,[],[]⟩
def mix.add:mix.D→mix.Y→mix.X:=fun(h,b) y=>y
def vk(l:List Int):St:=⟨BitVec.ofInt 32 (l.getD 0 0),BitVec.ofInt 32 (l.getD 1 0),BitVec.ofInt 32 (l.getD 2 0),BitVec.ofInt 32 (l.getD 3 0),BitVec.ofInt 32 (l.getD 4 0),BitVec.ofInt 32 (l.getD 5 0),BitVec.ofInt 32 (l.getD 6 0),BitVec.ofInt 32 (l.getD 7 0)⟩
theorem g7(s:St):vk s.l=s:=by
 obtain⟨a,b,c,d,e,f,g,h⟩:=s
 simp[vk,St.l,jw]
def BP(l:List Int):List W:=l.map (BitVec.ofInt 32)
theorem mL(l:List W):BP (wl l)=l:=by
 unfold BP wl
 rw[List.map_map]
 have:(BitVec.ofInt 32∘vw)=(id:W→W):=by funext w;exact jw w
 rw[this,List.map_id]
def mix.L0.aD:mix.L0.D→Prop:=fun(h,t,n4,n5,n6,n7)=>∃(s:St) (ws:List W) (k:Nat),h=s.l∧n5=wl ws∧ws.length=64∧k≤64∧t=k∧n6=ql∧n7=(rounds ws s k).l
def mix.L0.F:mix.L0.D→mix.L0.Y:=fun(h,t,n4,n5,n6,n7)=>(rounds (BP n5) (vk h) 64).l
def mix.L1.aD:mix.L1.D→Prop:=fun(h,t,n4,n7)=>n7.length=8∧∃k:Nat,k≤8∧t=k
def mix.L1.F:mix.L1.D→mix.L1.Y:=fun(h,t,n4,n7)=>from_ (fun i x=>bO .u32 x (nth (.int .u32) h i)) t.toNat n7
def mix.aD:mix.D→Prop:=fun(h,b)=>(∃s:St,h=s.l)∧64≤b.length
def mix.F:mix.D→mix.Y:=fun(h,b)=>(qo (vk h) b).l
noncomputable def mix.G:dV:=eY (P:=Tryz.prog) [schedule.sg,table.sg,cD.sg]
noncomputable def mix.L0.E:=bP.cv mix.L0.st mix.L0.aD mix.L0.add mix.L0.F mix.L0.out
noncomputable def mix.L0.call:mix.L0.D→Option mix.L0.X:=dk mix.L0.E mix.L0.st
noncomputable def mix.L1.E:=bP.cv mix.L1.st mix.L1.aD mix.L1.add mix.L1.F mix.L1.out
noncomputable def mix.L1.call:mix.L1.D→Option mix.L1.X:=dk mix.L1.E mix.L1.st
noncomputable def mix.an:eJ:= {loops:=jJ [(4,{bn:=[2,4,5,6,7,18],sites:=[4,5,6,7]}),(13,{bn:=[2,4,7,104],sites:=[4,7]})],outs:=jI [(4,{bn:=[2,4,7],sites:=[4,7]},{bn:=[4]}),(13,{bn:=[4,7],sites:=[4,7]},{bn:=[4]})],fJ:=kz [(4,mix.L0.E),(13,mix.L1.E)]}
noncomputable def mix.A:= @cK Tryz.prog mix.G mix.an 0 Tryz.f111 _ mix.st
abbrev mix.Ok:=cM @mix.A mix.aD mix.add mix.F mix.out
noncomputable def mix.L0.R:= @bV Tryz.prog mix.G mix.an 0 Tryz.f111 0 _ mix.L0.st
abbrev mix.L0.Ok:=eA Tryz.prog mix.G mix.an 0 Tryz.f111 0 mix.L0.st mix.L0.aD mix.L0.add mix.L0.F mix.L0.out
noncomputable def mix.L1.R:= @bV Tryz.prog mix.G mix.an 0 Tryz.f111 1 _ mix.L1.st
abbrev mix.L1.Ok:=eA Tryz.prog mix.G mix.an 0 Tryz.f111 1 mix.L1.st mix.L1.aD mix.L1.add mix.L1.F mix.L1.out
theorem mix.L0.run:bE mix.L0.call mix.L0.aD mix.L0.add mix.L0.F:=eK (eI [.d (.arr 8 (.int .u32)),.d ti,.d (.slice (.int .u32)),.d (.slice (.int .u32)),.d (.slice (.int .u32)),.d (.slice (.int .u32))] fun _=>by kernel_rfl)
theorem mix.L0.aG:fX @mix.L0.R mix.L0.st mix.L0.aD mix.L0.add mix.L0.F mix.L0.bw mix.L0.Ok:=gf
theorem mix.L0.step{R:Type}(h_2:(List Int))(t18:Int)(n4:(List Int))(n5:(List Int))(n6:(List Int))(n7:(List Int))(kn:AS→Option R)(kx:Exit→AS→Option R):mix.L0.R (h_2,t18,n4,n5,n6,n7) kn kx=
  aF ((gb t18 (64:Int))) (
   aF (decide (4 < (List.length n7))) (
   ae (cD.call ((nth (.int .u32) n7 4),(-6:Int))) fun x1=>
   aF (decide (4 < (List.length n7))) (
   ae (cD.call ((nth (.int .u32) n7 4),(-11:Int))) fun x2=>
   aF (decide (4 < (List.length n7))) (
   ae (cD.call ((nth (.int .u32) n7 4),(-25:Int))) fun x3=>
   aF (decide (7 < (List.length n7))) (
   aF (decide (6 < (List.length n7))) (
   aF (decide (4 < (List.length n7))) (
   aF (decide (5 < (List.length n7))) (
   aF (decide (6 < (List.length n7))) (
   aF (dS t18 (64:Int)) (
   aF (decide ((Int.toNat t18) < (List.length n6))) (
   aF (decide ((((Int.toNat t18)*1)+0)=(0+((Int.toNat t18)*1)))) (
   aF (dS t18 (64:Int)) (
   aF (decide ((Int.toNat t18) < (List.length n5))) (
   aF (decide ((((Int.toNat t18)*1)+0)=(0+((Int.toNat t18)*1)))) (
   aF (decide (0 < (List.length n7))) (
   ae (cD.call ((nth (.int .u32) n7 0),(-2:Int))) fun x4=>
   aF (decide (0 < (List.length n7))) (
   ae (cD.call ((nth (.int .u32) n7 0),(-13:Int))) fun x5=>
   aF (decide (0 < (List.length n7))) (
   ae (cD.call ((nth (.int .u32) n7 0),(-22:Int))) fun x6=>
   aF (decide (0 < (List.length n7))) (
   aF (decide (1 < (List.length n7))) (
   aF (decide (2 < (List.length n7))) (
   aF (decide (0 < (List.length n7))) (
   aF (decide (1 < (List.length n7))) (
   aF (decide (0 < (List.length n7))) (
   aF (decide (1 < (List.length n7))) (
   aF (decide (2 < (List.length n7))) (
   aF (decide (3 < (List.length n7))) (
   aF (decide (4 < (List.length n7))) (
   aF (decide (5 < (List.length n7))) (
   aF (decide (6 < (List.length n7))) (
   kn (mix.L0.st (h_2,(bO .i64 t18 (1:Int)),n4,n5,n6,[(bO .u32 (bO .u32 (bO .u32 (bO .u32 (bO .u32 (bO .u32 (nth (.int .u32) n7 7) (ct .xor .u32 (ct .xor .u32 x1 x2) x3)) (ct .xor .u32 (nth (.int .u32) n7 6) (ct .and .u32 (nth (.int .u32) n7 4) (ct .xor .u32 (nth (.int .u32) n7 5) (nth (.int .u32) n7 6))))) (nth (.int .u32) n6 (Int.toNat t18))) (nth (.int .u32) n5 (Int.toNat t18))) (ct .xor .u32 (ct .xor .u32 x4 x5) x6)) (ct .or .u32 (ct .and .u32 (nth (.int .u32) n7 0) (nth (.int .u32) n7 1)) (ct .and .u32 (nth (.int .u32) n7 2) (ct .or .u32 (nth (.int .u32) n7 0) (nth (.int .u32) n7 1))))),(nth (.int .u32) n7 0),(nth (.int .u32) n7 1),(nth (.int .u32) n7 2),(bO .u32 (nth (.int .u32) n7 3) (bO .u32 (bO .u32 (bO .u32 (bO .u32 (nth (.int .u32) n7 7) (ct .xor .u32 (ct .xor .u32 x1 x2) x3)) (ct .xor .u32 (nth (.int .u32) n7 6) (ct .and .u32 (nth (.int .u32) n7 4) (ct .xor .u32 (nth (.int .u32) n7 5) (nth (.int .u32) n7 6))))) (nth (.int .u32) n6 (Int.toNat t18))) (nth (.int .u32) n5 (Int.toNat t18)))),(nth (.int .u32) n7 4),(nth (.int .u32) n7 5),(nth (.int .u32) n7 6)]))) none) none) none) none) none) none) none) none) none) none) none) none) none) none) none) none) none) none) none) none) none) none) none) none) none) none) none) none) none) (
   kx (mix.L0.bw ((h_2,n4),n7)).1 (mix.L0.bw ((h_2,n4),n7)).2):=by kernel_rfl
theorem mix.L1.run:bE mix.L1.call mix.L1.aD mix.L1.add mix.L1.F:=eK (eI [.d (.arr 8 (.int .u32)),.d ti,.d (.slice (.int .u32)),.d (.slice (.int .u32))] fun _=>by kernel_rfl)
theorem mix.L1.aG:fX @mix.L1.R mix.L1.st mix.L1.aD mix.L1.add mix.L1.F mix.L1.bw mix.L1.Ok:=gf
theorem mix.L1.step{R:Type}(h_3:(List Int))(t104:Int)(n4_2:(List Int))(n7_2:(List Int))(kn:AS→Option R)(kx:Exit→AS→Option R):mix.L1.R (h_3,t104,n4_2,n7_2) kn kx=
  aF ((gb t104 (8:Int))) (
   aF (dS t104 (8:Int)) (
   aF (decide ((Int.toNat t104) < (List.length n7_2))) (
   aF (decide ((((Int.toNat t104)*1)+0)=(0+((Int.toNat t104)*1)))) (
   aF (dS t104 (8:Int)) (
   aF (dS t104 (8:Int)) (
   aF (decide ((Int.toNat t104) < (List.length n7_2))) (
   aF (decide ((((Int.toNat t104)*1)+0)=(0+((Int.toNat t104)*1)))) (
   aF (decide ((Int.toNat t104) < (List.length n7_2))) (
   kn (mix.L1.st (h_3,(bO .i64 t104 (1:Int)),n4_2,(List.set n7_2 (Int.toNat t104) (bO .u32 (nth (.int .u32) n7_2 (Int.toNat t104)) (nth (.int .u32) h_3 (Int.toNat t104))))))) none) none) none) none) none) none) none) none) (
   kx (mix.L1.bw (n4_2,n7_2)).1 (mix.L1.bw (n4_2,n7_2)).2):=by kernel_rfl
theorem mix.eq{R:Type}(h:(List Int))(b:Bs)(k:aZ→Option R):mix.A (h,b) k=
 ae (schedule.call b) fun x1=>
 ae (table.call ()) fun x2=>
 ae (mix.L0.call (h,(0:Int),(List.replicate 8 (0:Int)),x1,x2,h)) fun x9=>
 ae (mix.L1.call (x9.1.1,(0:Int),x9.1.2,x9.2)) fun x10=>
 k (mix.out x10.2):=by kernel_rfl
theorem St.wi(s:St):s.l.length=8:=rfl
theorem qJ:ql.length=64:=rfl
theorem wh(k:Nat)(h:k < 64):nth (.int .u32) ql k=vw (kw k):=by
 have hh:∀k:Fin 64,nth (.int .u32) ql k.val=vw (kw k.val):=by decide+kernel
 exact hh ⟨k,h⟩
theorem qE(ws:List W)(k:Nat)(h:k < ws.length):nth (.int .u32) (wl ws) k=vw (ws.getD k 0):=by
 unfold nth wl
 simp[h]
theorem Fk(w:W):rl w ((-6:Int)%32).toNat=jN w 6:=rfl
theorem EV(w:W):rl w ((-11:Int)%32).toNat=jN w 11:=rfl
theorem EY(w:W):rl w ((-25:Int)%32).toNat=jN w 25:=rfl
theorem Fj(w:W):rl w ((-2:Int)%32).toNat=jN w 2:=rfl
theorem EW(w:W):rl w ((-13:Int)%32).toNat=jN w 13:=rfl
theorem EX(w:W):rl w ((-22:Int)%32).toNat=jN w 22:=rfl
theorem n0(s:St):nth (.int .u32) s.l 0=vw s.a:=rfl
theorem n1(s:St):nth (.int .u32) s.l 1=vw s.b:=rfl
theorem n2(s:St):nth (.int .u32) s.l 2=vw s.c:=rfl
theorem n3(s:St):nth (.int .u32) s.l 3=vw s.d:=rfl
theorem n4(s:St):nth (.int .u32) s.l 4=vw s.e:=rfl
theorem n5(s:St):nth (.int .u32) s.l 5=vw s.f:=rfl
theorem n6(s:St):nth (.int .u32) s.l 6=vw s.g:=rfl
theorem n7(s:St):nth (.int .u32) s.l 7=vw s.h:=rfl
theorem mix.L0.ok:mix.L0.Ok:=by
 refine mix.L0.aG (fun(h,t,n4,n5,n6,n7)=>64 - t.toNat) ?_
 rintro⟨h,t,m4,m5,m6,m7⟩ ⟨s,ws,k,rfl,rfl,hw,hk,rfl,rfl,rfl⟩
 by_cases hlt:k < 64
 ·left
  refine⟨(s.l,((k+1:Nat):Int),m4,wl ws,ql,(rounds ws s (k+1)).l),⟨s,ws,k+1,rfl,rfl,hw,by omega,rfl,rfl,rfl⟩,by simp;omega,rfl,fun kn kx=> ?_⟩
  have e1:bO .i64 (k:Int) 1=((k+1:Nat):Int):=by rw[fS (by omega) (by omega)];omega
  have e2:Int.toNat (k:Int)=k:=by omega
  have hwl:(wl ws).length=64:=by simp[wl,hw]
  have d0:decide (k < 64)=true:=aR hlt
  have i0:dS (k:Int) 64=true:=bh (by omega) (by omega)
  rw[mix.L0.step,bA (by omega)]
  generalize hv:rounds ws s k=v
  simp only[e1,e2,Nat.mul_one,Nat.zero_add,Nat.add_zero,decide_true,ay,St.wi,Nat.reduceLT,qJ,hwl,d0,i0,n0,n1,n2,n3,n4,n5,n6,n7,cD.at,aa,wh k hlt,qE ws k (by omega),il,l5,Fk,EV,EY,Fj,EW,EX]
  show kn _=kn (mix.L0.st (s.l,((k+1:Nat):Int),m4,wl ws,ql,(EZ (rounds ws s k) (kw k) (ws.getD k 0)).l))
  rw[hv]
  rfl
 ·right
  obtain rfl:k=64:=by omega
  intro R kn kx
  rw[mix.L0.step,bm (by omega)]
  simp only[ao,mix.L0.add,mix.L0.F,mL,g7]
theorem mix.L1.ok:mix.L1.Ok:=by
 refine mix.L1.aG (fun(h,t,n4,n7)=>8 - t.toNat) ?_
 rintro⟨h,t,m4,m7⟩ ⟨hl,k,hk,rfl⟩
 have hl:m7.length=8:=hl
 have e2:Int.toNat (k:Int)=k:=by omega
 have e3:Int.toNat ((k+1:Nat):Int)=k+1:=by omega
 by_cases hlt:k < 8
 ·left
  have e1:bO .i64 (k:Int) 1=((k+1:Nat):Int):=by rw[fS (by omega) (by omega)];omega
  have hn:nth (.int .u32) m7 k=m7[k]:=bZ (t:= .int .u32) (by omega)
  refine⟨(h,((k+1:Nat):Int),m4,m7.set k (bO .u32 m7[k] (nth (.int .u32) h k))),⟨by simpa using hl,k+1,by omega,rfl⟩,by simp;omega,?_,fun kn kx=> ?_⟩
  ·simp only[mix.L1.add,mix.L1.F,e2,e3]
   rw[nX (fun i x=>bO .u32 x (nth (.int .u32) h i)) m7 k (by omega)]
  ·have d0:decide (k < 8)=true:=aR hlt
   have i0:dS (k:Int) 8=true:=bh (by omega) (by omega)
   rw[mix.L1.step,bA (by omega)]
   simp only[e1,e2,Nat.mul_one,Nat.zero_add,Nat.add_zero,decide_true,ay,hl,d0,i0,hn]
 ·right
  obtain rfl:k=8:=by omega
  intro R kn kx
  rw[mix.L1.step,bm (by omega)]
  simp only[ao,mix.L1.add,mix.L1.F,e2]
  rw[pj _ _ _ (by omega)]
theorem mix.ok:mix.Ok:=by
 rintro⟨h,b⟩ ⟨⟨s,rfl⟩,hb⟩
 have hs:schedule.aD b:=hb
 have hsl:(sched b).length=64:=by unfold sched;rw[ln,eo]
 have hp:mix.L0.aD (s.l,0,List.replicate 8 0,wl (sched b),ql,s.l):=⟨s,sched b,0,rfl,rfl,hsl,by omega,rfl,rfl,rfl⟩
 rw[mix.eq,schedule.run hs]
 simp only[aa,table.run (d:=()) trivial,schedule.add,schedule.F,table.add,table.F,mix.L0.run hp,mix.L0.add,mix.L0.F,mL,g7]
 have hp1:mix.L1.aD (s.l,0,List.replicate 8 0,(rounds (sched b) s 64).l):=⟨rfl,0,by omega,rfl⟩
 simp only[mix.L1.run hp1,aa,mix.L1.add,mix.L1.F,mix.add,mix.F,g7]
 unfold qo
 generalize rounds (sched b) s 64=v
 obtain⟨a1,b1,c1,d1,f1,g1,h1,i1⟩:=v
 simp only[St.l,from_,List.mapIdx_cons,List.mapIdx_nil,Int.toNat_zero,Nat.not_lt_zero,if_false,Nat.zero_add,Nat.reduceAdd]
 simp only[nth,List.getD_cons_zero,List.getD_cons_succ,l5]
noncomputable def mix.E:=Entry.cv [some (.arr 8 (.int .u32)),some tB] mix.st mix.aD mix.add mix.F mix.out
noncomputable def mix.call:mix.D→Option mix.X:=bJ mix.E mix.st
theorem mix.run:bE mix.call mix.aD mix.add mix.F:=cQ (cP [.d (.slice (.int .u32)),.d tB] fun _=>by kernel_rfl)
noncomputable def mix.sg:SG Tryz.prog:=⟨111,aW,mix.E,.fn 2 (by kernel_rfl) mix.ok (And.intro (.cv mix.L0.ok (by kernel_rfl)) (And.intro (.cv mix.L1.ok (by kernel_rfl)) trivial))⟩
set_option synthInstance.maxSize 5000
theorem jh(n:Int)(k:Int)(h0:0≤k)(h1:k≤64):dJ .u8 (bQ .i64 n k)=n / 2^k.toNat%256:=by
 rw[rT,fN,bQ]
 have e:min k.toNat IntKind.i64.bits=k.toNat:=by simp only[IntKind.bits];omega
 rw[e,Int.fdiv_eq_ediv_of_nonneg _ (Int.le_of_lt (Int.pow_pos (by omega)))]
 rfl
theorem me{n:Nat}(h:n≤140737488355328):du n 1=true:=eN (by omega) (by omega)
abbrev cr.D:=Bs
def cr.st:cr.D→SA:=fun sv=>([.d tB sv],[])
abbrev cr.Y:=Nat×(List Int)
abbrev cr.X:=Nat×(List Int)
def cr.out:cr.X→aZ:=fun x=>⟨.bU (.new 0 0) 0 [] 0 0 x.1,[],[.obj 0 false (.vec 5 tb x.2)]⟩
def cr.add:cr.D→cr.Y→cr.X:=fun sv y=>y
def cr.aD:cr.D→Prop:=fun b=>b.length≤140737488355328
def cr.F:cr.D→cr.Y:=fun b=>(b.length,b)
noncomputable def cr.G:dV:=eY (P:=Tryz.prog) []
noncomputable def cr.an:eJ:= {bN:=[5],iH:=[⟨2,[],5,25⟩]}
noncomputable def cr.A:= @cK Tryz.prog cr.G cr.an 0 Tryz.f108 _ cr.st
abbrev cr.Ok:=cM @cr.A cr.aD cr.add cr.F cr.out
theorem cr.eq{R:Type}(sv:Bs)(k:aZ→Option R):cr.A sv k=
  aF (decide (0 < (List.length sv))) (
   aF (du (0+(List.length sv)) 1) (
   k (cr.out ((0+(List.length sv)),((List.take 0 (List.replicate 0 (0:Int)))++sv)))) none) (
   nd (
    k (cr.out (0,([]:List Int)))) (
    aF (du (0+(List.length sv)) 1) (
    k (cr.out ((0+(List.length sv)),((List.take 0 (List.replicate 0 (0:Int)))++sv)))) none)):=by kernel_rfl
theorem cr.ok:cr.Ok:=by
 intro b hb
 have hr:du b.length 1=true:=me hb
 rw[cr.eq]
 have e0:(List.take 0 (List.replicate 0 0):List Int)=[]:=rfl
 simp only[Nat.zero_add,hr,ay,e0,List.nil_append,cr.add,cr.F]
 by_cases h:0 < b.length
 ·simp only[aR h,ay]
 ·have:b=[]:=List.eq_nil_of_length_eq_zero (by omega)
  subst this
  simp only[List.length_nil,od,aO (Nat.lt_irrefl 0),ao]
noncomputable def cr.E:=Entry.cv [some tB] cr.st cr.aD cr.add cr.F cr.out
noncomputable def cr.call:cr.D→Option cr.X:=bJ cr.E cr.st
theorem cr.run:bE cr.call cr.aD cr.add cr.F:=cQ (cP [.d tB] fun _=>by kernel_rfl)
noncomputable def cr.sg:SG Tryz.prog:=⟨108,aW,cr.E,.fn 0 (by kernel_rfl) cr.ok trivial⟩
abbrev ee.D:=Int
def ee.st:ee.D→SA:=fun n=>([.da,.d ti n],[])
abbrev ee.Y:=Nat×(List Int)
abbrev ee.X:=Nat×(List Int)
def ee.out:ee.X→aZ:=fun x=>⟨.bU (.new 0 0) 0 [] 0 0 x.1,[],[.obj 0 false (.vec 5 tb x.2)]⟩
def ee.add:ee.D→ee.Y→ee.X:=fun n y=>y
def ee.aD:ee.D→Prop:=fun _=>True
def ee.F:ee.D→ee.Y:=fun n=>(8,fR n)
noncomputable def ee.G:dV:=eY (P:=Tryz.prog) []
noncomputable def ee.an:eJ:= {loops:=jJ [(2,{bn:=[0,1,5],sites:=[16]})],outs:=jI [(2,{bn:=[0],sites:=[16]},{bn:=[4],sites:=[16]})],iH:=[⟨4,[],16,25⟩]}
noncomputable def ee.A:= @cK Tryz.prog ee.G ee.an 12 Tryz.f109 _ ee.st
abbrev ee.Ok:=cM @ee.A ee.aD ee.add ee.F ee.out
theorem ee.eq{R:Type}(n:Int)(k:aZ→Option R):ee.A n k=
 k (ee.out (8,[(dJ .u8 (bQ .i64 n (56:Int))),(dJ .u8 (bQ .i64 n (48:Int))),(dJ .u8 (bQ .i64 n (40:Int))),(dJ .u8 (bQ .i64 n (32:Int))),(dJ .u8 (bQ .i64 n (24:Int))),(dJ .u8 (bQ .i64 n (16:Int))),(dJ .u8 (bQ .i64 n (8:Int))),(dJ .u8 (bQ .i64 n (0:Int)))])):=by kernel_rfl
theorem xA(n:Int): [dJ .u8 (bQ .i64 n 56),dJ .u8 (bQ .i64 n 48),dJ .u8 (bQ .i64 n 40),dJ .u8 (bQ .i64 n 32),dJ .u8 (bQ .i64 n 24),dJ .u8 (bQ .i64 n 16),dJ .u8 (bQ .i64 n 8),dJ .u8 (bQ .i64 n 0)]=fR n:=by
 rw[jh n 56 (by omega) (by omega),jh n 48 (by omega) (by omega),jh n 40 (by omega) (by omega),jh n 32 (by omega) (by omega),jh n 24 (by omega) (by omega),jh n 16 (by omega) (by omega),jh n 8 (by omega) (by omega),jh n 0 (by omega) (by omega)]
 simp[fR]
theorem ee.ok:ee.Ok:=by
 intro n _
 rw[ee.eq,xA]
 rfl
noncomputable def ee.E:=Entry.cv [none,some ti] ee.st ee.aD ee.add ee.F ee.out
noncomputable def ee.call:ee.D→Option ee.X:=bJ ee.E ee.st
theorem ee.run:bE ee.call ee.aD ee.add ee.F:=cQ (cP [.d ti] fun _=>by kernel_rfl)
noncomputable def ee.sg:SG Tryz.prog:=⟨109,zZ,ee.E,.fn 1 (by kernel_rfl) ee.ok (And.intro (.none (by kernel_rfl)) trivial)⟩
abbrev dF.D:=Nat×Int×Bs
def dF.st:dF.D→SA:=fun(bL,n,o0)=>([.bU (.fK 0) 0 [] 0 0 bL,.d ti n],[.obj 0 false (.vec 5 tb o0)])
abbrev dF.Y:=Nat×(List Int)
abbrev dF.X:=Nat×(List Int)
def dF.out:dF.X→aZ:=fun x=>⟨.bU (.fK 0) 8 [] 0 0 x.1,[.obj 8 false (.vec 5 tb x.2)],[]⟩
def dF.add:dF.D→dF.Y→dF.X:=fun(bL,n,o0) y=>y
def dF.aD:dF.D→Prop:=fun(m,n,l)=>m=l.length∧l.length≤140737488355320
def dF.F:dF.D→dF.Y:=fun(m,n,l)=>(l.length+8,l++fR n)
noncomputable def dF.G:dV:=eY (P:=Tryz.prog) []
noncomputable def dF.an:eJ:= {loops:=jJ [(2,{bn:=[0,1,5],sites:=[16]})],outs:=jI [(2,{bn:=[0],sites:=[16]},{bn:=[4],sites:=[16]})]}
noncomputable def dF.A:= @cK Tryz.prog dF.G dF.an 12 Tryz.f109 _ dF.st
abbrev dF.Ok:=cM @dF.A dF.aD dF.add dF.F dF.out
theorem dF.eq{R:Type}(bL:Nat)(n:Int)(o0:Bs)(k:aZ→Option R):dF.A (bL,n,o0) k=
 aF (decide (bL≤(List.length o0))) (
 aF (du (bL+1) 1) (
 aF (decide ((bL+1)≤(List.length ((List.take bL o0)++ [(dJ .u8 (bQ .i64 n (56:Int)))])))) (
 aF (du ((bL+1)+1) 1) (
 aF (decide (((bL+1)+1)≤(List.length ((List.take (bL+1) ((List.take bL o0)++ [(dJ .u8 (bQ .i64 n (56:Int)))]))++ [(dJ .u8 (bQ .i64 n (48:Int)))])))) (
 aF (du (((bL+1)+1)+1) 1) (
 aF (decide ((((bL+1)+1)+1)≤(List.length ((List.take ((bL+1)+1) ((List.take (bL+1) ((List.take bL o0)++ [(dJ .u8 (bQ .i64 n (56:Int)))]))++ [(dJ .u8 (bQ .i64 n (48:Int)))]))++ [(dJ .u8 (bQ .i64 n (40:Int)))])))) (
 aF (du ((((bL+1)+1)+1)+1) 1) (
 aF (decide (((((bL+1)+1)+1)+1)≤(List.length ((List.take (((bL+1)+1)+1) ((List.take ((bL+1)+1) ((List.take (bL+1) ((List.take bL o0)++ [(dJ .u8 (bQ .i64 n (56:Int)))]))++ [(dJ .u8 (bQ .i64 n (48:Int)))]))++ [(dJ .u8 (bQ .i64 n (40:Int)))]))++ [(dJ .u8 (bQ .i64 n (32:Int)))])))) (
 aF (du (((((bL+1)+1)+1)+1)+1) 1) (
 aF (decide ((((((bL+1)+1)+1)+1)+1)≤(List.length ((List.take ((((bL+1)+1)+1)+1) ((List.take (((bL+1)+1)+1) ((List.take ((bL+1)+1) ((List.take (bL+1) ((List.take bL o0)++ [(dJ .u8 (bQ .i64 n (56:Int)))]))++ [(dJ .u8 (bQ .i64 n (48:Int)))]))++ [(dJ .u8 (bQ .i64 n (40:Int)))]))++ [(dJ .u8 (bQ .i64 n (32:Int)))]))++ [(dJ .u8 (bQ .i64 n (24:Int)))])))) (
 aF (du ((((((bL+1)+1)+1)+1)+1)+1) 1) (
 aF (decide (((((((bL+1)+1)+1)+1)+1)+1)≤(List.length ((List.take (((((bL+1)+1)+1)+1)+1) ((List.take ((((bL+1)+1)+1)+1) ((List.take (((bL+1)+1)+1) ((List.take ((bL+1)+1) ((List.take (bL+1) ((List.take bL o0)++ [(dJ .u8 (bQ .i64 n (56:Int)))]))++ [(dJ .u8 (bQ .i64 n (48:Int)))]))++ [(dJ .u8 (bQ .i64 n (40:Int)))]))++ [(dJ .u8 (bQ .i64 n (32:Int)))]))++ [(dJ .u8 (bQ .i64 n (24:Int)))]))++ [(dJ .u8 (bQ .i64 n (16:Int)))])))) (
 aF (du (((((((bL+1)+1)+1)+1)+1)+1)+1) 1) (
 aF (decide ((((((((bL+1)+1)+1)+1)+1)+1)+1)≤(List.length ((List.take ((((((bL+1)+1)+1)+1)+1)+1) ((List.take (((((bL+1)+1)+1)+1)+1) ((List.take ((((bL+1)+1)+1)+1) ((List.take (((bL+1)+1)+1) ((List.take ((bL+1)+1) ((List.take (bL+1) ((List.take bL o0)++ [(dJ .u8 (bQ .i64 n (56:Int)))]))++ [(dJ .u8 (bQ .i64 n (48:Int)))]))++ [(dJ .u8 (bQ .i64 n (40:Int)))]))++ [(dJ .u8 (bQ .i64 n (32:Int)))]))++ [(dJ .u8 (bQ .i64 n (24:Int)))]))++ [(dJ .u8 (bQ .i64 n (16:Int)))]))++ [(dJ .u8 (bQ .i64 n (8:Int)))])))) (
 aF (du ((((((((bL+1)+1)+1)+1)+1)+1)+1)+1) 1) (
 k (dF.out (((((((((bL+1)+1)+1)+1)+1)+1)+1)+1),((List.take (((((((bL+1)+1)+1)+1)+1)+1)+1) ((List.take ((((((bL+1)+1)+1)+1)+1)+1) ((List.take (((((bL+1)+1)+1)+1)+1) ((List.take ((((bL+1)+1)+1)+1) ((List.take (((bL+1)+1)+1) ((List.take ((bL+1)+1) ((List.take (bL+1) ((List.take bL o0)++ [(dJ .u8 (bQ .i64 n (56:Int)))]))++ [(dJ .u8 (bQ .i64 n (48:Int)))]))++ [(dJ .u8 (bQ .i64 n (40:Int)))]))++ [(dJ .u8 (bQ .i64 n (32:Int)))]))++ [(dJ .u8 (bQ .i64 n (24:Int)))]))++ [(dJ .u8 (bQ .i64 n (16:Int)))]))++ [(dJ .u8 (bQ .i64 n (8:Int)))]))++ [(dJ .u8 (bQ .i64 n (0:Int)))])))) none) none) none) none) none) none) none) none) none) none) none) none) none) none) none) none:=by kernel_rfl
theorem dF.ok:dF.Ok:=by
 rintro⟨m,n,l⟩ ⟨rfl,hl⟩
 have hl:l.length≤140737488355320:=hl
 rw[dF.eq]
 simp only[Nat.le_refl,decide_true,ay,List.take_of_length_le,List.length_append,List.length_cons,List.length_nil,Nat.zero_add]
 rw[me (by omega),me (by omega),me (by omega),me (by omega),me (by omega),me (by omega),me (by omega),me (by omega)]
 simp only[ay,dF.add,dF.F,←xA,List.append_assoc,List.cons_append,List.nil_append]
noncomputable def dF.E:=Entry.cv [none,some ti] dF.st dF.aD dF.add dF.F dF.out
noncomputable def dF.call:dF.D→Option dF.X:=bJ dF.E dF.st
theorem dF.run:bE dF.call dF.aD dF.add dF.F:=cQ (cP [.n,.d ti,.d tB] fun _=>by kernel_rfl)
noncomputable def dF.sg:SG Tryz.prog:=⟨109,Al,dF.E,.fn 1 (by kernel_rfl) dF.ok (And.intro (.none (by kernel_rfl)) trivial)⟩
set_option synthInstance.maxSize 5000
abbrev aP.L0.D:=Bs×Nat×Bs×(List Int)
def aP.L0.st:aP.L0.D→AS:=fun(b_2,endL,n2,n14)=>⟨([.d tB b_2,.undef,.ptr (.new 2 0) 0 [] 0,.bU (.new 14 0) 0 [] 0 0 endL]++ba 61 []),[],([[],[],[.obj 0 false (.d tH n2)]]++bK 11 ([[.obj 0 false (.vec 5 tb n14)]]++bK 50 []))⟩
abbrev aP.L0.Y0:=Nat×(List Int)
abbrev aP.L0.X0:=(Bs×Bs)×(Nat×(List Int))
def aP.L0.bw:aP.L0.X0→Exit×AS:=fun x=>(.exit 0,⟨([.d tB x.1.1,.undef,.ptr (.new 2 0) 0 [] 0,.bU (.new 14 0) 0 [] 0 0 x.2.1]++ba 61 []),[],([[],[],[.obj 0 false (.d tH x.1.2)]]++bK 11 ([[.obj 0 false (.vec 5 tb x.2.2)]]++bK 50 []))⟩)
abbrev aP.L0.X:=aP.L0.X0
abbrev aP.L0.Y:=aP.L0.Y0
def aP.L0.out:aP.L0.X→Out (Exit×AS):=fun x=> .ok (aP.L0.bw x)
def aP.L0.add:aP.L0.D→aP.L0.Y→aP.L0.X:=fun(b_2,endL,n2,n14) y=>((b_2,n2),y)
abbrev aP.L1.D:=Bs×Nat×Bs×(List Int)×(List Int)
def aP.L1.st:aP.L1.D→AS:=fun(b_3,endL_2,n2_2,n4,n14_2)=>⟨([.d tB b_3,.undef,.ptr (.new 2 0) 0 [] 0,.bU (.new 14 0) 8 [] 0 0 endL_2,.ptr (.new 4 0) 0 [] 0]++ba 60 []),[],([[],[],[.obj 0 false (.d tH n2_2)],[],[.obj 0 false (.d (.arr 8 (.int .u32)) n4)]]++bK 9 ([[.obj 8 false (.vec 5 tb n14_2)]]++bK 50 []))⟩
abbrev aP.L1.Y0:=(List Int)
abbrev aP.L1.X0:=(Nat×Bs×(List Int))×((List Int))
def aP.L1.bw:aP.L1.X0→Exit×AS:=fun x=>(.exit 2,⟨([.undef,.undef,.ptr (.new 2 0) 0 [] 0,.bU (.new 14 0) 8 [] 0 0 x.1.1,.ptr (.new 4 0) 0 [] 0]++ba 60 []),[],([[],[],[.obj 0 false (.d tH x.1.2.1)],[],[.obj 0 false (.d (.arr 8 (.int .u32)) x.2)]]++bK 9 ([[.obj 8 false (.vec 5 tb x.1.2.2)]]++bK 50 []))⟩)
abbrev aP.L1.X:=aP.L1.X0
abbrev aP.L1.Y:=aP.L1.Y0
def aP.L1.out:aP.L1.X→Out (Exit×AS):=fun x=> .ok (aP.L1.bw x)
def aP.L1.add:aP.L1.D→aP.L1.Y→aP.L1.X:=fun(b_3,endL_2,n2_2,n4,n14_2) y=>((endL_2,n2_2,n14_2),y)
abbrev aP.L2.D:=Bs×Bs×(List Int)
def aP.L2.st:aP.L2.D→AS:=fun(endv,n2_3,n4_2)=>⟨([.undef,.undef,.ptr (.new 2 0) 0 [] 0,.d tB endv,.ptr (.new 4 0) 0 [] 0]++ba 60 []),[],([[],[],[.obj 0 false (.d tH n2_3)],[],[.obj 0 false (.d (.arr 8 (.int .u32)) n4_2)]]++bK 60 [])⟩
abbrev aP.L2.Y0:=(List Int)
abbrev aP.L2.X0:=(Bs)×((List Int))
def aP.L2.bw:aP.L2.X0→Exit×AS:=fun x=>(.exit 4,⟨([.undef,.undef,.ptr (.new 2 0) 0 [] 0,.undef,.ptr (.new 4 0) 0 [] 0]++ba 60 []),[],([[],[],[.obj 0 false (.d tH x.1)],[],[.obj 0 false (.d (.arr 8 (.int .u32)) x.2)]]++bK 60 [])⟩)
abbrev aP.L2.X:=aP.L2.X0
abbrev aP.L2.Y:=aP.L2.Y0
def aP.L2.out:aP.L2.X→Out (Exit×AS):=fun x=> .ok (aP.L2.bw x)
def aP.L2.add:aP.L2.D→aP.L2.Y→aP.L2.X:=fun(endv,n2_3,n4_2) y=>(n2_3,y)
abbrev aP.L3.D:=Int×Bs×(List Int)
def aP.L3.st:aP.L3.D→AS:=fun(t48,n2_4,n4_3)=>⟨([.undef,.undef,.ptr (.new 2 0) 0 [] 0,.undef,.ptr (.new 4 0) 0 [] 0]++ba 43 ([.d ti t48]++ba 16 [])),[],([[],[],[.obj 0 false (.d tH n2_4)],[],[.obj 0 false (.d (.arr 8 (.int .u32)) n4_3)]]++bK 60 [])⟩
abbrev aP.L3.Y0:=Bs
abbrev aP.L3.X0:=Bs
def aP.L3.bw:aP.L3.X0→Exit×AS:=fun x=>(.exit 6,⟨([.undef,.undef,.ptr (.new 2 0) 0 [] 0]++ba 62 []),[],([[],[],[.obj 0 false (.d tH x)]]++bK 62 [])⟩)
abbrev aP.L3.X:=aP.L3.X0
abbrev aP.L3.Y:=aP.L3.Y0
def aP.L3.out:aP.L3.X→Out (Exit×AS):=fun x=> .ok (aP.L3.bw x)
def aP.L3.add:aP.L3.D→aP.L3.Y→aP.L3.X:=fun(t48,n2_4,n4_3) y=>y
abbrev aP.D:=Bs
def aP.st:aP.D→SA:=fun b=>([.d tB b],[])
abbrev aP.Y:=Bs
abbrev aP.X:=Bs
def aP.out:aP.X→aZ:=fun x=>⟨.d tH x,[],[]⟩
def aP.add:aP.D→aP.Y→aP.X:=fun b y=>y
def zc(n:Nat):Nat:=(120 - n%64)%64
def aP.L0.aD:aP.L0.D→Prop:=fun(b,m,n2,l)=>m=l.length∧l.length+zc l.length≤140737488355328
def aP.L0.F:aP.L0.D→aP.L0.Y:=fun(b,m,n2,l)=>(l.length+zc l.length,l++List.replicate (zc l.length) 0)
def aP.L1.aD:aP.L1.D→Prop:=fun(b,m,n2,h,l)=>∃s:St,h=s.l
def aP.L1.F:aP.L1.D→aP.L1.Y:=fun(b,m,n2,h,l)=>(blocks (vk h) b).l
def aP.L2.aD:aP.L2.D→Prop:=fun(b,n2,h)=>b.length%64=0∧∃s:St,h=s.l
def aP.L2.F:aP.L2.D→aP.L2.Y:=fun(b,n2,h)=>(blocks (vk h) b).l
def ou(h:List Int)(i:Nat)(_:Int):Int:=dJ .u8 (bQ .u32 (nth (.int .u32) h (i / 4)) ((24 - 8*(i%4):Nat):Int))
def aP.L3.aD:aP.L3.D→Prop:=fun(t,n2,h)=>n2.length=32∧h.length=8∧∃k:Nat,k≤32∧t=k
def aP.L3.F:aP.L3.D→aP.L3.Y:=fun(t,n2,h)=>from_ (ou h) t.toNat n2
def aP.aD:aP.D→Prop:=fun b=>b.length≤140737488350000
def aP.F:aP.D→aP.Y:=fun b=>Dw b
noncomputable def aP.G:dV:=eY (P:=Tryz.prog) [cr.sg,dF.sg,first.sg,mix.sg]
noncomputable def aP.L0.E:=bP.cv aP.L0.st aP.L0.aD aP.L0.add aP.L0.F aP.L0.out
noncomputable def aP.L0.call:aP.L0.D→Option aP.L0.X:=dk aP.L0.E aP.L0.st
noncomputable def aP.L1.E:=bP.cv aP.L1.st aP.L1.aD aP.L1.add aP.L1.F aP.L1.out
noncomputable def aP.L1.call:aP.L1.D→Option aP.L1.X:=dk aP.L1.E aP.L1.st
noncomputable def aP.L2.E:=bP.cv aP.L2.st aP.L2.aD aP.L2.add aP.L2.F aP.L2.out
noncomputable def aP.L2.call:aP.L2.D→Option aP.L2.X:=dk aP.L2.E aP.L2.st
noncomputable def aP.L3.E:=bP.cv aP.L3.st aP.L3.aD aP.L3.add aP.L3.F aP.L3.out
noncomputable def aP.L3.call:aP.L3.D→Option aP.L3.X:=dk aP.L3.E aP.L3.st
noncomputable def aP.an:eJ:= {loops:=jJ [(2,{bn:=[0,2,3],sites:=[2,14],iH:=[⟨3,[],14,25⟩]}),(6,{bn:=[0,2,3,4],sites:=[2,4,14]}),(9,{bn:=[2,3,4],sites:=[2,4],data:=[(3,tB)]}),(13,{bn:=[2,4,48],sites:=[2,4]})],outs:=jI [(2,{bn:=[0,2,3],sites:=[2,14]},{bn:=[2]}),(6,{bn:=[2,3,4],sites:=[2,4,14]},{bn:=[2]}),(9,{bn:=[2,4],sites:=[2,4]},{bn:=[2]}),(13,{bn:=[2],sites:=[2]},{bn:=[2]})],fJ:=kz [(2,aP.L0.E),(6,aP.L1.E),(9,aP.L2.E),(13,aP.L3.E)]}
noncomputable def aP.A:= @cK Tryz.prog aP.G aP.an 0 Tryz.f51 _ aP.st
abbrev aP.Ok:=cM @aP.A aP.aD aP.add aP.F aP.out
noncomputable def aP.L0.R:= @bV Tryz.prog aP.G aP.an 0 Tryz.f51 0 _ aP.L0.st
abbrev aP.L0.Ok:=eA Tryz.prog aP.G aP.an 0 Tryz.f51 0 aP.L0.st aP.L0.aD aP.L0.add aP.L0.F aP.L0.out
noncomputable def aP.L1.R:= @bV Tryz.prog aP.G aP.an 0 Tryz.f51 1 _ aP.L1.st
abbrev aP.L1.Ok:=eA Tryz.prog aP.G aP.an 0 Tryz.f51 1 aP.L1.st aP.L1.aD aP.L1.add aP.L1.F aP.L1.out
noncomputable def aP.L2.R:= @bV Tryz.prog aP.G aP.an 0 Tryz.f51 2 _ aP.L2.st
abbrev aP.L2.Ok:=eA Tryz.prog aP.G aP.an 0 Tryz.f51 2 aP.L2.st aP.L2.aD aP.L2.add aP.L2.F aP.L2.out
noncomputable def aP.L3.R:= @bV Tryz.prog aP.G aP.an 0 Tryz.f51 3 _ aP.L3.st
abbrev aP.L3.Ok:=eA Tryz.prog aP.G aP.an 0 Tryz.f51 3 aP.L3.st aP.L3.aD aP.L3.add aP.L3.F aP.L3.out
theorem aP.L0.run:bE aP.L0.call aP.L0.aD aP.L0.add aP.L0.F:=eK (eI [.d tB,.n,.d tB,.d tB] fun _=>by kernel_rfl)
theorem aP.L0.aG:fX @aP.L0.R aP.L0.st aP.L0.aD aP.L0.add aP.L0.F aP.L0.bw aP.L0.Ok:=gf
theorem aP.L0.step{R:Type}(b_2:Bs)(endL:Nat)(n2:Bs)(n14:(List Int))(kn:AS→Option R)(kx:Exit→AS→Option R):aP.L0.R (b_2,endL,n2,n14) kn kx=
  aF ((gM (jl ((endL:Nat):Int) (64:Int)) (56:Int))) (
   aF (decide (endL≤(List.length n14))) (
   aF (du (endL+1) 1) (
   kn (aP.L0.st (b_2,(endL+1),n2,((List.take endL n14)++ [(0:Int)])))) none) none) (
   kx (aP.L0.bw ((b_2,n2),(endL,n14))).1 (aP.L0.bw ((b_2,n2),(endL,n14))).2):=by kernel_rfl
theorem aP.L1.run:bE aP.L1.call aP.L1.aD aP.L1.add aP.L1.F:=eK (eI [.d tB,.n,.d tB,.d (.slice (.int .u32)),.d tB] fun _=>by kernel_rfl)
theorem aP.L1.aG:fX @aP.L1.R aP.L1.st aP.L1.aD aP.L1.add aP.L1.F aP.L1.bw aP.L1.Ok:=gf
theorem aP.L1.step{R:Type}(b_3:Bs)(endL_2:Nat)(n2_2:Bs)(n4:(List Int))(n14_2:(List Int))(kn:AS→Option R)(kx:Exit→AS→Option R):aP.L1.R (b_3,endL_2,n2_2,n4,n14_2) kn kx=
  aF ((l6 (((List.length b_3):Nat):Int) (64:Int))) (
   aF (inc (64:Int) (((List.length b_3):Nat):Int)) (
   ae (mix.call (n4,(cut b_3 0 64))) fun x1=>
   aF (inc (64:Int) (((List.length b_3):Nat):Int)) (
   kn (aP.L1.st ((cut b_3 64 ((List.length b_3) - 64)),endL_2,n2_2,x1,n14_2))) none) none) (
   kx (aP.L1.bw ((endL_2,n2_2,n14_2),n4)).1 (aP.L1.bw ((endL_2,n2_2,n14_2),n4)).2):=by kernel_rfl
theorem aP.L2.run:bE aP.L2.call aP.L2.aD aP.L2.add aP.L2.F:=eK (eI [.d tB,.d tB,.d (.slice (.int .u32))] fun _=>by kernel_rfl)
theorem aP.L2.aG:fX @aP.L2.R aP.L2.st aP.L2.aD aP.L2.add aP.L2.F aP.L2.bw aP.L2.Ok:=gf
theorem aP.L2.step{R:Type}(endv:Bs)(n2_3:Bs)(n4_2:(List Int))(kn:AS→Option R)(kx:Exit→AS→Option R):aP.L2.R (endv,n2_3,n4_2) kn kx=
  aF ((mv (((List.length endv):Nat):Int) (0:Int))) (
   aF (inc (64:Int) (((List.length endv):Nat):Int)) (
   ae (mix.call (n4_2,(cut endv 0 64))) fun x1=>
   aF (inc (64:Int) (((List.length endv):Nat):Int)) (
   kn (aP.L2.st ((cut endv 64 ((List.length endv) - 64)),n2_3,x1))) none) none) (
   kx (aP.L2.bw (n2_3,n4_2)).1 (aP.L2.bw (n2_3,n4_2)).2):=by kernel_rfl
theorem aP.L3.run:bE aP.L3.call aP.L3.aD aP.L3.add aP.L3.F:=eK (eI [.d ti,.d tB,.d (.slice (.int .u32))] fun _=>by kernel_rfl)
theorem aP.L3.aG:fX @aP.L3.R aP.L3.st aP.L3.aD aP.L3.add aP.L3.F aP.L3.bw aP.L3.Ok:=gf
theorem aP.L3.step{R:Type}(t48:Int)(n2_4:Bs)(n4_3:(List Int))(kn:AS→Option R)(kx:Exit→AS→Option R):aP.L3.R (t48,n2_4,n4_3) kn kx=
  aF ((gb t48 (32:Int))) (
   aF (dS (kX .i64 t48 (4:Int)) (8:Int)) (
   aF (decide ((Int.toNat (kX .i64 t48 (4:Int))) < (List.length n4_3))) (
   aF (decide ((((Int.toNat (kX .i64 t48 (4:Int)))*1)+0)=(0+((Int.toNat (kX .i64 t48 (4:Int)))*1)))) (
   aF (gR (bT .i64 (24:Int) (eW .i64 (8:Int) (jl t48 (4:Int))))) (
   aF (dS t48 (32:Int)) (
   aF (decide ((Int.toNat t48) < (List.length n2_4))) (
   aF (decide ((((Int.toNat t48)*1)+0)=(0+((Int.toNat t48)*1)))) (
   aF (decide ((Int.toNat t48) < (List.length n2_4))) (
   kn (aP.L3.st ((bO .i64 t48 (1:Int)),(List.set n2_4 (Int.toNat t48) (dJ .u8 (bQ .u32 (nth (.int .u32) n4_3 (Int.toNat (kX .i64 t48 (4:Int)))) (bT .i64 (24:Int) (eW .i64 (8:Int) (jl t48 (4:Int))))))),n4_3))) none) none) none) none) none) none) none) none) (
   kx (aP.L3.bw n2_4).1 (aP.L3.bw n2_4).2):=by kernel_rfl
theorem aP.eq{R:Type}(b:Bs)(k:aZ→Option R):aP.A b k=
 aF (inc (bT .i64 (((List.length b):Nat):Int) (jl (((List.length b):Nat):Int) (64:Int))) (((List.length b):Nat):Int)) (
 ae (cr.call (cut b (Int.toNat (bT .i64 (((List.length b):Nat):Int) (jl (((List.length b):Nat):Int) (64:Int)))) ((List.length b) - (Int.toNat (bT .i64 (((List.length b):Nat):Int) (jl (((List.length b):Nat):Int) (64:Int))))))) fun x1=>
 aF (decide (x1.1≤(List.length x1.2))) (
 aF (du (x1.1+1) 1) (
 ae (aP.L0.call (b,(x1.1+1),(List.replicate 32 (0:Int)),((List.take x1.1 x1.2)++ [(128:Int)]))) fun x2=>
 ae (dF.call (x2.2.1,(eW .i64 (8:Int) (((List.length x2.1.1):Nat):Int)),x2.2.2)) fun x3=>
 ae (first.call ()) fun x4=>
 ae (aP.L1.call (x2.1.1,x3.1,x2.1.2,x4,x3.2)) fun x6=>
 aF (decide (0=0∧(0+x6.1.1)≤(List.length x6.1.2.2))) (
 ae (aP.L2.call ((cut x6.1.2.2 0 x6.1.1),x6.1.2.1,x6.2)) fun x9=>
 ae (aP.L3.call ((0:Int),x9.1,x9.2)) fun x10=>
 k (aP.out x10)) none) none) none) none:=by kernel_rfl
theorem aP.L0.ok:aP.L0.Ok:=by
 refine aP.L0.aG (fun(b,m,n2,l)=>zc l.length) ?_
 rintro⟨b,m,n2,l⟩ ⟨rfl,hl⟩
 have hl:l.length+zc l.length≤140737488355328:=hl
 have hr:jl ((l.length:Nat):Int) 64=((l.length%64:Nat):Int):=by
  unfold jl
  rw[Int.tmod_eq_emod_of_nonneg (by omega)]
  omega
 by_cases h:l.length%64=56
 ·right
  intro R kn kx
  have hz:zc l.length=0:=by unfold zc;omega
  rw[aP.L0.step,hr,bM (by omega)]
  simp only[ao,aP.L0.add,aP.L0.F,hz,Nat.add_zero,List.replicate_zero,List.append_nil]
 ·left
  have hz:zc l.length=zc (l.length+1)+1:=by unfold zc;omega
  refine⟨(b,l.length+1,n2,l++ [0]),⟨by simp,by simp only[List.length_append,List.length_cons,List.length_nil,Nat.zero_add];omega⟩,by simp only[List.length_append,List.length_cons,List.length_nil,Nat.zero_add];omega,?_,fun kn kx=> ?_⟩
  ·simp only[aP.L0.add,aP.L0.F,List.length_append,List.length_cons,List.length_nil,Nat.zero_add,hz,List.append_assoc,List.cons_append,List.nil_append,List.replicate_succ]
   rw[show l.length+1+zc (l.length+1)=l.length+(zc (l.length+1)+1) by omega]
  ·rw[aP.L0.step,hr,dA (by omega),me (by omega)]
   simp only[ay,Nat.le_refl,decide_true,List.take_length]
theorem aP.L1.ok:aP.L1.Ok:=by
 refine aP.L1.aG (fun(b,m,n2,h,l)=>b.length) ?_
 rintro⟨b,m,n2,h,l⟩ ⟨s,rfl⟩
 by_cases hb:64≤b.length
 ·left
  have e1:cut b 64 (b.length - 64)=b.drop 64:=by unfold cut;rw[List.take_of_length_le (by simp)]
  have e2:cut b 0 64=b.take 64:=rfl
  have hp:mix.aD (s.l,b.take 64):=⟨⟨s,rfl⟩,by simp;omega⟩
  refine⟨(b.drop 64,m,n2,(qo s (b.take 64)).l,l),⟨_,rfl⟩,by simp;omega,?_,fun kn kx=> ?_⟩
  ·simp only[aP.L1.add,aP.L1.F,g7]
   rw[nj s b hb]
  ·rw[aP.L1.step,fF (by omega),kV (by omega) (by omega),e1,e2]
   simp only[ay,mix.run hp,aa,mix.add,mix.F,g7]
 ·right
  intro R kn kx
  rw[aP.L1.step,eM (by omega)]
  simp only[ao,aP.L1.add,aP.L1.F,g7]
  rw[mi s b (by omega)]
theorem aP.L2.ok:aP.L2.Ok:=by
 refine aP.L2.aG (fun(b,n2,h)=>b.length) ?_
 rintro⟨b,n2,h⟩ ⟨hm,s,rfl⟩
 have hm:b.length%64=0:=hm
 by_cases hb:0 < b.length
 ·left
  have e1:cut b 64 (b.length - 64)=b.drop 64:=by unfold cut;rw[List.take_of_length_le (by simp)]
  have e2:cut b 0 64=b.take 64:=rfl
  have hp:mix.aD (s.l,b.take 64):=⟨⟨s,rfl⟩,by simp;omega⟩
  refine⟨(b.drop 64,n2,(qo s (b.take 64)).l),⟨by simp;omega,_,rfl⟩,by simp;omega,?_,fun kn kx=> ?_⟩
  ·simp only[aP.L2.add,aP.L2.F,g7]
   rw[nj s b (by omega)]
  ·rw[aP.L2.step,dG (by omega),kV (by omega) (by omega),e1,e2]
   simp only[ay,mix.run hp,aa,mix.add,mix.F,g7]
 ·right
  intro R kn kx
  rw[aP.L2.step,dx (by omega)]
  simp only[ao,aP.L2.add,aP.L2.F,g7]
  rw[mi s b (by omega)]
theorem aP.L3.ok:aP.L3.Ok:=by
 refine aP.L3.aG (fun(t,n2,h)=>32 - t.toNat) ?_
 rintro⟨t,m,h⟩ ⟨hl,h8,k,hk,rfl⟩
 have hl:m.length=32:=hl
 have h8:h.length=8:=h8
 have e2:Int.toNat (k:Int)=k:=by omega
 have e3:Int.toNat ((k+1:Nat):Int)=k+1:=by omega
 by_cases hlt:k < 32
 ·left
  have e1:bO .i64 (k:Int) 1=((k+1:Nat):Int):=by rw[fS (by omega) (by omega)];omega
  have q4:kX .i64 (k:Int) 4=((k / 4:Nat):Int):=by
   have:(k:Int).tdiv 4=((k / 4:Nat):Int):=by rw[Int.tdiv_eq_ediv_of_nonneg (by omega)];omega
   unfold kX
   rw[this,jr (by omega) (by omega)]
  have r4:jl (k:Int) 4=((k%4:Nat):Int):=by
   unfold jl
   rw[Int.tmod_eq_emod_of_nonneg (by omega)]
   omega
  have s4:bT .i64 24 (eW .i64 8 ((k%4:Nat):Int))=((24 - 8*(k%4):Nat):Int):=by
   rw[pk (by omega) (by omega),fb (by omega) (by omega)]
   omega
  have e4:Int.toNat ((k / 4:Nat):Int)=k / 4:=by omega
  refine⟨(((k+1:Nat):Int),m.set k (ou h k m[k]),h),⟨by simpa using hl,h8,k+1,by omega,rfl⟩,by simp;omega,?_,fun kn kx=> ?_⟩
  ·simp only[aP.L3.add,aP.L3.F,e2,e3]
   rw[nX (ou h) m k (by omega)]
  ·have d0:decide (k < 32)=true:=aR hlt
   have d1:decide (k / 4 < 8)=true:=aR (by omega)
   rw[aP.L3.step,bA (by omega),q4,r4,s4,bh (by omega) (by omega),bh (by omega) (by omega),ke (by omega)]
   simp only[e1,e2,e4,Nat.mul_one,Nat.zero_add,Nat.add_zero,decide_true,ay,hl,h8,d0,d1,ou]
 ·right
  obtain rfl:k=32:=by omega
  intro R kn kx
  rw[aP.L3.step,bm (by omega)]
  simp only[ao,aP.L3.add,aP.L3.F,e2]
  rw[pj _ _ _ (by omega)]
theorem z7(w:W):BitVec.ofInt 8 (vw w)=w.setWidth 8:=by
 apply BitVec.eq_of_toNat_eq
 rw[BitVec.toNat_ofInt,BitVec.toNat_setWidth]
 unfold vw
 omega
theorem Db(w:W)(k:Int):dJ .u8 (bQ .u32 (vw w) k)=vw ((w >>> k.toNat).setWidth 8):=by
 rw[nC,rT,z7]
theorem y7(s:St):from_ (ou s.l) 0 (List.replicate 32 0)=Cw s:=by
 rw[rO]
 simp only[List.range_eq_range',List.range',List.map_cons,List.map_nil,ou,Nat.reduceAdd,Nat.reduceDiv,Nat.reduceMod,Nat.reduceMul,Nat.reduceSub,n0,n1,n2,n3,n4,n5,n6,n7,Db]
 rfl
theorem aP.ok:aP.Ok:=by
 intro b hb
 have hb:b.length≤140737488350000:=hb
 have hr:jl ((b.length:Nat):Int) 64=((b.length%64:Nat):Int):=by
  unfold jl
  rw[Int.tmod_eq_emod_of_nonneg (by omega)]
  omega
 have hs:bT .i64 ((b.length:Nat):Int) ((b.length%64:Nat):Int)=((b.length - b.length%64:Nat):Int):=by
  rw[fb (by omega) (by omega)];omega
 have hn:Int.toNat ((b.length - b.length%64:Nat):Int)=b.length - b.length%64:=by omega
 have hm:eW .i64 8 ((b.length:Nat):Int)=8*(b.length:Int):=pk (by omega) (by omega)
 generalize hq:b.length - b.length%64=q at hs hn
 have hc:cut b q (b.length - q)=b.drop q:=by unfold cut;rw[List.take_of_length_le (by simp)]
 have hcl:(b.drop q).length=b.length%64:=by simp;omega
 have p1:cr.aD (b.drop q):=by show(b.drop q).length≤_;omega
 rw[aP.eq,hr,hs,kV (by omega) (by omega),hn,hc]
 simp only[ay,cr.run p1,aa,cr.add,cr.F,Nat.le_refl,decide_true,List.take_length]
 have p2:aP.L0.aD (b,(b.drop q).length+1,List.replicate 32 0,b.drop q++ [128]):=by
  refine⟨by simp,?_⟩
  simp only[List.length_append,List.length_cons,List.length_nil,zc]
  omega
 have hz:zc (b.drop q++ [128]).length=k8 b.length:=by
  simp only[List.length_append,List.length_cons,List.length_nil,zc,k8]
  omega
 rw[me (by omega)]
 simp only[ay,aP.L0.run p2,aa,aP.L0.add,aP.L0.F,hm,hz]
 have hlen:(b.drop q++ [128]).length+k8 b.length=(b.drop q++ [128]++List.replicate (k8 b.length) 0).length:=by rw[@List.length_append _ (b.drop q++ [128]),List.length_replicate]
 have p3:dF.aD ((b.drop q++ [128]).length+k8 b.length,8*(b.length:Int),b.drop q++ [128]++List.replicate (k8 b.length) 0):=by
  refine⟨hlen,?_⟩
  simp only[List.length_append,List.length_cons,List.length_nil,List.length_replicate,k8]
  omega
 have p4:aP.L1.aD (b,(b.drop q++ [128]++List.replicate (k8 b.length) 0).length+8,List.replicate 32 0,iR.l,b.drop q++ [128]++List.replicate (k8 b.length) 0++fR (8*(b.length:Int))):=⟨iR,rfl⟩
 simp only[dF.run p3,aa,dF.add,dF.F,first.run (d:=()) trivial,first.add,first.F,aP.L1.run p4,aP.L1.add,aP.L1.F,g7]
 generalize he:b.drop q++ [128]++List.replicate (k8 b.length) 0++fR (8*(b.length:Int))=e
 have hel:(b.drop q++ [128]++List.replicate (k8 b.length) 0).length+8=e.length:=by rw[←he,@List.length_append _ _ (fR _),bR]
 have hem:e.length%64=0:=by
  rw[←hel]
  simp only[List.length_append,List.length_cons,List.length_nil,List.length_replicate,k8,hcl]
  omega
 have hce:cut e 0 ((b.drop q++ [128]++List.replicate (k8 b.length) 0).length+8)=e:=by
  rw[hel];unfold cut;rw[List.drop_zero,List.take_length]
 rw[hce,hel,aR ⟨trivial,by omega⟩]
 have p5:aP.L2.aD (e,List.replicate 32 0,(blocks iR b).l):=⟨hem,blocks iR b,rfl⟩
 have p6:aP.L3.aD (0,List.replicate 32 0,(blocks (blocks iR b) e).l):=⟨rfl,rfl,0,by omega,rfl⟩
 simp only[ay,aP.L2.run p5,aa,aP.L2.add,aP.L2.F,g7,aP.L3.run p6,aP.L3.add,aP.L3.F,aP.add,aP.F]
 rw[show Int.toNat 0=0 from rfl,y7]
 have hbl:blocks iR (pad b)=blocks (blocks iR b) e:=by
  have h1:pad b=b.take q++e:=by
   rw[←he]
   unfold pad
   rw[List.append_assoc,List.append_assoc,←List.append_assoc (b.take q),List.take_append_drop]
   rfl
  have h2:blocks iR b=blocks (blocks iR (b.take q)) (b.drop q):=by
   rw[←ot _ _ _ (by simp;omega),List.take_append_drop]
  rw[h1,ot _ _ _ (by simp;omega),h2,mi _ (b.drop q) (by omega)]
 rw[Dw,hbl]
noncomputable def aP.E:=Entry.cv [some tB] aP.st aP.aD aP.add aP.F aP.out
noncomputable def aP.call:aP.D→Option aP.X:=bJ aP.E aP.st
theorem aP.run:bE aP.call aP.aD aP.add aP.F:=cQ (cP [.d tB] fun _=>by kernel_rfl)
noncomputable def aP.sg:SG Tryz.prog:=⟨51,aW,aP.E,.fn 4 (by kernel_rfl) aP.ok (And.intro (.cv aP.L0.ok (by kernel_rfl)) (And.intro (.cv aP.L1.ok (by kernel_rfl)) (And.intro (.cv aP.L2.ok (by kernel_rfl)) (And.intro (.cv aP.L3.ok (by kernel_rfl)) trivial))))⟩
set_option synthInstance.maxSize 5000
abbrev bW.L0.D:=Nat×(List Bs)×Int×Int×Bs×(List Int)
def bW.L0.st:bW.L0.D→AS:=fun(bL,t13,t14,t15,n4,n10)=>⟨(ba 4 ([.ptr (.new 4 0) 0 [] 0,.bU (.new 10 0) 0 [] 0 0 bL]++ba 7 ([.d (.slice tB) t13,.d ti t14,.d ti t15]++ba 12 []))),[],(bK 4 ([[.obj 0 false (.d tH n4)]]++bK 5 ([[.obj 0 false (.vec 5 tb n10)]]++bK 17 [])))⟩
abbrev bW.L0.Y0:=Nat×(List Int)
abbrev bW.L0.X0:=(Bs)×(Nat×(List Int))
def bW.L0.bw:bW.L0.X0→Exit×AS:=fun x=>(.exit 0,⟨(ba 4 ([.ptr (.new 4 0) 0 [] 0,.bU (.new 10 0) 0 [] 0 0 x.2.1]++ba 22 [])),[],(bK 4 ([[.obj 0 false (.d tH x.1)]]++bK 5 ([[.obj 0 false (.vec 5 tb x.2.2)]]++bK 17 [])))⟩)
abbrev bW.L0.X:=bW.L0.X0
abbrev bW.L0.Y:=bW.L0.Y0
def bW.L0.out:bW.L0.X→Out (Exit×AS):=fun x=> .ok (bW.L0.bw x)
def bW.L0.add:bW.L0.D→bW.L0.Y→bW.L0.X:=fun(bL,t13,t14,t15,n4,n10) y=>(n4,y)
abbrev bW.D:=ByteArray×(List Bs)
def bW.st:bW.D→SA:=fun(name,parts)=>([.d .str name,.d (.slice tB) parts],[])
abbrev bW.Y:=Bs
abbrev bW.X:=Bs
def bW.out:bW.X→aZ:=fun x=>⟨.d tH x,[],[]⟩
def bW.add:bW.D→bW.Y→bW.X:=fun(name,parts) y=>y
def bW.L0.aD:bW.L0.D→Prop:=fun(m,ps,n,i,n4,l)=>m=l.length∧n=ps.length∧ps.length≤140737488350000∧∃k:Nat,k≤ps.length∧i=k∧l.length+(hJ (ps.drop k)).length≤140737488350000
def bW.L0.F:bW.L0.D→bW.L0.Y:=fun(m,ps,n,i,n4,l)=>(l.length+(hJ (ps.drop i.toNat)).length,l++hJ (ps.drop i.toNat))
def bW.aD:bW.D→Prop:=fun(name,ps)=>(qA (bk name) ps).length≤140737488350000
def bW.F:bW.D→bW.Y:=fun(name,ps)=>tag (bk name) ps
noncomputable def bW.G:dV:=eY (P:=Tryz.prog) [ee.sg,dF.sg,aP.sg]
noncomputable def bW.L0.E:=bP.cv bW.L0.st bW.L0.aD bW.L0.add bW.L0.F bW.L0.out
noncomputable def bW.L0.call:bW.L0.D→Option bW.L0.X:=dk bW.L0.E bW.L0.st
noncomputable def bW.an:eJ:= {loops:=jJ [(3,{bn:=[4,5,13,14,15],sites:=[4,10],iH:=[⟨5,[],10,25⟩]})],outs:=jI [(3,{bn:=[4,5],sites:=[4,10]},{bn:=[4]})],fJ:=kz [(3,bW.L0.E)]}
noncomputable def bW.A:= @cK Tryz.prog bW.G bW.an 0 Tryz.f54 _ bW.st
abbrev bW.Ok:=cM @bW.A bW.aD bW.add bW.F bW.out
noncomputable def bW.L0.R:= @bV Tryz.prog bW.G bW.an 0 Tryz.f54 0 _ bW.L0.st
abbrev bW.L0.Ok:=eA Tryz.prog bW.G bW.an 0 Tryz.f54 0 bW.L0.st bW.L0.aD bW.L0.add bW.L0.F bW.L0.out
theorem bW.L0.run:bE bW.L0.call bW.L0.aD bW.L0.add bW.L0.F:=eK (eI [.n,.d (.slice tB),.d ti,.d ti,.d tB,.d tB] fun _=>by kernel_rfl)
theorem bW.L0.aG:fX @bW.L0.R bW.L0.st bW.L0.aD bW.L0.add bW.L0.F bW.L0.bw bW.L0.Ok:=gf
theorem bW.L0.step{R:Type}(bL:Nat)(t13:(List Bs))(t14:Int)(t15:Int)(n4:Bs)(n10:(List Int))(kn:AS→Option R)(kx:Exit→AS→Option R):bW.L0.R (bL,t13,t14,t15,n4,n10) kn kx=
  aF ((gb t15 t14)) (
   aF (dS t15 (((List.length t13):Nat):Int)) (
   ae (dF.call (bL,(((List.length (nth tB t13 (Int.toNat t15))):Nat):Int),n10)) fun x1=>
   aF (decide (x1.1≤(List.length x1.2))) (
   aF (du (x1.1+(List.length (nth tB t13 (Int.toNat t15)))) 1) (
   kn (bW.L0.st ((x1.1+(List.length (nth tB t13 (Int.toNat t15)))),t13,t14,(bO .i64 t15 (1:Int)),n4,((List.take x1.1 x1.2)++(nth tB t13 (Int.toNat t15)))))) none) none) none) (
   kx (bW.L0.bw (n4,(bL,n10))).1 (bW.L0.bw (n4,(bL,n10))).2):=by kernel_rfl
theorem bW.eq{R:Type}(name:ByteArray)(parts:(List Bs))(k:aZ→Option R):bW.A (name,parts) k=
 ae (ee.call (((ByteArray.size name):Nat):Int)) fun x1=>
 aF (decide (x1.1≤(List.length x1.2))) (
 aF (du (x1.1+(List.length (bk name))) 1) (
 ae (bW.L0.call ((x1.1+(List.length (bk name))),parts,(((List.length parts):Nat):Int),(0:Int),(List.replicate 32 (0:Int)),((List.take x1.1 x1.2)++(bk name)))) fun x4=>
 aF (decide (0=0∧(0+x4.2.1)≤(List.length x4.2.2))) (
 ae (aP.call (cut x4.2.2 0 x4.2.1)) fun x5=>
 k (bW.out x5)) none) none) none:=by kernel_rfl
theorem uc(p:List Int)(ps:List (List Int)):hJ (p::ps)=fR p.length++p++hJ ps:=by simp[hJ]
theorem ud(ps:List (List Int))(k:Nat)(h:k < ps.length):hJ (ps.drop k)=fR ps[k].length++ps[k]++hJ (ps.drop (k+1)):=by
 rw[List.drop_eq_getElem_cons h,uc]
theorem bW.L0.ok:bW.L0.Ok:=by
 refine bW.L0.aG (fun(m,ps,n,i,n4,l)=>ps.length - i.toNat) ?_
 rintro⟨m,ps,n,i,n4,l⟩ ⟨rfl,rfl,hpl,k,hk,rfl,hl⟩
 have hl:l.length+(hJ (ps.drop k)).length≤140737488350000:=hl
 have hk:k≤ps.length:=hk
 have e2:Int.toNat (k:Int)=k:=by omega
 have e3:Int.toNat ((k+1:Nat):Int)=k+1:=by omega
 by_cases h:k < ps.length
 ·left
  have ht:=ud ps k h
  have hlen:(hJ (ps.drop k)).length=8+ps[k].length+(hJ (ps.drop (k+1))).length:=by rw[ht];simp only[List.length_append,bR]
  have hn:nth (.slice (.int .u8)) ps k=ps[k]:=bZ (t:= .slice (.int .u8)) h
  have hpl:ps.length≤140737488350000:=hpl
  have e1:bO .i64 (k:Int) 1=((k+1:Nat):Int):=by rw[fS (by omega) (by omega)];omega
  refine⟨((l++fR ps[k].length++ps[k]).length,ps,(ps.length:Int),((k+1:Nat):Int),n4,l++fR ps[k].length++ps[k]),⟨rfl,rfl,hpl,k+1,by show k+1≤ps.length;omega,rfl,?_⟩,?_,?_,fun kn kx=> ?_⟩
  ·show(l++fR ps[k].length++ps[k]).length+(hJ (ps.drop (k+1))).length≤_
   simp only[List.length_append,bR];omega
  ·show ps.length - Int.toNat ((k+1:Nat):Int) < ps.length - Int.toNat (k:Int)
   omega
  ·simp only[bW.L0.add,bW.L0.F,e2,e3,ht,List.append_assoc]
   simp only[List.length_append,bR,Nat.add_assoc]
  ·have p1:dF.aD (l.length,(ps[k].length:Int),l):=⟨rfl,by show l.length≤_;omega⟩
   rw[bW.L0.step,bA (by omega),bh (by omega) (by omega),e1,e2]
   simp only[ay,hn,dF.run p1,aa,dF.add,dF.F]
   have hlb:(l++fR ps[k].length).length=l.length+8:=by simp[bR]
   rw[hlb,aR (Nat.le_refl _),me (by omega)]
   simp only[ay]
   rw[List.take_of_length_le (by rw[hlb];omega)]
   simp only[List.length_append,bR,Nat.add_assoc]
 ·right
  obtain rfl:k=ps.length:=by omega
  intro R kn kx
  rw[bW.L0.step,bm (by omega)]
  simp only[ao,bW.L0.add,bW.L0.F,e2,List.drop_length]
  simp[hJ]
theorem sN:∀ps:List (List Int),8*ps.length≤(hJ ps).length
 |[]=>by simp[hJ]
 |p::ps=>by
  rw[uc]
  have:=sN ps
  simp only[List.length_append,bR,List.length_cons]
  omega
theorem gq(s:ByteArray):(bk s).length=s.size:=by simp only[bk,List.length_map,Array.length_toList];rfl
theorem bW.ok:bW.Ok:=by
 rintro⟨name,ps⟩ hp
 have hp:(fR (bk name).length++bk name++hJ ps).length≤140737488350000:=hp
 have hl:(fR (bk name).length++bk name++hJ ps).length=8+(bk name).length+(hJ ps).length:=by simp only[List.length_append,bR]
 have hpl:=sN ps
 have hsz:((name.size:Nat):Int)=(((bk name).length:Nat):Int):=by rw[gq]
 rw[bW.eq,ee.run (d:=((name.size:Nat):Int)) trivial,hsz]
 simp only[aa,ee.add,ee.F,bR,Nat.le_refl,decide_true,ay]
 rw[me (by omega),List.take_of_length_le (by rw[bR];omega)]
 have p2:bW.L0.aD (8+(bk name).length,ps,(ps.length:Int),0,List.replicate 32 0,fR ((bk name).length:Int)++bk name):=by
  refine⟨by simp only[List.length_append,bR],rfl,by show ps.length≤_;omega,0,Nat.zero_le _,rfl,?_⟩
  rw[List.drop_zero]
  simp only[List.length_append,bR]
  omega
 simp only[ay,bW.L0.run p2,aa,bW.L0.add,bW.L0.F,Int.toNat_zero,List.drop_zero]
 have hcut:cut (fR ((bk name).length:Int)++bk name++hJ ps) 0 ((fR ((bk name).length:Int)++bk name).length+(hJ ps).length)=qA (bk name) ps:=by
  unfold cut
  rw[List.drop_zero,List.take_of_length_le (by simp only[List.length_append];omega)]
  rfl
 have p3:aP.aD (qA (bk name) ps):=hp
 rw[aR ⟨trivial,by simp only[List.length_append];omega⟩,hcut]
 simp only[ay,aP.run p3,aa,aP.add,aP.F,bW.add,bW.F,tag]
noncomputable def bW.E:=Entry.cv [some .str,some (.slice tB)] bW.st bW.aD bW.add bW.F bW.out
noncomputable def bW.call:bW.D→Option bW.X:=bJ bW.E bW.st
theorem bW.run:bE bW.call bW.aD bW.add bW.F:=cQ (cP [.d .str,.d (.slice tB)] fun _=>by kernel_rfl)
noncomputable def bW.sg:SG Tryz.prog:=⟨54,aW,bW.E,.fn 1 (by kernel_rfl) bW.ok (And.intro (.cv bW.L0.ok (by kernel_rfl)) trivial)⟩
set_option synthInstance.maxSize 5000
abbrev de.D:=Int×Int
def de.st:de.D→SA:=fun(x,n)=>([.d (.int .u32) x,.d ti n],[])
abbrev de.Y:=Int
abbrev de.X:=Int
def de.out:de.X→aZ:=fun x=>⟨.d (.int .u32) x,[],[]⟩
def de.add:de.D→de.Y→de.X:=fun(x,n) y=>y
def de.aD:de.D→Prop:=fun(x,n)=>0≤x∧x < 4294967296∧0≤n∧n≤32
def de.F:de.D→de.Y:=fun(x,n)=>vw (jN (BitVec.ofInt 32 x) n.toNat)
noncomputable def de.G:dV:=eY (P:=Tryz.prog) []
noncomputable def de.an:eJ:= {}
noncomputable def de.A:= @cK Tryz.prog de.G de.an 0 Tryz.f173 _ de.st
abbrev de.Ok:=cM @de.A de.aD de.add de.F de.out
theorem de.eq{R:Type}(x:Int)(n:Int)(k:aZ→Option R):de.A (x,n) k=
 aF (gR n) (
 aF (gR (bT .i64 (32:Int) n)) (
 k (de.out (ct .or .u32 (bQ .u32 x n) (gC .u32 x (bT .i64 (32:Int) n))))) none) none:=by kernel_rfl
theorem de.ok:de.Ok:=by
 rintro⟨x,n⟩ ⟨h1,h2,h3,h4⟩
 obtain⟨n,rfl⟩:=Int.eq_ofNat_of_zero_le h3
 have hx:x=vw (BitVec.ofInt 32 x):=by rw[fN];have h1:0≤x:=h1;have h2:x < 4294967296:=h2;omega
 have h4:(n:Int)≤32:=h4
 rw[de.eq]
 simp(disch:=omega) only[↓S1,↓if_pos,↓if_neg,if_pos,if_neg,if_true,if_false,S2]
 have e2:ct .or .u32 (bQ .u32 x (n:Int)) (gC .u32 x ((32 - n:Nat):Int))=vw (jN (BitVec.ofInt 32 x) n):=by
  conv=>lhs;rw[hx]
  rw[po,nC,il]
  simp only[jN,Int.toNat_natCast]
  rw[BitVec.or_comm]
 rw[e2]
 rfl
noncomputable def de.E:=Entry.cv [some (.int .u32),some ti] de.st de.aD de.add de.F de.out
noncomputable def de.call:de.D→Option de.X:=bJ de.E de.st
theorem de.run:bE de.call de.aD de.add de.F:=cQ (cP [.d (.int .u32),.d ti] fun _=>by kernel_rfl)
noncomputable def de.sg:SG Tryz.prog:=⟨173,aW,de.E,.fn 0 (by kernel_rfl) de.ok trivial⟩
theorem de.at(w:W){k:Int}(h:0≤k∧k≤32):de.call (vw w,k)=some (vw (jN w k.toNat)):=by
 have h:de.aD (vw w,k):=⟨qC w,by have:=BR w;simpa using this,h.1,h.2⟩
 rw[de.run h]
 show some (vw (jN (BitVec.ofInt 32 (vw w)) k.toNat))=_
 rw[jw]
abbrev cw.D:=Unit
def cw.st:cw.D→SA:=fun _=>([],[])
abbrev cw.Y:=(List Int)
abbrev cw.X:=(List Int)
def cw.out:cw.X→aZ:=fun x=>⟨.d (.slice (.int .u32)) x,[],[]⟩
def cw.add:cw.D→cw.Y→cw.X:=fun _ y=>y
def cw.aD:cw.D→Prop:=fun _=>True
def cw.F:cw.D→cw.Y:=fun _=>iR.l
noncomputable def cw.G:dV:=eY (P:=Tryz.prog) []
noncomputable def cw.an:eJ:= {bN:=[1],res:=[some (.slice (.int .u32))]}
noncomputable def cw.A:= @cK Tryz.prog cw.G cw.an 0 Tryz.f155 _ cw.st
abbrev cw.Ok:=cM @cw.A cw.aD cw.add cw.F cw.out
theorem cw.eq{R:Type}(k:aZ→Option R):cw.A () k=
 k (cw.out [(1779033703:Int),(3144134277:Int),(1013904242:Int),(2773480762:Int),(1359893119:Int),(2600822924:Int),(528734635:Int),(1541459225:Int)]):=by kernel_rfl
theorem cw.ok:cw.Ok:=by
 intro d _
 rw[cw.eq]
 rfl
noncomputable def cw.E:=Entry.cv [] cw.st cw.aD cw.add cw.F cw.out
noncomputable def cw.call:cw.D→Option cw.X:=bJ cw.E cw.st
theorem cw.run:bE cw.call cw.aD cw.add cw.F:=cQ (cP [] fun _=>by kernel_rfl)
noncomputable def cw.sg:SG Tryz.prog:=⟨155,aW,cw.E,.fn 0 (by kernel_rfl) cw.ok trivial⟩
abbrev eg.D:=Unit
def eg.st:eg.D→SA:=fun _=>([],[])
abbrev eg.Y:=(List Int)
abbrev eg.X:=(List Int)
def eg.out:eg.X→aZ:=fun x=>⟨.d (.slice (.int .u32)) x,[],[]⟩
def eg.add:eg.D→eg.Y→eg.X:=fun _ y=>y
def eg.aD:eg.D→Prop:=fun _=>True
def eg.F:eg.D→eg.Y:=fun _=>ql
noncomputable def eg.G:dV:=eY (P:=Tryz.prog) []
noncomputable def eg.an:eJ:= {bN:=[1],res:=[some (.slice (.int .u32))]}
noncomputable def eg.A:= @cK Tryz.prog eg.G eg.an 0 Tryz.f172 _ eg.st
abbrev eg.Ok:=cM @eg.A eg.aD eg.add eg.F eg.out
theorem eg.eq{R:Type}(k:aZ→Option R):eg.A () k=
 k (eg.out [(1116352408:Int),(1899447441:Int),(3049323471:Int),(3921009573:Int),(961987163:Int),(1508970993:Int),(2453635748:Int),(2870763221:Int),(3624381080:Int),(310598401:Int),(607225278:Int),(1426881987:Int),(1925078388:Int),(2162078206:Int),(2614888103:Int),(3248222580:Int),(3835390401:Int),(4022224774:Int),(264347078:Int),(604807628:Int),(770255983:Int),(1249150122:Int),(1555081692:Int),(1996064986:Int),(2554220882:Int),(2821834349:Int),(2952996808:Int),(3210313671:Int),(3336571891:Int),(3584528711:Int),(113926993:Int),(338241895:Int),(666307205:Int),(773529912:Int),(1294757372:Int),(1396182291:Int),(1695183700:Int),(1986661051:Int),(2177026350:Int),(2456956037:Int),(2730485921:Int),(2820302411:Int),(3259730800:Int),(3345764771:Int),(3516065817:Int),(3600352804:Int),(4094571909:Int),(275423344:Int),(430227734:Int),(506948616:Int),(659060556:Int),(883997877:Int),(958139571:Int),(1322822218:Int),(1537002063:Int),(1747873779:Int),(1955562222:Int),(2024104815:Int),(2227730452:Int),(2361852424:Int),(2428436474:Int),(2756734187:Int),(3204031479:Int),(3329325298:Int)]):=by kernel_rfl
theorem eg.ok:eg.Ok:=by
 intro d _
 rw[eg.eq]
 rfl
noncomputable def eg.E:=Entry.cv [] eg.st eg.aD eg.add eg.F eg.out
noncomputable def eg.call:eg.D→Option eg.X:=bJ eg.E eg.st
theorem eg.run:bE eg.call eg.aD eg.add eg.F:=cQ (cP [] fun _=>by kernel_rfl)
noncomputable def eg.sg:SG Tryz.prog:=⟨172,aW,eg.E,.fn 0 (by kernel_rfl) eg.ok trivial⟩
abbrev aB.L0.D:=Bs×Nat×(List Int)
def aB.L0.st:aB.L0.D→AS:=fun(b_2,outL,n6)=>⟨([.d tB b_2,.undef,.undef,.bU (.new 6 0) 0 [] 0 0 outL]++ba 31 []),[],(bK 6 ([[.obj 0 false (.vec 5 tb n6)]]++bK 28 []))⟩
abbrev aB.L0.Y0:=Nat×(List Int)
abbrev aB.L0.X0:=(Bs)×(Nat×(List Int))
def aB.L0.bw:aB.L0.X0→Exit×AS:=fun x=>(.exit 0,⟨([.d tB x.1,.undef,.undef,.bU (.new 6 0) 0 [] 0 0 x.2.1]++ba 31 []),[],(bK 6 ([[.obj 0 false (.vec 5 tb x.2.2)]]++bK 28 []))⟩)
abbrev aB.L0.X:=aB.L0.X0
abbrev aB.L0.Y:=aB.L0.Y0
def aB.L0.out:aB.L0.X→Out (Exit×AS):=fun x=> .ok (aB.L0.bw x)
def aB.L0.add:aB.L0.D→aB.L0.Y→aB.L0.X:=fun(b_2,outL,n6) y=>(b_2,y)
abbrev aB.L1.D:=Nat×Int×Int×(List Int)
def aB.L1.st:aB.L1.D→AS:=fun(outL_2,n,kv,n6_2)=>⟨([.undef,.undef,.undef,.bU (.new 6 0) 0 [] 0 0 outL_2,.d tu n,.d ti kv]++ba 29 []),[],(bK 6 ([[.obj 0 false (.vec 5 tb n6_2)]]++bK 28 []))⟩
abbrev aB.L1.Y0:=Nat×(List Int)
abbrev aB.L1.X0:=Nat×(List Int)
def aB.L1.bw:aB.L1.X0→Exit×AS:=fun x=>(.exit 2,⟨([.undef,.undef,.undef,.bU (.new 6 0) 0 [] 0 0 x.1]++ba 31 []),[],(bK 6 ([[.obj 0 false (.vec 5 tb x.2)]]++bK 28 []))⟩)
abbrev aB.L1.X:=aB.L1.X0
abbrev aB.L1.Y:=aB.L1.Y0
def aB.L1.out:aB.L1.X→Out (Exit×AS):=fun x=> .ok (aB.L1.bw x)
def aB.L1.add:aB.L1.D→aB.L1.Y→aB.L1.X:=fun(outL_2,n,kv,n6_2) y=>y
abbrev aB.D:=Bs
def aB.st:aB.D→SA:=fun b=>([.d tB b],[])
abbrev aB.Y:=Bs
abbrev aB.X:=Bs
def aB.out:aB.X→aZ:=fun x=>⟨.d tB x,[],[]⟩
def aB.add:aB.D→aB.Y→aB.X:=fun b y=>y
def aB.L0.aD:aB.L0.D→Prop:=fun(b,m,l)=>m=l.length∧l.length+zc l.length≤140737488355328
def aB.L0.F:aB.L0.D→aB.L0.Y:=fun(b,m,l)=>(l.length+zc l.length,l++List.replicate (zc l.length) 0)
def aB.L1.aD:aB.L1.D→Prop:=fun(m,n,kv,l)=>0≤n∧n < 18446744073709551616∧∃j:Nat,j≤8∧kv=56 - 8*(j:Int)∧m=l.length∧l.length≤140737488355320+j
def aB.L1.F:aB.L1.D→aB.L1.Y:=fun(m,n,kv,l)=>(l.length+(fR n).length - (7 - (kv / 8)).toNat,l++(fR n).drop (7 - (kv / 8)).toNat)
def aB.aD:aB.D→Prop:=fun b=>b.length≤140737488350000
def aB.F:aB.D→aB.Y:=fun b=>pad b
noncomputable def aB.G:dV:=eY (P:=Tryz.prog) []
noncomputable def aB.L0.E:=bP.cv aB.L0.st aB.L0.aD aB.L0.add aB.L0.F aB.L0.out
noncomputable def aB.L0.call:aB.L0.D→Option aB.L0.X:=dk aB.L0.E aB.L0.st
noncomputable def aB.L1.E:=bP.cv aB.L1.st aB.L1.aD aB.L1.add aB.L1.F aB.L1.out
noncomputable def aB.L1.call:aB.L1.D→Option aB.L1.X:=dk aB.L1.E aB.L1.st
noncomputable def aB.an:eJ:= {bN:=[6],loops:=jJ [(3,{bn:=[0,3],sites:=[6],iH:=[⟨3,[],6,25⟩]}),(7,{bn:=[3,4,5],sites:=[6],iH:=[⟨3,[],6,25⟩]})],outs:=jI [(3,{bn:=[0,3],sites:=[6]},{bn:=[2]}),(7,{bn:=[3],sites:=[6]},{bn:=[2]})],fJ:=kz [(3,aB.L0.E),(7,aB.L1.E)],res:=[some tB]}
noncomputable def aB.A:= @cK Tryz.prog aB.G aB.an 0 Tryz.f154 _ aB.st
abbrev aB.Ok:=cM @aB.A aB.aD aB.add aB.F aB.out
noncomputable def aB.L0.R:= @bV Tryz.prog aB.G aB.an 0 Tryz.f154 0 _ aB.L0.st
abbrev aB.L0.Ok:=eA Tryz.prog aB.G aB.an 0 Tryz.f154 0 aB.L0.st aB.L0.aD aB.L0.add aB.L0.F aB.L0.out
noncomputable def aB.L1.R:= @bV Tryz.prog aB.G aB.an 0 Tryz.f154 1 _ aB.L1.st
abbrev aB.L1.Ok:=eA Tryz.prog aB.G aB.an 0 Tryz.f154 1 aB.L1.st aB.L1.aD aB.L1.add aB.L1.F aB.L1.out
theorem aB.L0.run:bE aB.L0.call aB.L0.aD aB.L0.add aB.L0.F:=eK (eI [.d tB,.n,.d tB] fun _=>by kernel_rfl)
theorem aB.L0.aG:fX @aB.L0.R aB.L0.st aB.L0.aD aB.L0.add aB.L0.F aB.L0.bw aB.L0.Ok:=gf
theorem aB.L0.step{R:Type}(b_2:Bs)(outL:Nat)(n6:(List Int))(kn:AS→Option R)(kx:Exit→AS→Option R):aB.L0.R (b_2,outL,n6) kn kx=
  aF ((gM (jl ((outL:Nat):Int) (64:Int)) (56:Int))) (
   aF (decide (outL≤(List.length n6))) (
   aF (du (outL+1) 1) (
   kn (aB.L0.st (b_2,(outL+1),((List.take outL n6)++ [(0:Int)])))) none) none) (
   kx (aB.L0.bw (b_2,(outL,n6))).1 (aB.L0.bw (b_2,(outL,n6))).2):=by kernel_rfl
theorem aB.L1.run:bE aB.L1.call aB.L1.aD aB.L1.add aB.L1.F:=eK (eI [.n,.d tu,.d ti,.d tB] fun _=>by kernel_rfl)
theorem aB.L1.aG:fX @aB.L1.R aB.L1.st aB.L1.aD aB.L1.add aB.L1.F aB.L1.bw aB.L1.Ok:=gf
theorem aB.L1.step{R:Type}(outL_2:Nat)(n:Int)(kv:Int)(n6_2:(List Int))(kn:AS→Option R)(kx:Exit→AS→Option R):aB.L1.R (outL_2,n,kv,n6_2) kn kx=
  aF ((l6 kv (0:Int))) (
   aF (gR kv) (
   aF (decide (outL_2≤(List.length n6_2))) (
   aF (du (outL_2+1) 1) (
   kn (aB.L1.st ((outL_2+1),n,(bT .i64 kv (8:Int)),((List.take outL_2 n6_2)++ [(dJ .u8 (bQ .u64 n kv))])))) none) none) none) (
   kx (aB.L1.bw (outL_2,n6_2)).1 (aB.L1.bw (outL_2,n6_2)).2):=by kernel_rfl
theorem aB.eq{R:Type}(b:Bs)(k:aZ→Option R):aB.A b k=
 aF (du (0+(List.length b)) 1) (
 aF (decide ((0+(List.length b))≤(List.length ((List.take 0 (List.replicate 0 (0:Int)))++b)))) (
 aF (du ((0+(List.length b))+1) 1) (
 ae (aB.L0.call (b,((0+(List.length b))+1),((List.take (0+(List.length b)) ((List.take 0 (List.replicate 0 (0:Int)))++b))++ [(128:Int)]))) fun x1=>
 ae (aB.L1.call (x1.2.1,(eW .u64 (8:Int) (dJ .u64 (((List.length x1.1):Nat):Int))),(56:Int),x1.2.2)) fun x2=>
 aF (decide (0=0∧(0+x2.1)≤(List.length x2.2))) (
 k (aB.out (cut x2.2 0 x2.1))) none) none) none) none:=by kernel_rfl
theorem aB.L0.ok:aB.L0.Ok:=by
 refine aB.L0.aG (fun(b,m,l)=>zc l.length) ?_
 rintro⟨b,m,l⟩ ⟨rfl,hl⟩
 have hl:l.length+zc l.length≤140737488355328:=hl
 by_cases h:l.length%64=56
 ·right
  intro R kn kx
  have hz:zc l.length=0:=by unfold zc;omega
  rw[aB.L0.step]
  simp(disch:=omega) only[↓S1,↓if_pos,↓if_neg,if_pos,if_neg,if_true,if_false,S2,aB.L0.add,aB.L0.F,hz,Nat.add_zero,List.replicate_zero,List.append_nil]
 ·left
  have hz:zc l.length=zc (l.length+1)+1:=by unfold zc;omega
  refine⟨(b,l.length+1,l++ [0]),⟨by simp,by simp only[List.length_append,List.length_cons,List.length_nil,Nat.zero_add];omega⟩,by simp only[List.length_append,List.length_cons,List.length_nil,Nat.zero_add];omega,?_,fun kn kx=> ?_⟩
  ·simp only[aB.L0.add,aB.L0.F,List.length_append,List.length_cons,List.length_nil,Nat.zero_add,hz,List.append_assoc,List.cons_append,List.nil_append,List.replicate_succ]
   rw[show l.length+1+zc (l.length+1)=l.length+(zc (l.length+1)+1) by omega]
  ·rw[aB.L0.step]
   simp(disch:=omega) only[↓S1,↓if_pos,↓if_neg,if_pos,if_neg,if_true,if_false,S2,List.take_length]
theorem AB(n:Int)(j:Nat)(h:j < 8):(fR n).drop j=n / 2^(56 - 8*j)%256::(fR n).drop (j+1):=by
 rcases(by omega:j=0∨j=1∨j=2∨j=3∨j=4∨j=5∨j=6∨j=7) with rfl | rfl | rfl | rfl | rfl | rfl | rfl | rfl <;> simp[fR]
theorem xp(n:Int)(k:Nat)(h1:k≤64):dJ .u8 (bQ .u64 n (k:Int))=n / 2^k%256:=by
 rw[rT,fN,bQ]
 have e:min (k:Int).toNat IntKind.u64.bits=k:=by simp only[IntKind.bits];omega
 rw[e,Int.fdiv_eq_ediv_of_nonneg _ (Int.le_of_lt (Int.pow_pos (by omega)))]
 rfl
theorem aB.L1.ok:aB.L1.Ok:=by
 refine aB.L1.aG (fun(m,n,kv,l)=>(kv+8).toNat) ?_
 rintro⟨m,n,kv,l⟩ ⟨h1,h2,j,hj,rfl,rfl,hl⟩
 have hl:l.length≤140737488355320+j:=hl
 have e1:(7 - ((56 - 8*(j:Int)) / 8)).toNat=j:=by omega
 by_cases h:j < 8
 ·left
  have e2:bT .i64 (56 - 8*(j:Int)) 8=56 - 8*((j+1:Nat):Int):=by rw[fb (by omega) (by omega)];omega
  have e3:(7 - ((56 - 8*((j+1:Nat):Int)) / 8)).toNat=j+1:=by omega
  have e4:(56 - 8*(j:Int))=((56 - 8*j:Nat):Int):=by omega
  refine⟨(l.length+1,n,56 - 8*((j+1:Nat):Int),l++ [n / 2^(56 - 8*j)%256]),⟨h1,h2,j+1,by omega,rfl,by simp,by simp only[List.length_append,List.length_cons,List.length_nil];omega⟩,by simp only;omega,?_,fun kn kx=> ?_⟩
  ·simp only[aB.L1.add,aB.L1.F,e1,e3,AB n j h,List.length_append,List.length_cons,List.length_nil,List.append_assoc,List.cons_append,List.nil_append,bR]
   rw[show l.length+(0+1)+8 - (j+1)=l.length+8 - j by omega]
  ·rw[aB.L1.step,e2,e4,xp n _ (by omega)]
   simp(disch:=omega) only[↓S1,↓if_pos,↓if_neg,if_pos,if_neg,if_true,if_false,S2,List.take_length]
 ·right
  obtain rfl:j=8:=by omega
  intro R kn kx
  rw[aB.L1.step]
  simp(disch:=omega) only[↓S1,↓if_pos,↓if_neg,if_pos,if_neg,if_true,if_false,S2,aB.L1.add,aB.L1.F,e1]
  simp[fR]
theorem aB.ok:aB.Ok:=by
 intro b hb
 have hb:b.length≤140737488350000:=hb
 have hz:zc (b++ [128]).length=k8 b.length:=by
  simp only[List.length_append,List.length_cons,List.length_nil,zc,k8]
  omega
 have hzb:k8 b.length < 64:=by unfold k8;omega
 have p1:aB.L0.aD (b,b.length+1,b++ [128]):=⟨by simp,by rw[hz];simp only[List.length_append,List.length_cons,List.length_nil] <;> omega⟩
 have e1:dJ .u64 ((b.length:Nat):Int)=((b.length:Nat):Int):=by rw[uN,fN];omega
 have e2:eW .u64 8 ((b.length:Nat):Int)=8*(b.length:Int):=by
  unfold eW;rw[wrap_u64,fN];omega
 have e3:List.take b.length b=b:=List.take_length
 rw[aB.eq]
 simp only[List.replicate_zero,List.take_nil,List.nil_append,Nat.zero_add,e1,e2,e3]
 simp(disch:=omega) only[↓S1,↓if_pos,↓if_neg,if_pos,if_neg,if_true,if_false,S2,aB.L0.run p1,aB.L0.add,aB.L0.F,hz]
 have p2:aB.L1.aD ((b++ [128]).length+k8 b.length,8*(b.length:Int),56,b++ [128]++List.replicate (k8 b.length) 0):=by
  refine⟨by omega,by omega,0,by omega,rfl,by simp only[List.length_append,List.length_cons,List.length_nil,List.length_replicate] <;> omega,?_⟩
  simp only[List.length_append,List.length_cons,List.length_nil,List.length_replicate]
  omega
 simp(disch:=omega) only[↓S1,↓if_pos,↓if_neg,if_pos,if_neg,if_true,if_false,S2,e1,e2,aB.L1.run p2,aB.L1.add,aB.L1.F]
 have e5:(7 - ((56:Int) / 8)).toNat=0:=by decide
 rw[e5,List.drop_zero]
 have e6:(b++ [128]++List.replicate (k8 b.length) 0).length+(fR (8*(b.length:Int))).length - 0=(b++ [128]++List.replicate (k8 b.length) 0++fR (8*(b.length:Int))).length:=by rw[@List.length_append _ _ (fR _)];omega
 rw[e6,if_pos (Nat.le_refl _)]
 unfold cut
 rw[List.drop_zero,List.take_length]
 simp only[aB.add,aB.F,pad,List.append_assoc,List.cons_append,List.nil_append]
noncomputable def aB.E:=Entry.cv [some tB] aB.st aB.aD aB.add aB.F aB.out
noncomputable def aB.call:aB.D→Option aB.X:=bJ aB.E aB.st
theorem aB.run:bE aB.call aB.aD aB.add aB.F:=cQ (cP [.d tB] fun _=>by kernel_rfl)
noncomputable def aB.sg:SG Tryz.prog:=⟨154,aW,aB.E,.fn 2 (by kernel_rfl) aB.ok (And.intro (.cv aB.L0.ok (by kernel_rfl)) (And.intro (.cv aB.L1.ok (by kernel_rfl)) trivial))⟩
set_option synthInstance.maxSize 5000
abbrev aM.L0.D:=Bs×Nat×Int×(List Int)
def aM.L0.st:aM.L0.D→AS:=fun(b_2,wL,i,n49)=>⟨([.d tB b_2,.undef,.undef,.bU (.new 49 0) 0 [] 0 0 wL,.d ti i]++ba 94 []),[],(bK 49 ([[.obj 0 false (.vec 127 (.int .u32) n49)]]++bK 49 []))⟩
abbrev aM.L0.Y0:=Nat×(List Int)
abbrev aM.L0.X0:=Nat×(List Int)
def aM.L0.bw:aM.L0.X0→Exit×AS:=fun x=>(.exit 0,⟨([.undef,.undef,.undef,.bU (.new 49 0) 0 [] 0 0 x.1]++ba 95 []),[],(bK 49 ([[.obj 0 false (.vec 127 (.int .u32) x.2)]]++bK 49 []))⟩)
abbrev aM.L0.X:=aM.L0.X0
abbrev aM.L0.Y:=aM.L0.Y0
def aM.L0.out:aM.L0.X→Out (Exit×AS):=fun x=> .ok (aM.L0.bw x)
def aM.L0.add:aM.L0.D→aM.L0.Y→aM.L0.X:=fun(b_2,wL,i,n49) y=>y
abbrev aM.L1.D:=Nat×Int×(List Int)
def aM.L1.st:aM.L1.D→AS:=fun(wL_2,i_2,n49_2)=>⟨([.undef,.undef,.undef,.bU (.new 49 0) 0 [] 0 0 wL_2,.undef,.d ti i_2]++ba 93 []),[],(bK 49 ([[.obj 0 false (.vec 127 (.int .u32) n49_2)]]++bK 49 []))⟩
abbrev aM.L1.Y0:=Nat×(List Int)
abbrev aM.L1.X0:=Nat×(List Int)
def aM.L1.bw:aM.L1.X0→Exit×AS:=fun x=>(.exit 2,⟨([.undef,.undef,.undef,.bU (.new 49 0) 0 [] 0 0 x.1]++ba 95 []),[],(bK 49 ([[.obj 0 false (.vec 127 (.int .u32) x.2)]]++bK 49 []))⟩)
abbrev aM.L1.X:=aM.L1.X0
abbrev aM.L1.Y:=aM.L1.Y0
def aM.L1.out:aM.L1.X→Out (Exit×AS):=fun x=> .ok (aM.L1.bw x)
def aM.L1.add:aM.L1.D→aM.L1.Y→aM.L1.X:=fun(wL_2,i_2,n49_2) y=>y
abbrev aM.D:=Bs
def aM.st:aM.D→SA:=fun b=>([.d tB b],[])
abbrev aM.Y:=(List Int)
abbrev aM.X:=(List Int)
def aM.out:aM.X→aZ:=fun x=>⟨.d (.slice (.int .u32)) x,[],[]⟩
def aM.add:aM.D→aM.Y→aM.X:=fun b y=>y
def aM.L0.aD:aM.L0.D→Prop:=fun(b,m,i,l)=>64≤b.length∧∃k:Nat,k≤16∧i=k∧k=m∧l=wl ((words b).take k)
def aM.L0.F:aM.L0.D→aM.L0.Y:=fun(b,m,i,l)=>(16,wl (words b))
def aM.L1.aD:aM.L1.D→Prop:=fun(m,i,l)=>∃ws:List W,16≤ws.length∧ws.length≤64∧l=wl ws∧m=ws.length∧i=(ws.length:Nat)
def aM.L1.F:aM.L1.D→aM.L1.Y:=fun(m,i,l)=>(64,wl (B0 (BP l) (64 - l.length)))
def aM.aD:aM.D→Prop:=fun b=>64≤b.length
def aM.F:aM.D→aM.Y:=fun b=>wl (sched b)
noncomputable def aM.G:dV:=eY (P:=Tryz.prog) [de.sg]
noncomputable def aM.L0.E:=bP.cv aM.L0.st aM.L0.aD aM.L0.add aM.L0.F aM.L0.out
noncomputable def aM.L0.call:aM.L0.D→Option aM.L0.X:=dk aM.L0.E aM.L0.st
noncomputable def aM.L1.E:=bP.cv aM.L1.st aM.L1.aD aM.L1.add aM.L1.F aM.L1.out
noncomputable def aM.L1.call:aM.L1.D→Option aM.L1.X:=dk aM.L1.E aM.L1.st
noncomputable def aM.an:eJ:= {loops:=jJ [(3,{bn:=[0,3,4],sites:=[49],iH:=[⟨3,[],49,162⟩]}),(7,{bn:=[3,5],sites:=[49],iH:=[⟨3,[],49,162⟩]})],outs:=jI [(3,{bn:=[3],sites:=[49]},{bn:=[2]}),(7,{bn:=[3],sites:=[49]},{bn:=[2]})],fJ:=kz [(3,aM.L0.E),(7,aM.L1.E)],res:=[some (.slice (.int .u32))]}
noncomputable def aM.A:= @cK Tryz.prog aM.G aM.an 0 Tryz.f171 _ aM.st
abbrev aM.Ok:=cM @aM.A aM.aD aM.add aM.F aM.out
noncomputable def aM.L0.R:= @bV Tryz.prog aM.G aM.an 0 Tryz.f171 0 _ aM.L0.st
abbrev aM.L0.Ok:=eA Tryz.prog aM.G aM.an 0 Tryz.f171 0 aM.L0.st aM.L0.aD aM.L0.add aM.L0.F aM.L0.out
noncomputable def aM.L1.R:= @bV Tryz.prog aM.G aM.an 0 Tryz.f171 1 _ aM.L1.st
abbrev aM.L1.Ok:=eA Tryz.prog aM.G aM.an 0 Tryz.f171 1 aM.L1.st aM.L1.aD aM.L1.add aM.L1.F aM.L1.out
theorem aM.L0.run:bE aM.L0.call aM.L0.aD aM.L0.add aM.L0.F:=eK (eI [.d tB,.n,.d ti,.d (.slice (.int .u32))] fun _=>by kernel_rfl)
theorem aM.L0.aG:fX @aM.L0.R aM.L0.st aM.L0.aD aM.L0.add aM.L0.F aM.L0.bw aM.L0.Ok:=gf
theorem aM.L0.step{R:Type}(b_2:Bs)(wL:Nat)(i:Int)(n49:(List Int))(kn:AS→Option R)(kx:Exit→AS→Option R):aM.L0.R (b_2,wL,i,n49) kn kx=
  aF ((gb i (16:Int))) (
   aF (dS (eW .i64 (4:Int) i) (((List.length b_2):Nat):Int)) (
   aF (dS (bO .i64 (eW .i64 (4:Int) i) (1:Int)) (((List.length b_2):Nat):Int)) (
   aF (dS (bO .i64 (eW .i64 (4:Int) i) (2:Int)) (((List.length b_2):Nat):Int)) (
   aF (dS (bO .i64 (eW .i64 (4:Int) i) (3:Int)) (((List.length b_2):Nat):Int)) (
   aF (decide (wL≤(List.length n49))) (
   aF (du (wL+1) 4) (
   kn (aM.L0.st (b_2,(wL+1),(bO .i64 i (1:Int)),((List.take wL n49)++ [(ct .or .u32 (ct .or .u32 (ct .or .u32 (gC .u32 (dJ .u32 (nth tb b_2 (Int.toNat (eW .i64 (4:Int) i)))) (24:Int)) (gC .u32 (dJ .u32 (nth tb b_2 (Int.toNat (bO .i64 (eW .i64 (4:Int) i) (1:Int))))) (16:Int))) (gC .u32 (dJ .u32 (nth tb b_2 (Int.toNat (bO .i64 (eW .i64 (4:Int) i) (2:Int))))) (8:Int))) (dJ .u32 (nth tb b_2 (Int.toNat (bO .i64 (eW .i64 (4:Int) i) (3:Int))))))])))) none) none) none) none) none) none) (
   kx (aM.L0.bw (wL,n49)).1 (aM.L0.bw (wL,n49)).2):=by kernel_rfl
theorem aM.L1.run:bE aM.L1.call aM.L1.aD aM.L1.add aM.L1.F:=eK (eI [.n,.d ti,.d (.slice (.int .u32))] fun _=>by kernel_rfl)
theorem aM.L1.aG:fX @aM.L1.R aM.L1.st aM.L1.aD aM.L1.add aM.L1.F aM.L1.bw aM.L1.Ok:=gf
theorem aM.L1.step{R:Type}(wL_2:Nat)(i_2:Int)(n49_2:(List Int))(kn:AS→Option R)(kx:Exit→AS→Option R):aM.L1.R (wL_2,i_2,n49_2) kn kx=
  aF ((gb i_2 (64:Int))) (
   aF (dS (bT .i64 i_2 (15:Int)) ((wL_2:Nat):Int)) (
   aF (decide ((0+(Int.toNat (bT .i64 i_2 (15:Int)))) < (List.length n49_2))) (
   aF (decide ((((0+(Int.toNat (bT .i64 i_2 (15:Int))))*1)+0)=(0+((Int.toNat (bT .i64 i_2 (15:Int)))*1)))) (
   aF (dS (bT .i64 i_2 (2:Int)) ((wL_2:Nat):Int)) (
   aF (decide ((0+(Int.toNat (bT .i64 i_2 (2:Int)))) < (List.length n49_2))) (
   aF (decide ((((0+(Int.toNat (bT .i64 i_2 (2:Int))))*1)+0)=(0+((Int.toNat (bT .i64 i_2 (2:Int)))*1)))) (
   ae (de.call ((nth (.int .u32) n49_2 (0+(Int.toNat (bT .i64 i_2 (15:Int))))),(7:Int))) fun x1=>
   ae (de.call ((nth (.int .u32) n49_2 (0+(Int.toNat (bT .i64 i_2 (15:Int))))),(18:Int))) fun x2=>
   ae (de.call ((nth (.int .u32) n49_2 (0+(Int.toNat (bT .i64 i_2 (2:Int))))),(17:Int))) fun x3=>
   ae (de.call ((nth (.int .u32) n49_2 (0+(Int.toNat (bT .i64 i_2 (2:Int))))),(19:Int))) fun x4=>
   aF (dS (bT .i64 i_2 (16:Int)) ((wL_2:Nat):Int)) (
   aF (decide ((0+(Int.toNat (bT .i64 i_2 (16:Int)))) < (List.length n49_2))) (
   aF (decide ((((0+(Int.toNat (bT .i64 i_2 (16:Int))))*1)+0)=(0+((Int.toNat (bT .i64 i_2 (16:Int)))*1)))) (
   aF (dS (bT .i64 i_2 (7:Int)) ((wL_2:Nat):Int)) (
   aF (decide ((0+(Int.toNat (bT .i64 i_2 (7:Int)))) < (List.length n49_2))) (
   aF (decide ((((0+(Int.toNat (bT .i64 i_2 (7:Int))))*1)+0)=(0+((Int.toNat (bT .i64 i_2 (7:Int)))*1)))) (
   aF (decide (wL_2≤(List.length n49_2))) (
   aF (du (wL_2+1) 4) (
   kn (aM.L1.st ((wL_2+1),(bO .i64 i_2 (1:Int)),((List.take wL_2 n49_2)++ [(bO .u32 (bO .u32 (bO .u32 (nth (.int .u32) n49_2 (0+(Int.toNat (bT .i64 i_2 (16:Int))))) (ct .xor .u32 (ct .xor .u32 x1 x2) (bQ .u32 (nth (.int .u32) n49_2 (0+(Int.toNat (bT .i64 i_2 (15:Int))))) (3:Int)))) (nth (.int .u32) n49_2 (0+(Int.toNat (bT .i64 i_2 (7:Int)))))) (ct .xor .u32 (ct .xor .u32 x3 x4) (bQ .u32 (nth (.int .u32) n49_2 (0+(Int.toNat (bT .i64 i_2 (2:Int))))) (10:Int))))])))) none) none) none) none) none) none) none) none) none) none) none) none) none) none) (
   kx (aM.L1.bw (wL_2,n49_2)).1 (aM.L1.bw (wL_2,n49_2)).2):=by kernel_rfl
theorem aM.eq{R:Type}(b:Bs)(k:aZ→Option R):aM.A b k=
 ae (aM.L0.call (b,0,(0:Int),([]:List Int))) fun x1=>
 ae (aM.L1.call (x1.1,(16:Int),x1.2)) fun x10=>
 aF (decide (0=0∧(0+x10.1)≤(List.length x10.2))) (
 k (aM.out (cut x10.2 0 x10.1))) none:=by kernel_rfl
theorem kS(ws:List W):(wl ws).length=ws.length:=by simp[wl]
theorem zq(m:List W):∀n,B0 (ext m) n=B0 m (n+1)
 | 0=>rfl
 |n+1=>by rw[B0,zq m n];rfl
theorem C6(b:List Int)(k:Nat)(h:4*k+3 < b.length):be b k=DT (nth (.int .u8) b (4*k)) (nth (.int .u8) b (4*k+1)) (nth (.int .u8) b (4*k+2)) (nth (.int .u8) b (4*k+3)):=rfl
theorem aM.L0.ok:aM.L0.Ok:=by
 refine aM.L0.aG (fun(b,m,i,l)=>16 - m) ?_
 rintro⟨b,m,i,l⟩ ⟨hb,k,hk,rfl,rfl,rfl⟩
 have hb:64≤b.length:=hb
 have hl:(wl ((words b).take k)).length=k:=by rw[kS,List.length_take,eo];omega
 by_cases h:k < 16
 ·left
  refine⟨(b,k+1,((k+1:Nat):Int),wl ((words b).take (k+1))),⟨hb,k+1,by omega,rfl,rfl,rfl⟩,by simp only;omega,rfl,fun kn kx=> ?_⟩
  rw[aM.L0.step]
  simp(disch:=omega) only[↓S1,↓if_pos,↓if_neg,if_pos,if_neg,if_true,if_false,S2,hl,List.take_of_length_le (Nat.le_of_eq hl)]
  rw[List.take_succ_eq_append_getElem (by rw[eo];exact h)]
  simp only[yP,po,il,wl,List.map_append,List.map_cons,List.map_nil]
  have e:(words b)[k]'(by rw[eo];exact h)=be b k:=by simp[words]
  rw[e,C6 b k (by omega)]
  rfl
 ·right
  obtain rfl:k=16:=by omega
  intro R kn kx
  rw[aM.L0.step]
  simp(disch:=omega) only[↓S1,↓if_pos,↓if_neg,if_pos,if_neg,if_true,if_false,S2,aM.L0.add,aM.L0.F]
  rw[List.take_of_length_le (by rw[eo];omega)]
theorem aM.L1.ok:aM.L1.Ok:=by
 refine aM.L1.aG (fun(m,i,l)=>64 - m) ?_
 rintro⟨m,i,l⟩ ⟨ws,h1,h2,rfl,rfl,rfl⟩
 have hl:=kS ws
 by_cases h:ws.length < 64
 ·left
  refine⟨(ws.length+1,((ws.length+1:Nat):Int),wl (ext ws)),⟨ext ws,by rw[jG];omega,by rw[jG];omega,rfl,by rw[jG],by rw[jG]⟩,by simp only;omega,?_,fun kn kx=> ?_⟩
  ·simp only[aM.L1.add,aM.L1.F,mL,kS,jG]
   rw[zq,show 64 - (ws.length+1)+1=64 - ws.length by omega]
  ·rw[aM.L1.step]
   simp(disch:=omega) only[↓S1,↓if_pos,↓if_neg,if_pos,if_neg,if_true,if_false,S2,hl,Nat.zero_add,Nat.mul_one,Nat.add_zero,qE ws _ (by omega:ws.length - 15 < ws.length),qE ws _ (by omega:ws.length - 2 < ws.length),qE ws _ (by omega:ws.length - 16 < ws.length),qE ws _ (by omega:ws.length - 7 < ws.length),de.at,il,nC,l5,List.take_of_length_le (Nat.le_of_eq hl)]
   unfold ext wl
   rw[List.map_append]
   rfl
 ·right
  have h64:ws.length=64:=by omega
  intro R kn kx
  rw[aM.L1.step]
  simp(disch:=omega) only[↓S1,↓if_pos,↓if_neg,if_pos,if_neg,if_true,if_false,S2,aM.L1.add,aM.L1.F,hl,h64,mL,Nat.sub_self]
  rfl
theorem aM.ok:aM.Ok:=by
 intro b hb
 have p1:aM.L0.aD (b,0,0,[]):=⟨hb,0,by omega,rfl,rfl,rfl⟩
 have p2:aM.L1.aD (16,16,wl (words b)):=⟨words b,by rw[eo];omega,by rw[eo];omega,rfl,by rw[eo],by rw[eo];rfl⟩
 have hs:(sched b).length=64:=by unfold sched;rw[ln,eo]
 rw[aM.eq]
 simp(disch:=omega) only[↓S1,↓if_pos,↓if_neg,if_pos,if_neg,if_true,if_false,S2,aM.L0.run p1,aM.L0.add,aM.L0.F,aM.L1.run p2,aM.L1.add,aM.L1.F,mL,kS,eo,Nat.zero_add,Nat.reduceSub]
 have e:B0 (words b) 48=sched b:=rfl
 rw[e,hs,if_pos (Nat.le_refl _)]
 unfold cut
 rw[List.drop_zero,List.take_of_length_le (by rw[kS];omega)]
 simp only[aM.add,aM.F]
noncomputable def aM.E:=Entry.cv [some tB] aM.st aM.aD aM.add aM.F aM.out
noncomputable def aM.call:aM.D→Option aM.X:=bJ aM.E aM.st
theorem aM.run:bE aM.call aM.aD aM.add aM.F:=cQ (cP [.d tB] fun _=>by kernel_rfl)
noncomputable def aM.sg:SG Tryz.prog:=⟨171,aW,aM.E,.fn 2 (by kernel_rfl) aM.ok (And.intro (.cv aM.L0.ok (by kernel_rfl)) (And.intro (.cv aM.L1.ok (by kernel_rfl)) trivial))⟩
set_option synthInstance.maxSize 5000
abbrev aL.L0.D:=(List Int)×(List Int)×(List Int)×Nat×Int×(List Int)
def aL.L0.st:aL.L0.D→AS:=fun(h_2,wv,kv,vL,i,n18)=>⟨([.d (.slice (.int .u32)) h_2]++ba 4 ([.d (.slice (.int .u32)) wv,.d (.slice (.int .u32)) kv,.bU (.new 18 0) 0 [] 0 0 vL,.d ti i]++ba 146 [])),[],(bK 18 ([[.obj 0 false (.vec 127 (.int .u32) n18)]]++bK 136 []))⟩
abbrev aL.L0.Y0:=Nat×(List Int)
abbrev aL.L0.X0:=((List Int))×(Nat×(List Int))
def aL.L0.bw:aL.L0.X0→Exit×AS:=fun x=>(.exit 0,⟨([.d (.slice (.int .u32)) x.1]++ba 6 ([.bU (.new 18 0) 0 [] 0 0 x.2.1]++ba 147 [])),[],(bK 18 ([[.obj 0 false (.vec 127 (.int .u32) x.2.2)]]++bK 136 []))⟩)
abbrev aL.L0.X:=aL.L0.X0
abbrev aL.L0.Y:=aL.L0.Y0
def aL.L0.out:aL.L0.X→Out (Exit×AS):=fun x=> .ok (aL.L0.bw x)
def aL.L0.add:aL.L0.D→aL.L0.Y→aL.L0.X:=fun(h_2,wv,kv,vL,i,n18) y=>(h_2,y)
abbrev aL.L1.D:=(List Int)×Nat×Int×(List Int)
def aL.L1.st:aL.L1.D→AS:=fun(h_3,vL_2,i_2,n18_2)=>⟨([.d (.slice (.int .u32)) h_3]++ba 6 ([.bU (.new 18 0) 0 [] 0 0 vL_2]++ba 6 ([.d ti i_2]++ba 140 []))),[],(bK 18 ([[.obj 0 false (.vec 127 (.int .u32) n18_2)]]++bK 136 []))⟩
abbrev aL.L1.Y0:=(List Int)
abbrev aL.L1.X0:=(Nat)×((List Int))
def aL.L1.bw:aL.L1.X0→Exit×AS:=fun x=>(.exit 2,⟨(ba 7 ([.bU (.new 18 0) 0 [] 0 0 x.1]++ba 147 [])),[],(bK 18 ([[.obj 0 false (.vec 127 (.int .u32) x.2)]]++bK 136 []))⟩)
abbrev aL.L1.X:=aL.L1.X0
abbrev aL.L1.Y:=aL.L1.Y0
def aL.L1.out:aL.L1.X→Out (Exit×AS):=fun x=> .ok (aL.L1.bw x)
def aL.L1.add:aL.L1.D→aL.L1.Y→aL.L1.X:=fun(h_3,vL_2,i_2,n18_2) y=>(vL_2,y)
abbrev aL.D:=(List Int)×Bs
def aL.st:aL.D→SA:=fun(h,b)=>([.d (.slice (.int .u32)) h,.d tB b],[])
abbrev aL.Y:=(List Int)
abbrev aL.X:=(List Int)
def aL.out:aL.X→aZ:=fun x=>⟨.d (.slice (.int .u32)) x,[],[]⟩
def aL.add:aL.D→aL.Y→aL.X:=fun(h,b) y=>y
def aL.L0.aD:aL.L0.D→Prop:=fun(h,wv,kv,m,i,l)=>∃(s:St) (ws:List W) (k:Nat),h=s.l∧wv=wl ws∧ws.length=64∧k≤64∧i=k∧kv=ql∧m=8∧l=(rounds ws s k).l
def aL.L0.F:aL.L0.D→aL.L0.Y:=fun(h,wv,kv,m,i,l)=>(8,(rounds (BP wv) (vk h) 64).l)
def aL.L1.aD:aL.L1.D→Prop:=fun(h,m,i,l)=>h.length=8∧l.length=8∧m=8∧∃k:Nat,k≤8∧i=k
def aL.L1.F:aL.L1.D→aL.L1.Y:=fun(h,m,i,l)=>from_ (fun i x=>bO .u32 x (nth (.int .u32) h i)) i.toNat l
def aL.aD:aL.D→Prop:=fun(h,b)=>(∃s:St,h=s.l)∧64≤b.length
def aL.F:aL.D→aL.Y:=fun(h,b)=>(qo (vk h) b).l
noncomputable def aL.G:dV:=eY (P:=Tryz.prog) [aM.sg,eg.sg,de.sg]
noncomputable def aL.L0.E:=bP.cv aL.L0.st aL.L0.aD aL.L0.add aL.L0.F aL.L0.out
noncomputable def aL.L0.call:aL.L0.D→Option aL.L0.X:=dk aL.L0.E aL.L0.st
noncomputable def aL.L1.E:=bP.cv aL.L1.st aL.L1.aD aL.L1.add aL.L1.F aL.L1.out
noncomputable def aL.L1.call:aL.L1.D→Option aL.L1.X:=dk aL.L1.E aL.L1.st
noncomputable def aL.an:eJ:= {bN:=[18,137],loops:=jJ [(5,{bn:=[0,5,6,7,8],sites:=[18,137],iH:=[⟨7,[],18,0⟩]}),(14,{bn:=[0,7,14],sites:=[18]})],outs:=jI [(5,{bn:=[0,7],sites:=[18]},{bn:=[4]}),(14,{bn:=[7],sites:=[18]},{bn:=[4]})],fJ:=kz [(5,aL.L0.E),(14,aL.L1.E)],res:=[some (.slice (.int .u32))]}
noncomputable def aL.A:= @cK Tryz.prog aL.G aL.an 0 Tryz.f156 _ aL.st
abbrev aL.Ok:=cM @aL.A aL.aD aL.add aL.F aL.out
noncomputable def aL.L0.R:= @bV Tryz.prog aL.G aL.an 0 Tryz.f156 0 _ aL.L0.st
abbrev aL.L0.Ok:=eA Tryz.prog aL.G aL.an 0 Tryz.f156 0 aL.L0.st aL.L0.aD aL.L0.add aL.L0.F aL.L0.out
noncomputable def aL.L1.R:= @bV Tryz.prog aL.G aL.an 0 Tryz.f156 1 _ aL.L1.st
abbrev aL.L1.Ok:=eA Tryz.prog aL.G aL.an 0 Tryz.f156 1 aL.L1.st aL.L1.aD aL.L1.add aL.L1.F aL.L1.out
theorem aL.L0.run:bE aL.L0.call aL.L0.aD aL.L0.add aL.L0.F:=eK (eI [.d (.slice (.int .u32)),.d (.slice (.int .u32)),.d (.slice (.int .u32)),.n,.d ti,.d (.slice (.int .u32))] fun _=>by kernel_rfl)
theorem aL.L0.aG:fX @aL.L0.R aL.L0.st aL.L0.aD aL.L0.add aL.L0.F aL.L0.bw aL.L0.Ok:=gf
theorem aL.L0.step{R:Type}(h_2:(List Int))(wv:(List Int))(kv:(List Int))(vL:Nat)(i:Int)(n18:(List Int))(kn:AS→Option R)(kx:Exit→AS→Option R):aL.L0.R (h_2,wv,kv,vL,i,n18) kn kx=
  aF ((gb i (64:Int))) (
   aF (dS (4:Int) ((vL:Nat):Int)) (
   aF (decide (4 < (List.length n18))) (
   ae (de.call ((nth (.int .u32) n18 4),(6:Int))) fun x1=>
   aF (dS (4:Int) ((vL:Nat):Int)) (
   aF (decide (4 < (List.length n18))) (
   ae (de.call ((nth (.int .u32) n18 4),(11:Int))) fun x2=>
   aF (dS (4:Int) ((vL:Nat):Int)) (
   aF (decide (4 < (List.length n18))) (
   ae (de.call ((nth (.int .u32) n18 4),(25:Int))) fun x3=>
   aF (dS (4:Int) ((vL:Nat):Int)) (
   aF (decide (4 < (List.length n18))) (
   aF (dS (5:Int) ((vL:Nat):Int)) (
   aF (decide (5 < (List.length n18))) (
   aF (dS (4:Int) ((vL:Nat):Int)) (
   aF (decide (4 < (List.length n18))) (
   aF (dS (6:Int) ((vL:Nat):Int)) (
   aF (decide (6 < (List.length n18))) (
   aF (dS (7:Int) ((vL:Nat):Int)) (
   aF (decide (7 < (List.length n18))) (
   aF (dS i (((List.length kv):Nat):Int)) (
   aF (dS i (((List.length wv):Nat):Int)) (
   aF (dS (0:Int) ((vL:Nat):Int)) (
   aF (decide (0 < (List.length n18))) (
   ae (de.call ((nth (.int .u32) n18 0),(2:Int))) fun x4=>
   aF (dS (0:Int) ((vL:Nat):Int)) (
   aF (decide (0 < (List.length n18))) (
   ae (de.call ((nth (.int .u32) n18 0),(13:Int))) fun x5=>
   aF (dS (0:Int) ((vL:Nat):Int)) (
   aF (decide (0 < (List.length n18))) (
   ae (de.call ((nth (.int .u32) n18 0),(22:Int))) fun x6=>
   aF (dS (0:Int) ((vL:Nat):Int)) (
   aF (decide (0 < (List.length n18))) (
   aF (dS (1:Int) ((vL:Nat):Int)) (
   aF (decide (1 < (List.length n18))) (
   aF (dS (0:Int) ((vL:Nat):Int)) (
   aF (decide (0 < (List.length n18))) (
   aF (dS (2:Int) ((vL:Nat):Int)) (
   aF (decide (2 < (List.length n18))) (
   aF (dS (1:Int) ((vL:Nat):Int)) (
   aF (decide (1 < (List.length n18))) (
   aF (dS (2:Int) ((vL:Nat):Int)) (
   aF (decide (2 < (List.length n18))) (
   aF (dS (0:Int) ((vL:Nat):Int)) (
   aF (decide (0 < (List.length n18))) (
   aF (dS (1:Int) ((vL:Nat):Int)) (
   aF (decide (1 < (List.length n18))) (
   aF (dS (2:Int) ((vL:Nat):Int)) (
   aF (decide (2 < (List.length n18))) (
   aF (dS (3:Int) ((vL:Nat):Int)) (
   aF (decide (3 < (List.length n18))) (
   aF (dS (4:Int) ((vL:Nat):Int)) (
   aF (decide (4 < (List.length n18))) (
   aF (dS (5:Int) ((vL:Nat):Int)) (
   aF (decide (5 < (List.length n18))) (
   aF (dS (6:Int) ((vL:Nat):Int)) (
   aF (decide (6 < (List.length n18))) (
   kn (aL.L0.st (h_2,wv,kv,8,(bO .i64 i (1:Int)),[(bO .u32 (bO .u32 (bO .u32 (bO .u32 (bO .u32 (bO .u32 (nth (.int .u32) n18 7) (ct .xor .u32 (ct .xor .u32 x1 x2) x3)) (ct .xor .u32 (ct .and .u32 (nth (.int .u32) n18 4) (nth (.int .u32) n18 5)) (ct .and .u32 (Cl .u32 (nth (.int .u32) n18 4)) (nth (.int .u32) n18 6)))) (nth (.int .u32) kv (Int.toNat i))) (nth (.int .u32) wv (Int.toNat i))) (ct .xor .u32 (ct .xor .u32 x4 x5) x6)) (ct .xor .u32 (ct .xor .u32 (ct .and .u32 (nth (.int .u32) n18 0) (nth (.int .u32) n18 1)) (ct .and .u32 (nth (.int .u32) n18 0) (nth (.int .u32) n18 2))) (ct .and .u32 (nth (.int .u32) n18 1) (nth (.int .u32) n18 2)))),(nth (.int .u32) n18 0),(nth (.int .u32) n18 1),(nth (.int .u32) n18 2),(bO .u32 (nth (.int .u32) n18 3) (bO .u32 (bO .u32 (bO .u32 (bO .u32 (nth (.int .u32) n18 7) (ct .xor .u32 (ct .xor .u32 x1 x2) x3)) (ct .xor .u32 (ct .and .u32 (nth (.int .u32) n18 4) (nth (.int .u32) n18 5)) (ct .and .u32 (Cl .u32 (nth (.int .u32) n18 4)) (nth (.int .u32) n18 6)))) (nth (.int .u32) kv (Int.toNat i))) (nth (.int .u32) wv (Int.toNat i)))),(nth (.int .u32) n18 4),(nth (.int .u32) n18 5),(nth (.int .u32) n18 6)]))) none) none) none) none) none) none) none) none) none) none) none) none) none) none) none) none) none) none) none) none) none) none) none) none) none) none) none) none) none) none) none) none) none) none) none) none) none) none) none) none) none) none) none) none) none) none) none) none) none) none) (
   kx (aL.L0.bw (h_2,(vL,n18))).1 (aL.L0.bw (h_2,(vL,n18))).2):=by kernel_rfl
theorem aL.L1.run:bE aL.L1.call aL.L1.aD aL.L1.add aL.L1.F:=eK (eI [.d (.slice (.int .u32)),.n,.d ti,.d (.slice (.int .u32))] fun _=>by kernel_rfl)
theorem aL.L1.aG:fX @aL.L1.R aL.L1.st aL.L1.aD aL.L1.add aL.L1.F aL.L1.bw aL.L1.Ok:=gf
theorem aL.L1.step{R:Type}(h_3:(List Int))(vL_2:Nat)(i_2:Int)(n18_2:(List Int))(kn:AS→Option R)(kx:Exit→AS→Option R):aL.L1.R (h_3,vL_2,i_2,n18_2) kn kx=
  aF ((gb i_2 (8:Int))) (
   aF (dS i_2 ((vL_2:Nat):Int)) (
   aF (decide ((0+(Int.toNat i_2)) < (List.length n18_2))) (
   aF (decide ((((0+(Int.toNat i_2))*1)+0)=(0+((Int.toNat i_2)*1)))) (
   aF (dS i_2 (((List.length h_3):Nat):Int)) (
   aF (dS i_2 ((vL_2:Nat):Int)) (
   aF (decide ((0+(Int.toNat i_2)) < (List.length n18_2))) (
   aF (decide ((((0+(Int.toNat i_2))*1)+0)=(0+((Int.toNat i_2)*1)))) (
   aF (decide ((0+(Int.toNat i_2)) < (List.length n18_2))) (
   kn (aL.L1.st (h_3,vL_2,(bO .i64 i_2 (1:Int)),(List.set n18_2 (0+(Int.toNat i_2)) (bO .u32 (nth (.int .u32) n18_2 (0+(Int.toNat i_2))) (nth (.int .u32) h_3 (Int.toNat i_2))))))) none) none) none) none) none) none) none) none) (
   kx (aL.L1.bw (vL_2,n18_2)).1 (aL.L1.bw (vL_2,n18_2)).2):=by kernel_rfl
theorem aL.eq{R:Type}(h:(List Int))(b:Bs)(k:aZ→Option R):aL.A (h,b) k=
 ae (aM.call b) fun x1=>
 ae (eg.call ()) fun x2=>
 aF (du (0+(List.length h)) 4) (
 ae (aL.L0.call (h,x1,x2,(0+(List.length h)),(0:Int),((List.take 0 (List.replicate 0 (0:Int)))++h))) fun x15=>
 ae (aL.L1.call (x15.1,x15.2.1,(0:Int),x15.2.2)) fun x16=>
 aF (decide (0=0∧(0+x16.1)≤(List.length x16.2))) (
 k (aL.out (cut x16.2 0 x16.1))) none) none:=by kernel_rfl
theorem A9(w:W):Cl .u32 (vw w)=vw (~~~w):=by
 have e:(if IntKind.u32.signed then -1 else IntKind.u32.max:Int)=vw (BitVec.allOnes 32):=rfl
 unfold Cl
 rw[e,il]
 simp only[BitVec.allOnes_xor]
theorem DU(e f g:W):(e &&& f)^^^(~~~e &&& g)=g^^^(e &&& (f^^^g)):=by
 ext i hi
 simp only[BitVec.getElem_xor,BitVec.getElem_and,BitVec.getElem_not]
 cases e[i] <;> cases f[i] <;> cases g[i] <;> rfl
theorem Dm(a b c:W):(a &&& b)^^^(a &&& c)^^^(b &&& c)=(a &&& b) ||| (c &&& (a ||| b)):=by
 ext i hi
 simp only[BitVec.getElem_xor,BitVec.getElem_and,BitVec.getElem_or]
 cases a[i] <;> cases b[i] <;> cases c[i] <;> rfl
theorem aL.L0.ok:aL.L0.Ok:=by
 refine aL.L0.aG (fun(h,wv,kv,m,i,l)=>64 - i.toNat) ?_
 rintro⟨h,wv,kv,m,i,l⟩ ⟨s,ws,k,rfl,rfl,hw,hk,rfl,rfl,rfl,rfl⟩
 by_cases hlt:k < 64
 ·left
  refine⟨(s.l,wl ws,ql,8,((k+1:Nat):Int),(rounds ws s (k+1)).l),⟨s,ws,k+1,rfl,rfl,hw,by omega,rfl,rfl,rfl,rfl⟩,by simp only;omega,rfl,fun kn kx=> ?_⟩
  rw[aL.L0.step]
  generalize hv:rounds ws s k=v
  have t1:∀w:W,de.call (vw w,6)=some (vw (jN w 6)):=fun w=>de.at w (by omega)
  have t2:∀w:W,de.call (vw w,11)=some (vw (jN w 11)):=fun w=>de.at w (by omega)
  have t3:∀w:W,de.call (vw w,25)=some (vw (jN w 25)):=fun w=>de.at w (by omega)
  have t4:∀w:W,de.call (vw w,2)=some (vw (jN w 2)):=fun w=>de.at w (by omega)
  have t5:∀w:W,de.call (vw w,13)=some (vw (jN w 13)):=fun w=>de.at w (by omega)
  have t6:∀w:W,de.call (vw w,22)=some (vw (jN w 22)):=fun w=>de.at w (by omega)
  rw[n0,n1,n2,n3,n4,n5,n6,n7,t1,aa,t2,aa,t3,aa,t4,aa,t5,aa,t6,aa]
  simp(disch:=omega) only[↓S1,↓if_pos,↓if_neg,if_pos,if_neg,if_true,if_false,S2,St.wi,qJ,kS,hw,wh k hlt,qE ws k (by omega),il,l5,A9,DU,Dm]
  show kn _=kn (aL.L0.st (s.l,wl ws,ql,8,((k+1:Nat):Int),(EZ (rounds ws s k) (kw k) (ws.getD k 0)).l))
  rw[hv]
  rfl
 ·right
  obtain rfl:k=64:=by omega
  intro R kn kx
  rw[aL.L0.step]
  simp(disch:=omega) only[↓S1,↓if_pos,↓if_neg,if_pos,if_neg,if_true,if_false,S2,aL.L0.add,aL.L0.F,mL,g7]
theorem aL.L1.ok:aL.L1.Ok:=by
 refine aL.L1.aG (fun(h,m,i,l)=>8 - i.toNat) ?_
 rintro⟨h,m,i,l⟩ ⟨hh,hl,rfl,k,hk,rfl⟩
 have hl:l.length=8:=hl
 have hh:h.length=8:=hh
 by_cases hlt:k < 8
 ·left
  have hn:nth (.int .u32) l k=l[k]:=bZ (t:= .int .u32) (by omega)
  refine⟨(h,8,((k+1:Nat):Int),l.set k (bO .u32 l[k] (nth (.int .u32) h k))),⟨hh,by simpa using hl,rfl,k+1,by omega,rfl⟩,by simp only;omega,?_,fun kn kx=> ?_⟩
  ·simp only[aL.L1.add,aL.L1.F,Int.toNat_natCast]
   rw[nX (fun i x=>bO .u32 x (nth (.int .u32) h i)) l k (by omega)]
  ·rw[aL.L1.step]
   simp(disch:=omega) only[↓S1,↓if_pos,↓if_neg,if_pos,if_neg,if_true,if_false,S2,hl,hh,Nat.zero_add,Nat.mul_one,Nat.add_zero,hn]
 ·right
  obtain rfl:k=8:=by omega
  intro R kn kx
  rw[aL.L1.step]
  simp(disch:=omega) only[↓S1,↓if_pos,↓if_neg,if_pos,if_neg,if_true,if_false,S2,aL.L1.add,aL.L1.F]
  rw[pj _ _ _ (by omega)]
theorem Dn(s:St)(b:List Int):from_ (fun i x=>bO .u32 x (nth (.int .u32) s.l i)) 0 (rounds (sched b) s 64).l=(qo s b).l:=by
 unfold qo
 generalize rounds (sched b) s 64=v
 obtain⟨a1,b1,c1,d1,f1,g1,h1,i1⟩:=v
 simp only[St.l,from_,List.mapIdx_cons,List.mapIdx_nil,Nat.not_lt_zero,if_false,Nat.zero_add,Nat.reduceAdd]
 simp only[nth,List.getD_cons_zero,List.getD_cons_succ,l5]
theorem aL.ok:aL.Ok:=by
 rintro⟨h,b⟩ ⟨⟨s,rfl⟩,hb⟩
 have p0:aM.aD b:=hb
 have hsl:(sched b).length=64:=by unfold sched;rw[ln,eo]
 have p1:aL.L0.aD (s.l,wl (sched b),ql,8,0,s.l):=⟨s,sched b,0,rfl,rfl,hsl,by omega,rfl,rfl,rfl,rfl⟩
 have p2:aL.L1.aD (s.l,8,0,(rounds (sched b) s 64).l):=⟨rfl,rfl,rfl,0,by omega,rfl⟩
 have e0:0+s.l.length=8:=rfl
 have e1:List.take 0 (List.replicate 0 (0:Int))++s.l=s.l:=rfl
 rw[aL.eq]
 simp(disch:=omega) only[↓S1,↓if_pos,↓if_neg,if_pos,if_neg,if_true,if_false,S2,aM.run p0,aM.add,aM.F,eg.run (d:=()) trivial,eg.add,eg.F,e0,e1,aL.L0.run p1,aL.L0.add,aL.L0.F,mL,g7,aL.L1.run p2,aL.L1.add,aL.L1.F,Int.toNat_zero,Dn]
 have e2:(qo s b).l.length=8:=rfl
 have e3:cut (qo s b).l 0 8=(qo s b).l:=rfl
 simp only[e2,Nat.zero_add,Nat.le_refl,if_true,e3,aL.add,aL.F,g7]
noncomputable def aL.E:=Entry.cv [some (.slice (.int .u32)),some tB] aL.st aL.aD aL.add aL.F aL.out
noncomputable def aL.call:aL.D→Option aL.X:=bJ aL.E aL.st
theorem aL.run:bE aL.call aL.aD aL.add aL.F:=cQ (cP [.d (.slice (.int .u32)),.d tB] fun _=>by kernel_rfl)
noncomputable def aL.sg:SG Tryz.prog:=⟨156,aW,aL.E,.fn 2 (by kernel_rfl) aL.ok (And.intro (.cv aL.L0.ok (by kernel_rfl)) (And.intro (.cv aL.L1.ok (by kernel_rfl)) trivial))⟩
set_option synthInstance.maxSize 5000
abbrev bD.L0.D:=Bs×(List Int)×Int×Bs
def bD.L0.st:bD.L0.D→AS:=fun(p,h,i,n2)=>⟨([.undef,.undef,.ptr (.new 2 0) 0 [] 0,.d tB p,.d (.slice (.int .u32)) h,.d ti i]++ba 36 []),[],([[],[],[.obj 0 false (.d tH n2)]]++bK 39 [])⟩
abbrev bD.L0.Y0:=(List Int)
abbrev bD.L0.X0:=(Bs)×((List Int))
def bD.L0.bw:bD.L0.X0→Exit×AS:=fun x=>(.exit 0,⟨([.undef,.undef,.ptr (.new 2 0) 0 [] 0,.undef,.d (.slice (.int .u32)) x.2]++ba 37 []),[],([[],[],[.obj 0 false (.d tH x.1)]]++bK 39 [])⟩)
abbrev bD.L0.X:=bD.L0.X0
abbrev bD.L0.Y:=bD.L0.Y0
def bD.L0.out:bD.L0.X→Out (Exit×AS):=fun x=> .ok (bD.L0.bw x)
def bD.L0.add:bD.L0.D→bD.L0.Y→bD.L0.X:=fun(p,h,i,n2) y=>(n2,y)
abbrev bD.L1.D:=(List Int)×Int×Bs×Bs
def bD.L1.st:bD.L1.D→AS:=fun(h_2,i_2,n2_2,n6)=>⟨([.undef,.undef,.ptr (.new 2 0) 0 [] 0,.undef,.d (.slice (.int .u32)) h_2,.undef,.ptr (.new 6 0) 0 [] 0,.d ti i_2]++ba 34 []),[],([[],[],[.obj 0 false (.d tH n2_2)],[],[],[],[.obj 0 false (.d tH n6)]]++bK 35 [])⟩
abbrev bD.L1.Y0:=Bs
abbrev bD.L1.X0:=(Bs)×(Bs)
def bD.L1.bw:bD.L1.X0→Exit×AS:=fun x=>(.exit 2,⟨([.undef,.undef,.ptr (.new 2 0) 0 [] 0,.undef,.undef,.undef,.ptr (.new 6 0) 0 [] 0]++ba 35 []),[],([[],[],[.obj 0 false (.d tH x.1)],[],[],[],[.obj 0 false (.d tH x.2)]]++bK 35 [])⟩)
abbrev bD.L1.X:=bD.L1.X0
abbrev bD.L1.Y:=bD.L1.Y0
def bD.L1.out:bD.L1.X→Out (Exit×AS):=fun x=> .ok (bD.L1.bw x)
def bD.L1.add:bD.L1.D→bD.L1.Y→bD.L1.X:=fun(h_2,i_2,n2_2,n6) y=>(n2_2,y)
abbrev bD.D:=Bs
def bD.st:bD.D→SA:=fun b=>([.d tB b],[])
abbrev bD.Y:=Bs
abbrev bD.X:=Bs
def bD.out:bD.X→aZ:=fun x=>⟨.d tH x,[],[]⟩
def bD.add:bD.D→bD.Y→bD.X:=fun b y=>y
def bD.L0.aD:bD.L0.D→Prop:=fun(p,h,i,n2)=>p.length%64=0∧p.length≤140737488355328∧∃(s:St) (k:Nat),h=s.l∧i=((64*k:Nat):Int)∧64*k≤p.length
def bD.L0.F:bD.L0.D→bD.L0.Y:=fun(p,h,i,n2)=>(blocks (vk h) (p.drop i.toNat)).l
def bD.L1.aD:bD.L1.D→Prop:=fun(h,i,n2,l)=>h.length=8∧l.length=32∧∃k:Nat,k≤32∧i=k
def bD.L1.F:bD.L1.D→bD.L1.Y:=fun(h,i,n2,l)=>from_ (ou h) i.toNat l
def bD.aD:bD.D→Prop:=fun b=>b.length≤140737488350000
def bD.F:bD.D→bD.Y:=fun b=>Dw b
noncomputable def bD.G:dV:=eY (P:=Tryz.prog) [aB.sg,cw.sg,aL.sg]
noncomputable def bD.L0.E:=bP.cv bD.L0.st bD.L0.aD bD.L0.add bD.L0.F bD.L0.out
noncomputable def bD.L0.call:bD.L0.D→Option bD.L0.X:=dk bD.L0.E bD.L0.st
noncomputable def bD.L1.E:=bP.cv bD.L1.st bD.L1.aD bD.L1.add bD.L1.F bD.L1.out
noncomputable def bD.L1.call:bD.L1.D→Option bD.L1.X:=dk bD.L1.E bD.L1.st
noncomputable def bD.an:eJ:= {loops:=jJ [(4,{bn:=[2,3,4,5],sites:=[2]}),(9,{bn:=[2,4,6,7],sites:=[2,6]})],outs:=jI [(4,{bn:=[2,4],sites:=[2]},{bn:=[2]}),(9,{bn:=[2,6],sites:=[2,6]},{bn:=[2]})],fJ:=kz [(4,bD.L0.E),(9,bD.L1.E)]}
noncomputable def bD.A:= @cK Tryz.prog bD.G bD.an 0 Tryz.f123 _ bD.st
abbrev bD.Ok:=cM @bD.A bD.aD bD.add bD.F bD.out
noncomputable def bD.L0.R:= @bV Tryz.prog bD.G bD.an 0 Tryz.f123 0 _ bD.L0.st
abbrev bD.L0.Ok:=eA Tryz.prog bD.G bD.an 0 Tryz.f123 0 bD.L0.st bD.L0.aD bD.L0.add bD.L0.F bD.L0.out
noncomputable def bD.L1.R:= @bV Tryz.prog bD.G bD.an 0 Tryz.f123 1 _ bD.L1.st
abbrev bD.L1.Ok:=eA Tryz.prog bD.G bD.an 0 Tryz.f123 1 bD.L1.st bD.L1.aD bD.L1.add bD.L1.F bD.L1.out
theorem bD.L0.run:bE bD.L0.call bD.L0.aD bD.L0.add bD.L0.F:=eK (eI [.d tB,.d (.slice (.int .u32)),.d ti,.d tB] fun _=>by kernel_rfl)
theorem bD.L0.aG:fX @bD.L0.R bD.L0.st bD.L0.aD bD.L0.add bD.L0.F bD.L0.bw bD.L0.Ok:=gf
theorem bD.L0.step{R:Type}(p:Bs)(h:(List Int))(i:Int)(n2:Bs)(kn:AS→Option R)(kx:Exit→AS→Option R):bD.L0.R (p,h,i,n2) kn kx=
  aF ((gb i (((List.length p):Nat):Int))) (
   aF (inc (bO .i64 i (64:Int)) (((List.length p):Nat):Int)) (
   aF (inc i (((Int.toNat (bO .i64 i (64:Int))):Nat):Int)) (
   ae (aL.call (h,(cut p (Int.toNat i) ((Int.toNat (bO .i64 i (64:Int))) - (Int.toNat i))))) fun x1=>
   kn (bD.L0.st (p,x1,(bO .i64 i (64:Int)),n2))) none) none) (
   kx (bD.L0.bw (n2,h)).1 (bD.L0.bw (n2,h)).2):=by kernel_rfl
theorem bD.L1.run:bE bD.L1.call bD.L1.aD bD.L1.add bD.L1.F:=eK (eI [.d (.slice (.int .u32)),.d ti,.d tB,.d tB] fun _=>by kernel_rfl)
theorem bD.L1.aG:fX @bD.L1.R bD.L1.st bD.L1.aD bD.L1.add bD.L1.F bD.L1.bw bD.L1.Ok:=gf
theorem bD.L1.step{R:Type}(h_2:(List Int))(i_2:Int)(n2_2:Bs)(n6:Bs)(kn:AS→Option R)(kx:Exit→AS→Option R):bD.L1.R (h_2,i_2,n2_2,n6) kn kx=
  aF ((gb i_2 (32:Int))) (
   aF (dS (kX .i64 i_2 (4:Int)) (((List.length h_2):Nat):Int)) (
   aF (gR (bT .i64 (24:Int) (eW .i64 (8:Int) (jl i_2 (4:Int))))) (
   aF (dS i_2 (32:Int)) (
   aF (decide ((Int.toNat i_2) < (List.length n6))) (
   aF (decide ((((Int.toNat i_2)*1)+0)=(0+((Int.toNat i_2)*1)))) (
   aF (decide ((Int.toNat i_2) < (List.length n6))) (
   kn (bD.L1.st (h_2,(bO .i64 i_2 (1:Int)),n2_2,(List.set n6 (Int.toNat i_2) (dJ .u8 (bQ .u32 (nth (.int .u32) h_2 (Int.toNat (kX .i64 i_2 (4:Int)))) (bT .i64 (24:Int) (eW .i64 (8:Int) (jl i_2 (4:Int)))))))))) none) none) none) none) none) none) (
   kx (bD.L1.bw (n2_2,n6)).1 (bD.L1.bw (n2_2,n6)).2):=by kernel_rfl
theorem bD.eq{R:Type}(b:Bs)(k:aZ→Option R):bD.A b k=
 ae (aB.call b) fun x1=>
 ae (cw.call ()) fun x2=>
 ae (bD.L0.call (x1,x2,(0:Int),(List.replicate 32 (0:Int)))) fun x4=>
 ae (bD.L1.call (x4.2,(0:Int),x4.1,(List.replicate 32 (0:Int)))) fun x5=>
 k (bD.out x5.2):=by kernel_rfl
theorem bD.L0.ok:bD.L0.Ok:=by
 refine bD.L0.aG (fun(p,h,i,n2)=>p.length - i.toNat) ?_
 rintro⟨p,h,i,n2⟩ ⟨hm,hb,s,k,rfl,rfl,hk⟩
 have hm:p.length%64=0:=hm
 have hb:p.length≤140737488355328:=hb
 have hk:64*k≤p.length:=hk
 by_cases hlt:64*k < p.length
 ·left
  have e1:cut p (64*k) (64*k+64 - 64*k)=(p.drop (64*k)).take 64:=by unfold cut;rw[show 64*k+64 - 64*k=64 by omega]
  have e2:(p.drop (64*k)).drop 64=p.drop (64*(k+1)):=by rw[List.drop_drop];congr 1
  have e3:(64*(k+1):Nat)=64*k+64:=by omega
  have p1:aL.aD (s.l,(p.drop (64*k)).take 64):=⟨⟨s,rfl⟩,by simp;omega⟩
  refine⟨(p,(qo s ((p.drop (64*k)).take 64)).l,((64*(k+1):Nat):Int),n2),⟨hm,hb,_,k+1,rfl,rfl,by omega⟩,by simp only[Int.toNat_natCast];omega,?_,fun kn kx=> ?_⟩
  ·simp only[bD.L0.add,bD.L0.F,g7,Int.toNat_natCast]
   rw[nj s (p.drop (64*k)) (by simp;omega),e2]
  ·rw[bD.L0.step]
   simp(disch:=omega) only[↓S1,↓if_pos,↓if_neg,if_pos,if_neg,if_true,if_false,S2,e1,aL.run p1,aL.add,aL.F,g7,e3]
 ·right
  intro R kn kx
  rw[bD.L0.step]
  simp(disch:=omega) only[↓S1,↓if_pos,↓if_neg,if_pos,if_neg,if_true,if_false,S2,bD.L0.add,bD.L0.F,g7]
  rw[mi s _ (by simp;omega)]
theorem bD.L1.ok:bD.L1.Ok:=by
 refine bD.L1.aG (fun(h,i,n2,l)=>32 - i.toNat) ?_
 rintro⟨h,i,n2,l⟩ ⟨h8,hl,k,hk,rfl⟩
 have hl:l.length=32:=hl
 have h8:h.length=8:=h8
 by_cases hlt:k < 32
 ·left
  refine⟨(h,((k+1:Nat):Int),n2,l.set k (ou h k l[k])),⟨h8,by simpa using hl,k+1,by omega,rfl⟩,by simp only[Int.toNat_natCast];omega,?_,fun kn kx=> ?_⟩
  ·simp only[bD.L1.add,bD.L1.F,Int.toNat_natCast]
   rw[nX (ou h) l k (by omega)]
  ·rw[bD.L1.step]
   simp(disch:=omega) only[↓S1,↓if_pos,↓if_neg,if_pos,if_neg,if_true,if_false,S2,hl,h8,Nat.mul_one,Nat.add_zero,Nat.zero_add,ou]
 ·right
  obtain rfl:k=32:=by omega
  intro R kn kx
  rw[bD.L1.step]
  simp(disch:=omega) only[↓S1,↓if_pos,↓if_neg,if_pos,if_neg,if_true,if_false,S2,bD.L1.add,bD.L1.F]
  rw[pj _ _ _ (by omega)]
theorem yd(b:List Int):(pad b).length%64=0∧(pad b).length≤b.length+73:=by
 unfold pad
 simp only[List.length_append,List.length_cons,List.length_replicate,bR,k8]
 omega
theorem bD.ok:bD.Ok:=by
 intro b hb
 have hb:b.length≤140737488350000:=hb
 have p1:aB.aD b:=hb
 obtain⟨h1,h2⟩:=yd b
 have p2:bD.L0.aD (pad b,iR.l,0,List.replicate 32 0):=⟨h1,by omega,iR,0,rfl,rfl,by omega⟩
 have p3:bD.L1.aD ((blocks iR (pad b)).l,0,List.replicate 32 0,List.replicate 32 0):=⟨rfl,rfl,0,by omega,rfl⟩
 rw[bD.eq]
 simp(disch:=omega) only[↓S1,↓if_pos,↓if_neg,if_pos,if_neg,if_true,if_false,S2,aB.run p1,aB.add,aB.F,cw.run (d:=()) trivial,cw.add,cw.F,bD.L0.run p2,bD.L0.add,bD.L0.F,g7,Int.toNat_zero,List.drop_zero,bD.L1.run p3,bD.L1.add,bD.L1.F,y7]
 rfl
noncomputable def bD.E:=Entry.cv [some tB] bD.st bD.aD bD.add bD.F bD.out
noncomputable def bD.call:bD.D→Option bD.X:=bJ bD.E bD.st
theorem bD.run:bE bD.call bD.aD bD.add bD.F:=cQ (cP [.d tB] fun _=>by kernel_rfl)
noncomputable def bD.sg:SG Tryz.prog:=⟨123,aW,bD.E,.fn 2 (by kernel_rfl) bD.ok (And.intro (.cv bD.L0.ok (by kernel_rfl)) (And.intro (.cv bD.L1.ok (by kernel_rfl)) trivial))⟩
abbrev dU.D:=Int
def dU.st:dU.D→SA:=fun n=>([.d tu n],[])
abbrev dU.Y:=Nat×(List Int)
abbrev dU.X:=Nat×(List Int)
def dU.out:dU.X→aZ:=fun x=>⟨.bU (.new 0 0) 0 [] 0 0 x.1,[],[.obj 0 false (.vec 5 tb x.2)]⟩
def dU.add:dU.D→dU.Y→dU.X:=fun n y=>y
def dU.aD:dU.D→Prop:=fun n=>0≤n∧n < 18446744073709551616
def dU.F:dU.D→dU.Y:=fun n=>(8,fR n)
noncomputable def dU.G:dV:=eY (P:=Tryz.prog) []
noncomputable def dU.an:eJ:= {loops:=jJ [(3,{bn:=[0,3,4],sites:=[15]})],outs:=jI [(3,{bn:=[3],sites:=[15]},{bn:=[2],sites:=[15]})],iH:=[⟨2,[],15,25⟩]}
noncomputable def dU.A:= @cK Tryz.prog dU.G dU.an 10 Tryz.f122 _ dU.st
abbrev dU.Ok:=cM @dU.A dU.aD dU.add dU.F dU.out
theorem dU.eq{R:Type}(n:Int)(k:aZ→Option R):dU.A n k=
 k (dU.out (8,[(dJ .u8 (bQ .u64 n (56:Int))),(dJ .u8 (bQ .u64 n (48:Int))),(dJ .u8 (bQ .u64 n (40:Int))),(dJ .u8 (bQ .u64 n (32:Int))),(dJ .u8 (bQ .u64 n (24:Int))),(dJ .u8 (bQ .u64 n (16:Int))),(dJ .u8 (bQ .u64 n (8:Int))),(dJ .u8 (bQ .u64 n (0:Int)))])):=by kernel_rfl
theorem dU.ok:dU.Ok:=by
 intro n _
 have e:∀k:Nat,k≤64→dJ .u8 (bQ .u64 n (k:Int))=n / 2^k%256:=fun k hk=>xp n k hk
 rw[dU.eq]
 have e56:dJ .u8 (bQ .u64 n 56)=n / 2^56%256:=e 56 (by omega)
 have e48:dJ .u8 (bQ .u64 n 48)=n / 2^48%256:=e 48 (by omega)
 have e40:dJ .u8 (bQ .u64 n 40)=n / 2^40%256:=e 40 (by omega)
 have e32:dJ .u8 (bQ .u64 n 32)=n / 2^32%256:=e 32 (by omega)
 have e24:dJ .u8 (bQ .u64 n 24)=n / 2^24%256:=e 24 (by omega)
 have e16:dJ .u8 (bQ .u64 n 16)=n / 2^16%256:=e 16 (by omega)
 have e8:dJ .u8 (bQ .u64 n 8)=n / 2^8%256:=e 8 (by omega)
 have e0:=e 0 (by omega)
 rw[e56,e48,e40,e32,e24,e16,e8]
 have e0:dJ .u8 (bQ .u64 n 0)=n%256:=by rw[show(0:Int)=((0:Nat):Int) from rfl,e0];simp
 rw[e0]
 rfl
noncomputable def dU.E:=Entry.cv [some tu] dU.st dU.aD dU.add dU.F dU.out
noncomputable def dU.call:dU.D→Option dU.X:=bJ dU.E dU.st
theorem dU.run:bE dU.call dU.aD dU.add dU.F:=cQ (cP [.d tu] fun _=>by kernel_rfl)
noncomputable def dU.sg:SG Tryz.prog:=⟨122,aW,dU.E,.fn 1 (by kernel_rfl) dU.ok (And.intro (.none (by kernel_rfl)) trivial)⟩
abbrev cI.L0.D:=(List Bs)×Nat×Int×Bs×(List Int)
def cI.L0.st:cI.L0.D→AS:=fun(parts_2,bL,i,n4,n11)=>⟨([.undef,.d (.slice tB) parts_2,.undef,.undef,.ptr (.new 4 0) 0 [] 0,.bU (.new 11 0) 0 [] 0 0 bL,.d ti i]++ba 32 []),[],(bK 4 ([[.obj 0 false (.d tH n4)]]++bK 6 ([[.obj 0 false (.vec 5 tb n11)]]++bK 27 [])))⟩
abbrev cI.L0.Y0:=Nat×(List Int)
abbrev cI.L0.X0:=(Bs)×(Nat×(List Int))
def cI.L0.bw:cI.L0.X0→Exit×AS:=fun x=>(.exit 0,⟨(ba 4 ([.ptr (.new 4 0) 0 [] 0,.bU (.new 11 0) 0 [] 0 0 x.2.1]++ba 33 [])),[],(bK 4 ([[.obj 0 false (.d tH x.1)]]++bK 6 ([[.obj 0 false (.vec 5 tb x.2.2)]]++bK 27 [])))⟩)
abbrev cI.L0.X:=cI.L0.X0
abbrev cI.L0.Y:=cI.L0.Y0
def cI.L0.out:cI.L0.X→Out (Exit×AS):=fun x=> .ok (cI.L0.bw x)
def cI.L0.add:cI.L0.D→cI.L0.Y→cI.L0.X:=fun(parts_2,bL,i,n4,n11) y=>(n4,y)
abbrev cI.D:=ByteArray×(List Bs)
def cI.st:cI.D→SA:=fun(name,parts)=>([.d .str name,.d (.slice tB) parts],[])
abbrev cI.Y:=Bs
abbrev cI.X:=Bs
def cI.out:cI.X→aZ:=fun x=>⟨.d tH x,[],[]⟩
def cI.add:cI.D→cI.Y→cI.X:=fun(name,parts) y=>y
def cI.L0.aD:cI.L0.D→Prop:=fun(ps,m,i,n4,l)=>m=l.length∧∃k:Nat,k≤ps.length∧ps.length≤140737488350000∧i=k∧l.length+(hJ (ps.drop k)).length≤140737488350000
def cI.L0.F:cI.L0.D→cI.L0.Y:=fun(ps,m,i,n4,l)=>(l.length+(hJ (ps.drop i.toNat)).length,l++hJ (ps.drop i.toNat))
def cI.aD:cI.D→Prop:=fun(name,ps)=>(qA (bk name) ps).length≤140737488350000
def cI.F:cI.D→cI.Y:=fun(name,ps)=>tag (bk name) ps
noncomputable def cI.G:dV:=eY (P:=Tryz.prog) [dU.sg,bD.sg]
noncomputable def cI.L0.E:=bP.cv cI.L0.st cI.L0.aD cI.L0.add cI.L0.F cI.L0.out
noncomputable def cI.L0.call:cI.L0.D→Option cI.L0.X:=dk cI.L0.E cI.L0.st
noncomputable def cI.an:eJ:= {loops:=jJ [(3,{bn:=[1,4,5,6],sites:=[4,11],iH:=[⟨5,[],11,25⟩]})],outs:=jI [(3,{bn:=[4,5],sites:=[4,11]},{bn:=[4]})],fJ:=kz [(3,cI.L0.E)]}
noncomputable def cI.A:= @cK Tryz.prog cI.G cI.an 0 Tryz.f73 _ cI.st
abbrev cI.Ok:=cM @cI.A cI.aD cI.add cI.F cI.out
noncomputable def cI.L0.R:= @bV Tryz.prog cI.G cI.an 0 Tryz.f73 0 _ cI.L0.st
abbrev cI.L0.Ok:=eA Tryz.prog cI.G cI.an 0 Tryz.f73 0 cI.L0.st cI.L0.aD cI.L0.add cI.L0.F cI.L0.out
theorem cI.L0.run:bE cI.L0.call cI.L0.aD cI.L0.add cI.L0.F:=eK (eI [.d (.slice tB),.n,.d ti,.d tB,.d tB] fun _=>by kernel_rfl)
theorem cI.L0.aG:fX @cI.L0.R cI.L0.st cI.L0.aD cI.L0.add cI.L0.F cI.L0.bw cI.L0.Ok:=gf
theorem cI.L0.step{R:Type}(parts_2:(List Bs))(bL:Nat)(i:Int)(n4:Bs)(n11:(List Int))(kn:AS→Option R)(kx:Exit→AS→Option R):cI.L0.R (parts_2,bL,i,n4,n11) kn kx=
  aF ((gb i (((List.length parts_2):Nat):Int))) (
   aF (dS i (((List.length parts_2):Nat):Int)) (
   ae (dU.call (dJ .u64 (((List.length (nth tB parts_2 (Int.toNat i))):Nat):Int))) fun x1=>
   aF (decide (0=0∧(0+x1.1)≤(List.length x1.2))) (
   aF (decide (bL≤(List.length n11))) (
   aF (du (bL+(List.length (cut x1.2 0 x1.1))) 1) (
   aF (dS i (((List.length parts_2):Nat):Int)) (
   aF (decide ((bL+(List.length (cut x1.2 0 x1.1)))≤(List.length ((List.take bL n11)++(cut x1.2 0 x1.1))))) (
   aF (du ((bL+(List.length (cut x1.2 0 x1.1)))+(List.length (nth tB parts_2 (Int.toNat i)))) 1) (
   kn (cI.L0.st (parts_2,((bL+(List.length (cut x1.2 0 x1.1)))+(List.length (nth tB parts_2 (Int.toNat i)))),(bO .i64 i (1:Int)),n4,((List.take (bL+(List.length (cut x1.2 0 x1.1))) ((List.take bL n11)++(cut x1.2 0 x1.1)))++(nth tB parts_2 (Int.toNat i)))))) none) none) none) none) none) none) none) (
   kx (cI.L0.bw (n4,(bL,n11))).1 (cI.L0.bw (n4,(bL,n11))).2):=by kernel_rfl
theorem cI.eq{R:Type}(name:ByteArray)(parts:(List Bs))(k:aZ→Option R):cI.A (name,parts) k=
 ae (dU.call (dJ .u64 (((ByteArray.size name):Nat):Int))) fun x1=>
 aF (decide (x1.1≤(List.length x1.2))) (
 aF (du (x1.1+(List.length (bk name))) 1) (
 ae (cI.L0.call (parts,(x1.1+(List.length (bk name))),(0:Int),(List.replicate 32 (0:Int)),((List.take x1.1 x1.2)++(bk name)))) fun x4=>
 aF (decide (0=0∧(0+x4.2.1)≤(List.length x4.2.2))) (
 ae (bD.call (cut x4.2.2 0 x4.2.1)) fun x5=>
 k (cI.out x5)) none) none) none:=by kernel_rfl
theorem zm{n:Nat}(h:n < 18446744073709551616):dJ .u64 ((n:Nat):Int)=n:=by rw[uN,fN];omega
theorem dU.at{n:Nat}(h:n < 18446744073709551616):dU.call (n:Int)=some (8,fR (n:Int)):=dU.run (d:=(n:Int)) (show 0≤(n:Int)∧(n:Int) < 18446744073709551616 from⟨by omega,by omega⟩)
theorem DW{l:List Int}{n:Nat}(h:l.length=n):cut l 0 n=l:=by unfold cut;rw[List.drop_zero,List.take_of_length_le (by omega)]
theorem cI.L0.ok:cI.L0.Ok:=by
 refine cI.L0.aG (fun(ps,m,i,n4,l)=>ps.length - i.toNat) ?_
 rintro⟨ps,m,i,n4,l⟩ ⟨rfl,k,hk,hpl,rfl,hl⟩
 have hk:k≤ps.length:=hk
 have hpl:ps.length≤140737488350000:=hpl
 have hl:l.length+(hJ (ps.drop k)).length≤140737488350000:=hl
 by_cases h:k < ps.length
 ·left
  have ht:=ud ps k h
  have hlen:(hJ (ps.drop k)).length=8+ps[k].length+(hJ (ps.drop (k+1))).length:=by rw[ht];simp only[List.length_append,bR]
  have hn:nth (.slice (.int .u8)) ps k=ps[k]:=bZ (t:= .slice (.int .u8)) h
  have hlb:(l++fR (ps[k].length:Int)).length=l.length+8:=by simp[bR]
  refine⟨(ps,(l++fR ps[k].length++ps[k]).length,((k+1:Nat):Int),n4,l++fR ps[k].length++ps[k]),⟨rfl,k+1,by omega,hpl,rfl,?_⟩,by simp only[Int.toNat_natCast];omega,?_,fun kn kx=> ?_⟩
  ·simp only[List.length_append,bR];omega
  ·simp only[cI.L0.add,cI.L0.F,Int.toNat_natCast,ht,List.append_assoc]
   simp only[List.length_append,bR,Nat.add_assoc]
  ·have c8:cut (fR (ps[k].length:Int)) 0 8=fR (ps[k].length:Int):=DW (bR _)
   have h64:ps[k].length < 18446744073709551616:=by omega
   rw[cI.L0.step]
   simp(disch:=omega) only[↓S1,↓if_pos,↓if_neg,if_pos,if_neg,if_true,if_false,S2,hn,zm h64,dU.at h64,bR,c8,List.take_length,hlb,Nat.zero_add,Nat.le_refl,and_self,if_true]
   rw[List.take_of_length_le (by rw[hlb];omega)]
   simp only[List.length_append,bR,Nat.add_assoc]
 ·right
  obtain rfl:k=ps.length:=by omega
  intro R kn kx
  rw[cI.L0.step]
  simp(disch:=omega) only[↓S1,↓if_pos,↓if_neg,if_pos,if_neg,if_true,if_false,S2,cI.L0.add,cI.L0.F,List.drop_length]
  simp[hJ]
theorem cI.ok:cI.Ok:=by
 rintro⟨name,ps⟩ hp
 have hp:(fR (bk name).length++bk name++hJ ps).length≤140737488350000:=hp
 have hl:(fR (bk name).length++bk name++hJ ps).length=8+(bk name).length+(hJ ps).length:=by simp only[List.length_append,bR]
 have hpl:=sN ps
 have hsz:name.size=(bk name).length:=by rw[gq]
 have h64:(bk name).length < 18446744073709551616:=by omega
 have p2:cI.L0.aD (ps,8+(bk name).length,0,List.replicate 32 0,fR ((bk name).length:Int)++bk name):=by
  refine⟨by simp only[List.length_append,bR],0,Nat.zero_le _,by omega,rfl,?_⟩
  rw[List.drop_zero]
  simp only[List.length_append,bR]
  omega
 rw[cI.eq,hsz]
 simp(disch:=omega) only[↓S1,↓if_pos,↓if_neg,if_pos,if_neg,if_true,if_false,S2,zm h64,dU.at h64,bR,List.take_of_length_le (Nat.le_of_eq (bR _)),cI.L0.run p2,cI.L0.add,cI.L0.F,Int.toNat_zero,List.drop_zero,Nat.zero_add]
 have hcut:cut (fR ((bk name).length:Int)++bk name++hJ ps) 0 ((fR ((bk name).length:Int)++bk name).length+(hJ ps).length)=qA (bk name) ps:=DW (by simp only[List.length_append])
 have p3:bD.aD (qA (bk name) ps):=hp
 rw[if_pos (by simp only[List.length_append];omega),hcut,bD.run p3]
 rfl
noncomputable def cI.E:=Entry.cv [some .str,some (.slice tB)] cI.st cI.aD cI.add cI.F cI.out
noncomputable def cI.call:cI.D→Option cI.X:=bJ cI.E cI.st
theorem cI.run:bE cI.call cI.aD cI.add cI.F:=cQ (cP [.d .str,.d (.slice tB)] fun _=>by kernel_rfl)
noncomputable def cI.sg:SG Tryz.prog:=⟨73,aW,cI.E,.fn 1 (by kernel_rfl) cI.ok (And.intro (.cv cI.L0.ok (by kernel_rfl)) trivial)⟩
set_option synthInstance.maxSize 5000
theorem pW{n:Int}(h1:0≤n)(h2:n < 18446744073709551616):IntKind.u64.wrap n=n:=by
 rw[wrap_u64,fN];omega
theorem pV(n:Int):IntKind.u64.wrap n=n%18446744073709551616:=by
 rw[wrap_u64,fN];rfl
theorem kN(x y:Int):bO .u64 x y=(x+y)%18446744073709551616:=pV _
theorem rn(x y:Int):bT .u64 x y=(x - y)%18446744073709551616:=pV _
theorem kO(x y:Int):eW .u64 x y=(x*y)%18446744073709551616:=pV _
theorem A6(x:Int):dJ .u64 x=x%18446744073709551616:=pV _
theorem vE{x:Int}(h:0≤x)(h2:x < 18446744073709551616):ct .and .u64 x 4294967295=x%4294967296:=by
 obtain⟨n,rfl⟩:∃n:Nat,x=n:=⟨x.toNat,by omega⟩
 have e:(BitVec.ofInt 64 (n:Int) &&& BitVec.ofInt 64 4294967295).toNat=n%4294967296:=by
  rw[BitVec.toNat_and]
  have a:(BitVec.ofInt 64 (n:Int)).toNat=n:=by rw[BitVec.ofInt_natCast,BitVec.toNat_ofNat];omega
  have b:(BitVec.ofInt 64 4294967295).toNat=2^32 - 1:=by decide
  rw[a,b,Nat.and_two_pow_sub_one_eq_mod]
 show IntKind.u64.wrap ((BitVec.ofInt 64 (n:Int) &&& BitVec.ofInt 64 4294967295).toNat:Int)=_
 rw[e,pW (by omega) (by omega)];omega
theorem EH{x:Int}(h:0≤x)(h2:x < 18446744073709551616):ct .and .u64 x 1=x%2:=by
 obtain⟨n,rfl⟩:∃n:Nat,x=n:=⟨x.toNat,by omega⟩
 have e:(BitVec.ofInt 64 (n:Int) &&& BitVec.ofInt 64 1).toNat=n%2:=by
  rw[BitVec.toNat_and]
  have a:(BitVec.ofInt 64 (n:Int)).toNat=n:=by rw[BitVec.ofInt_natCast,BitVec.toNat_ofNat];omega
  have b:(BitVec.ofInt 64 1).toNat=2^1 - 1:=by decide
  rw[a,b,Nat.and_two_pow_sub_one_eq_mod]
 show IntKind.u64.wrap ((BitVec.ofInt 64 (n:Int) &&& BitVec.ofInt 64 1).toNat:Int)=_
 rw[e,pW (by omega) (by omega)];omega
theorem j1{x k:Int}(n:Nat)(hk:k=n)(hn:n≤64):bQ .u64 x k=x / 2^n:=by
 subst hk
 rw[bQ]
 have e:min (Int.toNat (n:Int)) IntKind.u64.bits=n:=by simp only[IntKind.bits];omega
 rw[e,Int.fdiv_eq_ediv_of_nonneg _ (Int.le_of_lt (Int.pow_pos (by omega)))]
theorem jZ{x k:Int}(n:Nat)(hk:k=n)(hn:n≤64):gC .u64 x k=x*2^n%18446744073709551616:=by
 subst hk
 rw[gC,pV]
 have e:min (Int.toNat (n:Int)) IntKind.u64.bits=n:=by simp only[IntKind.bits];omega
 rw[e]
theorem pC{x y:Int}(k:Nat)(m:Int)(hm:m=2^k)(hx:x%m=0)(h0:0≤x)(h1:x < 18446744073709551616)(hy:0≤y)(hy2:y < m)(h2:x+y < 18446744073709551616):ct .or .u64 x y=x+y:=by
 subst hm
 obtain⟨n,rfl⟩:∃n:Nat,x=n:=⟨x.toNat,by omega⟩
 obtain⟨j,rfl⟩:∃j:Nat,y=j:=⟨y.toNat,by omega⟩
 have hx:n%2^k=0:=by
  have:((n%2^k:Nat):Int)=0:=by rw[Int.natCast_emod];simpa using hx
  omega
 have hj:j < 2^k:=by
  have:((j:Nat):Int) < ((2^k:Nat):Int):=by simpa using hy2
  omega
 obtain⟨q,rfl⟩:∃q,n=2^k*q:=⟨n / 2^k,by have:=Nat.div_add_mod n (2^k);omega⟩
 have e:(BitVec.ofInt 64 ((2^k*q:Nat):Int) ||| BitVec.ofInt 64 (j:Int)).toNat=2^k*q+j:=by
  rw[BitVec.toNat_or]
  have a:(BitVec.ofInt 64 ((2^k*q:Nat):Int)).toNat=2^k*q:=by rw[BitVec.ofInt_natCast,BitVec.toNat_ofNat];exact Nat.mod_eq_of_lt (by omega)
  have b:(BitVec.ofInt 64 (j:Int)).toNat=j:=by rw[BitVec.ofInt_natCast,BitVec.toNat_ofNat];exact Nat.mod_eq_of_lt (by omega)
  rw[a,b,Nat.two_pow_add_eq_or_of_lt hj]
 show IntKind.u64.wrap ((BitVec.ofInt 64 ((2^k*q:Nat):Int) ||| BitVec.ofInt 64 (j:Int)).toNat:Int)=_
 rw[e,pW (by omega) (by omega)];omega
theorem yS{x y:Int}(h:0≤x)(h1:0≤y)(h2:x < 18446744073709551616):kX .u64 x y=x / y:=by
 rw[kX,Int.tdiv_eq_ediv_of_nonneg h]
 exact pW (Int.ediv_nonneg h h1) (Int.lt_of_le_of_lt (Int.ediv_le_self _ h) h2)
theorem nZ{x y:Int}(h:0≤x):jl x y=x%y:=by rw[jl,Int.tmod_eq_emod_of_nonneg h]
theorem k1{e u w r q:Int}(he:e=42260∨e=42264∨e=42272)(hu:0≤u)(hu2:u < 18446744073709551616 - e)(hw:0≤w)(hw2:w < 4294967296)(hr:0≤r)(hr2:r < 4294967296)
  (hq:q*4294967295+r=u) (hQ:(u*4294967296+w) / (18446744073709551616 - e)≤q):
  (4294967296≤q→(u*4294967296+w) / (18446744073709551616 - e)≤q - 1)∧
  (q < 4294967296→4294967296*r+w < q*(4294967296 - e)→(u*4294967296+w) / (18446744073709551616 - e)≤q - 1)∧
  (q < 4294967296→q*(4294967296 - e)≤4294967296*r+w→(u*4294967296+w) / (18446744073709551616 - e)=q)∧
  (4294967296≤r+4294967295→(u*4294967296+w) / (18446744073709551616 - e)≤q - 1→(u*4294967296+w) / (18446744073709551616 - e)=q - 1)∧0≤(u*4294967296+w) / (18446744073709551616 - e)∧q≤4294967297:=by
 rcases he with rfl | rfl | rfl
 ·refine⟨?_,?_,?_,?_,?_,?_⟩ <;> omega
 ·refine⟨?_,?_,?_,?_,?_,?_⟩ <;> omega
 ·refine⟨?_,?_,?_,?_,?_,?_⟩ <;> omega
theorem k0{e u w:Int}(he:e=42260∨e=42264∨e=42272)(hu:0≤u)(hu2:u < 18446744073709551616 - e)(hw:0≤w)(hw2:w < 4294967296):
  (u*4294967296+w) / (18446744073709551616 - e)≤u / 4294967295∧0≤u - u / 4294967295*4294967295∧u - u / 4294967295*4294967295 < 4294967296∧
  (u*4294967296+w) - (u*4294967296+w) / (18446744073709551616 - e)*(18446744073709551616 - e)=(u*4294967296+w)%(18446744073709551616 - e)∧
  0≤(u*4294967296+w)%(18446744073709551616 - e)∧(u*4294967296+w)%(18446744073709551616 - e) < 18446744073709551616 - e∧
  0≤(u*4294967296+w) / (18446744073709551616 - e)∧(u*4294967296+w) / (18446744073709551616 - e) < 4294967296:=by
 rcases he with rfl | rfl | rfl
 ·refine⟨?_,?_,?_,?_,?_,?_,?_,?_⟩ <;> omega
 ·refine⟨?_,?_,?_,?_,?_,?_,?_,?_⟩ <;> omega
 ·refine⟨?_,?_,?_,?_,?_,?_,?_,?_⟩ <;> omega
theorem kd(Y u w1 w0:Int)(hY:0 < Y)(h0:0≤w0)(h1:w0 < 4294967296):
  ((u*4294967296+w1)*4294967296+w0) / Y=(u*4294967296+w1) / Y*4294967296+((u*4294967296+w1)%Y*4294967296+w0) / Y∧
  ((u*4294967296+w1)*4294967296+w0)%Y=((u*4294967296+w1)%Y*4294967296+w0)%Y:=by
 generalize u*4294967296+w1=n
 have e:n*4294967296+w0=(n%Y*4294967296+w0)+Y*(n / Y*4294967296):=by
  have:=Int.emod_add_mul_ediv n Y
  have h:Y*(n / Y*4294967296)=(Y*(n / Y))*4294967296:=by rw[Int.mul_assoc]
  rw[h];omega
 rw[e,Int.add_mul_ediv_left _ _ (by omega),Int.add_mul_emod_self_left]
 exact⟨by omega,rfl⟩
abbrev dM.D:=Int
def dM.st:dM.D→SA:=fun x=>([.d tu x],[])
abbrev dM.Y:=Int
abbrev dM.X:=Int
def dM.out:dM.X→aZ:=fun x=>⟨.d ti x,[],[]⟩
def dM.add:dM.D→dM.Y→dM.X:=fun x y=>y
def D5(y:Int):Prop:=y=4611686018427377339∨y=2305843009213688669∨y=2305843009213688668
def dM.aD:dM.D→Prop:=D5
def dM.F:dM.D→dM.Y:=fun y=>if y=4611686018427377339 then 62 else 61
noncomputable def dM.G:dV:=eY (P:=Tryz.prog) []
noncomputable def dM.an:eJ:= {}
noncomputable def dM.A:= @cK Tryz.prog dM.G dM.an 0 Tryz.f183 _ dM.st
abbrev dM.Ok:=cM @dM.A dM.aD dM.add dM.F dM.out
theorem dM.eq{R:Type}(x:Int)(k:aZ→Option R):dM.A x k=
  aF ((l6 x (4294967296:Int))) (
   aF ((l6 (bQ .u64 x (32:Int)) (65536:Int))) (
    aF ((l6 (bQ .u64 (bQ .u64 x (32:Int)) (16:Int)) (256:Int))) (
     aF (dS (dJ .u8 (bQ .u64 (bQ .u64 (bQ .u64 x (32:Int)) (16:Int)) (8:Int))) (256:Int)) (
     k (dM.out (bO .i64 (56:Int) (dJ .i64 (w9 (⟨#[0,1,2,2,3,3,3,3,4,4,4,4,4,4,4,4,5,5,5,5,5,5,5,5,5,5,5,5,5,5,5,5,6,6,6,6,6,6,6,6,6,6,6,6,6,6,6,6,6,6,6,6,6,6,6,6,6,6,6,6,6,6,6,6,7,7,7,7,7,7,7,7,7,7,7,7,7,7,7,7,7,7,7,7,7,7,7,7,7,7,7,7,7,7,7,7,7,7,7,7,7,7,7,7,7,7,7,7,7,7,7,7,7,7,7,7,7,7,7,7,7,7,7,7,7,7,7,7,8,8,8,8,8,8,8,8,8,8,8,8,8,8,8,8,8,8,8,8,8,8,8,8,8,8,8,8,8,8,8,8,8,8,8,8,8,8,8,8,8,8,8,8,8,8,8,8,8,8,8,8,8,8,8,8,8,8,8,8,8,8,8,8,8,8,8,8,8,8,8,8,8,8,8,8,8,8,8,8,8,8,8,8,8,8,8,8,8,8,8,8,8,8,8,8,8,8,8,8,8,8,8,8,8,8,8,8,8,8,8,8,8,8,8,8,8,8,8,8,8,8,8,8,8,8,8,8]⟩:ByteArray) (dJ .u8 (bQ .u64 (bQ .u64 (bQ .u64 x (32:Int)) (16:Int)) (8:Int)))))))) none) (
     aF (dS (dJ .u8 (bQ .u64 (bQ .u64 x (32:Int)) (16:Int))) (256:Int)) (
     k (dM.out (bO .i64 (48:Int) (dJ .i64 (w9 (⟨#[0,1,2,2,3,3,3,3,4,4,4,4,4,4,4,4,5,5,5,5,5,5,5,5,5,5,5,5,5,5,5,5,6,6,6,6,6,6,6,6,6,6,6,6,6,6,6,6,6,6,6,6,6,6,6,6,6,6,6,6,6,6,6,6,7,7,7,7,7,7,7,7,7,7,7,7,7,7,7,7,7,7,7,7,7,7,7,7,7,7,7,7,7,7,7,7,7,7,7,7,7,7,7,7,7,7,7,7,7,7,7,7,7,7,7,7,7,7,7,7,7,7,7,7,7,7,7,7,8,8,8,8,8,8,8,8,8,8,8,8,8,8,8,8,8,8,8,8,8,8,8,8,8,8,8,8,8,8,8,8,8,8,8,8,8,8,8,8,8,8,8,8,8,8,8,8,8,8,8,8,8,8,8,8,8,8,8,8,8,8,8,8,8,8,8,8,8,8,8,8,8,8,8,8,8,8,8,8,8,8,8,8,8,8,8,8,8,8,8,8,8,8,8,8,8,8,8,8,8,8,8,8,8,8,8,8,8,8,8,8,8,8,8,8,8,8,8,8,8,8,8,8,8,8,8,8]⟩:ByteArray) (dJ .u8 (bQ .u64 (bQ .u64 x (32:Int)) (16:Int)))))))) none)) (
    aF ((l6 (bQ .u64 x (32:Int)) (256:Int))) (
     aF (dS (dJ .u8 (bQ .u64 (bQ .u64 x (32:Int)) (8:Int))) (256:Int)) (
     k (dM.out (bO .i64 (40:Int) (dJ .i64 (w9 (⟨#[0,1,2,2,3,3,3,3,4,4,4,4,4,4,4,4,5,5,5,5,5,5,5,5,5,5,5,5,5,5,5,5,6,6,6,6,6,6,6,6,6,6,6,6,6,6,6,6,6,6,6,6,6,6,6,6,6,6,6,6,6,6,6,6,7,7,7,7,7,7,7,7,7,7,7,7,7,7,7,7,7,7,7,7,7,7,7,7,7,7,7,7,7,7,7,7,7,7,7,7,7,7,7,7,7,7,7,7,7,7,7,7,7,7,7,7,7,7,7,7,7,7,7,7,7,7,7,7,8,8,8,8,8,8,8,8,8,8,8,8,8,8,8,8,8,8,8,8,8,8,8,8,8,8,8,8,8,8,8,8,8,8,8,8,8,8,8,8,8,8,8,8,8,8,8,8,8,8,8,8,8,8,8,8,8,8,8,8,8,8,8,8,8,8,8,8,8,8,8,8,8,8,8,8,8,8,8,8,8,8,8,8,8,8,8,8,8,8,8,8,8,8,8,8,8,8,8,8,8,8,8,8,8,8,8,8,8,8,8,8,8,8,8,8,8,8,8,8,8,8,8,8,8,8,8,8]⟩:ByteArray) (dJ .u8 (bQ .u64 (bQ .u64 x (32:Int)) (8:Int)))))))) none) (
     aF (dS (dJ .u8 (bQ .u64 x (32:Int))) (256:Int)) (
     k (dM.out (bO .i64 (32:Int) (dJ .i64 (w9 (⟨#[0,1,2,2,3,3,3,3,4,4,4,4,4,4,4,4,5,5,5,5,5,5,5,5,5,5,5,5,5,5,5,5,6,6,6,6,6,6,6,6,6,6,6,6,6,6,6,6,6,6,6,6,6,6,6,6,6,6,6,6,6,6,6,6,7,7,7,7,7,7,7,7,7,7,7,7,7,7,7,7,7,7,7,7,7,7,7,7,7,7,7,7,7,7,7,7,7,7,7,7,7,7,7,7,7,7,7,7,7,7,7,7,7,7,7,7,7,7,7,7,7,7,7,7,7,7,7,7,8,8,8,8,8,8,8,8,8,8,8,8,8,8,8,8,8,8,8,8,8,8,8,8,8,8,8,8,8,8,8,8,8,8,8,8,8,8,8,8,8,8,8,8,8,8,8,8,8,8,8,8,8,8,8,8,8,8,8,8,8,8,8,8,8,8,8,8,8,8,8,8,8,8,8,8,8,8,8,8,8,8,8,8,8,8,8,8,8,8,8,8,8,8,8,8,8,8,8,8,8,8,8,8,8,8,8,8,8,8,8,8,8,8,8,8,8,8,8,8,8,8,8,8,8,8,8,8]⟩:ByteArray) (dJ .u8 (bQ .u64 x (32:Int)))))))) none))) (
   aF ((l6 x (65536:Int))) (
    aF ((l6 (bQ .u64 x (16:Int)) (256:Int))) (
     aF (dS (dJ .u8 (bQ .u64 (bQ .u64 x (16:Int)) (8:Int))) (256:Int)) (
     k (dM.out (bO .i64 (24:Int) (dJ .i64 (w9 (⟨#[0,1,2,2,3,3,3,3,4,4,4,4,4,4,4,4,5,5,5,5,5,5,5,5,5,5,5,5,5,5,5,5,6,6,6,6,6,6,6,6,6,6,6,6,6,6,6,6,6,6,6,6,6,6,6,6,6,6,6,6,6,6,6,6,7,7,7,7,7,7,7,7,7,7,7,7,7,7,7,7,7,7,7,7,7,7,7,7,7,7,7,7,7,7,7,7,7,7,7,7,7,7,7,7,7,7,7,7,7,7,7,7,7,7,7,7,7,7,7,7,7,7,7,7,7,7,7,7,8,8,8,8,8,8,8,8,8,8,8,8,8,8,8,8,8,8,8,8,8,8,8,8,8,8,8,8,8,8,8,8,8,8,8,8,8,8,8,8,8,8,8,8,8,8,8,8,8,8,8,8,8,8,8,8,8,8,8,8,8,8,8,8,8,8,8,8,8,8,8,8,8,8,8,8,8,8,8,8,8,8,8,8,8,8,8,8,8,8,8,8,8,8,8,8,8,8,8,8,8,8,8,8,8,8,8,8,8,8,8,8,8,8,8,8,8,8,8,8,8,8,8,8,8,8,8,8]⟩:ByteArray) (dJ .u8 (bQ .u64 (bQ .u64 x (16:Int)) (8:Int)))))))) none) (
     aF (dS (dJ .u8 (bQ .u64 x (16:Int))) (256:Int)) (
     k (dM.out (bO .i64 (16:Int) (dJ .i64 (w9 (⟨#[0,1,2,2,3,3,3,3,4,4,4,4,4,4,4,4,5,5,5,5,5,5,5,5,5,5,5,5,5,5,5,5,6,6,6,6,6,6,6,6,6,6,6,6,6,6,6,6,6,6,6,6,6,6,6,6,6,6,6,6,6,6,6,6,7,7,7,7,7,7,7,7,7,7,7,7,7,7,7,7,7,7,7,7,7,7,7,7,7,7,7,7,7,7,7,7,7,7,7,7,7,7,7,7,7,7,7,7,7,7,7,7,7,7,7,7,7,7,7,7,7,7,7,7,7,7,7,7,8,8,8,8,8,8,8,8,8,8,8,8,8,8,8,8,8,8,8,8,8,8,8,8,8,8,8,8,8,8,8,8,8,8,8,8,8,8,8,8,8,8,8,8,8,8,8,8,8,8,8,8,8,8,8,8,8,8,8,8,8,8,8,8,8,8,8,8,8,8,8,8,8,8,8,8,8,8,8,8,8,8,8,8,8,8,8,8,8,8,8,8,8,8,8,8,8,8,8,8,8,8,8,8,8,8,8,8,8,8,8,8,8,8,8,8,8,8,8,8,8,8,8,8,8,8,8,8]⟩:ByteArray) (dJ .u8 (bQ .u64 x (16:Int)))))))) none)) (
    aF ((l6 x (256:Int))) (
     aF (dS (dJ .u8 (bQ .u64 x (8:Int))) (256:Int)) (
     k (dM.out (bO .i64 (8:Int) (dJ .i64 (w9 (⟨#[0,1,2,2,3,3,3,3,4,4,4,4,4,4,4,4,5,5,5,5,5,5,5,5,5,5,5,5,5,5,5,5,6,6,6,6,6,6,6,6,6,6,6,6,6,6,6,6,6,6,6,6,6,6,6,6,6,6,6,6,6,6,6,6,7,7,7,7,7,7,7,7,7,7,7,7,7,7,7,7,7,7,7,7,7,7,7,7,7,7,7,7,7,7,7,7,7,7,7,7,7,7,7,7,7,7,7,7,7,7,7,7,7,7,7,7,7,7,7,7,7,7,7,7,7,7,7,7,8,8,8,8,8,8,8,8,8,8,8,8,8,8,8,8,8,8,8,8,8,8,8,8,8,8,8,8,8,8,8,8,8,8,8,8,8,8,8,8,8,8,8,8,8,8,8,8,8,8,8,8,8,8,8,8,8,8,8,8,8,8,8,8,8,8,8,8,8,8,8,8,8,8,8,8,8,8,8,8,8,8,8,8,8,8,8,8,8,8,8,8,8,8,8,8,8,8,8,8,8,8,8,8,8,8,8,8,8,8,8,8,8,8,8,8,8,8,8,8,8,8,8,8,8,8,8,8]⟩:ByteArray) (dJ .u8 (bQ .u64 x (8:Int)))))))) none) (
     aF (dS (dJ .u8 x) (256:Int)) (
     k (dM.out (bO .i64 (0:Int) (dJ .i64 (w9 (⟨#[0,1,2,2,3,3,3,3,4,4,4,4,4,4,4,4,5,5,5,5,5,5,5,5,5,5,5,5,5,5,5,5,6,6,6,6,6,6,6,6,6,6,6,6,6,6,6,6,6,6,6,6,6,6,6,6,6,6,6,6,6,6,6,6,7,7,7,7,7,7,7,7,7,7,7,7,7,7,7,7,7,7,7,7,7,7,7,7,7,7,7,7,7,7,7,7,7,7,7,7,7,7,7,7,7,7,7,7,7,7,7,7,7,7,7,7,7,7,7,7,7,7,7,7,7,7,7,7,8,8,8,8,8,8,8,8,8,8,8,8,8,8,8,8,8,8,8,8,8,8,8,8,8,8,8,8,8,8,8,8,8,8,8,8,8,8,8,8,8,8,8,8,8,8,8,8,8,8,8,8,8,8,8,8,8,8,8,8,8,8,8,8,8,8,8,8,8,8,8,8,8,8,8,8,8,8,8,8,8,8,8,8,8,8,8,8,8,8,8,8,8,8,8,8,8,8,8,8,8,8,8,8,8,8,8,8,8,8,8,8,8,8,8,8,8,8,8,8,8,8,8,8,8,8,8,8]⟩:ByteArray) (dJ .u8 x)))))) none))):=by kernel_rfl
theorem dM.ok:dM.Ok:=by
 intro y h
 rw[dM.eq]
 obtain rfl | rfl | rfl:=h <;> kernel_rfl
noncomputable def dM.E:=Entry.cv [some tu] dM.st dM.aD dM.add dM.F dM.out
noncomputable def dM.call:dM.D→Option dM.X:=bJ dM.E dM.st
theorem dM.run:bE dM.call dM.aD dM.add dM.F:=cQ (cP [.d tu] fun _=>by kernel_rfl)
noncomputable def dM.sg:SG Tryz.prog:=⟨183,aW,dM.E,.fn 0 (by kernel_rfl) dM.ok trivial⟩
abbrev fB.D:=Int
def fB.st:fB.D→SA:=fun x=>([.d tu x],[])
abbrev fB.Y:=Int
abbrev fB.X:=Int
def fB.out:fB.X→aZ:=fun x=>⟨.d ti x,[],[]⟩
def fB.add:fB.D→fB.Y→fB.X:=fun x y=>y
def fB.aD:fB.D→Prop:=D5
def fB.F:fB.D→fB.Y:=fun y=>if y=4611686018427377339 then 2 else 3
noncomputable def fB.G:dV:=eY (P:=Tryz.prog) [dM.sg]
noncomputable def fB.an:eJ:= {}
noncomputable def fB.A:= @cK Tryz.prog fB.G fB.an 0 Tryz.f182 _ fB.st
abbrev fB.Ok:=cM @fB.A fB.aD fB.add fB.F fB.out
theorem fB.eq{R:Type}(x:Int)(k:aZ→Option R):fB.A x k=
 ae (dM.call x) fun x1=>
 k (fB.out (bT .i64 (64:Int) x1)):=by kernel_rfl
theorem fB.ok:fB.Ok:=by
 intro y h
 rw[fB.eq,dM.run (d:=y) h]
 obtain rfl | rfl | rfl:=h <;> rfl
noncomputable def fB.E:=Entry.cv [some tu] fB.st fB.aD fB.add fB.F fB.out
noncomputable def fB.call:fB.D→Option fB.X:=bJ fB.E fB.st
theorem fB.run:bE fB.call fB.aD fB.add fB.F:=cQ (cP [.d tu] fun _=>by kernel_rfl)
noncomputable def fB.sg:SG Tryz.prog:=⟨182,aW,fB.E,.fn 0 (by kernel_rfl) fB.ok trivial⟩
set_option synthInstance.maxSize 5000
abbrev aS.L0.D:=Int×Int×Int×Int×Int×Int×Int×Int×Int
def aS.L0.st:aS.L0.D→AS:=fun(yv_2,sv,yn1,yn0,un32,un1,un0,q1,rhat)=>⟨([.undef,.undef,.d tu yv_2]++ba 5 ([.d tu sv,.d tu yn1,.d tu yn0,.d tu un32,.undef,.d tu un1,.d tu un0,.d tu q1,.d tu rhat]++ba 118 [])),[],(List.replicate 135 [])⟩
abbrev aS.L0.Y0:=Int
abbrev aS.L0.X0:=(Int×Int×Int×Int×Int×Int×Int)×(Int)
def aS.L0.bw:aS.L0.X0→Exit×AS:=fun x=>(.exit 0,⟨([.undef,.undef,.d tu x.1.1]++ba 5 ([.d tu x.1.2.1,.d tu x.1.2.2.1,.d tu x.1.2.2.2.1,.d tu x.1.2.2.2.2.1,.undef,.d tu x.1.2.2.2.2.2.1,.d tu x.1.2.2.2.2.2.2,.d tu x.2]++ba 119 [])),[],(List.replicate 135 [])⟩)
abbrev aS.L0.X:=aS.L0.X0
abbrev aS.L0.Y:=aS.L0.Y0
def aS.L0.out:aS.L0.X→Out (Exit×AS):=fun x=> .ok (aS.L0.bw x)
def aS.L0.add:aS.L0.D→aS.L0.Y→aS.L0.X:=fun(yv_2,sv,yn1,yn0,un32,un1,un0,q1,rhat) y=>((yv_2,sv,yn1,yn0,un32,un1,un0),y)
abbrev aS.L1.D:=Int×Int×Int×Int×Int×Int×Int×Int×Int
def aS.L1.st:aS.L1.D→AS:=fun(yv_3,sv_2,yn1_2,yn0_2,un0_2,q1_2,rhat_2,un21,q0)=>⟨([.undef,.undef,.d tu yv_3]++ba 5 ([.d tu sv_2,.d tu yn1_2,.d tu yn0_2,.undef,.undef,.undef,.d tu un0_2,.d tu q1_2,.d tu rhat_2,.d tu un21,.d tu q0]++ba 116 [])),[],(List.replicate 135 [])⟩
abbrev aS.L1.Y0:=Int
abbrev aS.L1.X0:=(Int×Int×Int×Int×Int)×(Int)
def aS.L1.bw:aS.L1.X0→Exit×AS:=fun x=>(.exit 2,⟨([.undef,.undef,.d tu x.1.1]++ba 5 ([.d tu x.1.2.1]++ba 5 ([.d tu x.1.2.2.1,.d tu x.1.2.2.2.1,.undef,.d tu x.1.2.2.2.2,.d tu x.2]++ba 116 []))),[],(List.replicate 135 [])⟩)
abbrev aS.L1.X:=aS.L1.X0
abbrev aS.L1.Y:=aS.L1.Y0
def aS.L1.out:aS.L1.X→Out (Exit×AS):=fun x=> .ok (aS.L1.bw x)
def aS.L1.add:aS.L1.D→aS.L1.Y→aS.L1.X:=fun(yv_3,sv_2,yn1_2,yn0_2,un0_2,q1_2,rhat_2,un21,q0) y=>((yv_3,sv_2,un0_2,q1_2,un21),y)
abbrev aS.D:=Int×Int×Int
def aS.st:aS.D→SA:=fun(hi,lo,yv)=>([.d tu hi,.d tu lo,.d tu yv],[])
abbrev aS.Y:=Int×Int
abbrev aS.X:=Int×Int
def aS.out:aS.X→aZ:=fun x=>⟨.cons (.d tu x.1) (.cons (.d tu x.2) (.nil)),[],[]⟩
def aS.add:aS.D→aS.Y→aS.X:=fun(hi,lo,yv) y=>y
def aS.L0.aD:aS.L0.D→Prop:=fun(y,sv,yn1,yn0,u,w,un0,q,r)=>∃e:Int,(e=42260∨e=42264∨e=42272)∧y=18446744073709551616 - e∧yn1=4294967295∧yn0=4294967296 - e∧0≤u∧u < 18446744073709551616 - e∧0≤w∧w < 4294967296∧0≤r∧r < 4294967296∧q*4294967295+r=u∧(u*4294967296+w) / (18446744073709551616 - e)≤q
def aS.L0.F:aS.L0.D→aS.L0.Y:=fun(y,sv,yn1,yn0,u,w,un0,q,r)=>(u*4294967296+w) / y
def aS.L1.aD:aS.L1.D→Prop:=fun(y,sv,yn1,yn0,w,q1,r,u,q)=>∃e:Int,(e=42260∨e=42264∨e=42272)∧y=18446744073709551616 - e∧yn1=4294967295∧yn0=4294967296 - e∧0≤u∧u < 18446744073709551616 - e∧0≤w∧w < 4294967296∧0≤r∧r < 4294967296∧q*4294967295+r=u∧(u*4294967296+w) / (18446744073709551616 - e)≤q
def aS.L1.F:aS.L1.D→aS.L1.Y:=fun(y,sv,yn1,yn0,w,q1,r,u,q)=>(u*4294967296+w) / y
def aS.aD:aS.D→Prop:=fun(hi,lo,y)=>D5 y∧0≤hi∧hi < y∧0≤lo∧lo < 18446744073709551616
def aS.F:aS.D→aS.Y:=fun(hi,lo,y)=>((hi*18446744073709551616+lo) / y,(hi*18446744073709551616+lo)%y)
noncomputable def aS.G:dV:=eY (P:=Tryz.prog) [fB.sg]
noncomputable def aS.L0.E:=bP.cv aS.L0.st aS.L0.aD aS.L0.add aS.L0.F aS.L0.out
noncomputable def aS.L0.call:aS.L0.D→Option aS.L0.X:=dk aS.L0.E aS.L0.st
noncomputable def aS.L1.E:=bP.cv aS.L1.st aS.L1.aD aS.L1.add aS.L1.F aS.L1.out
noncomputable def aS.L1.call:aS.L1.D→Option aS.L1.X:=dk aS.L1.E aS.L1.st
noncomputable def aS.an:eJ:= {loops:=jJ [(17,{bn:=[2,8,9,10,11,13,14,15,16]}),(24,{bn:=[2,8,9,10,14,15,16,17,18]})],outs:=jI [(17,{bn:=[2,8,9,10,11,13,14,15]},{bn:=[6,7]}),(24,{bn:=[2,8,14,15,17,18]},{bn:=[6,7]})],fJ:=kz [(17,aS.L0.E),(24,aS.L1.E)]}
noncomputable def aS.A:= @cK Tryz.prog aS.G aS.an 0 Tryz.f174 _ aS.st
abbrev aS.Ok:=cM @aS.A aS.aD aS.add aS.F aS.out
noncomputable def aS.L0.R:= @bV Tryz.prog aS.G aS.an 0 Tryz.f174 0 _ aS.L0.st
abbrev aS.L0.Ok:=eA Tryz.prog aS.G aS.an 0 Tryz.f174 0 aS.L0.st aS.L0.aD aS.L0.add aS.L0.F aS.L0.out
noncomputable def aS.L1.R:= @bV Tryz.prog aS.G aS.an 0 Tryz.f174 1 _ aS.L1.st
abbrev aS.L1.Ok:=eA Tryz.prog aS.G aS.an 0 Tryz.f174 1 aS.L1.st aS.L1.aD aS.L1.add aS.L1.F aS.L1.out
theorem aS.L0.run:bE aS.L0.call aS.L0.aD aS.L0.add aS.L0.F:=eK (eI [.d tu,.d tu,.d tu,.d tu,.d tu,.d tu,.d tu,.d tu,.d tu] fun _=>by kernel_rfl)
theorem aS.L0.aG:fX @aS.L0.R aS.L0.st aS.L0.aD aS.L0.add aS.L0.F aS.L0.bw aS.L0.Ok:=gf
theorem aS.L0.step{R:Type}(yv_2:Int)(sv:Int)(yn1:Int)(yn0:Int)(un32:Int)(un1:Int)(un0:Int)(q1:Int)(rhat:Int)(kn:AS→Option R)(kx:Exit→AS→Option R):aS.L0.R (yv_2,sv,yn1,yn0,un32,un1,un0,q1,rhat) kn kx=
  aF ((l6 q1 (4294967296:Int))) (
   aF ((l6 (bO .u64 rhat yn1) (4294967296:Int))) (
    kx (aS.L0.bw ((yv_2,sv,yn1,yn0,un32,un1,un0),(bT .u64 q1 (1:Int)))).1 (aS.L0.bw ((yv_2,sv,yn1,yn0,un32,un1,un0),(bT .u64 q1 (1:Int)))).2) (
    kn (aS.L0.st (yv_2,sv,yn1,yn0,un32,un1,un0,(bT .u64 q1 (1:Int)),(bO .u64 rhat yn1))))) (
   aF ((mv (eW .u64 q1 yn0) (bO .u64 (eW .u64 (4294967296:Int) rhat) un1))) (
    aF ((l6 (bO .u64 rhat yn1) (4294967296:Int))) (
     kx (aS.L0.bw ((yv_2,sv,yn1,yn0,un32,un1,un0),(bT .u64 q1 (1:Int)))).1 (aS.L0.bw ((yv_2,sv,yn1,yn0,un32,un1,un0),(bT .u64 q1 (1:Int)))).2) (
     kn (aS.L0.st (yv_2,sv,yn1,yn0,un32,un1,un0,(bT .u64 q1 (1:Int)),(bO .u64 rhat yn1))))) (
    kx (aS.L0.bw ((yv_2,sv,yn1,yn0,un32,un1,un0),q1)).1 (aS.L0.bw ((yv_2,sv,yn1,yn0,un32,un1,un0),q1)).2)):=by kernel_rfl
theorem aS.L1.run:bE aS.L1.call aS.L1.aD aS.L1.add aS.L1.F:=eK (eI [.d tu,.d tu,.d tu,.d tu,.d tu,.d tu,.d tu,.d tu,.d tu] fun _=>by kernel_rfl)
theorem aS.L1.aG:fX @aS.L1.R aS.L1.st aS.L1.aD aS.L1.add aS.L1.F aS.L1.bw aS.L1.Ok:=gf
theorem aS.L1.step{R:Type}(yv_3:Int)(sv_2:Int)(yn1_2:Int)(yn0_2:Int)(un0_2:Int)(q1_2:Int)(rhat_2:Int)(un21:Int)(q0:Int)(kn:AS→Option R)(kx:Exit→AS→Option R):aS.L1.R (yv_3,sv_2,yn1_2,yn0_2,un0_2,q1_2,rhat_2,un21,q0) kn kx=
  aF ((l6 q0 (4294967296:Int))) (
   aF ((l6 (bO .u64 rhat_2 yn1_2) (4294967296:Int))) (
    kx (aS.L1.bw ((yv_3,sv_2,un0_2,q1_2,un21),(bT .u64 q0 (1:Int)))).1 (aS.L1.bw ((yv_3,sv_2,un0_2,q1_2,un21),(bT .u64 q0 (1:Int)))).2) (
    kn (aS.L1.st (yv_3,sv_2,yn1_2,yn0_2,un0_2,q1_2,(bO .u64 rhat_2 yn1_2),un21,(bT .u64 q0 (1:Int)))))) (
   aF ((mv (eW .u64 q0 yn0_2) (bO .u64 (eW .u64 (4294967296:Int) rhat_2) un0_2))) (
    aF ((l6 (bO .u64 rhat_2 yn1_2) (4294967296:Int))) (
     kx (aS.L1.bw ((yv_3,sv_2,un0_2,q1_2,un21),(bT .u64 q0 (1:Int)))).1 (aS.L1.bw ((yv_3,sv_2,un0_2,q1_2,un21),(bT .u64 q0 (1:Int)))).2) (
     kn (aS.L1.st (yv_3,sv_2,yn1_2,yn0_2,un0_2,q1_2,(bO .u64 rhat_2 yn1_2),un21,(bT .u64 q0 (1:Int)))))) (
    kx (aS.L1.bw ((yv_3,sv_2,un0_2,q1_2,un21),q0)).1 (aS.L1.bw ((yv_3,sv_2,un0_2,q1_2,un21),q0)).2)):=by kernel_rfl
theorem aS.eq{R:Type}(hi:Int)(lo:Int)(yv:Int)(k:aZ→Option R):aS.A (hi,lo,yv) k=
  aF ((kR yv (0:Int))) (
   none) (
   aF ((tK yv hi)) (
    none) (
    aF ((kR hi (0:Int))) (
     aF (iN yv) (
     aF (iN yv) (
     k (aS.out ((kX .u64 lo yv),(jl lo yv)))) none) none) (
     ae (fB.call yv) fun x1=>
     aF (gR (dJ .u64 x1)) (
     aF (gR (dJ .u64 x1)) (
     aF (gR (bT .u64 (64:Int) (dJ .u64 x1))) (
     aF (gR (dJ .u64 x1)) (
     aF (iN (bQ .u64 (gC .u64 yv (dJ .u64 x1)) (32:Int))) (
     ae (aS.L0.call ((gC .u64 yv (dJ .u64 x1)),(dJ .u64 x1),(bQ .u64 (gC .u64 yv (dJ .u64 x1)) (32:Int)),(ct .and .u64 (gC .u64 yv (dJ .u64 x1)) (4294967295:Int)),(ct .or .u64 (gC .u64 hi (dJ .u64 x1)) (bQ .u64 lo (bT .u64 (64:Int) (dJ .u64 x1)))),(bQ .u64 (gC .u64 lo (dJ .u64 x1)) (32:Int)),(ct .and .u64 (gC .u64 lo (dJ .u64 x1)) (4294967295:Int)),(kX .u64 (ct .or .u64 (gC .u64 hi (dJ .u64 x1)) (bQ .u64 lo (bT .u64 (64:Int) (dJ .u64 x1)))) (bQ .u64 (gC .u64 yv (dJ .u64 x1)) (32:Int))),(bT .u64 (ct .or .u64 (gC .u64 hi (dJ .u64 x1)) (bQ .u64 lo (bT .u64 (64:Int) (dJ .u64 x1)))) (eW .u64 (kX .u64 (ct .or .u64 (gC .u64 hi (dJ .u64 x1)) (bQ .u64 lo (bT .u64 (64:Int) (dJ .u64 x1)))) (bQ .u64 (gC .u64 yv (dJ .u64 x1)) (32:Int))) (bQ .u64 (gC .u64 yv (dJ .u64 x1)) (32:Int)))))) fun x2=>
     aF (iN x2.1.2.2.1) (
     ae (aS.L1.call (x2.1.1,x2.1.2.1,x2.1.2.2.1,x2.1.2.2.2.1,x2.1.2.2.2.2.2.2,x2.2,(bT .u64 (bT .u64 (bO .u64 (eW .u64 x2.1.2.2.2.2.1 (4294967296:Int)) x2.1.2.2.2.2.2.1) (eW .u64 x2.2 x2.1.1)) (eW .u64 (kX .u64 (bT .u64 (bO .u64 (eW .u64 x2.1.2.2.2.2.1 (4294967296:Int)) x2.1.2.2.2.2.2.1) (eW .u64 x2.2 x2.1.1)) x2.1.2.2.1) x2.1.2.2.1)),(bT .u64 (bO .u64 (eW .u64 x2.1.2.2.2.2.1 (4294967296:Int)) x2.1.2.2.2.2.2.1) (eW .u64 x2.2 x2.1.1)),(kX .u64 (bT .u64 (bO .u64 (eW .u64 x2.1.2.2.2.2.1 (4294967296:Int)) x2.1.2.2.2.2.2.1) (eW .u64 x2.2 x2.1.1)) x2.1.2.2.1))) fun x3=>
     aF (gR x3.1.2.1) (
     k (aS.out ((bO .u64 (eW .u64 x3.1.2.2.2.1 (4294967296:Int)) x3.2),(bQ .u64 (bT .u64 (bO .u64 (eW .u64 x3.1.2.2.2.2 (4294967296:Int)) x3.1.2.2.1) (eW .u64 x3.2 x3.1.1)) x3.1.2.1)))) none) none) none) none) none) none) none))):=by kernel_rfl
theorem aS.L0.ok:aS.L0.Ok:=by
 refine aS.L0.aG (fun(y,sv,yn1,yn0,u,w,un0,q,r)=>q.toNat) ?_
 rintro⟨y,sv,yn1,yn0,u,w,un0,q,r⟩ ⟨e,he,rfl,rfl,rfl,hu,hu2,hw,hw2,hr,hr2,hq,hQ⟩
 have hu:0≤u:=hu
 have hu2:u < 18446744073709551616 - e:=hu2
 have hw:0≤w:=hw
 have hw2:w < 4294967296:=hw2
 have hr:0≤r:=hr
 have hr2:r < 4294967296:=hr2
 have hq:q*4294967295+r=u:=hq
 obtain⟨k1,k2,k3,k4,k5,k6⟩:=k1 he hu hu2 hw hw2 hr hr2 hq hQ
 have q0:0≤q:=Int.le_trans k5 hQ
 have a1:bO .u64 r 4294967295=r+4294967295:=by rw[kN];omega
 have a2:bO .u64 (eW .u64 4294967296 r) w=4294967296*r+w:=by rw[kO,kN];omega
 have a3:q < 4294967296→eW .u64 q (4294967296 - e)=q*(4294967296 - e):=by
  intro h;rw[kO];rcases he with rfl | rfl | rfl <;> omega
 have a4:0 < q→bT .u64 q 1=q - 1:=by intro h;rw[rn];omega
 have pos:4294967296≤q∨(q < 4294967296∧4294967296*r+w < q*(4294967296 - e))→0 < q∧(u*4294967296+w) / (18446744073709551616 - e)≤q - 1:=by
  rintro(h | ⟨h,h2⟩)
  ·exact⟨by omega,k1 h⟩
  ·exact⟨by have:=k2 h h2;omega,k2 h h2⟩
 by_cases hc:4294967296≤q∨(q < 4294967296∧4294967296*r+w < q*(4294967296 - e))
 ·obtain⟨p1,p2⟩:=pos hc
  by_cases hb:4294967296≤r+4294967295
  ·right
   have hF:aS.L0.F (18446744073709551616 - e,sv,4294967295,4294967296 - e,u,w,un0,q,r)=q - 1:=k4 hb p2
   intro R kn kx
   rw[aS.L0.step,a1,a2,a4 p1,fF hb,hF]
   rcases hc with h | ⟨h,h2⟩
   ·rw[fF h];rfl
   ·rw[eM (by omega),a3 h,dG h2];rfl
  ·left
   refine⟨(18446744073709551616 - e,sv,4294967295,4294967296 - e,u,w,un0,q - 1,r+4294967295),⟨e,he,rfl,rfl,rfl,hu,hu2,hw,hw2,by omega,by omega,by omega,p2⟩,by simp only[];omega,rfl,fun kn kx=> ?_⟩
   rw[aS.L0.step,a1,a2,a4 p1,eM hb]
   rcases hc with h | ⟨h,h2⟩
   ·rw[fF h];rfl
   ·rw[eM (by omega),a3 h,dG h2];rfl
 ·right
  have h:q < 4294967296:=by omega
  have h2:¬4294967296*r+w < q*(4294967296 - e):=fun x=>hc (Or.inr ⟨h,x⟩)
  have hF:aS.L0.F (18446744073709551616 - e,sv,4294967295,4294967296 - e,u,w,un0,q,r)=q:=k3 h (by omega)
  intro R kn kx
  rw[aS.L0.step,a2,a3 h,eM (by omega),dx h2,hF]
  rfl
theorem aS.L1.ok:aS.L1.Ok:=by
 refine aS.L1.aG (fun(y,sv,yn1,yn0,w,q1,r,u,q)=>q.toNat) ?_
 rintro⟨y,sv,yn1,yn0,w,q1,r,u,q⟩ ⟨e,he,rfl,rfl,rfl,hu,hu2,hw,hw2,hr,hr2,hq,hQ⟩
 have hu:0≤u:=hu
 have hu2:u < 18446744073709551616 - e:=hu2
 have hw:0≤w:=hw
 have hw2:w < 4294967296:=hw2
 have hr:0≤r:=hr
 have hr2:r < 4294967296:=hr2
 have hq:q*4294967295+r=u:=hq
 obtain⟨k1,k2,k3,k4,k5,k6⟩:=k1 he hu hu2 hw hw2 hr hr2 hq hQ
 have q0:0≤q:=Int.le_trans k5 hQ
 have a1:bO .u64 r 4294967295=r+4294967295:=by rw[kN];omega
 have a2:bO .u64 (eW .u64 4294967296 r) w=4294967296*r+w:=by rw[kO,kN];omega
 have a3:q < 4294967296→eW .u64 q (4294967296 - e)=q*(4294967296 - e):=by
  intro h;rw[kO];rcases he with rfl | rfl | rfl <;> omega
 have a4:0 < q→bT .u64 q 1=q - 1:=by intro h;rw[rn];omega
 have pos:4294967296≤q∨(q < 4294967296∧4294967296*r+w < q*(4294967296 - e))→0 < q∧(u*4294967296+w) / (18446744073709551616 - e)≤q - 1:=by
  rintro(h | ⟨h,h2⟩)
  ·exact⟨by omega,k1 h⟩
  ·exact⟨by have:=k2 h h2;omega,k2 h h2⟩
 by_cases hc:4294967296≤q∨(q < 4294967296∧4294967296*r+w < q*(4294967296 - e))
 ·obtain⟨p1,p2⟩:=pos hc
  by_cases hb:4294967296≤r+4294967295
  ·right
   have hF:aS.L1.F (18446744073709551616 - e,sv,4294967295,4294967296 - e,w,q1,r,u,q)=q - 1:=k4 hb p2
   intro R kn kx
   rw[aS.L1.step,a1,a2,a4 p1,fF hb,hF]
   rcases hc with h | ⟨h,h2⟩
   ·rw[fF h];rfl
   ·rw[eM (by omega),a3 h,dG h2];rfl
  ·left
   refine⟨(18446744073709551616 - e,sv,4294967295,4294967296 - e,w,q1,r+4294967295,u,q - 1),⟨e,he,rfl,rfl,rfl,hu,hu2,hw,hw2,by omega,by omega,by omega,p2⟩,by simp only[];omega,rfl,fun kn kx=> ?_⟩
   rw[aS.L1.step,a1,a2,a4 p1,eM hb]
   rcases hc with h | ⟨h,h2⟩
   ·rw[fF h];rfl
   ·rw[eM (by omega),a3 h,dG h2];rfl
 ·right
  have h:q < 4294967296:=by omega
  have h2:¬4294967296*r+w < q*(4294967296 - e):=fun x=>hc (Or.inr ⟨h,x⟩)
  have hF:aS.L1.F (18446744073709551616 - e,sv,4294967295,4294967296 - e,w,q1,r,u,q)=q:=k3 h (by omega)
  intro R kn kx
  rw[aS.L1.step,a2,a3 h,eM (by omega),dx h2,hF]
  rfl
theorem De{y hi lo:Int}(hy:D5 y)(h0:0≤hi)(h1:hi < y)(h2:0≤lo)(h3:lo < 18446744073709551616):∃(s:Nat) (e m:Int),fB.F y=s∧(s=2∨s=3)∧m=2^s∧(e=42260∨e=42264∨e=42272)∧y*m=18446744073709551616 - e∧
  gC .u64 y (s:Int)=18446744073709551616 - e∧
  ct .or .u64 (gC .u64 hi (s:Int)) (bQ .u64 lo (bT .u64 64 (s:Int)))=(hi*18446744073709551616+lo)*m / 18446744073709551616∧
  gC .u64 lo (s:Int)=(hi*18446744073709551616+lo)*m%18446744073709551616∧
  (hi*18446744073709551616+lo)*m / 18446744073709551616 < 18446744073709551616 - e∧
  (hi*18446744073709551616+lo)*m / (18446744073709551616 - e)=(hi*18446744073709551616+lo) / y∧
  (hi*18446744073709551616+lo)*m%(18446744073709551616 - e) / m=(hi*18446744073709551616+lo)%y:=by
 have e1:bT .u64 64 ((2:Nat):Int)=((62:Nat):Int):=rfl
 have e2:bT .u64 64 ((3:Nat):Int)=((61:Nat):Int):=rfl
 have p2:(2:Int)^2=4:=rfl
 have p3:(2:Int)^3=8:=rfl
 have p61:(2:Int)^61=2305843009213693952:=rfl
 have p62:(2:Int)^62=4611686018427387904:=rfl
 obtain rfl | rfl | rfl:=hy
 ·refine⟨2,42260,4,rfl,Or.inl rfl,rfl,Or.inl rfl,rfl,by rw[jZ 2 (by rfl) (by omega),p2];omega,?_,?_,by omega,by omega,by omega⟩
  ·rw[e1,jZ 2 (by rfl) (by omega),j1 62 (by rfl) (by omega),p2,p62,pC 2 4 rfl (by omega) (by omega) (by omega) (by omega) (by omega) (by omega)];omega
  ·rw[jZ 2 (by rfl) (by omega),p2];omega
 ·refine⟨3,42264,8,rfl,Or.inr rfl,rfl,Or.inr (Or.inl rfl),rfl,by rw[jZ 3 (by rfl) (by omega),p3];omega,?_,?_,by omega,by omega,by omega⟩
  ·rw[e2,jZ 3 (by rfl) (by omega),j1 61 (by rfl) (by omega),p3,p61,pC 3 8 rfl (by omega) (by omega) (by omega) (by omega) (by omega) (by omega)];omega
  ·rw[jZ 3 (by rfl) (by omega),p3];omega
 ·refine⟨3,42272,8,rfl,Or.inr rfl,rfl,Or.inr (Or.inr rfl),rfl,by rw[jZ 3 (by rfl) (by omega),p3];omega,?_,?_,by omega,by omega,by omega⟩
  ·rw[e2,jZ 3 (by rfl) (by omega),j1 61 (by rfl) (by omega),p3,p61,pC 3 8 rfl (by omega) (by omega) (by omega) (by omega) (by omega) (by omega)];omega
  ·rw[jZ 3 (by rfl) (by omega),p3];omega
theorem EK(a b c:Int):(((a%18446744073709551616+b)%18446744073709551616) - c%18446744073709551616)%18446744073709551616=(a+b - c)%18446744073709551616:=by omega
theorem aS.ok:aS.Ok:=by
 rintro⟨hi,lo,y⟩ ⟨hy,h0,h1,h2,h3⟩
 have h0:0≤hi:=h0
 have h1:hi < y:=h1
 have h2:0≤lo:=h2
 have h3:lo < 18446744073709551616:=h3
 have yb:0 < y∧y < 18446744073709551616:=by obtain rfl | rfl | rfl:=hy <;> omega
 rw[aS.eq,eC (by omega),je (by omega)]
 simp only[ao]
 have z:iN y=true:=by simp[iN];omega
 by_cases hz:hi=0
 ·subst hz
  rw[dq rfl,z,yS h2 (by omega) h3,nZ h2]
  simp only[ay,aS.F,aS.add,Int.zero_mul,Int.zero_add]
 ·obtain⟨s,e,m,hs,hs2,hm,he,hym,a1,a2,a3,a4,a5,a6⟩:=De hy h0 h1 h2 h3
  have c1:dJ .u64 (s:Int)=(s:Int):=by rw[A6];omega
  have c2:gR (s:Int)=true:=ke (by omega)
  have c3:gR (bT .u64 64 (s:Int))=true:=by rcases hs2 with rfl | rfl <;> rfl
  rw[eC hz,fB.run (d:=y) hy]
  simp only[ao,aa,fB.add,hs,c1,c2,c3,ay,a1,a2,a3]
  have hN:0≤(hi*18446744073709551616+lo)*m:=Int.mul_nonneg (by omega) (by rcases hs2 with rfl | rfl <;> omega)
  revert a4 a5 a6
  generalize (hi*18446744073709551616+lo)*m=N at hN
  intro a4 a5 a6
  have u0:0≤N / 18446744073709551616:=by omega
  have t0:0≤N%18446744073709551616:=by omega
  have t1:N%18446744073709551616 < 18446744073709551616:=by omega
  have hd:N=(N / 18446744073709551616*4294967296+N%18446744073709551616 / 4294967296)*4294967296+N%18446744073709551616%4294967296:=by omega
  have w10:0≤N%18446744073709551616 / 4294967296:=by omega
  have w11:N%18446744073709551616 / 4294967296 < 4294967296:=by omega
  have w00:0≤N%18446744073709551616%4294967296:=by omega
  have w01:N%18446744073709551616%4294967296 < 4294967296:=by omega
  have p32:(2:Int)^32=4294967296:=rfl
  have b1:bQ .u64 (18446744073709551616 - e) 32=4294967295:=by rw[j1 32 (by rfl) (by omega),p32];rcases he with rfl | rfl | rfl <;> rfl
  have b2:ct .and .u64 (18446744073709551616 - e) 4294967295=4294967296 - e:=by rw[vE (by omega) (by omega)];omega
  have b3:bQ .u64 (N%18446744073709551616) 32=N%18446744073709551616 / 4294967296:=by rw[j1 32 (by rfl) (by omega),p32]
  have b4:ct .and .u64 (N%18446744073709551616) 4294967295=N%18446744073709551616%4294967296:=vE t0 t1
  have z2:iN 4294967295=true:=rfl
  simp only[b1,b2,b3,b4,z2,ay]
  clear a1 a2 a3 b1 b2 b3 b4
  have kdd:=kd (18446744073709551616 - e) (N / 18446744073709551616) (N%18446744073709551616 / 4294967296) (N%18446744073709551616%4294967296) (by omega) w00 w01
  rw[←hd,a5]at kdd
  revert a4 kdd
  generalize N / 18446744073709551616=u at u0
  generalize N%18446744073709551616 / 4294967296=w1 at w10 w11
  generalize N%18446744073709551616%4294967296=w0 at w00 w01
  intro a4 kdd
  have g:∀u w:Int,0≤u→u < 18446744073709551616 - e→0≤w→w < 4294967296→
    kX .u64 u 4294967295=u / 4294967295∧bT .u64 u (eW .u64 (u / 4294967295) 4294967295)=u - u / 4294967295*4294967295∧
    bT .u64 (bO .u64 (eW .u64 u 4294967296) w) (eW .u64 ((u*4294967296+w) / (18446744073709551616 - e)) (18446744073709551616 - e))=(u*4294967296+w)%(18446744073709551616 - e):=by
   intro u w k1 k2 k3 k4
   obtain⟨q1,q2,q3,q4,q5,q6,q7,q8⟩:=k0 he k1 k2 k3 k4
   refine⟨yS k1 (by omega) (by omega),by rw[rn,kO];omega,?_⟩
   rw[rn,kN,kO,kO,EK,q4]
   exact Int.emod_eq_of_lt q5 (by omega)
  obtain⟨f1,f2,f3⟩:=g u w1 u0 a4 w10 w11
  obtain⟨q1,q2,q3,q4,q5,q6,q7,q8⟩:=k0 he u0 a4 w10 w11
  have p1:aS.L0.aD (18446744073709551616 - e,(s:Int),4294967295,4294967296 - e,u,w1,w0,u / 4294967295,u - u / 4294967295*4294967295):=⟨e,he,rfl,rfl,rfl,u0,a4,w10,w11,q2,q3,by omega,q1⟩
  rw[f1,f2,aS.L0.run p1]
  simp only[aa,aS.L0.add,aS.L0.F,z2,ay,f3]
  revert f3 q1 kdd
  generalize (u*4294967296+w1)%(18446744073709551616 - e)=v at q4 q5 q6
  generalize (u*4294967296+w1) / (18446744073709551616 - e)=Q at q4 q7 q8
  intro kdd f3 q1
  obtain⟨g1,g2,g3⟩:=g v w0 q5 q6 w00 w01
  obtain⟨r1,r2,r3,r4,r5,r6,r7,r8⟩:=k0 he q5 q6 w00 w01
  have p2:aS.L1.aD (18446744073709551616 - e,(s:Int),4294967295,4294967296 - e,w0,Q,v - v / 4294967295*4294967295,v,v / 4294967295):=⟨e,he,rfl,rfl,rfl,q5,q6,w00,w01,r2,r3,by omega,r1⟩
  rw[g1,g2,aS.L1.run p2]
  simp only[aa,aS.L1.add,aS.L1.F,c2,ay,g3]
  rw[←kdd.2,j1 s (by rfl) (by omega),←hm,a6,kO,kN]
  have e9:(Q*4294967296%18446744073709551616+(v*4294967296+w0) / (18446744073709551616 - e))%18446744073709551616=(hi*18446744073709551616+lo) / y:=by rw[kdd.1];omega
  rw[e9]
  rfl
noncomputable def aS.E:=Entry.cv [some tu,some tu,some tu] aS.st aS.aD aS.add aS.F aS.out
noncomputable def aS.call:aS.D→Option aS.X:=bJ aS.E aS.st
theorem aS.run:bE aS.call aS.aD aS.add aS.F:=cQ (cP [.d tu,.d tu,.d tu] fun _=>by kernel_rfl)
noncomputable def aS.sg:SG Tryz.prog:=⟨174,aW,aS.E,.fn 2 (by kernel_rfl) aS.ok (And.intro (.cv aS.L0.ok (by kernel_rfl)) (And.intro (.cv aS.L1.ok (by kernel_rfl)) trivial))⟩
abbrev dy.D:=Int×Int×Int
def dy.st:dy.D→SA:=fun(hi,lo,yv)=>([.d tu hi,.d tu lo,.d tu yv],[])
abbrev dy.Y:=Int
abbrev dy.X:=Int
def dy.out:dy.X→aZ:=fun x=>⟨.d tu x,[],[]⟩
def dy.add:dy.D→dy.Y→dy.X:=fun(hi,lo,yv) y=>y
def dy.aD:dy.D→Prop:=fun(hi,lo,y)=>D5 y∧0≤hi∧hi < 18446744073709551616∧0≤lo∧lo < 18446744073709551616
def dy.F:dy.D→dy.Y:=fun(hi,lo,y)=>(hi*18446744073709551616+lo)%y
noncomputable def dy.G:dV:=eY (P:=Tryz.prog) [aS.sg]
noncomputable def dy.an:eJ:= {}
noncomputable def dy.A:= @cK Tryz.prog dy.G dy.an 0 Tryz.f157 _ dy.st
abbrev dy.Ok:=cM @dy.A dy.aD dy.add dy.F dy.out
theorem dy.eq{R:Type}(hi:Int)(lo:Int)(yv:Int)(k:aZ→Option R):dy.A (hi,lo,yv) k=
 aF (iN yv) (
 ae (aS.call ((jl hi yv),lo,yv)) fun x1=>
 k (dy.out x1.2)) none:=by kernel_rfl
theorem dy.ok:dy.Ok:=by
 rintro⟨hi,lo,y⟩ ⟨hy,h0,h1,h2,h3⟩
 have h0:0≤hi:=h0
 have yb:0 < y:=by obtain rfl | rfl | rfl:=hy <;> omega
 have z:iN y=true:=by simp[iN];omega
 have p:aS.aD (hi%y,lo,y):=⟨hy,Int.emod_nonneg _ (by omega),Int.emod_lt_of_pos _ yb,h2,h3⟩
 rw[dy.eq,z,nZ h0,aS.run p]
 have e:(hi%y*18446744073709551616+lo)%y=(hi*18446744073709551616+lo)%y:=by
  rw[Int.add_emod,Int.mul_emod,Int.emod_emod_of_dvd _ (Int.dvd_refl y),←Int.mul_emod,←Int.add_emod]
 simp only[ay,aa,aS.add,aS.F,dy.add,dy.F,e]
noncomputable def dy.E:=Entry.cv [some tu,some tu,some tu] dy.st dy.aD dy.add dy.F dy.out
noncomputable def dy.call:dy.D→Option dy.X:=bJ dy.E dy.st
theorem dy.run:bE dy.call dy.aD dy.add dy.F:=cQ (cP [.d tu,.d tu,.d tu] fun _=>by kernel_rfl)
noncomputable def dy.sg:SG Tryz.prog:=⟨157,aW,dy.E,.fn 0 (by kernel_rfl) dy.ok trivial⟩
abbrev dH.D:=Int×Int
def dH.st:dH.D→SA:=fun(x,yv)=>([.d tu x,.d tu yv],[])
abbrev dH.Y:=Int×Int
abbrev dH.X:=Int×Int
def dH.out:dH.X→aZ:=fun x=>⟨.cons (.d tu x.1) (.cons (.d tu x.2) (.nil)),[],[]⟩
def dH.add:dH.D→dH.Y→dH.X:=fun(x,yv) y=>y
def dH.aD:dH.D→Prop:=fun(x,y)=>(0≤x∧x < 18446744073709551616)∧0≤y∧y < 18446744073709551616
def dH.F:dH.D→dH.Y:=fun(x,y)=>(x*y / 18446744073709551616,x*y%18446744073709551616)
noncomputable def dH.G:dV:=eY (P:=Tryz.prog) []
noncomputable def dH.an:eJ:= {}
noncomputable def dH.A:= @cK Tryz.prog dH.G dH.an 0 Tryz.f168 _ dH.st
abbrev dH.Ok:=cM @dH.A dH.aD dH.add dH.F dH.out
theorem dH.eq{R:Type}(x:Int)(yv:Int)(k:aZ→Option R):dH.A (x,yv) k=
 k (dH.out ((bO .u64 (bO .u64 (eW .u64 (bQ .u64 x (32:Int)) (bQ .u64 yv (32:Int))) (bQ .u64 (bO .u64 (eW .u64 (bQ .u64 x (32:Int)) (ct .and .u64 yv (4294967295:Int))) (bQ .u64 (eW .u64 (ct .and .u64 x (4294967295:Int)) (ct .and .u64 yv (4294967295:Int))) (32:Int))) (32:Int))) (bQ .u64 (bO .u64 (ct .and .u64 (bO .u64 (eW .u64 (bQ .u64 x (32:Int)) (ct .and .u64 yv (4294967295:Int))) (bQ .u64 (eW .u64 (ct .and .u64 x (4294967295:Int)) (ct .and .u64 yv (4294967295:Int))) (32:Int))) (4294967295:Int)) (eW .u64 (ct .and .u64 x (4294967295:Int)) (bQ .u64 yv (32:Int)))) (32:Int))),(eW .u64 x yv))):=by kernel_rfl
theorem qp{a b m n:Int}(h0:0≤a)(h1:a≤m)(h2:0≤b)(h3:b≤n):0≤a*b∧a*b≤m*n:=
 ⟨Int.mul_nonneg h0 h2,Int.mul_le_mul h1 h3 h2 (Int.le_trans h0 h1)⟩
theorem dH.ok:dH.Ok:=by
 rintro⟨x,y⟩ ⟨⟨h0,h1⟩,h2,h3⟩
 have h0:0≤x:=h0
 have h1:x < 18446744073709551616:=h1
 have h2:0≤y:=h2
 have h3:y < 18446744073709551616:=h3
 rw[dH.eq]
 have p32:(2:Int)^32=4294967296:=rfl
 have s32:∀x:Int,bQ .u64 x 32=x / 4294967296:=fun x=>by rw[j1 32 (by rfl) (by omega),p32]
 simp only[s32,vE h0 h1,vE h2 h3]
 obtain⟨a,b,rfl,a0,a1,b0,b1⟩:∃a b:Int,x=a*4294967296+b∧0≤a∧a≤4294967295∧0≤b∧b≤4294967295:=⟨x / 4294967296,x%4294967296,by omega,by omega,by omega,by omega,by omega⟩
 obtain⟨c,d,rfl,c0,c1,d0,d1⟩:∃a b:Int,y=a*4294967296+b∧0≤a∧a≤4294967295∧0≤b∧b≤4294967295:=⟨y / 4294967296,y%4294967296,by omega,by omega,by omega,by omega,by omega⟩
 have e1:(a*4294967296+b) / 4294967296=a:=by omega
 have e2:(a*4294967296+b)%4294967296=b:=by omega
 have e3:(c*4294967296+d) / 4294967296=c:=by omega
 have e4:(c*4294967296+d)%4294967296=d:=by omega
 have e5:(a*4294967296+b)*(c*4294967296+d)=a*c*18446744073709551616+(a*d+b*c)*4294967296+b*d:=by
  have q:(4294967296:Int)*4294967296=18446744073709551616:=rfl
  rw[Int.add_mul,Int.mul_add,Int.mul_add]
  have q1:a*4294967296*(c*4294967296)=a*c*18446744073709551616:=by rw[←q];ac_rfl
  have q2:a*4294967296*d=a*d*4294967296:=by ac_rfl
  have q3:b*(c*4294967296)=b*c*4294967296:=by ac_rfl
  rw[q1,q2,q3];omega
 obtain⟨m1,m2⟩:=qp a0 a1 c0 c1
 obtain⟨m3,m4⟩:=qp a0 a1 d0 d1
 obtain⟨m5,m6⟩:=qp b0 b1 c0 c1
 obtain⟨m7,m8⟩:=qp b0 b1 d0 d1
 have n:(4294967295:Int)*4294967295=18446744065119617025:=rfl
 rw[n]at m2 m4 m6 m8
 simp only[e1,e2,e3,e4,dH.add,dH.F,e5,kO,kN]
 revert m1 m2 m3 m4 m5 m6 m7 m8
 generalize a*c=ac
 generalize a*d=ad
 generalize b*c=bc
 generalize b*d=bd
 intro m1 m2 m3 m4 m5 m6 m7 m8
 have q1:bd%18446744073709551616=bd:=by omega
 have q2:ad%18446744073709551616=ad:=by omega
 have q3:bc%18446744073709551616=bc:=by omega
 have q4:ac%18446744073709551616=ac:=by omega
 rw[q1,q2,q3,q4]
 have q5:(ad+bd / 4294967296)%18446744073709551616=ad+bd / 4294967296:=by omega
 have q6:ct .and .u64 (ad+bd / 4294967296) 4294967295=(ad+bd / 4294967296)%4294967296:=vE (by omega) (by omega)
 rw[q5,q6]
 refine congrArg some (congrArg dH.out (Prod.ext ?_ ?_))
 ·show _=(_:Int)
  simp only[]
  omega
 ·rfl
noncomputable def dH.E:=Entry.cv [some tu,some tu] dH.st dH.aD dH.add dH.F dH.out
noncomputable def dH.call:dH.D→Option dH.X:=bJ dH.E dH.st
theorem dH.run:bE dH.call dH.aD dH.add dH.F:=cQ (cP [.d tu,.d tu] fun _=>by kernel_rfl)
noncomputable def dH.sg:SG Tryz.prog:=⟨168,aW,dH.E,.fn 0 (by kernel_rfl) dH.ok trivial⟩
set_option synthInstance.maxSize 5000
def Pn(x:Int):Prop:=0≤x∧x < 4611686018427377339
def ik(x:Int):Prop:=0≤x∧x < 18446744073709551616
theorem Pn.u{x:Int}(h:Pn x):ik x:=⟨h.1,by have:=h.2;omega⟩
def jC(a b:Int):Int:=a*b%4611686018427377339
theorem lA(a b:Int):Pn (jC a b):=⟨Int.emod_nonneg _ (by omega),Int.emod_lt_of_pos _ (by omega)⟩
def zb:Nat→Int→Nat→Int→Int
 | 0,_,_,out=>out
 |f+1,a,n,out=>if n=0 then out else zb f (jC a a) (n / 2) (if n%2=1 then jC out a else out)
def pw(a:Int)(n:Nat):Int:=zb 64 a n 1
theorem mc(f:Nat)(a out:Int):zb f a 0 out=out:=by cases f <;> rfl
theorem wW:∀(f g:Nat) (a:Int) (n:Nat) (out:Int),n < 2^f→n < 2^g→zb f a n out=zb g a n out
 | 0,g,a,n,out,h,_=>by
  obtain rfl:n=0:=by omega
  rw[mc,mc]
 |f+1,0,a,n,out,_,h=>by
  obtain rfl:n=0:=by omega
  rw[mc,mc]
 |f+1,g+1,a,n,out,h,h'=>by
  have e:(2:Nat)^(f+1)=2^f*2:=Nat.pow_succ 2 f
  have e':(2:Nat)^(g+1)=2^g*2:=Nat.pow_succ 2 g
  unfold zb
  split
  ·rfl
  ·exact wW f g _ _ _ (by omega) (by omega)
theorem By:∀(f:Nat) (a:Int) (n:Nat) (out:Int),Pn out→Pn (zb f a n out)
 | 0,_,_,_,h=>h
 |f+1,a,n,out,h=>by
  unfold zb
  split
  ·exact h
  ·refine By f _ _ _ ?_
   split
   ·exact lA _ _
   ·exact h
theorem wX(a:Int)(n:Nat):Pn (pw a n):=By _ _ _ _ ⟨by omega,by omega⟩
abbrev db.D:=Int×Int
def db.st:db.D→SA:=fun(a,b)=>([.d tu a,.d tu b],[])
abbrev db.Y:=Int
abbrev db.X:=Int
def db.out:db.X→aZ:=fun x=>⟨.d tu x,[],[]⟩
def db.add:db.D→db.Y→db.X:=fun(a,b) y=>y
def db.aD:db.D→Prop:=fun(a,b)=>ik a∧ik b
def db.F:db.D→db.Y:=fun(a,b)=>jC a b
noncomputable def db.G:dV:=eY (P:=Tryz.prog) [dH.sg,dy.sg]
noncomputable def db.an:eJ:= {}
noncomputable def db.A:= @cK Tryz.prog db.G db.an 0 Tryz.f151 _ db.st
abbrev db.Ok:=cM @db.A db.aD db.add db.F db.out
theorem db.eq{R:Type}(a:Int)(b:Int)(k:aZ→Option R):db.A (a,b) k=
 ae (dH.call (a,b)) fun x1=>
 ae (dy.call (x1.1,x1.2,(4611686018427377339:Int))) fun x2=>
 k (db.out x2):=by kernel_rfl
theorem sS(n:Int):n / 18446744073709551616*18446744073709551616+n%18446744073709551616=n:=by omega
theorem db.ok:db.Ok:=by
 rintro⟨a,b⟩ ⟨ha,hb⟩
 have ha:ik a:=ha
 have hb:ik b:=hb
 obtain⟨m1,m2⟩:=qp ha.1 (show a≤18446744073709551615 by have:=ha.2;omega) hb.1 (show b≤18446744073709551615 by have:=hb.2;omega)
 have n:(18446744073709551615:Int)*18446744073709551615=340282366920938463426481119284349108225:=rfl
 rw[n]at m2
 have p:dy.aD (a*b / 18446744073709551616,a*b%18446744073709551616,4611686018427377339):=⟨Or.inl rfl,by omega,by omega,by omega,by omega⟩
 rw[db.eq,dH.run (d:=(a,b)) ⟨ha,hb⟩]
 simp only[aa,dH.add,dH.F]
 rw[dy.run p]
 simp only[aa,dy.add,dy.F,sS]
 rfl
noncomputable def db.E:=Entry.cv [some tu,some tu] db.st db.aD db.add db.F db.out
noncomputable def db.call:db.D→Option db.X:=bJ db.E db.st
theorem db.run:bE db.call db.aD db.add db.F:=cQ (cP [.d tu,.d tu] fun _=>by kernel_rfl)
noncomputable def db.sg:SG Tryz.prog:=⟨151,aW,db.E,.fn 0 (by kernel_rfl) db.ok trivial⟩
abbrev a9.L0.D:=Int×Int×Int
def a9.L0.st:a9.L0.D→AS:=fun(a_2,n_2,outv)=>⟨([.d tu a_2,.d tu n_2,.undef,.undef,.undef,.d tu outv]++ba 14 []),[],(List.replicate 20 [])⟩
abbrev a9.L0.Y0:=Int
abbrev a9.L0.X0:=Int
def a9.L0.bw:a9.L0.X0→Exit×AS:=fun x=>(.exit 0,⟨(ba 5 ([.d tu x]++ba 14 [])),[],(List.replicate 20 [])⟩)
abbrev a9.L0.X:=a9.L0.X0
abbrev a9.L0.Y:=a9.L0.Y0
def a9.L0.out:a9.L0.X→Out (Exit×AS):=fun x=> .ok (a9.L0.bw x)
def a9.L0.add:a9.L0.D→a9.L0.Y→a9.L0.X:=fun(a_2,n_2,outv) y=>y
abbrev a9.D:=Int×Int
def a9.st:a9.D→SA:=fun(a,n)=>([.d tu a,.d tu n],[])
abbrev a9.Y:=Int
abbrev a9.X:=Int
def a9.out:a9.X→aZ:=fun x=>⟨.d tu x,[],[]⟩
def a9.add:a9.D→a9.Y→a9.X:=fun(a,n) y=>y
def a9.L0.aD:a9.L0.D→Prop:=fun(a,n,o)=>ik a∧ik n∧Pn o
def a9.L0.F:a9.L0.D→a9.L0.Y:=fun(a,n,o)=>zb 64 a n.toNat o
def a9.aD:a9.D→Prop:=fun(a,n)=>ik a∧ik n
def a9.F:a9.D→a9.Y:=fun(a,n)=>pw a n.toNat
noncomputable def a9.G:dV:=eY (P:=Tryz.prog) [db.sg]
noncomputable def a9.L0.E:=bP.cv a9.L0.st a9.L0.aD a9.L0.add a9.L0.F a9.L0.out
noncomputable def a9.L0.call:a9.L0.D→Option a9.L0.X:=dk a9.L0.E a9.L0.st
noncomputable def a9.an:eJ:= {loops:=jJ [(2,{bn:=[0,1,5]})],outs:=jI [(2,{bn:=[5]},{bn:=[4]})],fJ:=kz [(2,a9.L0.E)]}
noncomputable def a9.A:= @cK Tryz.prog a9.G a9.an 0 Tryz.f116 _ a9.st
abbrev a9.Ok:=cM @a9.A a9.aD a9.add a9.F a9.out
noncomputable def a9.L0.R:= @bV Tryz.prog a9.G a9.an 0 Tryz.f116 0 _ a9.L0.st
abbrev a9.L0.Ok:=eA Tryz.prog a9.G a9.an 0 Tryz.f116 0 a9.L0.st a9.L0.aD a9.L0.add a9.L0.F a9.L0.out
theorem a9.L0.run:bE a9.L0.call a9.L0.aD a9.L0.add a9.L0.F:=eK (eI [.d tu,.d tu,.d tu] fun _=>by kernel_rfl)
theorem a9.L0.aG:fX @a9.L0.R a9.L0.st a9.L0.aD a9.L0.add a9.L0.F a9.L0.bw a9.L0.Ok:=gf
theorem a9.L0.step{R:Type}(a_2:Int)(n_2:Int)(outv:Int)(kn:AS→Option R)(kx:Exit→AS→Option R):a9.L0.R (a_2,n_2,outv) kn kx=
  aF ((mv n_2 (0:Int))) (
   aF ((kR (ct .and .u64 n_2 (1:Int)) (1:Int))) (
    ae (db.call (outv,a_2)) fun x1=>
    ae (db.call (a_2,a_2)) fun x2=>
    kn (a9.L0.st (x2,(bQ .u64 n_2 (1:Int)),x1))) (
    ae (db.call (a_2,a_2)) fun x3=>
    kn (a9.L0.st (x3,(bQ .u64 n_2 (1:Int)),outv)))) (
   kx (a9.L0.bw outv).1 (a9.L0.bw outv).2):=by kernel_rfl
theorem a9.eq{R:Type}(a:Int)(n:Int)(k:aZ→Option R):a9.A (a,n) k=
 ae (a9.L0.call (a,n,(1:Int))) fun x4=>
 k (a9.out x4):=by kernel_rfl
theorem E1{n:Int}(h:ik n):bQ .u64 n 1=n / 2:=j1 1 (by rfl) (by omega)
theorem a9.L0.ok:a9.L0.Ok:=by
 refine a9.L0.aG (fun(a,n,o)=>n.toNat) ?_
 rintro⟨a,n,o⟩ ⟨ha,hn,ho⟩
 have ha:ik a:=ha
 have hn:ik n:=hn
 have ho:Pn o:=ho
 have n0:=hn.1
 have n1:=hn.2
 by_cases h:0 < n
 ·left
  have e:a9.L0.F (a,n,o)=a9.L0.F (jC a a,n / 2,if n%2=1 then jC o a else o):=by
   show zb 64 a n.toNat o=zb 64 (jC a a) (n / 2).toNat _
   rw[wW 64 65 a n.toNat o (by omega) (by omega)]
   have t1:(n / 2).toNat=n.toNat / 2:=by omega
   have t2:(n%2=1)=(n.toNat%2=1):=by apply propext;omega
   rw[t1]
   simp only[t2]
   show(if n.toNat=0 then o else _)=_
   rw[if_neg (by omega)]
  refine⟨(jC a a,n / 2,if n%2=1 then jC o a else o),⟨(lA a a).u,⟨by omega,by omega⟩,?_⟩,by show(n / 2).toNat < n.toNat;omega,?_,fun kn kx=> ?_⟩
  ·show Pn (if n%2=1 then jC o a else o)
   split
   ·exact lA _ _
   ·exact ho
  ·exact congrArg _ e.symm
  ·rw[a9.L0.step,dG h,E1 hn,EH n0 n1,db.run (d:=(o,a)) ⟨ho.u,ha⟩,db.run (d:=(a,a)) ⟨ha,ha⟩]
   by_cases h1:n%2=1
   ·rw[dq h1,if_pos h1];rfl
   ·rw[eC h1,if_neg h1];rfl
 ·right
  intro R kn kx
  obtain rfl:n=0:=by omega
  rw[a9.L0.step,dx (by omega)]
  simp only[ao,a9.L0.add,a9.L0.F]
  rw[show zb 64 a (Int.toNat 0) o=o from mc _ _ _]
theorem a9.ok:a9.Ok:=by
 rintro⟨a,n⟩ ⟨ha,hn⟩
 rw[a9.eq,a9.L0.run (d:=(a,n,1)) ⟨ha,hn,by omega,by omega⟩]
 rfl
noncomputable def a9.E:=Entry.cv [some tu,some tu] a9.st a9.aD a9.add a9.F a9.out
noncomputable def a9.call:a9.D→Option a9.X:=bJ a9.E a9.st
theorem a9.run:bE a9.call a9.aD a9.add a9.F:=cQ (cP [.d tu,.d tu] fun _=>by kernel_rfl)
noncomputable def a9.sg:SG Tryz.prog:=⟨116,aW,a9.E,.fn 1 (by kernel_rfl) a9.ok (And.intro (.cv a9.L0.ok (by kernel_rfl)) trivial)⟩
set_option synthInstance.maxSize 5000
def mg(p:Int):Bool:=decide (0 < p∧p < 4611686018427377339) && decide (pw p 2305843009213688669=1)
def tk(p:Int):Int:=if mg p then p else 1
theorem BL(p:Int):Pn (tk p):=by
 unfold tk
 split
 ·rename_i h
  simp only[mg,Bool.and_eq_true,decide_eq_true_eq]at h
  exact⟨by omega,by omega⟩
 ·exact⟨by omega,by omega⟩
def mG(p k:Int):Int:=pw (tk p) (k%2305843009213688669).toNat
def gH(k:Int):Int:=mG 4 k
def wF(p:Int):Int:=pw (tk p) 2305843009213688668
def rb(l:List Int):Int:=l.foldl (fun o p=>jC o (tk p)) 1
theorem CA(l:List Int)(o:Int)(h:Pn o):Pn (l.foldl (fun o p=>jC o (tk p)) o):=by
 induction l generalizing o with
 |nil=>exact h
 |cons p l ih=>exact ih _ (lA _ _)
theorem CB(l:List Int):Pn (rb l):=CA l 1 ⟨by omega,by omega⟩
abbrev cn.D:=Int
def cn.st:cn.D→SA:=fun p=>([.d tu p],[])
abbrev cn.Y:=Bool
abbrev cn.X:=Bool
def cn.out:cn.X→aZ:=fun x=>⟨.d .bool x,[],[]⟩
def cn.add:cn.D→cn.Y→cn.X:=fun p y=>y
def cn.aD:cn.D→Prop:=fun p=>ik p
def cn.F:cn.D→cn.Y:=fun p=>mg p
noncomputable def cn.G:dV:=eY (P:=Tryz.prog) [a9.sg]
noncomputable def cn.an:eJ:= {}
noncomputable def cn.A:= @cK Tryz.prog cn.G cn.an 0 Tryz.f62 _ cn.st
abbrev cn.Ok:=cM @cn.A cn.aD cn.add cn.F cn.out
theorem cn.eq{R:Type}(p:Int)(k:aZ→Option R):cn.A p k=
  aF ((mv p (0:Int))) (
   aF ((gb p (4611686018427377339:Int))) (
    ae (a9.call (p,(2305843009213688669:Int))) fun x1=>
    k (cn.out (kR x1 (1:Int)))) (
    k (cn.out false))) (
   k (cn.out false)):=by kernel_rfl
theorem cn.ok:cn.Ok:=by
 intro p hp
 have hp:ik p:=hp
 rw[cn.eq,a9.run (d:=(p,2305843009213688669)) ⟨hp,by constructor <;> decide⟩]
 simp only[aa,a9.add,a9.F,cn.add,cn.F,mg]
 by_cases h:0 < p
 ·rw[dG h,ay]
  by_cases h2:p < 4611686018427377339
  ·rw[bA h2,ay,aR ⟨h,h2⟩,Bool.true_and]
   rfl
  ·rw[bm h2,ao,aO (fun x=>h2 x.2),Bool.false_and]
 ·rw[dx h,ao,aO (fun x=>h x.1),Bool.false_and]
noncomputable def cn.E:=Entry.cv [some tu] cn.st cn.aD cn.add cn.F cn.out
noncomputable def cn.call:cn.D→Option cn.X:=bJ cn.E cn.st
theorem cn.run:bE cn.call cn.aD cn.add cn.F:=cQ (cP [.d tu] fun _=>by kernel_rfl)
noncomputable def cn.sg:SG Tryz.prog:=⟨62,aW,cn.E,.fn 0 (by kernel_rfl) cn.ok trivial⟩
abbrev cC.D:=Int
def cC.st:cC.D→SA:=fun p=>([.d tu p],[])
abbrev cC.Y:=Int
abbrev cC.X:=Int
def cC.out:cC.X→aZ:=fun x=>⟨.d tu x,[],[]⟩
def cC.add:cC.D→cC.Y→cC.X:=fun p y=>y
def cC.aD:cC.D→Prop:=fun p=>ik p
def cC.F:cC.D→cC.Y:=fun p=>tk p
noncomputable def cC.G:dV:=eY (P:=Tryz.prog) [cn.sg]
noncomputable def cC.an:eJ:= {}
noncomputable def cC.A:= @cK Tryz.prog cC.G cC.an 0 Tryz.f147 _ cC.st
abbrev cC.Ok:=cM @cC.A cC.aD cC.add cC.F cC.out
theorem cC.eq{R:Type}(p:Int)(k:aZ→Option R):cC.A p k=
  ae (cn.call p) fun x1=>
  aF (x1) (
   k (cC.out p)) (
   k (cC.out (1:Int))):=by kernel_rfl
theorem cC.ok:cC.Ok:=by
 intro p hp
 rw[cC.eq,cn.run (d:=p) hp]
 simp only[aa,cn.add,cn.F,cC.add,cC.F,tk]
 cases mg p <;> rfl
noncomputable def cC.E:=Entry.cv [some tu] cC.st cC.aD cC.add cC.F cC.out
noncomputable def cC.call:cC.D→Option cC.X:=bJ cC.E cC.st
theorem cC.run:bE cC.call cC.aD cC.add cC.F:=cQ (cP [.d tu] fun _=>by kernel_rfl)
noncomputable def cC.sg:SG Tryz.prog:=⟨147,aW,cC.E,.fn 0 (by kernel_rfl) cC.ok trivial⟩
abbrev df.D:=Int×Int
def df.st:df.D→SA:=fun(p,kv)=>([.d tu p,.d tu kv],[])
abbrev df.Y:=Int
abbrev df.X:=Int
def df.out:df.X→aZ:=fun x=>⟨.d tu x,[],[]⟩
def df.add:df.D→df.Y→df.X:=fun(p,kv) y=>y
def df.aD:df.D→Prop:=fun(p,k)=>ik p∧ik k
def df.F:df.D→df.Y:=fun(p,k)=>mG p k
noncomputable def df.G:dV:=eY (P:=Tryz.prog) [cC.sg,a9.sg]
noncomputable def df.an:eJ:= {}
noncomputable def df.A:= @cK Tryz.prog df.G df.an 0 Tryz.f106 _ df.st
abbrev df.Ok:=cM @df.A df.aD df.add df.F df.out
theorem df.eq{R:Type}(p:Int)(kv:Int)(k:aZ→Option R):df.A (p,kv) k=
 ae (cC.call p) fun x1=>
 ae (a9.call (x1,(jl kv (2305843009213688669:Int)))) fun x2=>
 k (df.out x2):=by kernel_rfl
theorem df.ok:df.Ok:=by
 rintro⟨p,k⟩ ⟨hp,hk⟩
 have hk:ik k:=hk
 have e:=nZ (y:=2305843009213688669) hk.1
 have b:ik (k%2305843009213688669):=⟨by omega,by omega⟩
 rw[df.eq,cC.run (d:=p) hp,e]
 simp only[aa,cC.add,cC.F]
 rw[a9.run (d:=(tk p,k%2305843009213688669)) ⟨(BL p).u,b⟩]
 rfl
noncomputable def df.E:=Entry.cv [some tu,some tu] df.st df.aD df.add df.F df.out
noncomputable def df.call:df.D→Option df.X:=bJ df.E df.st
theorem df.run:bE df.call df.aD df.add df.F:=cQ (cP [.d tu,.d tu] fun _=>by kernel_rfl)
noncomputable def df.sg:SG Tryz.prog:=⟨106,aW,df.E,.fn 0 (by kernel_rfl) df.ok trivial⟩
abbrev dm.D:=Int
def dm.st:dm.D→SA:=fun kv=>([.d tu kv],[])
abbrev dm.Y:=Int
abbrev dm.X:=Int
def dm.out:dm.X→aZ:=fun x=>⟨.d tu x,[],[]⟩
def dm.add:dm.D→dm.Y→dm.X:=fun kv y=>y
def dm.aD:dm.D→Prop:=fun k=>ik k
def dm.F:dm.D→dm.Y:=fun k=>gH k
noncomputable def dm.G:dV:=eY (P:=Tryz.prog) [df.sg]
noncomputable def dm.an:eJ:= {}
noncomputable def dm.A:= @cK Tryz.prog dm.G dm.an 0 Tryz.f44 _ dm.st
abbrev dm.Ok:=cM @dm.A dm.aD dm.add dm.F dm.out
theorem dm.eq{R:Type}(kv:Int)(k:aZ→Option R):dm.A kv k=
 ae (df.call ((4:Int),kv)) fun x1=>
 k (dm.out x1):=by kernel_rfl
theorem dm.ok:dm.Ok:=by
 intro k hk
 rw[dm.eq,df.run (d:=(4,k)) ⟨⟨by omega,by omega⟩,hk⟩]
 rfl
noncomputable def dm.E:=Entry.cv [some tu] dm.st dm.aD dm.add dm.F dm.out
noncomputable def dm.call:dm.D→Option dm.X:=bJ dm.E dm.st
theorem dm.run:bE dm.call dm.aD dm.add dm.F:=cQ (cP [.d tu] fun _=>by kernel_rfl)
noncomputable def dm.sg:SG Tryz.prog:=⟨44,aW,dm.E,.fn 0 (by kernel_rfl) dm.ok trivial⟩
abbrev fD.D:=Int
def fD.st:fD.D→SA:=fun p=>([.d tu p],[])
abbrev fD.Y:=Int
abbrev fD.X:=Int
def fD.out:fD.X→aZ:=fun x=>⟨.d tu x,[],[]⟩
def fD.add:fD.D→fD.Y→fD.X:=fun p y=>y
def fD.aD:fD.D→Prop:=fun p=>ik p
def fD.F:fD.D→fD.Y:=fun p=>wF p
noncomputable def fD.G:dV:=eY (P:=Tryz.prog) [cC.sg,a9.sg]
noncomputable def fD.an:eJ:= {}
noncomputable def fD.A:= @cK Tryz.prog fD.G fD.an 0 Tryz.f146 _ fD.st
abbrev fD.Ok:=cM @fD.A fD.aD fD.add fD.F fD.out
theorem fD.eq{R:Type}(p:Int)(k:aZ→Option R):fD.A p k=
 ae (cC.call p) fun x1=>
 ae (a9.call (x1,(2305843009213688668:Int))) fun x2=>
 k (fD.out x2):=by kernel_rfl
theorem fD.ok:fD.Ok:=by
 intro p hp
 rw[fD.eq,cC.run (d:=p) hp]
 simp only[aa,cC.add,cC.F]
 rw[a9.run (d:=(tk p,2305843009213688668)) ⟨(BL p).u,by constructor <;> decide⟩]
 rfl
noncomputable def fD.E:=Entry.cv [some tu] fD.st fD.aD fD.add fD.F fD.out
noncomputable def fD.call:fD.D→Option fD.X:=bJ fD.E fD.st
theorem fD.run:bE fD.call fD.aD fD.add fD.F:=cQ (cP [.d tu] fun _=>by kernel_rfl)
noncomputable def fD.sg:SG Tryz.prog:=⟨146,aW,fD.E,.fn 0 (by kernel_rfl) fD.ok trivial⟩
abbrev cF.L0.D:=Int×Bs×Int×Int
def cF.L0.st:cF.L0.D→AS:=fun(outv,t6,t7,t8)=>⟨([.undef,.undef,.undef,.d tu outv,.undef,.undef,.d tU t6,.d ti t7,.d ti t8]++ba 9 []),[],(List.replicate 18 [])⟩
abbrev cF.L0.Y0:=Int
abbrev cF.L0.X0:=Int
def cF.L0.bw:cF.L0.X0→Exit×AS:=fun x=>(.exit 0,⟨([.undef,.undef,.undef,.d tu x]++ba 14 []),[],(List.replicate 18 [])⟩)
abbrev cF.L0.X:=cF.L0.X0
abbrev cF.L0.Y:=cF.L0.Y0
def cF.L0.out:cF.L0.X→Out (Exit×AS):=fun x=> .ok (cF.L0.bw x)
def cF.L0.add:cF.L0.D→cF.L0.Y→cF.L0.X:=fun(outv,t6,t7,t8) y=>y
abbrev cF.D:=Bs
def cF.st:cF.D→SA:=fun l=>([.d tU l],[])
abbrev cF.Y:=Int
abbrev cF.X:=Int
def cF.out:cF.X→aZ:=fun x=>⟨.d tu x,[],[]⟩
def cF.add:cF.D→cF.Y→cF.X:=fun l y=>y
def cF.L0.aD:cF.L0.D→Prop:=fun(o,l,n,i)=>Pn o∧(∀x∈l,ik x)∧l.length≤1000000000∧n=l.length∧∃k:Nat,k≤l.length∧i=k
def cF.L0.F:cF.L0.D→cF.L0.Y:=fun(o,l,n,i)=>(l.drop i.toNat).foldl (fun o p=>jC o (tk p)) o
def cF.aD:cF.D→Prop:=fun l=>(∀x∈l,ik x)∧l.length≤1000000000
def cF.F:cF.D→cF.Y:=fun l=>rb l
noncomputable def cF.G:dV:=eY (P:=Tryz.prog) [cC.sg,db.sg]
noncomputable def cF.L0.E:=bP.cv cF.L0.st cF.L0.aD cF.L0.add cF.L0.F cF.L0.out
noncomputable def cF.L0.call:cF.L0.D→Option cF.L0.X:=dk cF.L0.E cF.L0.st
noncomputable def cF.an:eJ:= {loops:=jJ [(3,{bn:=[3,6,7,8]})],outs:=jI [(3,{bn:=[3]},{bn:=[2]})],fJ:=kz [(3,cF.L0.E)]}
noncomputable def cF.A:= @cK Tryz.prog cF.G cF.an 0 Tryz.f144 _ cF.st
abbrev cF.Ok:=cM @cF.A cF.aD cF.add cF.F cF.out
noncomputable def cF.L0.R:= @bV Tryz.prog cF.G cF.an 0 Tryz.f144 0 _ cF.L0.st
abbrev cF.L0.Ok:=eA Tryz.prog cF.G cF.an 0 Tryz.f144 0 cF.L0.st cF.L0.aD cF.L0.add cF.L0.F cF.L0.out
theorem cF.L0.run:bE cF.L0.call cF.L0.aD cF.L0.add cF.L0.F:=eK (eI [.d tu,.d tU,.d ti,.d ti] fun _=>by kernel_rfl)
theorem cF.L0.aG:fX @cF.L0.R cF.L0.st cF.L0.aD cF.L0.add cF.L0.F cF.L0.bw cF.L0.Ok:=gf
theorem cF.L0.step{R:Type}(outv:Int)(t6:Bs)(t7:Int)(t8:Int)(kn:AS→Option R)(kx:Exit→AS→Option R):cF.L0.R (outv,t6,t7,t8) kn kx=
  aF ((gb t8 t7)) (
   aF (dS t8 (((List.length t6):Nat):Int)) (
   ae (cC.call (nth tu t6 (Int.toNat t8))) fun x1=>
   ae (db.call (outv,x1)) fun x2=>
   kn (cF.L0.st (x2,t6,t7,(bO .i64 t8 (1:Int))))) none) (
   kx (cF.L0.bw outv).1 (cF.L0.bw outv).2):=by kernel_rfl
theorem cF.eq{R:Type}(l:Bs)(k:aZ→Option R):cF.A l k=
 ae (cF.L0.call ((1:Int),l,(((List.length l):Nat):Int),(0:Int))) fun x3=>
 k (cF.out x3):=by kernel_rfl
theorem cF.L0.ok:cF.L0.Ok:=by
 refine cF.L0.aG (fun(o,l,n,i)=>l.length - i.toNat) ?_
 rintro⟨o,l,n,i⟩ ⟨ho,hl,hb,rfl,k,hk,rfl⟩
 have ho:Pn o:=ho
 have hb:l.length≤1000000000:=hb
 have hk:k≤l.length:=hk
 by_cases h:k < l.length
 ·left
  have hx:=hl _ (List.getElem_mem h)
  have n1:nth (.int .u64) l k=l[k]:=bZ (t:= .int .u64) h
  refine⟨(jC o (tk l[k]),l,l.length,((k+1:Nat):Int)),⟨lA _ _,hl,hb,rfl,k+1,by omega,rfl⟩,by simp only[Int.toNat_natCast];omega,?_,fun kn kx=> ?_⟩
  ·simp only[cF.L0.add,cF.L0.F,Int.toNat_natCast]
   rw[List.drop_eq_getElem_cons h]
   rfl
  ·rw[cF.L0.step]
   simp(disch:=omega) only[↓S1,↓if_pos,↓if_neg,if_pos,if_neg,if_true,if_false,S2,n1]
   rw[cC.run (d:=l[k]) hx]
   simp only[aa,cC.add,cC.F]
   rw[db.run (d:=(o,tk l[k])) ⟨ho.u,(BL _).u⟩]
   rfl
 ·right
  obtain rfl:k=l.length:=by omega
  intro R kn kx
  rw[cF.L0.step]
  simp(disch:=omega) only[↓S1,↓if_pos,↓if_neg,if_pos,if_neg,if_true,if_false,S2,cF.L0.add,cF.L0.F,List.drop_length]
  rfl
theorem cF.ok:cF.Ok:=by
 rintro l ⟨hl,hb⟩
 rw[cF.eq,cF.L0.run (d:=(1,l,l.length,0)) ⟨⟨by omega,by omega⟩,hl,hb,rfl,0,by omega,rfl⟩]
 rfl
noncomputable def cF.E:=Entry.cv [some tU] cF.st cF.aD cF.add cF.F cF.out
noncomputable def cF.call:cF.D→Option cF.X:=bJ cF.E cF.st
theorem cF.run:bE cF.call cF.aD cF.add cF.F:=cQ (cP [.d tU] fun _=>by kernel_rfl)
noncomputable def cF.sg:SG Tryz.prog:=⟨144,aW,cF.E,.fn 1 (by kernel_rfl) cF.ok (And.intro (.cv cF.L0.ok (by kernel_rfl)) trivial)⟩
abbrev fC.D:=Int×Int
def fC.st:fC.D→SA:=fun(p,q)=>([.d tu p,.d tu q],[])
abbrev fC.Y:=Int
abbrev fC.X:=Int
def fC.out:fC.X→aZ:=fun x=>⟨.d tu x,[],[]⟩
def fC.add:fC.D→fC.Y→fC.X:=fun(p,q) y=>y
def fC.aD:fC.D→Prop:=fun(p,q)=>ik p∧ik q
def fC.F:fC.D→fC.Y:=fun(p,q)=>rb [p,q]
noncomputable def fC.G:dV:=eY (P:=Tryz.prog) [cF.sg]
noncomputable def fC.an:eJ:= {}
noncomputable def fC.A:= @cK Tryz.prog fC.G fC.an 0 Tryz.f158 _ fC.st
abbrev fC.Ok:=cM @fC.A fC.aD fC.add fC.F fC.out
theorem fC.eq{R:Type}(p:Int)(q:Int)(k:aZ→Option R):fC.A (p,q) k=
 ae (cF.call [p,q]) fun x1=>
 k (fC.out x1):=by kernel_rfl
theorem fC.ok:fC.Ok:=by
 rintro⟨p,q⟩ ⟨hp,hq⟩
 have h:cF.aD [p,q]:=⟨by intro x hx;simp only[List.mem_cons,List.not_mem_nil,or_false]at hx;rcases hx with rfl | rfl <;> assumption,by simp only[List.length_cons,List.length_nil];omega⟩
 rw[fC.eq,cF.run h]
 rfl
noncomputable def fC.E:=Entry.cv [some tu,some tu] fC.st fC.aD fC.add fC.F fC.out
noncomputable def fC.call:fC.D→Option fC.X:=bJ fC.E fC.st
theorem fC.run:bE fC.call fC.aD fC.add fC.F:=cQ (cP [.d tu,.d tu] fun _=>by kernel_rfl)
noncomputable def fC.sg:SG Tryz.prog:=⟨158,aW,fC.E,.fn 0 (by kernel_rfl) fC.ok trivial⟩
set_option synthInstance.maxSize 5000
def Qn(x:Int):Prop:=0≤x∧x < 2305843009213688669
theorem Qn.u{x:Int}(h:Qn x):ik x:=⟨h.1,by have:=h.2;omega⟩
def Bp(a:Int):Int:=a%2305843009213688669
theorem u5(a:Int):Qn (Bp a):=⟨Int.emod_nonneg _ (by omega),Int.emod_lt_of_pos _ (by omega)⟩
def xx(a b:Int):Int:=(Bp a+Bp b)%2305843009213688669
def uX(a b:Int):Int:=Bp a*Bp b%2305843009213688669
def nA(h:List Int):Int:=h.foldl (fun n b=>(n*256+b)%2305843009213688668) 0+1
def Au.b(n:Int):Prop:=0≤n∧n < 2305843009213688668
theorem v3(h:List Int)(n:Int)(hn:Au.b n):Au.b (h.foldl (fun n b=>(n*256+b)%2305843009213688668) n):=by
 induction h generalizing n with
 |nil=>exact hn
 |cons p l ih=>exact ih _ ⟨Int.emod_nonneg _ (by omega),Int.emod_lt_of_pos _ (by omega)⟩
theorem rN(h:List Int):0 < nA h∧nA h < 2305843009213688669:=by
 have:=v3 h 0 ⟨by omega,by omega⟩
 have h1:=this.1
 have h2:=this.2
 unfold nA
 omega
theorem yD(a b:Int):Qn (xx a b):=⟨Int.emod_nonneg _ (by omega),Int.emod_lt_of_pos _ (by omega)⟩
theorem Cr(a b:Int):Qn (uX a b):=⟨Int.emod_nonneg _ (by omega),Int.emod_lt_of_pos _ (by omega)⟩
abbrev cG.D:=Int
def cG.st:cG.D→SA:=fun a=>([.d tu a],[])
abbrev cG.Y:=Bool
abbrev cG.X:=Bool
def cG.out:cG.X→aZ:=fun x=>⟨.d .bool x,[],[]⟩
def cG.add:cG.D→cG.Y→cG.X:=fun a y=>y
def cG.aD:cG.D→Prop:=fun _=>True
def cG.F:cG.D→cG.Y:=fun a=>gb a 2305843009213688669
noncomputable def cG.G:dV:=eY (P:=Tryz.prog) []
noncomputable def cG.an:eJ:= {}
noncomputable def cG.A:= @cK Tryz.prog cG.G cG.an 0 Tryz.f88 _ cG.st
abbrev cG.Ok:=cM @cG.A cG.aD cG.add cG.F cG.out
theorem cG.eq{R:Type}(a:Int)(k:aZ→Option R):cG.A a k=
 k (cG.out (gb a (2305843009213688669:Int))):=by kernel_rfl
theorem cG.ok:cG.Ok:=by
 intro a _
 rw[cG.eq]
 rfl
noncomputable def cG.E:=Entry.cv [some tu] cG.st cG.aD cG.add cG.F cG.out
noncomputable def cG.call:cG.D→Option cG.X:=bJ cG.E cG.st
theorem cG.run:bE cG.call cG.aD cG.add cG.F:=cQ (cP [.d tu] fun _=>by kernel_rfl)
noncomputable def cG.sg:SG Tryz.prog:=⟨88,aW,cG.E,.fn 0 (by kernel_rfl) cG.ok trivial⟩
abbrev iB.D:=Int
def iB.st:iB.D→SA:=fun a=>([.d tu a],[])
abbrev iB.Y:=Int
abbrev iB.X:=Int
def iB.out:iB.X→aZ:=fun x=>⟨.d tu x,[],[]⟩
def iB.add:iB.D→iB.Y→iB.X:=fun a y=>y
def iB.aD:iB.D→Prop:=fun a=>ik a
def iB.F:iB.D→iB.Y:=fun a=>Bp a
noncomputable def iB.G:dV:=eY (P:=Tryz.prog) []
noncomputable def iB.an:eJ:= {}
noncomputable def iB.A:= @cK Tryz.prog iB.G iB.an 0 Tryz.f175 _ iB.st
abbrev iB.Ok:=cM @iB.A iB.aD iB.add iB.F iB.out
theorem iB.eq{R:Type}(a:Int)(k:aZ→Option R):iB.A a k=
 k (iB.out (jl a (2305843009213688669:Int))):=by kernel_rfl
theorem iB.ok:iB.Ok:=by
 intro a ha
 rw[iB.eq,nZ ha.1]
 rfl
noncomputable def iB.E:=Entry.cv [some tu] iB.st iB.aD iB.add iB.F iB.out
noncomputable def iB.call:iB.D→Option iB.X:=bJ iB.E iB.st
theorem iB.run:bE iB.call iB.aD iB.add iB.F:=cQ (cP [.d tu] fun _=>by kernel_rfl)
noncomputable def iB.sg:SG Tryz.prog:=⟨175,aW,iB.E,.fn 0 (by kernel_rfl) iB.ok trivial⟩
abbrev eu.D:=Int×Int
def eu.st:eu.D→SA:=fun(a,b)=>([.d tu a,.d tu b],[])
abbrev eu.Y:=Int
abbrev eu.X:=Int
def eu.out:eu.X→aZ:=fun x=>⟨.d tu x,[],[]⟩
def eu.add:eu.D→eu.Y→eu.X:=fun(a,b) y=>y
def eu.aD:eu.D→Prop:=fun(a,b)=>Qn a∧Qn b
def eu.F:eu.D→eu.Y:=fun(a,b)=>(a+b)%2305843009213688669
noncomputable def eu.G:dV:=eY (P:=Tryz.prog) []
noncomputable def eu.an:eJ:= {}
noncomputable def eu.A:= @cK Tryz.prog eu.G eu.an 0 Tryz.f176 _ eu.st
abbrev eu.Ok:=cM @eu.A eu.aD eu.add eu.F eu.out
theorem eu.eq{R:Type}(a:Int)(b:Int)(k:aZ→Option R):eu.A (a,b) k=
 k (eu.out (jl (bO .u64 a b) (2305843009213688669:Int))):=by kernel_rfl
theorem eu.ok:eu.Ok:=by
 rintro⟨a,b⟩ ⟨ha,hb⟩
 have ha:Qn a:=ha
 have hb:Qn b:=hb
 obtain⟨h1,h2⟩:=ha
 obtain⟨h3,h4⟩:=hb
 have e:bO .u64 a b=a+b:=by rw[kN];omega
 rw[eu.eq,e,nZ (by omega)]
 rfl
noncomputable def eu.E:=Entry.cv [some tu,some tu] eu.st eu.aD eu.add eu.F eu.out
noncomputable def eu.call:eu.D→Option eu.X:=bJ eu.E eu.st
theorem eu.run:bE eu.call eu.aD eu.add eu.F:=cQ (cP [.d tu,.d tu] fun _=>by kernel_rfl)
noncomputable def eu.sg:SG Tryz.prog:=⟨176,aW,eu.E,.fn 0 (by kernel_rfl) eu.ok trivial⟩
abbrev dv.D:=Int×Int
def dv.st:dv.D→SA:=fun(a,b)=>([.d tu a,.d tu b],[])
abbrev dv.Y:=Int
abbrev dv.X:=Int
def dv.out:dv.X→aZ:=fun x=>⟨.d tu x,[],[]⟩
def dv.add:dv.D→dv.Y→dv.X:=fun(a,b) y=>y
def dv.aD:dv.D→Prop:=fun(a,b)=>Qn a∧Qn b
def dv.F:dv.D→dv.Y:=fun(a,b)=>a*b%2305843009213688669
noncomputable def dv.G:dV:=eY (P:=Tryz.prog) [dH.sg,dy.sg]
noncomputable def dv.an:eJ:= {}
noncomputable def dv.A:= @cK Tryz.prog dv.G dv.an 0 Tryz.f177 _ dv.st
abbrev dv.Ok:=cM @dv.A dv.aD dv.add dv.F dv.out
theorem dv.eq{R:Type}(a:Int)(b:Int)(k:aZ→Option R):dv.A (a,b) k=
 ae (dH.call (a,b)) fun x1=>
 ae (dy.call (x1.1,x1.2,(2305843009213688669:Int))) fun x2=>
 k (dv.out x2):=by kernel_rfl
theorem dv.ok:dv.Ok:=by
 rintro⟨a,b⟩ ⟨ha,hb⟩
 have ha:Qn a:=ha
 have hb:Qn b:=hb
 obtain⟨m1,m2⟩:=qp ha.1 (show a≤18446744073709551615 by have:=ha.2;omega) hb.1 (show b≤18446744073709551615 by have:=hb.2;omega)
 have n:(18446744073709551615:Int)*18446744073709551615=340282366920938463426481119284349108225:=rfl
 rw[n]at m2
 have p:dy.aD (a*b / 18446744073709551616,a*b%18446744073709551616,2305843009213688669):=⟨Or.inr (Or.inl rfl),by omega,by omega,by omega,by omega⟩
 rw[dv.eq,dH.run (d:=(a,b)) ⟨ha.u,hb.u⟩]
 simp only[aa,dH.add,dH.F]
 rw[dy.run p]
 simp only[aa,dy.add,dy.F,sS]
 rfl
noncomputable def dv.E:=Entry.cv [some tu,some tu] dv.st dv.aD dv.add dv.F dv.out
noncomputable def dv.call:dv.D→Option dv.X:=bJ dv.E dv.st
theorem dv.run:bE dv.call dv.aD dv.add dv.F:=cQ (cP [.d tu,.d tu] fun _=>by kernel_rfl)
noncomputable def dv.sg:SG Tryz.prog:=⟨177,aW,dv.E,.fn 0 (by kernel_rfl) dv.ok trivial⟩
abbrev fH.D:=Int×Int
def fH.st:fH.D→SA:=fun(a,b)=>([.d tu a,.d tu b],[])
abbrev fH.Y:=Int
abbrev fH.X:=Int
def fH.out:fH.X→aZ:=fun x=>⟨.d tu x,[],[]⟩
def fH.add:fH.D→fH.Y→fH.X:=fun(a,b) y=>y
def fH.aD:fH.D→Prop:=fun(a,b)=>ik a∧ik b
def fH.F:fH.D→fH.Y:=fun(a,b)=>xx a b
noncomputable def fH.G:dV:=eY (P:=Tryz.prog) [iB.sg,eu.sg]
noncomputable def fH.an:eJ:= {}
noncomputable def fH.A:= @cK Tryz.prog fH.G fH.an 0 Tryz.f159 _ fH.st
abbrev fH.Ok:=cM @fH.A fH.aD fH.add fH.F fH.out
theorem fH.eq{R:Type}(a:Int)(b:Int)(k:aZ→Option R):fH.A (a,b) k=
 ae (iB.call a) fun x1=>
 ae (iB.call b) fun x2=>
 ae (eu.call (x1,x2)) fun x3=>
 k (fH.out x3):=by kernel_rfl
theorem fH.ok:fH.Ok:=by
 rintro⟨a,b⟩ ⟨ha,hb⟩
 rw[fH.eq,iB.run (d:=a) ha,iB.run (d:=b) hb]
 simp only[aa,iB.add,iB.F]
 rw[eu.run (d:=(Bp a,Bp b)) ⟨u5 a,u5 b⟩]
 rfl
noncomputable def fH.E:=Entry.cv [some tu,some tu] fH.st fH.aD fH.add fH.F fH.out
noncomputable def fH.call:fH.D→Option fH.X:=bJ fH.E fH.st
theorem fH.run:bE fH.call fH.aD fH.add fH.F:=cQ (cP [.d tu,.d tu] fun _=>by kernel_rfl)
noncomputable def fH.sg:SG Tryz.prog:=⟨159,aW,fH.E,.fn 0 (by kernel_rfl) fH.ok trivial⟩
abbrev fA.D:=Int×Int
def fA.st:fA.D→SA:=fun(a,b)=>([.d tu a,.d tu b],[])
abbrev fA.Y:=Int
abbrev fA.X:=Int
def fA.out:fA.X→aZ:=fun x=>⟨.d tu x,[],[]⟩
def fA.add:fA.D→fA.Y→fA.X:=fun(a,b) y=>y
def fA.aD:fA.D→Prop:=fun(a,b)=>ik a∧ik b
def fA.F:fA.D→fA.Y:=fun(a,b)=>uX a b
noncomputable def fA.G:dV:=eY (P:=Tryz.prog) [iB.sg,dv.sg]
noncomputable def fA.an:eJ:= {}
noncomputable def fA.A:= @cK Tryz.prog fA.G fA.an 0 Tryz.f160 _ fA.st
abbrev fA.Ok:=cM @fA.A fA.aD fA.add fA.F fA.out
theorem fA.eq{R:Type}(a:Int)(b:Int)(k:aZ→Option R):fA.A (a,b) k=
 ae (iB.call a) fun x1=>
 ae (iB.call b) fun x2=>
 ae (dv.call (x1,x2)) fun x3=>
 k (fA.out x3):=by kernel_rfl
theorem fA.ok:fA.Ok:=by
 rintro⟨a,b⟩ ⟨ha,hb⟩
 rw[fA.eq,iB.run (d:=a) ha,iB.run (d:=b) hb]
 simp only[aa,iB.add,iB.F]
 rw[dv.run (d:=(Bp a,Bp b)) ⟨u5 a,u5 b⟩]
 rfl
noncomputable def fA.E:=Entry.cv [some tu,some tu] fA.st fA.aD fA.add fA.F fA.out
noncomputable def fA.call:fA.D→Option fA.X:=bJ fA.E fA.st
theorem fA.run:bE fA.call fA.aD fA.add fA.F:=cQ (cP [.d tu,.d tu] fun _=>by kernel_rfl)
noncomputable def fA.sg:SG Tryz.prog:=⟨160,aW,fA.E,.fn 0 (by kernel_rfl) fA.ok trivial⟩
abbrev bC.L0.D:=Int×Bs×Int
def bC.L0.st:bC.L0.D→AS:=fun(n,t6,t7)=>⟨([.undef,.undef,.undef,.d tu n,.undef,.undef,.d tH t6,.d ti t7]++ba 13 []),[],(List.replicate 21 [])⟩
abbrev bC.L0.Y0:=Int
abbrev bC.L0.X0:=Int
def bC.L0.bw:bC.L0.X0→Exit×AS:=fun x=>(.exit 0,⟨([.undef,.undef,.undef,.d tu x]++ba 17 []),[],(List.replicate 21 [])⟩)
abbrev bC.L0.X:=bC.L0.X0
abbrev bC.L0.Y:=bC.L0.Y0
def bC.L0.out:bC.L0.X→Out (Exit×AS):=fun x=> .ok (bC.L0.bw x)
def bC.L0.add:bC.L0.D→bC.L0.Y→bC.L0.X:=fun(n,t6,t7) y=>y
abbrev bC.D:=Bs
def bC.st:bC.D→SA:=fun h=>([.d tH h],[])
abbrev bC.Y:=Int
abbrev bC.X:=Int
def bC.out:bC.X→aZ:=fun x=>⟨.d tu x,[],[]⟩
def bC.add:bC.D→bC.Y→bC.X:=fun h y=>y
def bC.L0.aD:bC.L0.D→Prop:=fun(n,h,i)=>Au.b n∧h.length=32∧Bytes h∧∃k:Nat,k≤32∧i=k
def bC.L0.F:bC.L0.D→bC.L0.Y:=fun(n,h,i)=>(h.drop i.toNat).foldl (fun n b=>(n*256+b)%2305843009213688668) n
def bC.aD:bC.D→Prop:=fun h=>h.length=32∧Bytes h
def bC.F:bC.D→bC.Y:=fun h=>nA h
noncomputable def bC.G:dV:=eY (P:=Tryz.prog) [dy.sg]
noncomputable def bC.L0.E:=bP.cv bC.L0.st bC.L0.aD bC.L0.add bC.L0.F bC.L0.out
noncomputable def bC.L0.call:bC.L0.D→Option bC.L0.X:=dk bC.L0.E bC.L0.st
noncomputable def bC.an:eJ:= {loops:=jJ [(3,{bn:=[3,6,7]})],outs:=jI [(3,{bn:=[3]},{bn:=[2]})],fJ:=kz [(3,bC.L0.E)]}
noncomputable def bC.A:= @cK Tryz.prog bC.G bC.an 0 Tryz.f124 _ bC.st
abbrev bC.Ok:=cM @bC.A bC.aD bC.add bC.F bC.out
noncomputable def bC.L0.R:= @bV Tryz.prog bC.G bC.an 0 Tryz.f124 0 _ bC.L0.st
abbrev bC.L0.Ok:=eA Tryz.prog bC.G bC.an 0 Tryz.f124 0 bC.L0.st bC.L0.aD bC.L0.add bC.L0.F bC.L0.out
theorem bC.L0.run:bE bC.L0.call bC.L0.aD bC.L0.add bC.L0.F:=eK (eI [.d tu,.d tB,.d ti] fun _=>by kernel_rfl)
theorem bC.L0.aG:fX @bC.L0.R bC.L0.st bC.L0.aD bC.L0.add bC.L0.F bC.L0.bw bC.L0.Ok:=gf
theorem bC.L0.step{R:Type}(n:Int)(t6:Bs)(t7:Int)(kn:AS→Option R)(kx:Exit→AS→Option R):bC.L0.R (n,t6,t7) kn kx=
  aF ((gb t7 (32:Int))) (
   aF (dS t7 (32:Int)) (
   ae (dy.call ((bQ .u64 n (56:Int)),(ct .or .u64 (gC .u64 n (8:Int)) (dJ .u64 (nth tb t6 (Int.toNat t7)))),(2305843009213688668:Int))) fun x1=>
   kn (bC.L0.st (x1,t6,(bO .i64 t7 (1:Int))))) none) (
   kx (bC.L0.bw n).1 (bC.L0.bw n).2):=by kernel_rfl
theorem bC.eq{R:Type}(h:Bs)(k:aZ→Option R):bC.A h k=
 ae (bC.L0.call ((0:Int),h,(0:Int))) fun x2=>
 k (bC.out (bO .u64 x2 (1:Int))):=by kernel_rfl
theorem qH{n b:Int}(hn:Au.b n)(hb:um b):bQ .u64 n 56*18446744073709551616+ct .or .u64 (gC .u64 n 8) (dJ .u64 b)=n*256+b∧ik (bQ .u64 n 56)∧ik (ct .or .u64 (gC .u64 n 8) (dJ .u64 b)):=by
 obtain⟨h1,h2⟩:=hn
 obtain⟨h3,h4⟩:=hb
 have p56:(2:Int)^56=72057594037927936:=rfl
 have p8:(2:Int)^8=256:=rfl
 have e:dJ .u64 b=b:=by rw[A6];omega
 rw[j1 56 (by rfl) (by omega),jZ 8 (by rfl) (by omega),p56,p8,e,pC 8 256 rfl (by omega) (by omega) (by omega) (by omega) (by omega) (by omega)]
 exact⟨by omega,⟨by omega,by omega⟩,by omega,by omega⟩
theorem bC.L0.ok:bC.L0.Ok:=by
 refine bC.L0.aG (fun(n,h,i)=>32 - i.toNat) ?_
 rintro⟨n,h,i⟩ ⟨hn,hl,hb,k,hk,rfl⟩
 have hn:Au.b n:=hn
 have hl:h.length=32:=hl
 have hb:Bytes h:=hb
 by_cases hlt:k < 32
 ·left
  have hx:um (h[k]'(by omega)):=hb _ (List.getElem_mem _)
  have n1:nth (.int .u8) h k=h[k]'(by omega):=bZ (t:= .int .u8) (by omega)
  obtain⟨d1,d2,d3⟩:=qH hn hx
  refine⟨((n*256+h[k]'(by omega))%2305843009213688668,h,((k+1:Nat):Int)),⟨⟨by omega,by omega⟩,hl,hb,k+1,by omega,rfl⟩,by simp only[Int.toNat_natCast];omega,?_,fun kn kx=> ?_⟩
  ·simp only[bC.L0.add,bC.L0.F,Int.toNat_natCast]
   rw[List.drop_eq_getElem_cons (by omega:k < h.length)]
   rfl
  ·rw[bC.L0.step]
   simp(disch:=omega) only[↓S1,↓if_pos,↓if_neg,if_pos,if_neg,if_true,if_false,S2,n1]
   rw[dy.run (d:=(_,_,2305843009213688668)) ⟨Or.inr (Or.inr rfl),d2.1,d2.2,d3.1,d3.2⟩]
   simp only[aa,dy.add,dy.F,d1]
 ·right
  obtain rfl:k=32:=by omega
  intro R kn kx
  rw[bC.L0.step]
  simp(disch:=omega) only[↓S1,↓if_pos,↓if_neg,if_pos,if_neg,if_true,if_false,S2,bC.L0.add,bC.L0.F]
  rw[List.drop_of_length_le (by omega)]
  rfl
theorem bC.ok:bC.Ok:=by
 rintro h ⟨hl,hb⟩
 have e:=v3 h 0 ⟨by omega,by omega⟩
 have h1:=e.1
 have h2:=e.2
 rw[bC.eq,bC.L0.run (d:=(0,h,0)) ⟨⟨by omega,by omega⟩,hl,hb,0,by omega,rfl⟩]
 simp only[aa,bC.L0.add,bC.L0.F,bC.add,bC.F,nA,Int.toNat_zero,List.drop_zero]
 revert h1 h2
 generalize h.foldl (fun n b=>(n*256+b)%2305843009213688668) 0=m
 intro h1 h2
 have e:bO .u64 m 1=m+1:=by rw[kN];omega
 rw[e]
noncomputable def bC.E:=Entry.cv [some tH] bC.st bC.aD bC.add bC.F bC.out
noncomputable def bC.call:bC.D→Option bC.X:=bJ bC.E bC.st
theorem bC.run:bE bC.call bC.aD bC.add bC.F:=cQ (cP [.d tB] fun _=>by kernel_rfl)
noncomputable def bC.sg:SG Tryz.prog:=⟨124,aW,bC.E,.fn 1 (by kernel_rfl) bC.ok (And.intro (.cv bC.L0.ok (by kernel_rfl)) trivial)⟩
set_option synthInstance.maxSize 5000
theorem vI(n:Int): [dJ .u8 (bQ .u64 n 56),dJ .u8 (bQ .u64 n 48),dJ .u8 (bQ .u64 n 40),dJ .u8 (bQ .u64 n 32),dJ .u8 (bQ .u64 n 24),dJ .u8 (bQ .u64 n 16),dJ .u8 (bQ .u64 n 8),dJ .u8 (bQ .u64 n 0)]=fR n:=xA n
theorem eV{α:Type}{l:List α}{n:Nat}(h:l.length=n):cut l 0 n=l:=by subst h;simp[cut]
theorem BK{n:ByteArray}{a b c:List Int}(hn:n.size≤100)(ha:a.length≤1000000)(hb:b.length≤1000000)(hc:c.length≤1000000):bW.aD (n,[a,b,c]):=by
 show(qA _ [a,b,c]).length≤_
 rw[qA]
 simp only[hJ,List.flatMap_cons,List.flatMap_nil,List.length_append,bR,gq,List.length_nil]
 omega
theorem BJ{n:ByteArray}{a b:List Int}(hn:n.size≤100)(ha:a.length≤1000000)(hb:b.length≤1000000):bW.aD (n,[a,b]):=by
 show(qA _ [a,b]).length≤_
 rw[qA]
 simp only[hJ,List.flatMap_cons,List.flatMap_nil,List.length_append,bR,gq,List.length_nil]
 omega
theorem sM{n:ByteArray}{a:List Int}(hn:n.size≤100)(ha:a.length≤1000000):bW.aD (n,[a]):=by
 show(qA _ [a]).length≤_
 rw[qA]
 simp only[hJ,List.flatMap_cons,List.flatMap_nil,List.length_append,bR,gq,List.length_nil]
 omega
def Sm(m:List Int):Prop:=m.length=32∧Bytes m
theorem DB(b:List Int):Sm (Dw b):=⟨yk b,zB b⟩
theorem vi(n:List Int)(ps:List (List Int)):Sm (tag n ps):=DB _
def xk(n:ByteArray)(ps:List (List Int)):List Int:=tag (bk n) ps
def Ec:ByteArray:=⟨#[115,105,103]⟩
def xZ:ByteArray:=⟨#[110,111,110,99,101]⟩
def mQ(r p:Int)(m:List Int):Int:=nA (xk Ec [fR r,fR p,m])
theorem rE(r p:Int)(m:List Int):Qn (mQ r p m):=by
 have:=rN (xk Ec [fR r,fR p,m])
 exact⟨by unfold mQ;omega,by unfold mQ;omega⟩
def C1(s:Sg):Prop:=ik s.1∧ik s.2.1
def lF(p:Int)(m:List Int)(t:Int)(s:Sg):Bool:=
 if p=1∨mg p=false∨mg t=false∨mg s.1=false∨¬s.2.1 < 2305843009213688669 then false
 else decide (gH s.2.1=rb [s.1,mG p (mQ s.1 p m),wF t])
def uu(k nonce:Int)(m:List Int)(t:Int):Sg:=
 (rb [gH nonce,t],xx nonce (uX (mQ (rb [gH nonce,t]) (gH k) m) k),())
def Bn(k:Int)(m:List Int):Int:=nA (xk xZ [fR k,m])
def gE(k:Int)(m:List Int):Sg:=if k < 2305843009213688669∧k≠0 then uu k (Bn k m) m 1 else(0,0,())
abbrev cR.D:=Int
def cR.st:cR.D→SA:=fun n=>([.d tu n],[])
abbrev cR.Y:=Bs
abbrev cR.X:=Bs
def cR.out:cR.X→aZ:=fun x=>⟨.d tB x,[],[]⟩
def cR.add:cR.D→cR.Y→cR.X:=fun n y=>y
def cR.aD:cR.D→Prop:=fun _=>True
def cR.F:cR.D→cR.Y:=fun n=>fR n
noncomputable def cR.G:dV:=eY (P:=Tryz.prog) []
noncomputable def cR.an:eJ:= {loops:=jJ [(3,{bn:=[0,3,7,8],sites:=[5]})],outs:=jI [(3,{bn:=[3],sites:=[5]},{bn:=[2],sites:=[5]})],res:=[some tB]}
noncomputable def cR.A:= @cK Tryz.prog cR.G cR.an 12 Tryz.f130 _ cR.st
abbrev cR.Ok:=cM @cR.A cR.aD cR.add cR.F cR.out
theorem cR.eq{R:Type}(n:Int)(k:aZ→Option R):cR.A n k=
 k (cR.out [(dJ .u8 (bQ .u64 n (56:Int))),(dJ .u8 (bQ .u64 n (48:Int))),(dJ .u8 (bQ .u64 n (40:Int))),(dJ .u8 (bQ .u64 n (32:Int))),(dJ .u8 (bQ .u64 n (24:Int))),(dJ .u8 (bQ .u64 n (16:Int))),(dJ .u8 (bQ .u64 n (8:Int))),(dJ .u8 (bQ .u64 n (0:Int)))]):=by kernel_rfl
theorem cR.ok:cR.Ok:=by
 intro n _
 rw[cR.eq,vI]
 rfl
noncomputable def cR.E:=Entry.cv [some tu] cR.st cR.aD cR.add cR.F cR.out
noncomputable def cR.call:cR.D→Option cR.X:=bJ cR.E cR.st
theorem cR.run:bE cR.call cR.aD cR.add cR.F:=cQ (cP [.d tu] fun _=>by kernel_rfl)
noncomputable def cR.sg:SG Tryz.prog:=⟨130,aW,cR.E,.fn 1 (by kernel_rfl) cR.ok (And.intro (.none (by kernel_rfl)) trivial)⟩
abbrev dL.D:=Int×Int×Bs
def dL.st:dL.D→SA:=fun(r,p,m)=>([.d tu r,.d tu p,.d tH m],[])
abbrev dL.Y:=Int
abbrev dL.X:=Int
def dL.out:dL.X→aZ:=fun x=>⟨.d tu x,[],[]⟩
def dL.add:dL.D→dL.Y→dL.X:=fun(r,p,m) y=>y
def dL.aD:dL.D→Prop:=fun(r,p,m)=>Sm m
def dL.F:dL.D→dL.Y:=fun(r,p,m)=>mQ r p m
noncomputable def dL.G:dV:=eY (P:=Tryz.prog) [cR.sg,bW.sg,bC.sg]
noncomputable def dL.an:eJ:= {}
noncomputable def dL.A:= @cK Tryz.prog dL.G dL.an 0 Tryz.f145 _ dL.st
abbrev dL.Ok:=cM @dL.A dL.aD dL.add dL.F dL.out
theorem dL.eq{R:Type}(r:Int)(p:Int)(m:Bs)(k:aZ→Option R):dL.A (r,p,m) k=
 ae (cR.call r) fun x1=>
 ae (cR.call p) fun x2=>
 ae (bW.call ((⟨#[115,105,103]⟩:ByteArray),[x1,x2,(cut m 0 32)])) fun x3=>
 ae (bC.call x3) fun x4=>
 k (dL.out x4):=by kernel_rfl
theorem dL.ok:dL.Ok:=by
 rintro⟨r,p,m⟩ hm
 have hm:Sm m:=hm
 rw[dL.eq,cR.run (d:=r) trivial,cR.run (d:=p) trivial]
 simp only[aa,cR.add,cR.F]
 rw[eV hm.1,bW.run (BK (by decide) (by rw[bR];omega) (by rw[bR];omega) (by rw[hm.1];omega))]
 simp only[aa,bW.add,bW.F]
 rw[bC.run (d:=tag (bk (⟨#[115,105,103]⟩:ByteArray)) [fR r,fR p,m]) (vi _ _)]
 rfl
noncomputable def dL.E:=Entry.cv [some tu,some tu,some tH] dL.st dL.aD dL.add dL.F dL.out
noncomputable def dL.call:dL.D→Option dL.X:=bJ dL.E dL.st
theorem dL.run:bE dL.call dL.aD dL.add dL.F:=cQ (cP [.d tu,.d tu,.d tB] fun _=>by kernel_rfl)
noncomputable def dL.sg:SG Tryz.prog:=⟨145,aW,dL.E,.fn 0 (by kernel_rfl) dL.ok trivial⟩
abbrev cg.D:=Int×Bs×Int×Sg
def cg.st:cg.D→SA:=fun(p,m,t,pre)=>([.d tu p,.d tH m,.d tu t,.d jc pre],[])
abbrev cg.Y:=Bool
abbrev cg.X:=Bool
def cg.out:cg.X→aZ:=fun x=>⟨.d .bool x,[],[]⟩
def cg.add:cg.D→cg.Y→cg.X:=fun(p,m,t,pre) y=>y
def cg.aD:cg.D→Prop:=fun(p,m,t,s)=>ik p∧Sm m∧ik t∧C1 s
def cg.F:cg.D→cg.Y:=fun(p,m,t,s)=>lF p m t s
noncomputable def cg.G:dV:=eY (P:=Tryz.prog) [cn.sg,cG.sg,dL.sg,df.sg,fD.sg,cF.sg,dm.sg]
noncomputable def cg.an:eJ:= {}
noncomputable def cg.A:= @cK Tryz.prog cg.G cg.an 0 Tryz.f105 _ cg.st
abbrev cg.Ok:=cM @cg.A cg.aD cg.add cg.F cg.out
theorem cg.eq{R:Type}(p:Int)(m:Bs)(t:Int)(pre:Sg)(k:aZ→Option R):cg.A (p,m,t,pre) k=
  aF ((kR p (1:Int))) (
   k (cg.out false)) (
   ae (cn.call p) fun x1=>
   aF ((!x1)) (
    k (cg.out false)) (
    ae (cn.call t) fun x2=>
    aF ((!x2)) (
     k (cg.out false)) (
     ae (cn.call pre.1) fun x3=>
     aF ((!x3)) (
      k (cg.out false)) (
      ae (cG.call pre.2.1) fun x4=>
      aF ((!x4)) (
       k (cg.out false)) (
       ae (dL.call (pre.1,p,m)) fun x5=>
       ae (df.call (p,x5)) fun x6=>
       ae (fD.call t) fun x7=>
       ae (cF.call [pre.1,x6,x7]) fun x8=>
       ae (dm.call pre.2.1) fun x9=>
       k (cg.out (kR x9 x8))))))):=by kernel_rfl
theorem cg.ok:cg.Ok:=by
 rintro⟨p,m,t,s⟩ ⟨hp,hm,ht,hs⟩
 have hp:ik p:=hp
 have ht:ik t:=ht
 have hm:Sm m:=hm
 have hs:C1 s:=hs
 rw[cg.eq,cn.run (d:=p) hp,cn.run (d:=t) ht,cn.run (d:=s.1) hs.1,cG.run (d:=s.2.1) trivial]
 simp only[aa,cn.add,cn.F,cG.add,cG.F,cg.add,cg.F,lF]
 by_cases h1:p=1
 ·rw[dq h1,ay,if_pos (Or.inl h1)]
 rw[eC h1,ao]
 cases h2:mg p
 ·rw[if_pos (Or.inr (Or.inl rfl))];rfl
 cases h3:mg t
 ·rw[if_pos (Or.inr (Or.inr (Or.inl rfl)))];rfl
 cases h4:mg s.1
 ·rw[if_pos (Or.inr (Or.inr (Or.inr (Or.inl rfl))))];rfl
 by_cases h5:s.2.1 < 2305843009213688669
 ·rw[bA h5,if_neg (by simp[h1,h5])]
  have hq:=rE s.1 p m
  rw[dL.run (d:=(s.1,p,m)) hm]
  simp only[Bool.not_true,ao,aa,dL.add,dL.F]
  rw[df.run (d:=(p,mQ s.1 p m)) ⟨hp,hq.u⟩,fD.run (d:=t) ht]
  simp only[aa,df.add,df.F,fD.add,fD.F]
  have q:cF.aD [s.1,mG p (mQ s.1 p m),wF t]:=⟨by
   intro x hx
   simp only[List.mem_cons,List.not_mem_nil,or_false]at hx
   rcases hx with rfl | rfl | rfl
   ·exact hs.1
   ·exact(wX _ _).u
   ·exact(wX _ _).u,by simp only[List.length_cons,List.length_nil];omega⟩
  rw[cF.run q,dm.run (d:=s.2.1) hs.2]
  rfl
 ·rw[bm h5,if_pos (Or.inr (Or.inr (Or.inr (Or.inr h5))))];rfl
noncomputable def cg.E:=Entry.cv [some tu,some tH,some tu,some jc] cg.st cg.aD cg.add cg.F cg.out
noncomputable def cg.call:cg.D→Option cg.X:=bJ cg.E cg.st
theorem cg.run:bE cg.call cg.aD cg.add cg.F:=cQ (cP [.d tu,.d tB,.d tu,.d jc] fun _=>by kernel_rfl)
noncomputable def cg.sg:SG Tryz.prog:=⟨105,aW,cg.E,.fn 0 (by kernel_rfl) cg.ok trivial⟩
abbrev bS.D:=Int×Bs×Sg
def bS.st:bS.D→SA:=fun(p,m,sv)=>([.d tu p,.d tH m,.d jc sv],[])
abbrev bS.Y:=Bool
abbrev bS.X:=Bool
def bS.out:bS.X→aZ:=fun x=>⟨.d .bool x,[],[]⟩
def bS.add:bS.D→bS.Y→bS.X:=fun(p,m,sv) y=>y
def bS.aD:bS.D→Prop:=fun(p,m,s)=>ik p∧Sm m∧C1 s
def bS.F:bS.D→bS.Y:=fun(p,m,s)=>lF p m 1 s
noncomputable def bS.G:dV:=eY (P:=Tryz.prog) [cg.sg]
noncomputable def bS.an:eJ:= {}
noncomputable def bS.A:= @cK Tryz.prog bS.G bS.an 0 Tryz.f43 _ bS.st
abbrev bS.Ok:=cM @bS.A bS.aD bS.add bS.F bS.out
theorem bS.eq{R:Type}(p:Int)(m:Bs)(sv:Sg)(k:aZ→Option R):bS.A (p,m,sv) k=
 ae (cg.call (p,m,(1:Int),sv)) fun x1=>
 k (bS.out x1):=by kernel_rfl
theorem bS.ok:bS.Ok:=by
 rintro⟨p,m,s⟩ ⟨hp,hm,hs⟩
 rw[bS.eq,cg.run (d:=(p,m,1,s)) ⟨hp,hm,⟨by omega,by omega⟩,hs⟩]
 rfl
noncomputable def bS.E:=Entry.cv [some tu,some tH,some jc] bS.st bS.aD bS.add bS.F bS.out
noncomputable def bS.call:bS.D→Option bS.X:=bJ bS.E bS.st
theorem bS.run:bE bS.call bS.aD bS.add bS.F:=cQ (cP [.d tu,.d tB,.d jc] fun _=>by kernel_rfl)
noncomputable def bS.sg:SG Tryz.prog:=⟨43,aW,bS.E,.fn 0 (by kernel_rfl) bS.ok trivial⟩
abbrev fp.D:=Int
def fp.st:fp.D→SA:=fun kv=>([.d tu kv],[])
abbrev fp.Y:=Bool
abbrev fp.X:=Bool
def fp.out:fp.X→aZ:=fun x=>⟨.d .bool x,[],[]⟩
def fp.add:fp.D→fp.Y→fp.X:=fun kv y=>y
def fp.aD:fp.D→Prop:=fun _=>True
def fp.F:fp.D→fp.Y:=fun k=>decide (k < 2305843009213688669∧k≠0)
noncomputable def fp.G:dV:=eY (P:=Tryz.prog) [cG.sg]
noncomputable def fp.an:eJ:= {}
noncomputable def fp.A:= @cK Tryz.prog fp.G fp.an 0 Tryz.f128 _ fp.st
abbrev fp.Ok:=cM @fp.A fp.aD fp.add fp.F fp.out
theorem fp.eq{R:Type}(kv:Int)(k:aZ→Option R):fp.A kv k=
  ae (cG.call kv) fun x1=>
  aF (x1) (
   k (fp.out (gM kv (0:Int)))) (
   k (fp.out false)):=by kernel_rfl
theorem fp.ok:fp.Ok:=by
 intro k _
 rw[fp.eq,cG.run (d:=k) trivial]
 simp only[aa,cG.add,cG.F,fp.add,fp.F]
 by_cases h:k < 2305843009213688669
 ·rw[bA h,ay]
  by_cases h0:k=0
  ·rw[bM h0,aO (fun x=>x.2 h0)]
  ·rw[dA h0,aR ⟨h,h0⟩]
 ·rw[bm h,ao,aO (fun x=>h x.1)]
noncomputable def fp.E:=Entry.cv [some tu] fp.st fp.aD fp.add fp.F fp.out
noncomputable def fp.call:fp.D→Option fp.X:=bJ fp.E fp.st
theorem fp.run:bE fp.call fp.aD fp.add fp.F:=cQ (cP [.d tu] fun _=>by kernel_rfl)
noncomputable def fp.sg:SG Tryz.prog:=⟨128,aW,fp.E,.fn 0 (by kernel_rfl) fp.ok trivial⟩
abbrev cE.D:=Int×Int×Bs×Int
def cE.st:cE.D→SA:=fun(kv,nonce,m,t)=>([.d tu kv,.d tu nonce,.d tH m,.d tu t],[])
abbrev cE.Y:=Sg
abbrev cE.X:=Sg
def cE.out:cE.X→aZ:=fun x=>⟨.d jc x,[],[]⟩
def cE.add:cE.D→cE.Y→cE.X:=fun(kv,nonce,m,t) y=>y
def cE.aD:cE.D→Prop:=fun(k,n,m,t)=>ik k∧ik n∧Sm m∧ik t
def cE.F:cE.D→cE.Y:=fun(k,n,m,t)=>uu k n m t
noncomputable def cE.G:dV:=eY (P:=Tryz.prog) [dm.sg,fC.sg,dL.sg,fA.sg,fH.sg]
noncomputable def cE.an:eJ:= {}
noncomputable def cE.A:= @cK Tryz.prog cE.G cE.an 0 Tryz.f129 _ cE.st
abbrev cE.Ok:=cM @cE.A cE.aD cE.add cE.F cE.out
theorem cE.eq{R:Type}(kv:Int)(nonce:Int)(m:Bs)(t:Int)(k:aZ→Option R):cE.A (kv,nonce,m,t) k=
 ae (dm.call nonce) fun x1=>
 ae (fC.call (x1,t)) fun x2=>
 ae (dm.call kv) fun x3=>
 ae (dL.call (x2,x3,m)) fun x4=>
 ae (fA.call (x4,kv)) fun x5=>
 ae (fH.call (nonce,x5)) fun x6=>
 k (cE.out (x2,(x6,()))):=by kernel_rfl
theorem cE.ok:cE.Ok:=by
 rintro⟨k,n,m,t⟩ ⟨hk,hn,hm,ht⟩
 have hk:ik k:=hk
 have hn:ik n:=hn
 have hm:Sm m:=hm
 have ht:ik t:=ht
 rw[cE.eq,dm.run (d:=n) hn]
 simp only[aa,dm.add,dm.F]
 rw[fC.run (d:=(gH n,t)) ⟨(wX _ _).u,ht⟩,dm.run (d:=k) hk]
 simp only[aa,dm.add,dm.F,fC.add,fC.F]
 rw[dL.run (d:=(rb [gH n,t],gH k,m)) hm]
 simp only[aa,dL.add,dL.F]
 rw[fA.run (d:=(mQ (rb [gH n,t]) (gH k) m,k)) ⟨(rE _ _ _).u,hk⟩]
 simp only[aa,fA.add,fA.F]
 rw[fH.run (d:=(n,uX (mQ (rb [gH n,t]) (gH k) m) k)) ⟨hn,(Cr _ _).u⟩]
 rfl
noncomputable def cE.E:=Entry.cv [some tu,some tu,some tH,some tu] cE.st cE.aD cE.add cE.F cE.out
noncomputable def cE.call:cE.D→Option cE.X:=bJ cE.E cE.st
theorem cE.run:bE cE.call cE.aD cE.add cE.F:=cQ (cP [.d tu,.d tu,.d tB,.d tu] fun _=>by kernel_rfl)
noncomputable def cE.sg:SG Tryz.prog:=⟨129,aW,cE.E,.fn 0 (by kernel_rfl) cE.ok trivial⟩
abbrev dI.D:=Int×Bs
def dI.st:dI.D→SA:=fun(kv,m)=>([.d tu kv,.d tH m],[])
abbrev dI.Y:=Sg
abbrev dI.X:=Sg
def dI.out:dI.X→aZ:=fun x=>⟨.d jc x,[],[]⟩
def dI.add:dI.D→dI.Y→dI.X:=fun(kv,m) y=>y
def dI.aD:dI.D→Prop:=fun(k,m)=>ik k∧Sm m
def dI.F:dI.D→dI.Y:=fun(k,m)=>gE k m
noncomputable def dI.G:dV:=eY (P:=Tryz.prog) [fp.sg,cR.sg,bW.sg,bC.sg,cE.sg]
noncomputable def dI.an:eJ:= {}
noncomputable def dI.A:= @cK Tryz.prog dI.G dI.an 0 Tryz.f91 _ dI.st
abbrev dI.Ok:=cM @dI.A dI.aD dI.add dI.F dI.out
theorem dI.eq{R:Type}(kv:Int)(m:Bs)(k:aZ→Option R):dI.A (kv,m) k=
  ae (fp.call kv) fun x1=>
  aF ((!x1)) (
   k (dI.out ((0:Int),((0:Int),())))) (
   ae (cR.call kv) fun x2=>
   ae (bW.call ((⟨#[110,111,110,99,101]⟩:ByteArray),[x2,(cut m 0 32)])) fun x3=>
   ae (bC.call x3) fun x4=>
   ae (cE.call (kv,x4,m,(1:Int))) fun x5=>
   k (dI.out x5)):=by kernel_rfl
theorem dI.ok:dI.Ok:=by
 rintro⟨k,m⟩ ⟨hk,hm⟩
 have hk:ik k:=hk
 have hm:Sm m:=hm
 rw[dI.eq,fp.run (d:=k) trivial]
 simp only[aa,fp.add,fp.F,dI.add,dI.F,gE]
 by_cases h:k < 2305843009213688669∧k≠0
 ·rw[aR h,if_pos h,cR.run (d:=k) trivial,eV hm.1]
  simp only[Bool.not_true,ao,aa,cR.add,cR.F]
  rw[bW.run (BJ (by decide) (by rw[bR];omega) (by rw[hm.1];omega))]
  simp only[aa,bW.add,bW.F]
  rw[bC.run (d:=tag (bk (⟨#[110,111,110,99,101]⟩:ByteArray)) [fR k,m]) (vi _ _)]
  simp only[aa,bC.add,bC.F]
  have q:=rN (tag (bk (⟨#[110,111,110,99,101]⟩:ByteArray)) [fR k,m])
  rw[cE.run (d:=(k,nA (tag (bk (⟨#[110,111,110,99,101]⟩:ByteArray)) [fR k,m]),m,1)) ⟨hk,⟨by omega,by omega⟩,hm,by omega,by omega⟩]
  rfl
 ·rw[aO h,if_neg h];rfl
noncomputable def dI.E:=Entry.cv [some tu,some tH] dI.st dI.aD dI.add dI.F dI.out
noncomputable def dI.call:dI.D→Option dI.X:=bJ dI.E dI.st
theorem dI.run:bE dI.call dI.aD dI.add dI.F:=cQ (cP [.d tu,.d tB] fun _=>by kernel_rfl)
noncomputable def dI.sg:SG Tryz.prog:=⟨91,aW,dI.E,.fn 0 (by kernel_rfl) dI.ok trivial⟩
set_option synthInstance.maxSize 5000
def nc(l:List Int):Prop:=∀x∈l,ik x
def CG(b:gm):Prop:=nc b.1∧ik b.2.2.2.1
def yB(l:Lk):Prop:=∀b∈l.1,CG b
def v9(n:Int):Bool:=decide (0≤n∧n≤1048576)
def oE(b:gm):Bool:=decide (b.1.length≤12) && (b.1.all mg && (v9 b.2.1 && (v9 b.2.2.1 && (decide (b.2.2.2.1=0) || mg b.2.2.2.1))))
def iZ(l:Lk):Bool:=l.1.all oE && decide (0 < l.1.length∧l.1.length≤4)
def kI:List Int→Int→Int⊕Unit
 |[],_=> .inr ()
 |p::ps,i=>if mg p then kI ps (i+1) else .inl i
def yF(l:List Int):Int:=match kI l 0 with | .inl i=>i | .inr _=> -1
theorem qG:∀(l:List Int) (i:Int),0≤i→(match kI l i with | .inl i=>decide (i≥0) | .inr _=>false)= !(l.all mg)
 |[],_,_=>rfl
 |p::ps,i,h=>by
  rw[kI,List.all_cons]
  cases hp:mg p
  ·simp[h]
  ·simp only[if_true,Bool.true_and]
   exact qG ps (i+1) (by omega)
theorem zs(l:List Int):l6 (yF l) 0= !(l.all mg):=by
 have:=qG l 0 (by omega)
 unfold yF l6
 cases h:kI l 0
 ·rw[h]at this;exact this
 ·rw[h]at this;rw[←this];rfl
abbrev fc.D:=Int
def fc.st:fc.D→SA:=fun p=>([.d tu p],[])
abbrev fc.Y:=Bool
abbrev fc.X:=Bool
def fc.out:fc.X→aZ:=fun x=>⟨.d .bool x,[],[]⟩
def fc.add:fc.D→fc.Y→fc.X:=fun p y=>y
def fc.aD:fc.D→Prop:=fun p=>ik p
def fc.F:fc.D→fc.Y:=fun p=> !mg p
noncomputable def fc.G:dV:=eY (P:=Tryz.prog) [cn.sg]
noncomputable def fc.an:eJ:= {}
noncomputable def fc.A:= @cK Tryz.prog fc.G fc.an 0 Tryz.f61 _ fc.st
abbrev fc.Ok:=cM @fc.A fc.aD fc.add fc.F fc.out
theorem fc.eq{R:Type}(p:Int)(k:aZ→Option R):fc.A p k=
 ae (cn.call p) fun x1=>
 k (fc.out (!x1)):=by kernel_rfl
theorem fc.ok:fc.Ok:=by
 intro p hp
 rw[fc.eq,cn.run (d:=p) hp]
 rfl
noncomputable def fc.E:=Entry.cv [some tu] fc.st fc.aD fc.add fc.F fc.out
noncomputable def fc.call:fc.D→Option fc.X:=bJ fc.E fc.st
theorem fc.run:bE fc.call fc.aD fc.add fc.F:=cQ (cP [.d tu] fun _=>by kernel_rfl)
noncomputable def fc.sg:SG Tryz.prog:=⟨61,aW,fc.E,.fn 0 (by kernel_rfl) fc.ok trivial⟩
abbrev aY.L0.D:=Bs×Int×Int
def aY.L0.st:aY.L0.D→AS:=fun(sv_2,t7,t8)=>⟨([.d tU sv_2,.fn 61 (.nil)]++ba 5 ([.d ti t7,.d ti t8]++ba 10 [])),[],(List.replicate 19 [])⟩
abbrev aY.L0.Y0:=Int
abbrev aY.L0.X0:=Int
def aY.L0.bw:aY.L0.X0→Exit×AS:=fun x=>(.ret,⟨(ba 4 ([.d ti x]++ba 14 [])),[],(List.replicate 19 [])⟩)
abbrev aY.L0.Y1:=Unit
abbrev aY.L0.X1:=Unit
def aY.L0.eO:aY.L0.X1→Exit×AS:=fun x=>(.exit 0,⟨(ba 19 []),[],(List.replicate 19 [])⟩)
abbrev aY.L0.X:=(aY.L0.X0)⊕(aY.L0.X1)
abbrev aY.L0.Y:=(aY.L0.Y0)⊕(aY.L0.Y1)
def aY.L0.out:aY.L0.X→Out (Exit×AS):=fun x=> .br x.isLeft (.get x.getLeft? fun a=> .ok (aY.L0.bw a)) (.get x.getRight? fun b=> .ok (aY.L0.eO b))
def aY.L0.add:aY.L0.D→aY.L0.Y→aY.L0.X:=fun(sv_2,t7,t8) y=>match y with | .inl y=> .inl y | .inr z=> .inr (z)
abbrev aY.D:=Bs
def aY.st:aY.D→SA:=fun sv=>([.d tU sv,.fn 61 (.nil)],[])
abbrev aY.Y:=Int
abbrev aY.X:=Int
def aY.out:aY.X→aZ:=fun x=>⟨.d ti x,[],[]⟩
def aY.add:aY.D→aY.Y→aY.X:=fun sv y=>y
def aY.L0.aD:aY.L0.D→Prop:=fun(l,n,i)=>nc l∧l.length≤1000000000∧n=l.length∧∃k:Nat,k≤l.length∧i=k
def aY.L0.F:aY.L0.D→aY.L0.Y:=fun(l,n,i)=>kI (l.drop i.toNat) i
def aY.aD:aY.D→Prop:=fun l=>nc l∧l.length≤1000000000
def aY.F:aY.D→aY.Y:=fun l=>yF l
noncomputable def aY.G:dV:=eY (P:=Tryz.prog) [fc.sg]
noncomputable def aY.L0.E:=bP.cv aY.L0.st aY.L0.aD aY.L0.add aY.L0.F aY.L0.out
noncomputable def aY.L0.call:aY.L0.D→Option aY.L0.X:=dk aY.L0.E aY.L0.st
noncomputable def aY.an:eJ:= {loops:=jJ [(2,{bn:=[0,1,7,8]})],outs:=jI [(2,{},{bn:=[4]})],fJ:=kz [(2,aY.L0.E)]}
noncomputable def aY.A:= @cK Tryz.prog aY.G aY.an 0 Tryz.f117 _ aY.st
abbrev aY.Ok:=cM @aY.A aY.aD aY.add aY.F aY.out
noncomputable def aY.L0.R:= @bV Tryz.prog aY.G aY.an 0 Tryz.f117 0 _ aY.L0.st
abbrev aY.L0.Ok:=eA Tryz.prog aY.G aY.an 0 Tryz.f117 0 aY.L0.st aY.L0.aD aY.L0.add aY.L0.F aY.L0.out
theorem aY.L0.run:bE aY.L0.call aY.L0.aD aY.L0.add aY.L0.F:=eK (eI [.d tU,.d ti,.d ti] fun _=>by kernel_rfl)
theorem aY.L0.aG:iO @aY.L0.R aY.L0.st aY.L0.aD aY.L0.add aY.L0.F aY.L0.out aY.L0.Ok:=jk
theorem aY.L0.step{R:Type}(sv_2:Bs)(t7:Int)(t8:Int)(kn:AS→Option R)(kx:Exit→AS→Option R):aY.L0.R (sv_2,t7,t8) kn kx=
  aF ((gb t8 t7)) (
   aF (dS t8 (((List.length sv_2):Nat):Int)) (
   ae (fc.call (nth tu sv_2 (Int.toNat t8))) fun x1=>
   aF (x1) (
    kx (aY.L0.bw t8).1 (aY.L0.bw t8).2) (
    kn (aY.L0.st (sv_2,t7,(bO .i64 t8 (1:Int)))))) none) (
   kx (aY.L0.eO ()).1 (aY.L0.eO ()).2):=by kernel_rfl
theorem aY.eq{R:Type}(sv:Bs)(k:aZ→Option R):aY.A sv k=
  ae (aY.L0.call (sv,(((List.length sv):Nat):Int),(0:Int))) fun x2=>
  aF (x2.isLeft) (
   ae (x2.getLeft?) fun a3=>
   k (aY.out a3)) (
   ae (x2.getRight?) fun b4=>
   k (aY.out (-1:Int))):=by kernel_rfl
theorem aY.L0.ok:aY.L0.Ok:=by
 refine aY.L0.aG (fun(l,n,i)=>l.length - i.toNat) ?_
 rintro⟨l,n,i⟩ ⟨hl,hb,rfl,k,hk,rfl⟩
 have hb:l.length≤1000000000:=hb
 have hk:k≤l.length:=hk
 by_cases h:k < l.length
 ·have hx:=hl _ (List.getElem_mem h)
  have n1:nth (.int .u64) l k=l[k]:=bZ (t:= .int .u64) h
  have hd:kI (l.drop k) k=if mg l[k] then kI (l.drop (k+1)) ((k+1:Nat):Int) else .inl (k:Int):=by rw[List.drop_eq_getElem_cons h];rfl
  cases hp:mg l[k]
  ·right
   refine⟨aY.L0.bw (k:Int),?_,fun kn kx=> ?_⟩
   ·simp only[aY.L0.add,aY.L0.F,Int.toNat_natCast,hd,hp,Bool.false_eq_true,if_false]
    rfl
   ·rw[aY.L0.step]
    simp(disch:=omega) only[↓S1,↓if_pos,↓if_neg,if_pos,if_neg,if_true,if_false,S2,n1]
    rw[fc.run (d:=l[k]) hx]
    simp only[aa,fc.add,fc.F,hp,Bool.not_false,ay]
  ·left
   refine⟨(l,l.length,((k+1:Nat):Int)),⟨hl,hb,rfl,k+1,by omega,rfl⟩,by simp only[Int.toNat_natCast];omega,?_,fun kn kx=> ?_⟩
   ·simp only[aY.L0.add,aY.L0.F,Int.toNat_natCast,hd,hp,if_true]
   ·rw[aY.L0.step]
    simp(disch:=omega) only[↓S1,↓if_pos,↓if_neg,if_pos,if_neg,if_true,if_false,S2,n1]
    rw[fc.run (d:=l[k]) hx]
    simp only[aa,fc.add,fc.F,hp,Bool.not_true,ao]
 ·right
  obtain rfl:k=l.length:=by omega
  refine⟨aY.L0.eO (),?_,fun kn kx=> ?_⟩
  ·simp only[aY.L0.add,aY.L0.F,Int.toNat_natCast,List.drop_length]
   rfl
  ·rw[aY.L0.step]
   simp(disch:=omega) only[↓S1,↓if_pos,↓if_neg,if_pos,if_neg,if_true,if_false,S2]
theorem aY.ok:aY.Ok:=by
 rintro l ⟨hl,hb⟩
 rw[aY.eq,aY.L0.run (d:=(l,l.length,0)) ⟨hl,hb,rfl,0,by omega,rfl⟩]
 simp only[aa,aY.L0.add,aY.L0.F,Int.toNat_zero,List.drop_zero,aY.add,aY.F,yF]
 cases kI l 0 <;> rfl
noncomputable def aY.E:=Entry.cv [some tU,none] aY.st aY.aD aY.add aY.F aY.out
noncomputable def aY.call:aY.D→Option aY.X:=bJ aY.E aY.st
theorem aY.run:bE aY.call aY.aD aY.add aY.F:=cQ (cP [.d tU] fun _=>by kernel_rfl)
noncomputable def aY.sg:SG Tryz.prog:=⟨117,aW,aY.E,.fn 1 (by kernel_rfl) aY.ok (And.intro (.cv aY.L0.ok (by kernel_rfl)) trivial)⟩
abbrev bG.D:=Bs
def bG.st:bG.D→SA:=fun sv=>([.d tU sv,.fn 61 (.nil)],[])
abbrev bG.Y:=Bool
abbrev bG.X:=Bool
def bG.out:bG.X→aZ:=fun x=>⟨.d .bool x,[],[]⟩
def bG.add:bG.D→bG.Y→bG.X:=fun sv y=>y
def bG.aD:bG.D→Prop:=fun l=>nc l∧l.length≤1000000000
def bG.F:bG.D→bG.Y:=fun l=> !(l.all mg)
noncomputable def bG.G:dV:=eY (P:=Tryz.prog) [aY.sg]
noncomputable def bG.an:eJ:= {}
noncomputable def bG.A:= @cK Tryz.prog bG.G bG.an 0 Tryz.f63 _ bG.st
abbrev bG.Ok:=cM @bG.A bG.aD bG.add bG.F bG.out
theorem bG.eq{R:Type}(sv:Bs)(k:aZ→Option R):bG.A sv k=
 ae (aY.call sv) fun x1=>
 k (bG.out (l6 x1 (0:Int))):=by kernel_rfl
theorem bG.ok:bG.Ok:=by
 rintro l ⟨hl,hb⟩
 rw[bG.eq,aY.run (d:=l) ⟨hl,hb⟩]
 simp only[aa,aY.add,aY.F,zs]
 rfl
noncomputable def bG.E:=Entry.cv [some tU,none] bG.st bG.aD bG.add bG.F bG.out
noncomputable def bG.call:bG.D→Option bG.X:=bJ bG.E bG.st
theorem bG.run:bE bG.call bG.aD bG.add bG.F:=cQ (cP [.d tU] fun _=>by kernel_rfl)
noncomputable def bG.sg:SG Tryz.prog:=⟨63,aW,bG.E,.fn 0 (by kernel_rfl) bG.ok trivial⟩
abbrev cf.D:=Int
def cf.st:cf.D→SA:=fun n=>([.d ti n],[])
abbrev cf.Y:=Bool
abbrev cf.X:=Bool
def cf.out:cf.X→aZ:=fun x=>⟨.d .bool x,[],[]⟩
def cf.add:cf.D→cf.Y→cf.X:=fun n y=>y
def cf.aD:cf.D→Prop:=fun _=>True
def cf.F:cf.D→cf.Y:=fun n=>v9 n
noncomputable def cf.G:dV:=eY (P:=Tryz.prog) []
noncomputable def cf.an:eJ:= {}
noncomputable def cf.A:= @cK Tryz.prog cf.G cf.an 0 Tryz.f64 _ cf.st
abbrev cf.Ok:=cM @cf.A cf.aD cf.add cf.F cf.out
theorem cf.eq{R:Type}(n:Int)(k:aZ→Option R):cf.A n k=
  aF ((l6 n (0:Int))) (
   k (cf.out (tK n (1048576:Int)))) (
   k (cf.out false)):=by kernel_rfl
theorem cf.ok:cf.Ok:=by
 intro n _
 rw[cf.eq]
 simp only[cf.add,cf.F,v9]
 by_cases h:0≤n
 ·rw[fF h,ay]
  by_cases h2:n≤1048576
  ·rw[j7 h2,aR ⟨h,h2⟩]
  ·rw[je h2,aO (fun x=>h2 x.2)]
 ·rw[eM h,ao,aO (fun x=>h x.1)]
noncomputable def cf.E:=Entry.cv [some ti] cf.st cf.aD cf.add cf.F cf.out
noncomputable def cf.call:cf.D→Option cf.X:=bJ cf.E cf.st
theorem cf.run:bE cf.call cf.aD cf.add cf.F:=cQ (cP [.d ti] fun _=>by kernel_rfl)
noncomputable def cf.sg:SG Tryz.prog:=⟨64,aW,cf.E,.fn 0 (by kernel_rfl) cf.ok trivial⟩
set_option synthInstance.maxSize 5000
abbrev aQ.L0.D:=Lk×(List gm)×Int×Int
def aQ.L0.st:aQ.L0.D→AS:=fun(l_2,t7,t8,t9)=>⟨([.undef,.ej kq l_2,.undef,.fn 61 (.nil),.undef,.undef,.undef,.d (.slice fo) t7,.d ti t8,.d ti t9]++ba 47 []),[],(List.replicate 57 [])⟩
abbrev aQ.L0.Y0:=Unit
abbrev aQ.L0.X0:=Unit
def aQ.L0.bw:aQ.L0.X0→Exit×AS:=fun x=>(.ret,⟨([.undef,.undef,.d .bool false]++ba 54 []),[],(List.replicate 57 [])⟩)
abbrev aQ.L0.Y1:=Unit
abbrev aQ.L0.X1:=Lk
def aQ.L0.eO:aQ.L0.X1→Exit×AS:=fun x=>(.exit 0,⟨([.undef,.ej kq x]++ba 55 []),[],(List.replicate 57 [])⟩)
abbrev aQ.L0.X:=(aQ.L0.X0)⊕(aQ.L0.X1)
abbrev aQ.L0.Y:=(aQ.L0.Y0)⊕(aQ.L0.Y1)
def aQ.L0.out:aQ.L0.X→Out (Exit×AS):=fun x=> .br x.isLeft (.get x.getLeft? fun a=> .ok (aQ.L0.bw a)) (.get x.getRight? fun b=> .ok (aQ.L0.eO b))
def aQ.L0.add:aQ.L0.D→aQ.L0.Y→aQ.L0.X:=fun(l_2,t7,t8,t9) y=>match y with | .inl y=> .inl y | .inr z=> .inr (l_2)
abbrev aQ.D:=Lk
def aQ.st:aQ.D→SA:=fun l=>([.d kq l],[])
abbrev aQ.Y:=Bool
abbrev aQ.X:=Bool
def aQ.out:aQ.X→aZ:=fun x=>⟨.d .bool x,[],[]⟩
def aQ.add:aQ.D→aQ.Y→aQ.X:=fun l y=>y
def aQ.L0.aD:aQ.L0.D→Prop:=fun(l,bs,n,i)=>(∀b∈bs,CG b)∧bs.length≤1000000000∧n=bs.length∧∃k:Nat,k≤bs.length∧i=k
def aQ.L0.F:aQ.L0.D→aQ.L0.Y:=fun(l,bs,n,i)=>if(bs.drop i.toNat).all oE then .inr () else .inl ()
def aQ.aD:aQ.D→Prop:=fun l=>yB l∧l.1.length≤1000000000
def aQ.F:aQ.D→aQ.Y:=fun l=>iZ l
noncomputable def aQ.G:dV:=eY (P:=Tryz.prog) [bG.sg,cf.sg,fc.sg]
noncomputable def aQ.L0.E:=bP.cv aQ.L0.st aQ.L0.aD aQ.L0.add aQ.L0.F aQ.L0.out
noncomputable def aQ.L0.call:aQ.L0.D→Option aQ.L0.X:=dk aQ.L0.E aQ.L0.st
noncomputable def aQ.an:eJ:= {loops:=jJ [(3,{bn:=[1,3,7,8,9]})],outs:=jI [(3,{bn:=[1]},{bn:=[2]})],fJ:=kz [(3,aQ.L0.E)]}
noncomputable def aQ.A:= @cK Tryz.prog aQ.G aQ.an 0 Tryz.f13 _ aQ.st
abbrev aQ.Ok:=cM @aQ.A aQ.aD aQ.add aQ.F aQ.out
noncomputable def aQ.L0.R:= @bV Tryz.prog aQ.G aQ.an 0 Tryz.f13 0 _ aQ.L0.st
abbrev aQ.L0.Ok:=eA Tryz.prog aQ.G aQ.an 0 Tryz.f13 0 aQ.L0.st aQ.L0.aD aQ.L0.add aQ.L0.F aQ.L0.out
theorem aQ.L0.run:bE aQ.L0.call aQ.L0.aD aQ.L0.add aQ.L0.F:=eK (eI [.d kq,.d (.slice fo),.d ti,.d ti] fun _=>by kernel_rfl)
theorem aQ.L0.aG:iO @aQ.L0.R aQ.L0.st aQ.L0.aD aQ.L0.add aQ.L0.F aQ.L0.out aQ.L0.Ok:=jk
theorem aQ.L0.step{R:Type}(l_2:Lk)(t7:(List gm))(t8:Int)(t9:Int)(kn:AS→Option R)(kx:Exit→AS→Option R):aQ.L0.R (l_2,t7,t8,t9) kn kx=
  aF ((gb t9 t8)) (
   aF (dS t9 (((List.length t7):Nat):Int)) (
   aF ((mv (((List.length (nth fo t7 (Int.toNat t9)).1):Nat):Int) (12:Int))) (
    kx (aQ.L0.bw ()).1 (aQ.L0.bw ()).2) (
    ae (bG.call (nth fo t7 (Int.toNat t9)).1) fun x1=>
    aF (x1) (
     kx (aQ.L0.bw ()).1 (aQ.L0.bw ()).2) (
     ae (cf.call (nth fo t7 (Int.toNat t9)).2.1) fun x2=>
     aF ((!x2)) (
      kx (aQ.L0.bw ()).1 (aQ.L0.bw ()).2) (
      ae (cf.call (nth fo t7 (Int.toNat t9)).2.2.1) fun x3=>
      aF ((!x3)) (
       kx (aQ.L0.bw ()).1 (aQ.L0.bw ()).2) (
       aF ((gM (nth fo t7 (Int.toNat t9)).2.2.2.1 (0:Int))) (
        ae (fc.call (nth fo t7 (Int.toNat t9)).2.2.2.1) fun x4=>
        aF (x4) (
         kx (aQ.L0.bw ()).1 (aQ.L0.bw ()).2) (
         kn (aQ.L0.st (l_2,t7,t8,(bO .i64 t9 (1:Int)))))) (
        kn (aQ.L0.st (l_2,t7,t8,(bO .i64 t9 (1:Int)))))))))) none) (
   kx (aQ.L0.eO l_2).1 (aQ.L0.eO l_2).2):=by kernel_rfl
theorem aQ.eq{R:Type}(l:Lk)(k:aZ→Option R):aQ.A l k=
  ae (aQ.L0.call (l,l.1,(((List.length l.1):Nat):Int),(0:Int))) fun x5=>
  aF (x5.isLeft) (
   ae (x5.getLeft?) fun a6=>
   k (aQ.out false)) (
   ae (x5.getRight?) fun b7=>
   aF ((mv (((List.length b7.1):Nat):Int) (0:Int))) (
    k (aQ.out (tK (((List.length b7.1):Nat):Int) (4:Int)))) (
    k (aQ.out false))):=by kernel_rfl
theorem aQ.L0.ok:aQ.L0.Ok:=by
 refine aQ.L0.aG (fun(l,bs,n,i)=>bs.length - i.toNat) ?_
 rintro⟨l,bs,n,i⟩ ⟨hl,hb,rfl,k,hk,rfl⟩
 have hb:bs.length≤1000000000:=hb
 have hk:k≤bs.length:=hk
 by_cases h:k < bs.length
 ·have hx:CG bs[k]:=hl _ (List.getElem_mem h)
  have n1:nth (.pair (.slice (.int .u64)) (.pair (.int .i64) (.pair (.int .i64) (.pair (.int .u64) .unit)))) bs k=bs[k]:=bZ (t:=(.pair (.slice (.int .u64)) (.pair (.int .i64) (.pair (.int .i64) (.pair (.int .u64) .unit))))) h
  have hd:(bs.drop k).all oE=(oE bs[k] && (bs.drop (k+1)).all oE):=by rw[List.drop_eq_getElem_cons h,List.all_cons]
  have step:∀ {R:Type} (kn:AS→Option R) (kx:Exit→AS→Option R),aQ.L0.R (l,bs,(bs.length:Int),(k:Int)) kn kx=aF (oE bs[k]) (kn (aQ.L0.st (l,bs,(bs.length:Int),((k+1:Nat):Int)))) (kx (aQ.L0.bw ()).1 (aQ.L0.bw ()).2):=by
   intro R kn kx
   rw[aQ.L0.step,bA (by omega),bh (by omega) (by omega),Int.toNat_natCast,n1,N.kr (by omega)]
   obtain⟨⟨ks,af,dl,sc,u⟩,hbk⟩:∃b,bs[k]=b:=⟨_,rfl⟩
   rw[hbk]at hx ⊢
   have h1:nc ks:=hx.1
   have h2:ik sc:=hx.2
   simp only[ay,oE]
   by_cases hk:ks.length≤12
   ·rw[dx (by omega),bG.run (d:=ks) ⟨h1,by omega⟩,cf.run (d:=af) trivial,cf.run (d:=dl) trivial,fc.run (d:=sc) h2,aR hk]
    simp only[ao,aa,bG.add,bG.F,cf.add,cf.F,fc.add,fc.F,Bool.true_and]
    cases ks.all mg
    ·rfl
    cases v9 af
    ·rfl
    cases v9 dl
    ·rfl
    by_cases hs:sc=0
    ·rw[bM hs,aR hs];rfl
    ·rw[dA hs,aO hs]
     cases mg sc <;> rfl
   ·rw[dG (by omega),aO hk];rfl
  cases hp:oE bs[k]
  ·right
   refine⟨aQ.L0.bw (),?_,fun kn kx=> ?_⟩
   ·simp only[aQ.L0.add,aQ.L0.F,Int.toNat_natCast,hd,hp,Bool.false_and,Bool.false_eq_true,if_false]
    rfl
   ·rw[step,hp,ao]
  ·left
   refine⟨(l,bs,bs.length,((k+1:Nat):Int)),⟨hl,hb,rfl,k+1,by omega,rfl⟩,by simp only[Int.toNat_natCast];omega,?_,fun kn kx=> ?_⟩
   ·simp only[aQ.L0.add,aQ.L0.F,Int.toNat_natCast,hd,hp,Bool.true_and]
   ·rw[step,hp,ay]
 ·right
  obtain rfl:k=bs.length:=by omega
  refine⟨aQ.L0.eO l,?_,fun kn kx=> ?_⟩
  ·simp only[aQ.L0.add,aQ.L0.F,Int.toNat_natCast,List.drop_length]
   rfl
  ·rw[aQ.L0.step]
   simp(disch:=omega) only[↓S1,↓if_pos,↓if_neg,if_pos,if_neg,if_true,if_false,S2]
theorem aQ.ok:aQ.Ok:=by
 rintro l ⟨hl,hb⟩
 have hb:l.1.length≤1000000000:=hb
 rw[aQ.eq,aQ.L0.run (d:=(l,l.1,l.1.length,0)) ⟨hl,hb,rfl,0,by omega,rfl⟩]
 simp only[aa,aQ.L0.add,aQ.L0.F,Int.toNat_zero,List.drop_zero,aQ.add,aQ.F,iZ]
 cases l.1.all oE
 ·rfl
 ·simp only[if_true,Bool.true_and]
  show aF (mv _ _) _ _=_
  by_cases h0:0 < l.1.length
  ·rw[dG (by omega)]
   by_cases h4:l.1.length≤4
   ·rw[j7 (by omega),aR ⟨h0,h4⟩];rfl
   ·rw[je (by omega),aO (fun x=>h4 x.2)];rfl
  ·rw[dx (by omega),aO (fun x=>h0 x.1)];rfl
noncomputable def aQ.E:=Entry.cv [some kq] aQ.st aQ.aD aQ.add aQ.F aQ.out
noncomputable def aQ.call:aQ.D→Option aQ.X:=bJ aQ.E aQ.st
theorem aQ.run:bE aQ.call aQ.aD aQ.add aQ.F:=cQ (cP [.d kq] fun _=>by kernel_rfl)
noncomputable def aQ.sg:SG Tryz.prog:=⟨13,aW,aQ.E,.fn 1 (by kernel_rfl) aQ.ok (And.intro (.cv aQ.L0.ok (by kernel_rfl)) trivial)⟩
def o7(m:List Int):List Int→List Sg→Bool
 |[],_=>true
 |p::ps,ss=>lF p m 1 (ss.headD (0,0,())) && o7 m ps ss.tail
def CW(l:Lk)(w:j6)(m:List Int)(height age:Int):Int:=
 if iZ l=false∨w.1 < 0∨w.1≥l.1.length then 1
 else
  let b:=nth (.pair (.slice (.int .u64)) (.pair (.int .i64) (.pair (.int .i64) (.pair (.int .u64) .unit)))) l.1 w.1.toNat
  if height < b.2.1∨age < b.2.2.1 then 11
  else if b.2.2.2.1≠0∧gH w.2.2.1≠b.2.2.2.1 then 23
  else if w.2.1.length≠b.1.length then 7
  else if o7 m b.1 w.2.1 then 0 else 7
theorem Aq(m:List Int)(ks:List Int)(ss:List Sg)(h:ss.length=ks.length)(k:Nat)(hk:k < ks.length):o7 m (ks.drop k) (ss.drop k)=(lF ks[k] m 1 (ss[k]'(by omega)) && o7 m (ks.drop (k+1)) (ss.drop (k+1))):=by
 rw[List.drop_eq_getElem_cons hk,List.drop_eq_getElem_cons (by omega:k < ss.length)]
 rfl
def oo(w:j6):Prop:=(∀s∈w.2.1,C1 s)∧ik w.2.2.1
abbrev bo.L0.D:=j6×Bs×Bs×Int×Int
def bo.L0.st:bo.L0.D→AS:=fun(wv_2,m_2,t68,t69,t70)=>⟨(ba 6 ([.ej mK wv_2,.ej tH m_2]++ba 60 ([.d tU t68,.d ti t69,.d ti t70]++ba 14 []))),[],(List.replicate 85 [])⟩
abbrev bo.L0.Y0:=Unit
abbrev bo.L0.X0:=Unit
def bo.L0.bw:bo.L0.X0→Exit×AS:=fun x=>(.ret,⟨(ba 10 ([.d ti (7:Int)]++ba 74 [])),[],(List.replicate 85 [])⟩)
abbrev bo.L0.Y1:=Unit
abbrev bo.L0.X1:=Unit
def bo.L0.eO:bo.L0.X1→Exit×AS:=fun x=>(.exit 1,⟨(ba 85 []),[],(List.replicate 85 [])⟩)
abbrev bo.L0.X:=(bo.L0.X0)⊕(bo.L0.X1)
abbrev bo.L0.Y:=(bo.L0.Y0)⊕(bo.L0.Y1)
def bo.L0.out:bo.L0.X→Out (Exit×AS):=fun x=> .br x.isLeft (.get x.getLeft? fun a=> .ok (bo.L0.bw a)) (.get x.getRight? fun b=> .ok (bo.L0.eO b))
def bo.L0.add:bo.L0.D→bo.L0.Y→bo.L0.X:=fun(wv_2,m_2,t68,t69,t70) y=>match y with | .inl y=> .inl y | .inr z=> .inr (z)
abbrev bo.D:=Lk×j6×Bs×Int×Int
def bo.st:bo.D→SA:=fun(l,wv,m,height,age)=>([.d kq l,.d mK wv,.d tH m,.d ti height,.d ti age],[])
abbrev bo.Y:=Int
abbrev bo.X:=Int
def bo.out:bo.X→aZ:=fun x=>⟨.d ti x,[],[]⟩
def bo.add:bo.D→bo.Y→bo.X:=fun(l,wv,m,height,age) y=>y
def bo.L0.aD:bo.L0.D→Prop:=fun(w,m,ks,n,i)=>oo w∧Sm m∧nc ks∧ks.length≤1000000000∧w.2.1.length=ks.length∧n=ks.length∧∃k:Nat,k≤ks.length∧i=k
def bo.L0.F:bo.L0.D→bo.L0.Y:=fun(w,m,ks,n,i)=>if o7 m (ks.drop i.toNat) (w.2.1.drop i.toNat) then .inr () else .inl ()
def bo.aD:bo.D→Prop:=fun(l,w,m,h,a)=>yB l∧l.1.length≤1000000000∧oo w∧Sm m
def bo.F:bo.D→bo.Y:=fun(l,w,m,h,a)=>CW l w m h a
noncomputable def bo.G:dV:=eY (P:=Tryz.prog) [aQ.sg,dm.sg,bS.sg]
noncomputable def bo.L0.E:=bP.cv bo.L0.st bo.L0.aD bo.L0.add bo.L0.F bo.L0.out
noncomputable def bo.L0.call:bo.L0.D→Option bo.L0.X:=dk bo.L0.E bo.L0.st
noncomputable def bo.an:eJ:= {loops:=jJ [(11,{bn:=[6,7,68,69,70]})],outs:=jI [(11,{},{bn:=[10]})],fJ:=kz [(11,bo.L0.E)]}
noncomputable def bo.A:= @cK Tryz.prog bo.G bo.an 0 Tryz.f47 _ bo.st
abbrev bo.Ok:=cM @bo.A bo.aD bo.add bo.F bo.out
noncomputable def bo.L0.R:= @bV Tryz.prog bo.G bo.an 0 Tryz.f47 0 _ bo.L0.st
abbrev bo.L0.Ok:=eA Tryz.prog bo.G bo.an 0 Tryz.f47 0 bo.L0.st bo.L0.aD bo.L0.add bo.L0.F bo.L0.out
theorem bo.L0.run:bE bo.L0.call bo.L0.aD bo.L0.add bo.L0.F:=eK (eI [.d mK,.d tH,.d tU,.d ti,.d ti] fun _=>by kernel_rfl)
theorem bo.L0.aG:iO @bo.L0.R bo.L0.st bo.L0.aD bo.L0.add bo.L0.F bo.L0.out bo.L0.Ok:=jk
theorem bo.L0.step{R:Type}(wv_2:j6)(m_2:Bs)(t68:Bs)(t69:Int)(t70:Int)(kn:AS→Option R)(kx:Exit→AS→Option R):bo.L0.R (wv_2,m_2,t68,t69,t70) kn kx=
  aF ((gb t70 t69)) (
   aF (dS t70 (((List.length t68):Nat):Int)) (
   aF (dS t70 (((List.length wv_2.2.1):Nat):Int)) (
   ae (bS.call ((nth tu t68 (Int.toNat t70)),m_2,(nth jc wv_2.2.1 (Int.toNat t70)))) fun x1=>
   aF ((!x1)) (
    kx (bo.L0.bw ()).1 (bo.L0.bw ()).2) (
    kn (bo.L0.st (wv_2,m_2,t68,t69,(bO .i64 t70 (1:Int)))))) none) none) (
   kx (bo.L0.eO ()).1 (bo.L0.eO ()).2):=by kernel_rfl
theorem bo.eq{R:Type}(l:Lk)(wv:j6)(m:Bs)(height:Int)(age:Int)(k:aZ→Option R):bo.A (l,wv,m,height,age) k=
  ae (aQ.call l) fun x1=>
  aF ((!x1)) (
   k (bo.out (1:Int))) (
   aF ((gb wv.1 (0:Int))) (
    k (bo.out (1:Int))) (
    aF ((l6 wv.1 (((List.length l.1):Nat):Int))) (
     k (bo.out (1:Int))) (
     aF (dS wv.1 (((List.length l.1):Nat):Int)) (
     aF ((gb height (nth fo l.1 (Int.toNat wv.1)).2.1)) (
      k (bo.out (11:Int))) (
      aF ((gb age (nth fo l.1 (Int.toNat wv.1)).2.2.1)) (
       k (bo.out (11:Int))) (
       aF ((gM (nth fo l.1 (Int.toNat wv.1)).2.2.2.1 (0:Int))) (
        ae (dm.call wv.2.2.1) fun x2=>
        aF ((gM x2 (nth fo l.1 (Int.toNat wv.1)).2.2.2.1)) (
         k (bo.out (23:Int))) (
         aF ((gM (((List.length wv.2.1):Nat):Int) (((List.length (nth fo l.1 (Int.toNat wv.1)).1):Nat):Int))) (
          k (bo.out (7:Int))) (
          ae (bo.L0.call (wv,m,(nth fo l.1 (Int.toNat wv.1)).1,(((List.length (nth fo l.1 (Int.toNat wv.1)).1):Nat):Int),(0:Int))) fun x4=>
          aF (x4.isLeft) (
           ae (x4.getLeft?) fun a5=>
           k (bo.out (7:Int))) (
           ae (x4.getRight?) fun b6=>
           k (bo.out (0:Int)))))) (
        aF ((gM (((List.length wv.2.1):Nat):Int) (((List.length (nth fo l.1 (Int.toNat wv.1)).1):Nat):Int))) (
         k (bo.out (7:Int))) (
         ae (bo.L0.call (wv,m,(nth fo l.1 (Int.toNat wv.1)).1,(((List.length (nth fo l.1 (Int.toNat wv.1)).1):Nat):Int),(0:Int))) fun x7=>
         aF (x7.isLeft) (
          ae (x7.getLeft?) fun a8=>
          k (bo.out (7:Int))) (
          ae (x7.getRight?) fun b9=>
          k (bo.out (0:Int)))))))) none))):=by kernel_rfl
theorem bo.L0.ok:bo.L0.Ok:=by
 refine bo.L0.aG (fun(w,m,ks,n,i)=>ks.length - i.toNat) ?_
 rintro⟨w,m,ks,n,i⟩ ⟨hw,hm,hl,hb,hs,rfl,k,hk,rfl⟩
 have hb:ks.length≤1000000000:=hb
 have hk:k≤ks.length:=hk
 have hs:w.2.1.length=ks.length:=hs
 by_cases h:k < ks.length
 ·have hx:=hl _ (List.getElem_mem h)
  have hy:=hw.1 _ (List.getElem_mem (by omega:k < w.2.1.length))
  have n1:nth (.int .u64) ks k=ks[k]:=bZ (t:= .int .u64) h
  have n2:nth (.pair (.int .u64) (.pair (.int .u64) .unit)) w.2.1 k=w.2.1[k]'(by omega):=bZ (t:=(.pair (.int .u64) (.pair (.int .u64) .unit))) (by omega)
  have hd:=Aq m ks w.2.1 hs k h
  have step:∀ {R:Type} (kn:AS→Option R) (kx:Exit→AS→Option R),bo.L0.R (w,m,ks,(ks.length:Int),(k:Int)) kn kx=aF (lF ks[k] m 1 (w.2.1[k]'(by omega))) (kn (bo.L0.st (w,m,ks,(ks.length:Int),((k+1:Nat):Int)))) (kx (bo.L0.bw ()).1 (bo.L0.bw ()).2):=by
   intro R kn kx
   rw[bo.L0.step,bA (by omega),bh (by omega) (by omega),bh (by omega) (by omega),Int.toNat_natCast,n1,n2,N.kr (by omega),bS.run (d:=(ks[k],m,w.2.1[k]'(by omega))) ⟨hx,hm,hy⟩]
   simp only[ay,aa,bS.add,bS.F]
   cases lF ks[k] m 1 (w.2.1[k]'(by omega)) <;> rfl
  cases hp:lF ks[k] m 1 (w.2.1[k]'(by omega))
  ·right
   refine⟨bo.L0.bw (),?_,fun kn kx=> ?_⟩
   ·simp only[bo.L0.add,bo.L0.F,Int.toNat_natCast,hd,hp,Bool.false_and,Bool.false_eq_true,if_false]
    rfl
   ·rw[step,hp,ao]
  ·left
   refine⟨(w,m,ks,ks.length,((k+1:Nat):Int)),⟨hw,hm,hl,hb,hs,rfl,k+1,by omega,rfl⟩,by simp only[Int.toNat_natCast];omega,?_,fun kn kx=> ?_⟩
   ·simp only[bo.L0.add,bo.L0.F,Int.toNat_natCast,hd,hp,Bool.true_and]
   ·rw[step,hp,ay]
 ·right
  obtain rfl:k=ks.length:=by omega
  refine⟨bo.L0.eO (),?_,fun kn kx=> ?_⟩
  ·simp only[bo.L0.add,bo.L0.F,Int.toNat_natCast,List.drop_length]
   rfl
  ·rw[bo.L0.step]
   simp(disch:=omega) only[↓S1,↓if_pos,↓if_neg,if_pos,if_neg,if_true,if_false,S2]
theorem zU{l:Lk}(h:iZ l=true){b:gm}(hb:b∈l.1):b.1.length≤12:=by
 unfold iZ at h
 rw[Bool.and_eq_true,List.all_eq_true]at h
 have:=h.1 b hb
 unfold oE at this
 rw[Bool.and_eq_true]at this
 simpa using this.1
theorem bo.ok:bo.Ok:=by
  rintro⟨l,w,m,h,a⟩ ⟨hl,hb,hw,hm⟩
  have hl:yB l:=hl
  have hb:l.1.length≤1000000000:=hb
  have hw:oo w:=hw
  have hm:Sm m:=hm
  rw[bo.eq,aQ.run (d:=l) ⟨hl,hb⟩]
  simp only[aa,aQ.add,aQ.F,bo.add,bo.F,CW]
  cases hok:iZ l
  · rw[if_pos (Or.inl rfl)];rfl
  by_cases h0:w.1 < 0
  · rw[bA h0,if_pos (Or.inr (Or.inl h0))];rfl
  by_cases h1:w.1≥l.1.length
  · rw[bm h0,fF h1,if_pos (Or.inr (Or.inr h1))];rfl
  rw[bm h0,eM h1,bh (by omega) (by omega),if_neg (by simp[h0];omega)]
  have hn:w.1.toNat < l.1.length:=by omega
  have n1:nth (.pair (.slice (.int .u64)) (.pair (.int .i64) (.pair (.int .i64) (.pair (.int .u64) .unit)))) l.1 w.1.toNat=l.1[w.1.toNat]:=bZ (t:=(.pair (.slice (.int .u64)) (.pair (.int .i64) (.pair (.int .i64) (.pair (.int .u64) .unit))))) hn
  rw[n1]
  have hx:CG l.1[w.1.toNat]:=hl _ (List.getElem_mem hn)
  have hkl:=zU hok (List.getElem_mem hn)
  obtain⟨⟨ks,af,dl,sc,u⟩,hbk⟩:∃b,l.1[w.1.toNat]=b:=⟨_,rfl⟩
  rw[hbk]at hx hkl ⊢
  have hks:nc ks:=hx.1
  have hkl:ks.length≤12:=hkl
  simp only[Bool.not_true,ao,ay]
  by_cases e1:h < af
  · rw[bA e1,if_pos (Or.inl e1)];rfl
  by_cases e2:a < dl
  · rw[bm e1,bA e2,if_pos (Or.inr e2)];rfl
  rw[bm e1,bm e2,if_neg (by simp[e1,e2]),dm.run (d:=w.2.2.1) hw.2]
  simp only[ao,aa,dm.add,dm.F]
  have last:aF (gM ((w.2.1.length:Nat):Int) ((ks.length:Nat):Int)) (some (bo.out (7:Int))) (
          ae (bo.L0.call (w,m,ks,((ks.length:Nat):Int),(0:Int))) fun x4=>
          aF (x4.isLeft) (ae (x4.getLeft?) fun a5=>some (bo.out (7:Int))) (ae (x4.getRight?) fun b6=>some (bo.out (0:Int))))=some (bo.out (if w.2.1.length≠ks.length then 7 else if o7 m ks w.2.1 then 0 else 7)):=by
    by_cases e3:w.2.1.length=ks.length
    · rw[bM (by omega),if_neg (by simp[e3]),ao,bo.L0.run (d:=(w,m,ks,ks.length,0)) ⟨hw,hm,hks,by show ks.length≤1000000000;omega,e3,rfl,0,by omega,rfl⟩]
      simp only[aa,bo.L0.add,bo.L0.F,Int.toNat_zero,List.drop_zero]
      cases o7 m ks w.2.1 <;> rfl
    · rw[dA (by omega),if_pos e3];rfl
  by_cases e4:sc=0
  · rw[bM e4,if_neg (by simp[e4]),ao]
    exact last
  · rw[dA e4,ay]
    by_cases e5:gH w.2.2.1=sc
    · rw[bM e5,if_neg (by simp[e5]),ao]
      exact last
    · rw[dA e5,if_pos ⟨e4,e5⟩];rfl
noncomputable def bo.E:=Entry.cv [some kq,some mK,some tH,some ti,some ti] bo.st bo.aD bo.add bo.F bo.out
noncomputable def bo.call:bo.D→Option bo.X:=bJ bo.E bo.st
theorem bo.run:bE bo.call bo.aD bo.add bo.F:=cQ (cP [.d kq,.d mK,.d tB,.d ti,.d ti] fun _=>by kernel_rfl)
noncomputable def bo.sg:SG Tryz.prog:=⟨47,aW,bo.E,.fn 1 (by kernel_rfl) bo.ok (And.intro (.cv bo.L0.ok (by kernel_rfl)) trivial)⟩
set_option synthInstance.maxSize 5000
abbrev dZ.D:=Int
def dZ.st:dZ.D→SA:=fun n=>([.da,.d ti n],[])
abbrev dZ.Y:=Nat×(List Int)
abbrev dZ.X:=Nat×(List Int)
def dZ.out:dZ.X→aZ:=fun x=>⟨.bU (.new 0 0) 0 [] 0 0 x.1,[],[.obj 0 false (.vec 5 tb x.2)]⟩
def dZ.add:dZ.D→dZ.Y→dZ.X:=fun n y=>y
def dZ.aD:dZ.D→Prop:=fun n=>∃k:Nat,n=k∧k≤100000000
def dZ.F:dZ.D→dZ.Y:=fun n=>(0,List.replicate n.toNat 0)
noncomputable def dZ.G:dV:=eY (P:=Tryz.prog) []
noncomputable def dZ.an:eJ:= {iH:=[⟨4,[],22,25⟩]}
noncomputable def dZ.A:= @cK Tryz.prog dZ.G dZ.an 0 Tryz.f170 _ dZ.st
abbrev dZ.Ok:=cM @dZ.A dZ.aD dZ.add dZ.F dZ.out
theorem dZ.eq{R:Type}(n:Int)(k:aZ→Option R):dZ.A n k=
  aF ((gb n (0:Int))) (
   none) (
   aF ((mv (bT .i64 n (0:Int)) (0:Int))) (
    aF (decide (0 < (bT .i64 n (0:Int))) && du (Int.toNat (bT .i64 n (0:Int))) 1) (
    aF (inc (0:Int) (((Int.toNat (bT .i64 n (0:Int))):Nat):Int)) (
    k (dZ.out (0,(List.replicate (Int.toNat (bT .i64 n (0:Int))) (0:Int))))) none) none) (
    k (dZ.out (0,([]:List Int))))):=by kernel_rfl
theorem dZ.ok:dZ.Ok:=by
 rintro n ⟨k,rfl,hk⟩
 have e:bT .i64 (k:Int) 0=(k:Int):=by rw[fb (by omega) (by omega)];omega
 rw[dZ.eq,e,bm (by omega),ao]
 by_cases h:0 < k
 ·rw[dG (by omega),Int.toNat_natCast,aR (by omega),eN (by omega) (by omega),kV (by omega) (by omega)]
  rfl
 ·obtain rfl:k=0:=by omega
  rfl
noncomputable def dZ.E:=Entry.cv [none,some ti] dZ.st dZ.aD dZ.add dZ.F dZ.out
noncomputable def dZ.call:dZ.D→Option dZ.X:=bJ dZ.E dZ.st
theorem dZ.run:bE dZ.call dZ.aD dZ.add dZ.F:=cQ (cP [.d ti] fun _=>by kernel_rfl)
noncomputable def dZ.sg:SG Tryz.prog:=⟨170,aW,dZ.E,.fn 0 (by kernel_rfl) dZ.ok trivial⟩
def js(l:List (List Int)):Nat:=l.flatten.length
def sZ(n:Nat)(l:List Int):List (List Int)→Nat×List Int
 |[]=>(n,l)
 |s::r=>(n+(s::r).flatten.length,l.take n++(s::r).flatten)
theorem zD(n:Nat)(l s:List Int)(r:List (List Int))(h:n≤l.length):sZ n l (s::r)=sZ (n+s.length) (l.take n++s) r:=by
 have hl:(l.take n++s).length=n+s.length:=by rw[List.length_append,List.length_take];omega
 cases r with
 |nil=>simp[sZ]
 |cons t r=>
  simp only[sZ]
  rw[List.take_of_length_le (Nat.le_of_eq hl)]
  simp only[List.flatten_cons,List.length_append,List.append_assoc,Nat.add_assoc]
theorem B9(n:Nat)(z:List Int)(r:List (List Int)):(sZ 0 z r).1≤(sZ 0 z r).2.length∧cut (sZ 0 z r).2 0 (sZ 0 z r).1=r.flatten:=by
 cases r with
 |nil=>exact⟨Nat.zero_le _,rfl⟩
 |cons s r=>
  simp only[sZ,List.take_zero,List.nil_append,Nat.zero_add]
  exact⟨Nat.le_refl _,by show List.take _ (List.drop 0 _)=_;rw[List.drop_zero,List.take_length]⟩
abbrev aA.L0.D:=(List Bs)×Int×(List Bs)×Int×Int
def aA.L0.st:aA.L0.D→AS:=fun(slices_2,size,t9,t10,t11)=>⟨([.d (.slice tB) slices_2,.undef,.undef,.d ti size]++ba 5 ([.d (.slice tB) t9,.d ti t10,.d ti t11]++ba 24 [])),[],(List.replicate 36 [])⟩
abbrev aA.L0.Y0:=Int
abbrev aA.L0.X0:=((List Bs))×(Int)
def aA.L0.bw:aA.L0.X0→Exit×AS:=fun x=>(.exit 0,⟨([.d (.slice tB) x.1,.undef,.undef,.d ti x.2]++ba 32 []),[],(List.replicate 36 [])⟩)
abbrev aA.L0.X:=aA.L0.X0
abbrev aA.L0.Y:=aA.L0.Y0
def aA.L0.out:aA.L0.X→Out (Exit×AS):=fun x=> .ok (aA.L0.bw x)
def aA.L0.add:aA.L0.D→aA.L0.Y→aA.L0.X:=fun(slices_2,size,t9,t10,t11) y=>(slices_2,y)
abbrev aA.L1.D:=Nat×(List Bs)×Int×Int×(List Int)
def aA.L1.st:aA.L1.D→AS:=fun(newsliceL,t25,t26,t27,n24)=>⟨(ba 6 ([.bU (.new 24 0) 0 [] 0 0 newsliceL]++ba 18 ([.d (.slice tB) t25,.d ti t26,.d ti t27]++ba 8 []))),[],(bK 24 ([[.obj 0 false (.vec 5 tb n24)]]++bK 11 []))⟩
abbrev aA.L1.Y0:=Nat×(List Int)
abbrev aA.L1.X0:=Nat×(List Int)
def aA.L1.bw:aA.L1.X0→Exit×AS:=fun x=>(.exit 2,⟨(ba 6 ([.bU (.new 24 0) 0 [] 0 0 x.1]++ba 29 [])),[],(bK 24 ([[.obj 0 false (.vec 5 tb x.2)]]++bK 11 []))⟩)
abbrev aA.L1.X:=aA.L1.X0
abbrev aA.L1.Y:=aA.L1.Y0
def aA.L1.out:aA.L1.X→Out (Exit×AS):=fun x=> .ok (aA.L1.bw x)
def aA.L1.add:aA.L1.D→aA.L1.Y→aA.L1.X:=fun(newsliceL,t25,t26,t27,n24) y=>y
abbrev aA.D:=(List Bs)
def aA.st:aA.D→SA:=fun slices=>([.d (.slice tB) slices],[])
abbrev aA.Y:=Bs
abbrev aA.X:=Bs
def aA.out:aA.X→aZ:=fun x=>⟨.d tB x,[],[]⟩
def aA.add:aA.D→aA.Y→aA.X:=fun slices y=>y
def aA.L0.aD:aA.L0.D→Prop:=fun(s,size,t,n,i)=>s.length≤1000000∧t=s∧n=s.length∧∃k z:Nat,k≤s.length∧i=k∧size=z∧z+js (s.drop k)≤100000000
def aA.L0.F:aA.L0.D→aA.L0.Y:=fun(s,size,t,n,i)=>((size:Int)+((js (s.drop i.toNat):Nat):Int):Int)
def aA.L1.aD:aA.L1.D→Prop:=fun(n,s,t,i,l)=>s.length≤1000000∧n≤l.length∧t=s.length∧∃k:Nat,k≤s.length∧i=k∧n+js (s.drop k)≤100000000
def aA.L1.F:aA.L1.D→aA.L1.Y:=fun(n,s,t,i,l)=>sZ n l (s.drop i.toNat)
def aA.aD:aA.D→Prop:=fun s=>s.length≤1000000∧js s≤100000000
def aA.F:aA.D→aA.Y:=fun s=>s.flatten
noncomputable def aA.G:dV:=eY (P:=Tryz.prog) [dZ.sg]
noncomputable def aA.L0.E:=bP.cv aA.L0.st aA.L0.aD aA.L0.add aA.L0.F aA.L0.out
noncomputable def aA.L0.call:aA.L0.D→Option aA.L0.X:=dk aA.L0.E aA.L0.st
noncomputable def aA.L1.E:=bP.cv aA.L1.st aA.L1.aD aA.L1.add aA.L1.F aA.L1.out
noncomputable def aA.L1.call:aA.L1.D→Option aA.L1.X:=dk aA.L1.E aA.L1.st
noncomputable def aA.an:eJ:= {loops:=jJ [(3,{bn:=[0,3,9,10,11]}),(11,{bn:=[6,25,26,27],sites:=[24],iH:=[⟨6,[],24,25⟩]})],outs:=jI [(3,{bn:=[0,3]},{bn:=[2]}),(11,{bn:=[6],sites:=[24]},{bn:=[2]})],fJ:=kz [(3,aA.L0.E),(11,aA.L1.E)],res:=[some tB]}
noncomputable def aA.A:= @cK Tryz.prog aA.G aA.an 0 Tryz.f153 _ aA.st
abbrev aA.Ok:=cM @aA.A aA.aD aA.add aA.F aA.out
noncomputable def aA.L0.R:= @bV Tryz.prog aA.G aA.an 0 Tryz.f153 0 _ aA.L0.st
abbrev aA.L0.Ok:=eA Tryz.prog aA.G aA.an 0 Tryz.f153 0 aA.L0.st aA.L0.aD aA.L0.add aA.L0.F aA.L0.out
noncomputable def aA.L1.R:= @bV Tryz.prog aA.G aA.an 0 Tryz.f153 1 _ aA.L1.st
abbrev aA.L1.Ok:=eA Tryz.prog aA.G aA.an 0 Tryz.f153 1 aA.L1.st aA.L1.aD aA.L1.add aA.L1.F aA.L1.out
theorem aA.L0.run:bE aA.L0.call aA.L0.aD aA.L0.add aA.L0.F:=eK (eI [.d (.slice tB),.d ti,.d (.slice tB),.d ti,.d ti] fun _=>by kernel_rfl)
theorem aA.L0.aG:fX @aA.L0.R aA.L0.st aA.L0.aD aA.L0.add aA.L0.F aA.L0.bw aA.L0.Ok:=gf
theorem aA.L0.step{R:Type}(slices_2:(List Bs))(size:Int)(t9:(List Bs))(t10:Int)(t11:Int)(kn:AS→Option R)(kx:Exit→AS→Option R):aA.L0.R (slices_2,size,t9,t10,t11) kn kx=
  aF ((gb t11 t10)) (
   aF (dS t11 (((List.length t9):Nat):Int)) (
   aF ((gb (bO .i64 size (((List.length (nth tB t9 (Int.toNat t11))):Nat):Int)) (0:Int))) (
    none) (
    kn (aA.L0.st (slices_2,(bO .i64 size (((List.length (nth tB t9 (Int.toNat t11))):Nat):Int)),t9,t10,(bO .i64 t11 (1:Int)))))) none) (
   kx (aA.L0.bw (slices_2,size)).1 (aA.L0.bw (slices_2,size)).2):=by kernel_rfl
theorem aA.L1.run:bE aA.L1.call aA.L1.aD aA.L1.add aA.L1.F:=eK (eI [.n,.d (.slice tB),.d ti,.d ti,.d tB] fun _=>by kernel_rfl)
theorem aA.L1.aG:fX @aA.L1.R aA.L1.st aA.L1.aD aA.L1.add aA.L1.F aA.L1.bw aA.L1.Ok:=gf
theorem aA.L1.step{R:Type}(newsliceL:Nat)(t25:(List Bs))(t26:Int)(t27:Int)(n24:(List Int))(kn:AS→Option R)(kx:Exit→AS→Option R):aA.L1.R (newsliceL,t25,t26,t27,n24) kn kx=
  aF ((gb t27 t26)) (
   aF (dS t27 (((List.length t25):Nat):Int)) (
   aF (decide (newsliceL≤(List.length n24))) (
   aF (du (newsliceL+(List.length (nth tB t25 (Int.toNat t27)))) 1) (
   kn (aA.L1.st ((newsliceL+(List.length (nth tB t25 (Int.toNat t27)))),t25,t26,(bO .i64 t27 (1:Int)),((List.take newsliceL n24)++(nth tB t25 (Int.toNat t27)))))) none) none) none) (
   kx (aA.L1.bw (newsliceL,n24)).1 (aA.L1.bw (newsliceL,n24)).2):=by kernel_rfl
theorem aA.eq{R:Type}(slices:(List Bs))(k:aZ→Option R):aA.A slices k=
 ae (aA.L0.call (slices,(0:Int),slices,(((List.length slices):Nat):Int),(0:Int))) fun x1=>
 ae (dZ.call x1.2) fun x2=>
 ae (aA.L1.call (x2.1,x1.1,(((List.length x1.1):Nat):Int),(0:Int),x2.2)) fun x3=>
 aF (decide (0=0∧(0+x3.1)≤(List.length x3.2))) (
 k (aA.out (cut x3.2 0 x3.1))) none:=by kernel_rfl
theorem yV(s:List (List Int))(k:Nat)(h:k < s.length):js (s.drop k)=s[k].length+js (s.drop (k+1)):=by
 unfold js
 rw[List.drop_eq_getElem_cons h,List.flatten_cons,List.length_append]
theorem aA.L0.ok:aA.L0.Ok:=by
 refine aA.L0.aG (fun(s,size,t,n,i)=>s.length - i.toNat) ?_
 rintro⟨s,size,t,n,i⟩ ⟨hs,rfl,rfl,k,z,hk,rfl,rfl,hz⟩
 have hs:t.length≤1000000:=hs
 have hk:k≤t.length:=hk
 have hz:z+js (t.drop k)≤100000000:=hz
 by_cases h:k < t.length
 ·left
  have n1:nth (.slice (.int .u8)) t k=t[k]:=bZ (t:= .slice (.int .u8)) h
  have hd:=yV t k h
  refine⟨(t,((z+t[k].length:Nat):Int),t,t.length,((k+1:Nat):Int)),⟨hs,rfl,rfl,k+1,z+t[k].length,by omega,rfl,rfl,by omega⟩,by simp only[Int.toNat_natCast];omega,?_,fun kn kx=> ?_⟩
  ·simp only[aA.L0.add,aA.L0.F,Int.toNat_natCast]
   rw[hd]
   refine congrArg _ ?_
   omega
  ·rw[aA.L0.step]
   simp(disch:=omega) only[↓S1,↓if_pos,↓if_neg,if_pos,if_neg,if_true,if_false,S2,n1]
 ·right
  obtain rfl:k=t.length:=by omega
  intro R kn kx
  rw[aA.L0.step]
  simp(disch:=omega) only[↓S1,↓if_pos,↓if_neg,if_pos,if_neg,if_true,if_false,S2,aA.L0.add,aA.L0.F,List.drop_length]
  simp only[js,List.flatten_nil,List.length_nil,Int.natCast_zero,Int.add_zero]
theorem aA.L1.ok:aA.L1.Ok:=by
 refine aA.L1.aG (fun(n,s,t,i,l)=>s.length - i.toNat) ?_
 rintro⟨n,s,t,i,l⟩ ⟨hs,hn,rfl,k,hk,rfl,hz⟩
 have hs:s.length≤1000000:=hs
 have hn:n≤l.length:=hn
 have hk:k≤s.length:=hk
 have hz:n+js (s.drop k)≤100000000:=hz
 by_cases h:k < s.length
 ·left
  have n1:nth (.slice (.int .u8)) s k=s[k]:=bZ (t:= .slice (.int .u8)) h
  have hd:=yV s k h
  refine⟨(n+s[k].length,s,s.length,((k+1:Nat):Int),l.take n++s[k]),⟨hs,by rw[List.length_append,List.length_take];omega,rfl,k+1,by omega,rfl,by omega⟩,by simp only[Int.toNat_natCast];omega,?_,fun kn kx=> ?_⟩
  ·simp only[aA.L1.add,aA.L1.F,Int.toNat_natCast]
   rw[List.drop_eq_getElem_cons h,zD _ _ _ _ hn]
  ·rw[aA.L1.step]
   simp(disch:=omega) only[↓S1,↓if_pos,↓if_neg,if_pos,if_neg,if_true,if_false,S2,n1]
 ·right
  obtain rfl:k=s.length:=by omega
  intro R kn kx
  rw[aA.L1.step]
  simp(disch:=omega) only[↓S1,↓if_pos,↓if_neg,if_pos,if_neg,if_true,if_false,S2,aA.L1.add,aA.L1.F,List.drop_length]
  rfl
theorem aA.ok:aA.Ok:=by
 rintro s ⟨hs,hz⟩
 have hs:s.length≤1000000:=hs
 have hz:js s≤100000000:=hz
 have p1:aA.L0.aD (s,0,s,s.length,0):=⟨hs,rfl,rfl,0,0,by omega,rfl,rfl,by rw[List.drop_zero];omega⟩
 have p2:aA.L1.aD (0,s,s.length,0,List.replicate (js s) 0):=⟨hs,by omega,rfl,0,by omega,rfl,by rw[List.drop_zero];omega⟩
 rw[aA.eq,aA.L0.run p1]
 simp only[aa,aA.L0.add,aA.L0.F,Int.toNat_zero,List.drop_zero,Int.zero_add]
 rw[dZ.run (d:=((js s:Nat):Int)) ⟨js s,rfl,hz⟩]
 simp only[aa,dZ.add,dZ.F,Int.toNat_natCast]
 rw[aA.L1.run p2]
 simp only[aa,aA.L1.add,aA.L1.F,Int.toNat_zero,List.drop_zero]
 obtain⟨c1,c2⟩:=B9 0 (List.replicate (js s) 0) s
 simp only[Nat.zero_add,c1,and_self,decide_true,ay,c2]
 rfl
noncomputable def aA.E:=Entry.cv [some (.slice tB)] aA.st aA.aD aA.add aA.F aA.out
noncomputable def aA.call:aA.D→Option aA.X:=bJ aA.E aA.st
theorem aA.run:bE aA.call aA.aD aA.add aA.F:=cQ (cP [.d (.slice tB)] fun _=>by kernel_rfl)
noncomputable def aA.sg:SG Tryz.prog:=⟨153,aW,aA.E,.fn 2 (by kernel_rfl) aA.ok (And.intro (.cv aA.L0.ok (by kernel_rfl)) (And.intro (.cv aA.L1.ok (by kernel_rfl)) trivial))⟩
abbrev dz.D:=Bs×Bs
def dz.st:dz.D→SA:=fun(b,more)=>([.d tB b,.d tB more],[])
abbrev dz.Y:=Bs
abbrev dz.X:=Bs
def dz.out:dz.X→aZ:=fun x=>⟨.d tB x,[],[]⟩
def dz.add:dz.D→dz.Y→dz.X:=fun(b,more) y=>y
def dz.aD:dz.D→Prop:=fun(a,b)=>a.length+b.length≤100000000
def dz.F:dz.D→dz.Y:=fun(a,b)=>a++b
noncomputable def dz.G:dV:=eY (P:=Tryz.prog) [aA.sg]
noncomputable def dz.an:eJ:= {}
noncomputable def dz.A:= @cK Tryz.prog dz.G dz.an 0 Tryz.f119 _ dz.st
abbrev dz.Ok:=cM @dz.A dz.aD dz.add dz.F dz.out
theorem dz.eq{R:Type}(b:Bs)(more:Bs)(k:aZ→Option R):dz.A (b,more) k=
 ae (aA.call [b,more]) fun x1=>
 k (dz.out x1):=by kernel_rfl
theorem dz.ok:dz.Ok:=by
 rintro⟨a,b⟩ h
 have h:a.length+b.length≤100000000:=h
 rw[dz.eq,aA.run (d:=[a,b]) ⟨by show [a,b].length≤_;simp,by show js [a,b]≤_;simp only[js,List.flatten_cons,List.flatten_nil,List.append_nil,List.length_append];omega⟩]
 simp only[aa,aA.add,aA.F,dz.add,dz.F,List.flatten_cons,List.flatten_nil,List.append_nil]
noncomputable def dz.E:=Entry.cv [some tB,some tB] dz.st dz.aD dz.add dz.F dz.out
noncomputable def dz.call:dz.D→Option dz.X:=bJ dz.E dz.st
theorem dz.run:bE dz.call dz.aD dz.add dz.F:=cQ (cP [.d tB,.d tB] fun _=>by kernel_rfl)
noncomputable def dz.sg:SG Tryz.prog:=⟨119,aW,dz.E,.fn 0 (by kernel_rfl) dz.ok trivial⟩
set_option synthInstance.maxSize 5000
def ff:Nat→Int→List Int×Int
 | 0,n=>([],n)
 |f+1,n=>if 128≤n then((n%128+128)::(ff f (n / 128)).1,(ff f (n / 128)).2) else([],n)
def fu(n:Int):List Int:=(ff 10 n).1++ [(ff 10 n).2]
theorem og:∀(f g:Nat) (n:Int),n < 128^(f+1)→n < 128^(g+1)→ff f n=ff g n
 | 0,0,n,_,_=>rfl
 | 0,g+1,n,h,_=>by
  have h:n < 128:=h
  rw[ff,ff,if_neg (by omega)]
 |f+1,0,n,_,h=>by
  have h:n < 128:=h
  rw[ff,ff,if_neg (by omega)]
 |f+1,g+1,n,h,h'=>by
  rw[ff,ff]
  split
  ·have e:(128:Int)^(f+1+1)=128^(f+1)*128:=Int.pow_succ 128 (f+1)
   have e':(128:Int)^(g+1+1)=128^(g+1)*128:=Int.pow_succ 128 (g+1)
   rw[og f g (n / 128) (by omega) (by omega)]
  ·rfl
theorem sz:∀(f:Nat) (n:Int),(ff f n).1.length≤f
 | 0,_=>Nat.le_refl _
 |f+1,n=>by
  rw[ff]
  split
  ·have:=sz f (n / 128)
   simp only[List.length_cons];omega
  ·exact Nat.zero_le _
theorem tX:∀(f:Nat) (n:Int),0≤n→n < 128^(f+1)→0≤(ff f n).2∧(ff f n).2 < 128
 | 0,n,h,h'=>by have h':n < 128:=h';exact⟨h,h'⟩
 |f+1,n,h,h'=>by
  rw[ff]
  have e:(128:Int)^(f+1+1)=128^(f+1)*128:=Int.pow_succ 128 (f+1)
  split
  ·exact tX f (n / 128) (by omega) (by omega)
  ·exact⟨h,by omega⟩
theorem Ag{n:Int}(h:128≤n)(h2:n≤9223372036854775807):ff 10 n=((n%128+128)::(ff 10 (n / 128)).1,(ff 10 (n / 128)).2):=by
 have e:(128:Int)^(9+1)=1180591620717411303424:=rfl
 have e2:(128:Int)^(10+1)=151115727451828646838272:=rfl
 rw[ff,if_pos h,og 9 10 (n / 128) (by rw[e];omega) (by rw[e2];omega)]
theorem gT(n:Int):(fu n).length≤11:=by
 have:=sz 10 n
 unfold fu
 simp only[List.length_append,List.length_cons,List.length_nil];omega
def mZ(n:Int):Prop:=0≤n∧n≤9223372036854775807
abbrev cz.L0.D:=Int×Nat×(List Int)
def cz.L0.st:cz.L0.D→AS:=fun(n_2,outL,n14)=>⟨([.d ti n_2,.undef,.undef,.bU (.new 14 0) 0 [] 0 0 outL]++ba 16 []),[],(bK 14 ([[.obj 0 false (.vec 5 tb n14)]]++bK 5 []))⟩
abbrev cz.L0.Y0:=Int×Nat×(List Int)
abbrev cz.L0.X0:=Int×Nat×(List Int)
def cz.L0.bw:cz.L0.X0→Exit×AS:=fun x=>(.exit 0,⟨([.d ti x.1,.undef,.undef,.bU (.new 14 0) 0 [] 0 0 x.2.1]++ba 16 []),[],(bK 14 ([[.obj 0 false (.vec 5 tb x.2.2)]]++bK 5 []))⟩)
abbrev cz.L0.X:=cz.L0.X0
abbrev cz.L0.Y:=cz.L0.Y0
def cz.L0.out:cz.L0.X→Out (Exit×AS):=fun x=> .ok (cz.L0.bw x)
def cz.L0.add:cz.L0.D→cz.L0.Y→cz.L0.X:=fun(n_2,outL,n14) y=>y
abbrev cz.D:=Int
def cz.st:cz.D→SA:=fun n=>([.d ti n],[])
abbrev cz.Y:=Bs
abbrev cz.X:=Bs
def cz.out:cz.X→aZ:=fun x=>⟨.d tB x,[],[]⟩
def cz.add:cz.D→cz.Y→cz.X:=fun n y=>y
def cz.L0.aD:cz.L0.D→Prop:=fun(n,m,l)=>mZ n∧m=l.length∧l.length≤1000+0*n.toNat∧l.length+(ff 10 n).1.length≤100
def cz.L0.F:cz.L0.D→cz.L0.Y:=fun(n,m,l)=>((ff 10 n).2,(l++(ff 10 n).1).length,l++(ff 10 n).1)
def cz.aD:cz.D→Prop:=fun n=>mZ n
def cz.F:cz.D→cz.Y:=fun n=>fu n
noncomputable def cz.G:dV:=eY (P:=Tryz.prog) []
noncomputable def cz.L0.E:=bP.cv cz.L0.st cz.L0.aD cz.L0.add cz.L0.F cz.L0.out
noncomputable def cz.L0.call:cz.L0.D→Option cz.L0.X:=dk cz.L0.E cz.L0.st
noncomputable def cz.an:eJ:= {loops:=jJ [(2,{bn:=[0,3],sites:=[14],iH:=[⟨3,[],14,25⟩]})],outs:=jI [(2,{bn:=[0,3],sites:=[14]},{bn:=[2]})],fJ:=kz [(2,cz.L0.E)],res:=[some tB]}
noncomputable def cz.A:= @cK Tryz.prog cz.G cz.an 0 Tryz.f120 _ cz.st
abbrev cz.Ok:=cM @cz.A cz.aD cz.add cz.F cz.out
noncomputable def cz.L0.R:= @bV Tryz.prog cz.G cz.an 0 Tryz.f120 0 _ cz.L0.st
abbrev cz.L0.Ok:=eA Tryz.prog cz.G cz.an 0 Tryz.f120 0 cz.L0.st cz.L0.aD cz.L0.add cz.L0.F cz.L0.out
theorem cz.L0.run:bE cz.L0.call cz.L0.aD cz.L0.add cz.L0.F:=eK (eI [.d ti,.n,.d tB] fun _=>by kernel_rfl)
theorem cz.L0.aG:fX @cz.L0.R cz.L0.st cz.L0.aD cz.L0.add cz.L0.F cz.L0.bw cz.L0.Ok:=gf
theorem cz.L0.step{R:Type}(n_2:Int)(outL:Nat)(n14:(List Int))(kn:AS→Option R)(kx:Exit→AS→Option R):cz.L0.R (n_2,outL,n14) kn kx=
  aF ((l6 n_2 (128:Int))) (
   aF (decide (outL≤(List.length n14))) (
   aF (du (outL+1) 1) (
   kn (cz.L0.st ((kX .i64 n_2 (128:Int)),(outL+1),((List.take outL n14)++ [(dJ .u8 (bO .i64 (jl n_2 (128:Int)) (128:Int)))])))) none) none) (
   kx (cz.L0.bw (n_2,outL,n14)).1 (cz.L0.bw (n_2,outL,n14)).2):=by kernel_rfl
theorem cz.eq{R:Type}(n:Int)(k:aZ→Option R):cz.A n k=
 ae (cz.L0.call (n,0,([]:List Int))) fun x1=>
 aF (decide (x1.2.1≤(List.length x1.2.2))) (
 aF (du (x1.2.1+1) 1) (
 aF (decide (0=0∧(0+(x1.2.1+1))≤(List.length ((List.take x1.2.1 x1.2.2)++ [(dJ .u8 x1.1)])))) (
 k (cz.out (cut ((List.take x1.2.1 x1.2.2)++ [(dJ .u8 x1.1)]) 0 (x1.2.1+1)))) none) none) none:=by kernel_rfl
theorem AT{n:Int}(h:mZ n):dJ .u8 (bO .i64 (jl n 128) 128)=n%128+128:=by
 have h1:=h.1
 rw[nZ h.1,fS (by omega) (by omega),rT,fN]
 omega
theorem cz.L0.ok:cz.L0.Ok:=by
 refine cz.L0.aG (fun(n,m,l)=>n.toNat) ?_
 rintro⟨n,m,l⟩ ⟨hn,rfl,hl,hz⟩
 have hn:mZ n:=hn
 have hz:l.length+(ff 10 n).1.length≤100:=hz
 have h1:=hn.1
 have h2:=hn.2
 by_cases h:128≤n
 ·left
  have e:=Ag h h2
  have hq:kX .i64 n 128=n / 128:=by
   rw[kX,Int.tdiv_eq_ediv_of_nonneg h1]
   exact jr (by omega) (by omega)
  have el:((n%128+128)::(ff 10 (n / 128)).1).length=(ff 10 (n / 128)).1.length+1:=List.length_cons
  rw[e]at hz
  have hz:l.length+((n%128+128)::(ff 10 (n / 128)).1).length≤100:=hz
  rw[el]at hz
  refine⟨(n / 128,l.length+1,l++ [n%128+128]),⟨⟨by omega,by omega⟩,by rw[List.length_append];rfl,by rw[List.length_append];simp only[List.length_cons,List.length_nil];omega,by rw[List.length_append];simp only[List.length_cons,List.length_nil];omega⟩,by simp only[];omega,?_,fun kn kx=> ?_⟩
  ·simp only[cz.L0.add,cz.L0.F,e,List.append_assoc,List.cons_append,List.nil_append]
  ·rw[cz.L0.step,fF h,AT hn,hq]
   simp(disch:=omega) only[↓S1,↓if_pos,↓if_neg,if_pos,if_neg,if_true,if_false,S2,Nat.le_refl,List.take_length]
 ·right
  have e:ff 10 n=([],n):=by rw[ff,if_neg h]
  intro R kn kx
  rw[cz.L0.step,eM h]
  simp only[ao,cz.L0.add,cz.L0.F,e,List.append_nil]
theorem cz.ok:cz.Ok:=by
 intro n hn
 have hn:mZ n:=hn
 have hl:=sz 10 n
 have e2:(128:Int)^(10+1)=151115727451828646838272:=rfl
 have hd:=tX 10 n hn.1 (by have:=hn.2;rw[e2];omega)
 have p:cz.L0.aD (n,0,[]):=⟨hn,rfl,by simp,by simp only[List.length_nil];omega⟩
 have hi:dJ .u8 (ff 10 n).2=(ff 10 n).2:=by rw[rT,fN];omega
 rw[cz.eq,cz.L0.run p]
 simp only[aa,cz.L0.add,cz.L0.F,List.nil_append,hi,List.take_length,Nat.le_refl,decide_true,ay]
 rw[eN (by omega) (by omega)]
 simp only[ay,Nat.zero_add,List.length_append,List.length_cons,List.length_nil,Nat.le_refl,and_self,decide_true]
 rw[eV (by rw[List.length_append];rfl)]
 rfl
noncomputable def cz.E:=Entry.cv [some ti] cz.st cz.aD cz.add cz.F cz.out
noncomputable def cz.call:cz.D→Option cz.X:=bJ cz.E cz.st
theorem cz.run:bE cz.call cz.aD cz.add cz.F:=cQ (cP [.d ti] fun _=>by kernel_rfl)
noncomputable def cz.sg:SG Tryz.prog:=⟨120,aW,cz.E,.fn 1 (by kernel_rfl) cz.ok (And.intro (.cv cz.L0.ok (by kernel_rfl)) trivial)⟩
def ek(b:List Int)(n:Int):List Int:=if n < 0 then b else b++fu n
theorem fj(b:List Int)(n:Int):(ek b n).length≤b.length+11:=by
 unfold ek
 have:=gT n
 split
 ·omega
 ·rw[List.length_append];omega
abbrev dE.D:=Bs×Int
def dE.st:dE.D→SA:=fun(b,n)=>([.d tB b,.d ti n],[])
abbrev dE.Y:=Bs
abbrev dE.X:=Bs
def dE.out:dE.X→aZ:=fun x=>⟨.d tB x,[],[]⟩
def dE.add:dE.D→dE.Y→dE.X:=fun(b,n) y=>y
def dE.aD:dE.D→Prop:=fun(b,n)=>b.length≤90000000∧n≤9223372036854775807
def dE.F:dE.D→dE.Y:=fun(b,n)=>ek b n
noncomputable def dE.G:dV:=eY (P:=Tryz.prog) [dz.sg,cz.sg]
noncomputable def dE.an:eJ:= {}
noncomputable def dE.A:= @cK Tryz.prog dE.G dE.an 0 Tryz.f69 _ dE.st
abbrev dE.Ok:=cM @dE.A dE.aD dE.add dE.F dE.out
theorem dE.eq{R:Type}(b:Bs)(n:Int)(k:aZ→Option R):dE.A (b,n) k=
  aF ((gb n (0:Int))) (
   ae (dz.call (b,([]:List Int))) fun x1=>
   k (dE.out x1)) (
   ae (cz.call n) fun x2=>
   ae (dz.call (b,x2)) fun x3=>
   k (dE.out x3)):=by kernel_rfl
theorem dE.ok:dE.Ok:=by
 rintro⟨b,n⟩ ⟨hb,hn⟩
 have hb:b.length≤90000000:=hb
 have hn:n≤9223372036854775807:=hn
 rw[dE.eq]
 simp only[dE.add,dE.F,ek]
 by_cases h:n < 0
 ·rw[bA h,if_pos h,ay,dz.run (d:=(b,[])) (by show b.length+([]:List Int).length≤_;simp only[List.length_nil];omega)]
  simp only[aa,dz.add,dz.F,List.append_nil]
 ·have hl:=gT n
  rw[bm h,if_neg h,ao,cz.run (d:=n) ⟨by omega,hn⟩]
  simp only[aa,cz.add,cz.F]
  rw[dz.run (d:=(b,fu n)) (by show b.length+(fu n).length≤_;omega)]
  rfl
noncomputable def dE.E:=Entry.cv [some tB,some ti] dE.st dE.aD dE.add dE.F dE.out
noncomputable def dE.call:dE.D→Option dE.X:=bJ dE.E dE.st
theorem dE.run:bE dE.call dE.aD dE.add dE.F:=cQ (cP [.d tB,.d ti] fun _=>by kernel_rfl)
noncomputable def dE.sg:SG Tryz.prog:=⟨69,aW,dE.E,.fn 0 (by kernel_rfl) dE.ok trivial⟩
abbrev dw.D:=Bs×Int
def dw.st:dw.D→SA:=fun(b,n)=>([.d tB b,.d tu n],[])
abbrev dw.Y:=Bs
abbrev dw.X:=Bs
def dw.out:dw.X→aZ:=fun x=>⟨.d tB x,[],[]⟩
def dw.add:dw.D→dw.Y→dw.X:=fun(b,n) y=>y
def dw.aD:dw.D→Prop:=fun(b,n)=>b.length≤90000000
def dw.F:dw.D→dw.Y:=fun(b,n)=>b++fR n
noncomputable def dw.G:dV:=eY (P:=Tryz.prog) [dz.sg]
noncomputable def dw.an:eJ:= {loops:=jJ [(3,{bn:=[0,1,5,7],sites:=[5,21]})],outs:=jI [(3,{bn:=[0,5],sites:=[5,21]},{bn:=[4],sites:=[5,21]})]}
noncomputable def dw.A:= @cK Tryz.prog dw.G dw.an 12 Tryz.f70 _ dw.st
abbrev dw.Ok:=cM @dw.A dw.aD dw.add dw.F dw.out
theorem dw.eq{R:Type}(b:Bs)(n:Int)(k:aZ→Option R):dw.A (b,n) k=
 ae (dz.call (b,[(dJ .u8 (bQ .u64 n (56:Int))),(dJ .u8 (bQ .u64 n (48:Int))),(dJ .u8 (bQ .u64 n (40:Int))),(dJ .u8 (bQ .u64 n (32:Int))),(dJ .u8 (bQ .u64 n (24:Int))),(dJ .u8 (bQ .u64 n (16:Int))),(dJ .u8 (bQ .u64 n (8:Int))),(dJ .u8 (bQ .u64 n (0:Int)))])) fun x1=>
 k (dw.out x1):=by kernel_rfl
theorem dw.ok:dw.Ok:=by
 rintro⟨b,n⟩ hb
 have hb:b.length≤90000000:=hb
 have p:dz.aD (b,fR n):=by show b.length+(fR n).length≤_;rw[bR];omega
 have e:dz.call (b,[dJ .u8 (bQ .u64 n 56),dJ .u8 (bQ .u64 n 48),dJ .u8 (bQ .u64 n 40),dJ .u8 (bQ .u64 n 32),dJ .u8 (bQ .u64 n 24),dJ .u8 (bQ .u64 n 16),dJ .u8 (bQ .u64 n 8),dJ .u8 (bQ .u64 n 0)])=some (b++fR n):=by
  rw[vI];exact dz.run p
 rw[dw.eq]
 refine Eq.trans (congrArg (fun x=>ae x _) e) ?_
 rfl
noncomputable def dw.E:=Entry.cv [some tB,some tu] dw.st dw.aD dw.add dw.F dw.out
noncomputable def dw.call:dw.D→Option dw.X:=bJ dw.E dw.st
theorem dw.run:bE dw.call dw.aD dw.add dw.F:=cQ (cP [.d tB,.d tu] fun _=>by kernel_rfl)
noncomputable def dw.sg:SG Tryz.prog:=⟨70,aW,dw.E,.fn 1 (by kernel_rfl) dw.ok (And.intro (.none (by kernel_rfl)) trivial)⟩
set_option synthInstance.maxSize 5000
def gn(w:j6):Bool:=decide (0≤w.1∧w.1 < 4) && decide (w.2.1.length≤12)
def qX(x:eR):Bool:=decide (0≤x.1.2.1∧x.1.2.1 < 64) && gn x.2.1
def rS(m:List (jB×Bool))(x:eR):Bool:=(ow iC x.1 m).getD false
def qY:List (jB×Bool)→List eR→Bool
 |_,[]=>true
 |m,x::l=>(!(rS m x) && qX x) && qY (oz iC x.1 true m) l
def nr(a:Int):Bool:=decide (0≤a∧a≤1125899906842624)
def pb(a b:Int):Bool:=nr a && (nr b && decide (a+b≤1125899906842624))
def mC:Int→List fL→Bool
 |_,[]=>true
 |s,o::l=>(pb s o.1 && iZ o.2.1) && mC (s+o.1) l
def vm(t:eD):Bool:=decide (1≤t.1.length∧t.1.length≤64∧t.2.1.length≤64∧0≤t.2.2.1)
def fg(t:eD):Bool:=vm t && (qY [] t.1 && mC 0 t.2.1)
def C0(l:Lk):Prop:=yB l∧l.1.length≤1000000000
def Eu(t:eD):Prop:=(∀o∈t.2.1,C0 o.2.1)∧t.1.length≤1000000000∧t.2.1.length≤1000000000
abbrev e7.D:=j6
def e7.st:e7.D→SA:=fun wv=>([.d mK wv],[])
abbrev e7.Y:=Bool
abbrev e7.X:=Bool
def e7.out:e7.X→aZ:=fun x=>⟨.d .bool x,[],[]⟩
def e7.add:e7.D→e7.Y→e7.X:=fun wv y=>y
def e7.aD:e7.D→Prop:=fun _=>True
def e7.F:e7.D→e7.Y:=fun w=>gn w
noncomputable def e7.G:dV:=eY (P:=Tryz.prog) []
noncomputable def e7.an:eJ:= {}
noncomputable def e7.A:= @cK Tryz.prog e7.G e7.an 0 Tryz.f89 _ e7.st
abbrev e7.Ok:=cM @e7.A e7.aD e7.add e7.F e7.out
theorem e7.eq{R:Type}(wv:j6)(k:aZ→Option R):e7.A wv k=
  aF ((l6 wv.1 (0:Int))) (
   aF ((gb wv.1 (4:Int))) (
    k (e7.out (tK (((List.length wv.2.1):Nat):Int) (12:Int)))) (
    k (e7.out false))) (
   k (e7.out false)):=by kernel_rfl
theorem e7.ok:e7.Ok:=by
 rintro⟨b,ss,sc,u⟩ _
 rw[e7.eq]
 simp only[e7.add,e7.F,gn]
 by_cases h:0≤b
 ·rw[fF h,ay]
  by_cases h2:b < 4
  ·rw[bA h2,ay,aR ⟨h,h2⟩]
   by_cases h3:ss.length≤12
   ·rw[j7 (by omega),aR h3];rfl
   ·rw[je (by omega),aO h3];rfl
  ·rw[bm h2,ao,aO (fun x=>h2 x.2)];rfl
 ·rw[eM h,ao,aO (fun x=>h x.1)];rfl
noncomputable def e7.E:=Entry.cv [some mK] e7.st e7.aD e7.add e7.F e7.out
noncomputable def e7.call:e7.D→Option e7.X:=bJ e7.E e7.st
theorem e7.run:bE e7.call e7.aD e7.add e7.F:=cQ (cP [.d mK] fun _=>by kernel_rfl)
noncomputable def e7.sg:SG Tryz.prog:=⟨89,aW,e7.E,.fn 0 (by kernel_rfl) e7.ok trivial⟩
abbrev cY.D:=Int
def cY.st:cY.D→SA:=fun a=>([.d ti a],[])
abbrev cY.Y:=Bool
abbrev cY.X:=Bool
def cY.out:cY.X→aZ:=fun x=>⟨.d .bool x,[],[]⟩
def cY.add:cY.D→cY.Y→cY.X:=fun a y=>y
def cY.aD:cY.D→Prop:=fun _=>True
def cY.F:cY.D→cY.Y:=fun a=>nr a
noncomputable def cY.G:dV:=eY (P:=Tryz.prog) []
noncomputable def cY.an:eJ:= {}
noncomputable def cY.A:= @cK Tryz.prog cY.G cY.an 0 Tryz.f139 _ cY.st
abbrev cY.Ok:=cM @cY.A cY.aD cY.add cY.F cY.out
theorem cY.eq{R:Type}(a:Int)(k:aZ→Option R):cY.A a k=
  aF ((l6 a (0:Int))) (
   k (cY.out (tK a (1125899906842624:Int)))) (
   k (cY.out false)):=by kernel_rfl
theorem cY.ok:cY.Ok:=by
 intro(a:Int) _
 rw[cY.eq]
 simp only[cY.add,cY.F,nr]
 by_cases h:0≤a
 ·rw[fF h,ay]
  by_cases h2:a≤1125899906842624
  ·rw[j7 h2,aR ⟨h,h2⟩]
  ·rw[je h2,aO (fun x=>h2 x.2)]
 ·rw[eM h,ao,aO (fun x=>h x.1)]
noncomputable def cY.E:=Entry.cv [some ti] cY.st cY.aD cY.add cY.F cY.out
noncomputable def cY.call:cY.D→Option cY.X:=bJ cY.E cY.st
theorem cY.run:bE cY.call cY.aD cY.add cY.F:=cQ (cP [.d ti] fun _=>by kernel_rfl)
noncomputable def cY.sg:SG Tryz.prog:=⟨139,aW,cY.E,.fn 0 (by kernel_rfl) cY.ok trivial⟩
abbrev fi.D:=Int×Int
def fi.st:fi.D→SA:=fun(a,b)=>([.d ti a,.d ti b],[])
abbrev fi.Y:=Int×Bool
abbrev fi.X:=Int×Bool
def fi.out:fi.X→aZ:=fun x=>⟨.cons (.d ti x.1) (.cons (.d .bool x.2) (.nil)),[],[]⟩
def fi.add:fi.D→fi.Y→fi.X:=fun(a,b) y=>y
def fi.aD:fi.D→Prop:=fun _=>True
def fi.F:fi.D→fi.Y:=fun(a,b)=>(bif pb a b then a+b else 0,pb a b)
noncomputable def fi.G:dV:=eY (P:=Tryz.prog) [cY.sg]
noncomputable def fi.an:eJ:= {}
noncomputable def fi.A:= @cK Tryz.prog fi.G fi.an 0 Tryz.f95 _ fi.st
abbrev fi.Ok:=cM @fi.A fi.aD fi.add fi.F fi.out
theorem fi.eq{R:Type}(a:Int)(b:Int)(k:aZ→Option R):fi.A (a,b) k=
  ae (cY.call a) fun x1=>
  aF ((!x1)) (
   k (fi.out ((0:Int),false))) (
   ae (cY.call b) fun x2=>
   aF ((!x2)) (
    k (fi.out ((0:Int),false))) (
    aF ((mv a (bT .i64 (1125899906842624:Int) b))) (
     k (fi.out ((0:Int),false))) (
     k (fi.out ((bO .i64 a b),true))))):=by kernel_rfl
theorem fi.ok:fi.Ok:=by
 rintro⟨a,b⟩ _
 rw[fi.eq,cY.run (d:=a) trivial,cY.run (d:=b) trivial]
 simp only[aa,cY.add,cY.F,fi.add,fi.F,pb]
 cases ha:nr a
 ·rfl
 ·cases hb:nr b
  ·rfl
  ·simp only[nr,decide_eq_true_eq]at ha hb
   simp only[Bool.not_true,ao,Bool.true_and]
   rw[fb (by omega) (by omega)]
   by_cases h:a+b≤1125899906842624
   ·rw[dx (by omega),ao,aR h,fS (by omega) (by omega)];rfl
   ·rw[dG (by omega),ay,aO h];rfl
noncomputable def fi.E:=Entry.cv [some ti,some ti] fi.st fi.aD fi.add fi.F fi.out
noncomputable def fi.call:fi.D→Option fi.X:=bJ fi.E fi.st
theorem fi.run:bE fi.call fi.aD fi.add fi.F:=cQ (cP [.d ti,.d ti] fun _=>by kernel_rfl)
noncomputable def fi.sg:SG Tryz.prog:=⟨95,aW,fi.E,.fn 0 (by kernel_rfl) fi.ok trivial⟩
abbrev al.L0.D:=eD×(List eR)×Int×Int×(List (jB×Bool))
def al.L0.st:al.L0.D→AS:=fun(t_2,t33,t34,t35,n31)=>⟨([.undef,.ej fw t_2,.undef,.jt (.new 31 0) 0]++ba 29 ([.d (.slice cH) t33,.d ti t34,.d ti t35]++ba 52 [])),[],(bK 31 ([[.obj 0 false (.mp iC .bool n31)]]++bK 56 []))⟩
abbrev al.L0.Y0:=Unit
abbrev al.L0.X0:=Unit
def al.L0.bw:al.L0.X0→Exit×AS:=fun x=>(.ret,⟨([.undef,.undef,.d .bool false]++ba 85 []),[],(List.replicate 88 [])⟩)
abbrev al.L0.Y1:=Unit
abbrev al.L0.X1:=eD
def al.L0.eO:al.L0.X1→Exit×AS:=fun x=>(.exit 0,⟨([.undef,.ej fw x]++ba 86 []),[],(List.replicate 88 [])⟩)
abbrev al.L0.X:=(al.L0.X0)⊕(al.L0.X1)
abbrev al.L0.Y:=(al.L0.Y0)⊕(al.L0.Y1)
def al.L0.out:al.L0.X→Out (Exit×AS):=fun x=> .br x.isLeft (.get x.getLeft? fun a=> .ok (al.L0.bw a)) (.get x.getRight? fun b=> .ok (al.L0.eO b))
def al.L0.add:al.L0.D→al.L0.Y→al.L0.X:=fun(t_2,t33,t34,t35,n31) y=>match y with | .inl y=> .inl y | .inr z=> .inr (t_2)
abbrev al.L1.D:=Int×(List fL)×Int×Int
def al.L1.st:al.L1.D→AS:=fun(sum,t66,t67,t68)=>⟨(ba 6 ([.d ti sum]++ba 59 ([.d (.slice eX) t66,.d ti t67,.d ti t68]++ba 19 []))),[],(List.replicate 88 [])⟩
abbrev al.L1.Y0:=Unit
abbrev al.L1.X0:=Unit
def al.L1.bw:al.L1.X0→Exit×AS:=fun x=>(.ret,⟨([.undef,.undef,.d .bool false]++ba 85 []),[],(List.replicate 88 [])⟩)
abbrev al.L1.Y1:=Unit
abbrev al.L1.X1:=Unit
def al.L1.eO:al.L1.X1→Exit×AS:=fun x=>(.exit 2,⟨(ba 88 []),[],(List.replicate 88 [])⟩)
abbrev al.L1.X:=(al.L1.X0)⊕(al.L1.X1)
abbrev al.L1.Y:=(al.L1.Y0)⊕(al.L1.Y1)
def al.L1.out:al.L1.X→Out (Exit×AS):=fun x=> .br x.isLeft (.get x.getLeft? fun a=> .ok (al.L1.bw a)) (.get x.getRight? fun b=> .ok (al.L1.eO b))
def al.L1.add:al.L1.D→al.L1.Y→al.L1.X:=fun(sum,t66,t67,t68) y=>match y with | .inl y=> .inl y | .inr z=> .inr (z)
abbrev al.D:=eD
def al.st:al.D→SA:=fun t=>([.d fw t],[])
abbrev al.Y:=Bool
abbrev al.X:=Bool
def al.out:al.X→aZ:=fun x=>⟨.d .bool x,[],[]⟩
def al.add:al.D→al.Y→al.X:=fun t y=>y
def al.L0.aD:al.L0.D→Prop:=fun(t,l,n,i,m)=>l.length≤1000000000∧n=l.length∧∃k:Nat,k≤l.length∧i=k
def al.L0.F:al.L0.D→al.L0.Y:=fun(t,l,n,i,m)=>if qY m (l.drop i.toNat) then .inr () else .inl ()
def al.L1.aD:al.L1.D→Prop:=fun(s,l,n,i)=>(∀o∈l,C0 o.2.1)∧l.length≤1000000000∧n=l.length∧∃k:Nat,k≤l.length∧i=k
def al.L1.F:al.L1.D→al.L1.Y:=fun(s,l,n,i)=>if mC s (l.drop i.toNat) then .inr () else .inl ()
def al.aD:al.D→Prop:=fun t=>Eu t
def al.F:al.D→al.Y:=fun t=>fg t
noncomputable def al.G:dV:=eY (P:=Tryz.prog) [e7.sg,fi.sg,aQ.sg]
noncomputable def al.L0.E:=bP.cv al.L0.st al.L0.aD al.L0.add al.L0.F al.L0.out
noncomputable def al.L0.call:al.L0.D→Option al.L0.X:=dk al.L0.E al.L0.st
noncomputable def al.L1.E:=bP.cv al.L1.st al.L1.aD al.L1.add al.L1.F al.L1.out
noncomputable def al.L1.call:al.L1.D→Option al.L1.X:=dk al.L1.E al.L1.st
noncomputable def al.an:eJ:= {loops:=jJ [(5,{bn:=[1,3,33,34,35],sites:=[31]}),(13,{bn:=[6,66,67,68]})],outs:=jI [(5,{bn:=[1]},{bn:=[2]}),(13,{},{bn:=[2]})],fJ:=kz [(5,al.L0.E),(13,al.L1.E)]}
noncomputable def al.A:= @cK Tryz.prog al.G al.an 0 Tryz.f29 _ al.st
abbrev al.Ok:=cM @al.A al.aD al.add al.F al.out
noncomputable def al.L0.R:= @bV Tryz.prog al.G al.an 0 Tryz.f29 0 _ al.L0.st
abbrev al.L0.Ok:=eA Tryz.prog al.G al.an 0 Tryz.f29 0 al.L0.st al.L0.aD al.L0.add al.L0.F al.L0.out
noncomputable def al.L1.R:= @bV Tryz.prog al.G al.an 0 Tryz.f29 1 _ al.L1.st
abbrev al.L1.Ok:=eA Tryz.prog al.G al.an 0 Tryz.f29 1 al.L1.st al.L1.aD al.L1.add al.L1.F al.L1.out
theorem al.L0.run:bE al.L0.call al.L0.aD al.L0.add al.L0.F:=eK (eI [.d fw,.d (.slice cH),.d ti,.d ti,.d (.slice (.pair iC .bool))] fun _=>by kernel_rfl)
theorem al.L0.aG:iO @al.L0.R al.L0.st al.L0.aD al.L0.add al.L0.F al.L0.out al.L0.Ok:=jk
theorem al.L0.step{R:Type}(t_2:eD)(t33:(List eR))(t34:Int)(t35:Int)(n31:(List (jB×Bool)))(kn:AS→Option R)(kx:Exit→AS→Option R):al.L0.R (t_2,t33,t34,t35,n31) kn kx=
  aF ((gb t35 t34)) (
   aF (dS t35 (((List.length t33):Nat):Int)) (
   aF (((ow iC (nth cH t33 (Int.toNat t35)).1 n31).getD false)) (
    kx (al.L0.bw ()).1 (al.L0.bw ()).2) (
    aF ((gb (nth cH t33 (Int.toNat t35)).1.2.1 (0:Int))) (
     kx (al.L0.bw ()).1 (al.L0.bw ()).2) (
     aF ((l6 (nth cH t33 (Int.toNat t35)).1.2.1 (64:Int))) (
      kx (al.L0.bw ()).1 (al.L0.bw ()).2) (
      ae (e7.call (nth cH t33 (Int.toNat t35)).2.1) fun x8=>
      aF ((!x8)) (
       kx (al.L0.bw ()).1 (al.L0.bw ()).2) (
       kn (al.L0.st (t_2,t33,t34,(bO .i64 t35 (1:Int)),(oz iC (nth cH t33 (Int.toNat t35)).1 true n31)))))))) none) (
   kx (al.L0.eO t_2).1 (al.L0.eO t_2).2):=by kernel_rfl
theorem al.L1.run:bE al.L1.call al.L1.aD al.L1.add al.L1.F:=eK (eI [.d ti,.d (.slice eX),.d ti,.d ti] fun _=>by kernel_rfl)
theorem al.L1.aG:iO @al.L1.R al.L1.st al.L1.aD al.L1.add al.L1.F al.L1.out al.L1.Ok:=jk
theorem al.L1.step{R:Type}(sum:Int)(t66:(List fL))(t67:Int)(t68:Int)(kn:AS→Option R)(kx:Exit→AS→Option R):al.L1.R (sum,t66,t67,t68) kn kx=
  aF ((gb t68 t67)) (
   aF (dS t68 (((List.length t66):Nat):Int)) (
   ae (fi.call (sum,(nth eX t66 (Int.toNat t68)).1)) fun x10=>
   aF ((!x10.2)) (
    kx (al.L1.bw ()).1 (al.L1.bw ()).2) (
    ae (aQ.call (nth eX t66 (Int.toNat t68)).2.1) fun x12=>
    aF ((!x12)) (
     kx (al.L1.bw ()).1 (al.L1.bw ()).2) (
     kn (al.L1.st (x10.1,t66,t67,(bO .i64 t68 (1:Int))))))) none) (
   kx (al.L1.eO ()).1 (al.L1.eO ()).2):=by kernel_rfl
theorem al.eq{R:Type}(t:eD)(k:aZ→Option R):al.A t k=
  aF ((gb (((List.length t.1):Nat):Int) (1:Int))) (
   k (al.out false)) (
   aF ((mv (((List.length t.1):Nat):Int) (64:Int))) (
    k (al.out false)) (
    aF ((mv (((List.length t.2.1):Nat):Int) (64:Int))) (
     k (al.out false)) (
     aF ((gb t.2.2.1 (0:Int))) (
      k (al.out false)) (
      ae (al.L0.call (t,t.1,(((List.length t.1):Nat):Int),(0:Int),([]:List (jB×Bool)))) fun x12=>
      aF (x12.isLeft) (
       ae (x12.getLeft?) fun a13=>
       k (al.out false)) (
       ae (x12.getRight?) fun b14=>
       ae (al.L1.call ((0:Int),b14.2.1,(((List.length b14.2.1):Nat):Int),(0:Int))) fun x30=>
       aF (x30.isLeft) (
        ae (x30.getLeft?) fun a31=>
        k (al.out false)) (
        ae (x30.getRight?) fun b32=>
        k (al.out true))))))):=by kernel_rfl
theorem al.L0.ok:al.L0.Ok:=by
 refine al.L0.aG (fun(t,l,n,i,m)=>l.length - i.toNat) ?_
 rintro⟨t,l,n,i,m⟩ ⟨hb,rfl,k,hk,rfl⟩
 have hb:l.length≤1000000000:=hb
 have hk:k≤l.length:=hk
 by_cases h:k < l.length
 ·have n1:nth cH l k=l[k]:=bZ (t:=cH) h
  have hd:qY m (l.drop k)=((!(rS m l[k]) && qX l[k]) && qY (oz iC l[k].1 true m) (l.drop (k+1))):=by rw[List.drop_eq_getElem_cons h];rfl
  have step:∀ {R:Type} (kn:AS→Option R) (kx:Exit→AS→Option R),al.L0.R (t,l,(l.length:Int),(k:Int),m) kn kx=aF (!(rS m l[k]) && qX l[k]) (kn (al.L0.st (t,l,(l.length:Int),((k+1:Nat):Int),oz iC l[k].1 true m))) (kx (al.L0.bw ()).1 (al.L0.bw ()).2):=by
   intro R kn kx
   rw[al.L0.step,bA (by omega),bh (by omega) (by omega),Int.toNat_natCast,n1,N.kr (by omega),e7.run (d:=l[k].2.1) trivial]
   simp only[ay,aa,e7.add,e7.F]
   have e:(ow iC l[k].1 m).getD false=rS m l[k]:=rfl
   rw[e]
   cases rS m l[k]
   ·simp only[Bool.not_false,Bool.true_and,ao,qX]
    by_cases h1:l[k].1.2.1 < 0
    ·rw[bA h1,ay,aO (fun x=>by omega)];rfl
    ·rw[bm h1,ao]
     by_cases h2:64≤l[k].1.2.1
     ·rw[fF h2,ay,aO (fun x=>by omega)];rfl
     ·rw[eM h2,ao,aR ⟨by omega,by omega⟩]
      cases gn l[k].2.1 <;> rfl
   ·rfl
  cases hp:(!(rS m l[k]) && qX l[k])
  ·right
   refine⟨al.L0.bw (),?_,fun kn kx=> ?_⟩
   ·simp only[al.L0.add,al.L0.F,Int.toNat_natCast,hd,hp,Bool.false_and,Bool.false_eq_true,if_false]
    rfl
   ·rw[step,hp,ao]
  ·left
   refine⟨(t,l,l.length,((k+1:Nat):Int),oz iC l[k].1 true m),⟨hb,rfl,k+1,by omega,rfl⟩,by simp only[Int.toNat_natCast];omega,?_,fun kn kx=> ?_⟩
   ·simp only[al.L0.add,al.L0.F,Int.toNat_natCast,hd,hp,Bool.true_and]
   ·rw[step,hp,ay]
 ·right
  obtain rfl:k=l.length:=by omega
  refine⟨al.L0.eO t,?_,fun kn kx=> ?_⟩
  ·simp only[al.L0.add,al.L0.F,Int.toNat_natCast,List.drop_length]
   rfl
  ·rw[al.L0.step]
   simp(disch:=omega) only[↓S1,↓if_pos,↓if_neg,if_pos,if_neg,if_true,if_false,S2]
theorem al.L1.ok:al.L1.Ok:=by
 refine al.L1.aG (fun(s,l,n,i)=>l.length - i.toNat) ?_
 rintro⟨s,l,n,i⟩ ⟨hl,hb,rfl,k,hk,rfl⟩
 have hb:l.length≤1000000000:=hb
 have hk:k≤l.length:=hk
 by_cases h:k < l.length
 ·have hx:C0 l[k].2.1:=hl _ (List.getElem_mem h)
  have n1:nth eX l k=l[k]:=bZ (t:=eX) h
  have hd:mC s (l.drop k)=((pb s l[k].1 && iZ l[k].2.1) && mC (s+l[k].1) (l.drop (k+1))):=by rw[List.drop_eq_getElem_cons h];rfl
  have step:∀ {R:Type} (kn:AS→Option R) (kx:Exit→AS→Option R),al.L1.R (s,l,(l.length:Int),(k:Int)) kn kx=aF (pb s l[k].1 && iZ l[k].2.1) (kn (al.L1.st (s+l[k].1,l,(l.length:Int),((k+1:Nat):Int)))) (kx (al.L1.bw ()).1 (al.L1.bw ()).2):=by
   intro R kn kx
   rw[al.L1.step,bA (by omega),bh (by omega) (by omega),Int.toNat_natCast,n1,N.kr (by omega),fi.run (d:=(s,l[k].1)) trivial,aQ.run (d:=l[k].2.1) hx]
   simp only[ay,aa,fi.add,fi.F,aQ.add,aQ.F]
   cases pb s l[k].1
   ·rfl
   ·cases iZ l[k].2.1 <;> rfl
  cases hp:(pb s l[k].1 && iZ l[k].2.1)
  ·right
   refine⟨al.L1.bw (),?_,fun kn kx=> ?_⟩
   ·simp only[al.L1.add,al.L1.F,Int.toNat_natCast,hd,hp,Bool.false_and,Bool.false_eq_true,if_false]
    rfl
   ·rw[step,hp,ao]
  ·left
   refine⟨(s+l[k].1,l,l.length,((k+1:Nat):Int)),⟨hl,hb,rfl,k+1,by omega,rfl⟩,by simp only[Int.toNat_natCast];omega,?_,fun kn kx=> ?_⟩
   ·simp only[al.L1.add,al.L1.F,Int.toNat_natCast,hd,hp,Bool.true_and]
   ·rw[step,hp,ay]
 ·right
  obtain rfl:k=l.length:=by omega
  refine⟨al.L1.eO (),?_,fun kn kx=> ?_⟩
  ·simp only[al.L1.add,al.L1.F,Int.toNat_natCast,List.drop_length]
   rfl
  ·rw[al.L1.step]
   simp(disch:=omega) only[↓S1,↓if_pos,↓if_neg,if_pos,if_neg,if_true,if_false,S2]
theorem al.ok:al.Ok:=by
 rintro⟨is,os,nt,u⟩ ⟨hl,h1,h2⟩
 have h1:is.length≤1000000000:=h1
 have h2:os.length≤1000000000:=h2
 rw[al.eq,al.L0.run (d:=((is,os,nt,u),is,is.length,0,[])) ⟨h1,rfl,0,by omega,rfl⟩]
 simp only[aa,al.L0.add,al.L0.F,Int.toNat_zero,List.drop_zero,al.add,al.F,fg,vm]
 by_cases a1:is.length < 1
 ·rw[bA (by omega),ay,aO (fun x=>by omega)];rfl
 rw[bm (by omega),ao]
 by_cases a2:64 < is.length
 ·rw[dG (by omega),ay,aO (fun x=>by omega)];rfl
 rw[dx (by omega),ao]
 by_cases a3:64 < os.length
 ·rw[dG (by omega),ay,aO (fun x=>by omega)];rfl
 rw[dx (by omega),ao]
 by_cases a4:nt < 0
 ·rw[bA (by omega),ay,aO (fun x=>by omega)];rfl
 rw[bm (by omega),ao,aR ⟨by omega,by omega,by omega,by omega⟩]
 cases qY [] is
 ·rfl
 ·simp only[if_true,Bool.true_and]
  show ae (al.L1.call (0,os,(os.length:Int),0)) _=_
  rw[al.L1.run (d:=(0,os,os.length,0)) ⟨hl,h2,rfl,0,by omega,rfl⟩]
  simp only[aa,al.L1.add,al.L1.F,Int.toNat_zero,List.drop_zero]
  cases mC 0 os <;> rfl
noncomputable def al.E:=Entry.cv [some fw] al.st al.aD al.add al.F al.out
noncomputable def al.call:al.D→Option al.X:=bJ al.E al.st
theorem al.run:bE al.call al.aD al.add al.F:=cQ (cP [.d fw] fun _=>by kernel_rfl)
noncomputable def al.sg:SG Tryz.prog:=⟨29,aW,al.E,.fn 2 (by kernel_rfl) al.ok (And.intro (.cv al.L0.ok (by kernel_rfl)) (And.intro (.cv al.L1.ok (by kernel_rfl)) trivial))⟩
end Go.Ab
