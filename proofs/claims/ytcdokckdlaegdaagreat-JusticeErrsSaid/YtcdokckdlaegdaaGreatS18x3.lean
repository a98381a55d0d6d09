/-
  Made short by a program of mine (wip/tools/mini.py).
-/
import Derived.Test.YtcdokckdlaegdaaGreatS18x2
import Derived.Laws.Externs
import Derived.KernelRfl
import Derived.ProofKit
import Derived.OpenShut
import Derived.Deep.Slices
import Derived.Carry
set_option linter.unusedVariables false
set_option linter.unusedSimpArgs false
namespace Go.Ab
theorem lJ{n:Int}(h1: -9223372036854775808≤n)(h2:n≤9223372036854775807):IntKind.i64.wrap n=n:=by
 simp[IntKind.wrap,IntKind.bits,IntKind.signed]
 split <;> omega
theorem dL{x y:Int}(h1: -9223372036854775808≤x+y)(h2:x+y≤9223372036854775807):bw .i64 x y=x+y:=lJ h1 h2
theorem fe{x y:Int}(h1: -9223372036854775808≤x - y)(h2:x - y≤9223372036854775807):bS .i64 x y=x - y:=lJ h1 h2
theorem jk{x y:Int}(h1: -9223372036854775808≤x*y)(h2:x*y≤9223372036854775807):eS .i64 x y=x*y:=lJ h1 h2
theorem mv{x:Int}(h1: -9223372036854775808≤x)(h2:x≤9223372036854775807):dI .i64 x=x:=lJ h1 h2
def vw{n:Nat}(w:BitVec n):Int:=(w.toNat:Int)
theorem gL(n:Nat)(x:Int):vw (BitVec.ofInt n x)=x%((2^n:Nat):Int):=by
 unfold vw
 rw[BitVec.toNat_ofInt]
 have:0≤x%((2^n:Nat):Int):=Int.emod_nonneg _ (by have:=Nat.two_pow_pos n;omega)
 omega
theorem tc{n:Nat}(w:BitVec n):0≤vw w:=Int.natCast_nonneg _
theorem Fg{n:Nat}(w:BitVec n):vw w < ((2^n:Nat):Int):=by have:=w.isLt;unfold vw;omega
theorem kN{n:Nat}(w:BitVec n):BitVec.ofInt n (vw w)=w:=by
 apply BitVec.eq_of_toNat_eq
 have:=gL n (vw w)
 unfold vw at this ⊢
 have h:=w.isLt
 rw[Int.emod_eq_of_lt (Int.natCast_nonneg _) (by omega)]at this
 omega
theorem wrap_u32(x:Int):IntKind.u32.wrap x=vw (BitVec.ofInt 32 x):=by rw[gL];simp[IntKind.wrap,IntKind.bits,IntKind.signed]
theorem wrap_u64(x:Int):IntKind.u64.wrap x=vw (BitVec.ofInt 64 x):=by rw[gL];simp[IntKind.wrap,IntKind.bits,IntKind.signed]
theorem wrap_u8(x:Int):IntKind.u8.wrap x=vw (BitVec.ofInt 8 x):=by rw[gL];simp[IntKind.wrap,IntKind.bits,IntKind.signed]
theorem ofInt_add(n:Nat)(x y:Int):BitVec.ofInt n (x+y)=BitVec.ofInt n x+BitVec.ofInt n y:=BitVec.ofInt_add ..
theorem nS(x y:BitVec 32):bw .u32 (vw x) (vw y)=vw (x+y):=by rw[bw,wrap_u32,BitVec.ofInt_add,kN,kN]
theorem BU(x:Int):dI .u32 x=vw (BitVec.ofInt 32 x):=wrap_u32 x
theorem xN(x:Int):dI .u64 x=vw (BitVec.ofInt 64 x):=wrap_u64 x
theorem uO(x:Int):dI .u8 x=vw (BitVec.ofInt 8 x):=wrap_u8 x
theorem Er{n:Nat}(x:BitVec n):BitVec.ofInt n ((x.toNat:Nat):Int)=x:=kN x
theorem ju(op:BinOp)(x y:BitVec 32):ct op .u32 (vw x) (vw y)=vw (match op with | .and=>x &&& y | .or=>x ||| y | .xor=>x^^^y | _=>x &&& ~~~y):=by
 unfold ct
 split <;> (simp only[IntKind.bits,kN,wrap_u32,Er];rfl)
theorem Cx(op:BinOp)(x y:BitVec 64):ct op .u64 (vw x) (vw y)=vw (match op with | .and=>x &&& y | .or=>x ||| y | .xor=>x^^^y | _=>x &&& ~~~y):=by
 unfold ct
 split <;> (simp only[IntKind.bits,kN,wrap_u64,Er];rfl)
theorem D1(x y:Nat):Int.fdiv (x:Int) (y:Int)=((x / y:Nat):Int):=by
 rw[Int.fdiv_eq_ediv_of_nonneg _ (Int.natCast_nonneg _)]
 rfl
theorem rX(k:Nat):(2:Int)^k=((2^k:Nat):Int):=by simp
theorem HB{n:Nat}(w:BitVec n)(k:Nat):Int.fdiv (vw w) (2^(min k n))=vw (w >>> k):=by
 rw[rX]
 unfold vw
 rw[D1,BitVec.toNat_ushiftRight,Nat.shiftRight_eq_div_pow]
 congr 1
 rcases Nat.le_total k n with hk | hk
 ·rw[Nat.min_eq_left hk]
 ·rw[Nat.min_eq_right hk,Nat.div_eq_of_lt w.isLt,Nat.div_eq_of_lt]
  exact Nat.lt_of_lt_of_le w.isLt (Nat.pow_le_pow_right (by omega) hk)
theorem pj(w:BitVec 32)(k:Int):bW .u32 (vw w) k=vw (w >>> k.toNat):=HB w k.toNat
theorem HA{n:Nat}(w:BitVec n)(k:Nat):BitVec.ofInt n (vw w*2^(min k n))=w <<< k:=by
 apply BitVec.eq_of_toNat_eq
 rw[BitVec.toNat_ofInt,BitVec.toNat_shiftLeft,Nat.shiftLeft_eq]
 unfold vw
 rw[rX]
 have e:((w.toNat:Int)*((2^min k n:Nat):Int))=((w.toNat*2^min k n:Nat):Int):=by simp
 rw[e]
 have:(((w.toNat*2^min k n:Nat):Int)%((2^n:Nat):Int)).toNat=(w.toNat*2^min k n)%2^n:=by omega
 rw[this]
 rcases Nat.le_total k n with hk | hk
 ·rw[Nat.min_eq_left hk]
 ·rw[Nat.min_eq_right hk,Nat.mul_mod_left]
  obtain⟨m,rfl⟩:=Nat.exists_eq_add_of_le hk
  rw[Nat.pow_add,←Nat.mul_assoc,Nat.mul_right_comm,Nat.mul_mod_left]
theorem ri(w:BitVec 32)(k:Int):jC .u32 (vw w) k=vw (w <<< k.toNat):=by rw[jC,wrap_u32];congr 1;exact HA w k.toNat
theorem bz{i n:Int}(h1:0≤i)(h2:i < n):dY i n=true:=by simp[dY,h1,h2]
theorem kE{i n:Int}(h1:0≤i)(h2:i≤n):inc i n=true:=by simp[inc,h1,h2]
theorem bB{x y:Int}(h:x < y):gM x y=true:=by simp[gM,h]
theorem bm{x y:Int}(h:¬x < y):gM x y=false:=by simp[gM];omega
theorem pg{x y:Int}(h:x≤y):wX x y=true:=by simp[wX,h]
theorem ld{x y:Int}(h:¬x≤y):wX x y=false:=by simp[wX];omega
theorem dS{x y:Int}(h:x > y):na x y=true:=by simp[na];omega
theorem cZ{x y:Int}(h:¬x > y):na x y=false:=by simp[na];omega
theorem gQ{x y:Int}(h:x≥y):kX x y=true:=by simp[kX];omega
theorem fx{x y:Int}(h:¬x≥y):kX x y=false:=by simp[kX];omega
theorem eu{x y:Int}(h:x=y):ia x y=true:=by simp[ia,h]
theorem dR{x y:Int}(h:¬x=y):ia x y=false:=by simp[ia,h]
theorem iM{x y:Int}(h:¬x=y):qS x y=true:=by simp[qS,h]
theorem gO{x y:Int}(h:x=y):qS x y=false:=by simp[qS,h]
theorem nj{x:Int}(h:0≤x):iW x=true:=by simp[iW,h]
theorem aD{p:Prop} [Decidable p] (h:p):decide p=true:=by simp[h]
theorem bN{p:Prop} [Decidable p] (h:¬p):decide p=false:=by simp[h]
theorem eO{n b:Nat}(h:n*b≤140737488355328)(h2:n≤9223372036854775807):dK n b=true:=by simp[dK,h,h2]
def from_{α:Type}(f:Nat→α→α)(t:Nat)(l:List α):List α:=l.mapIdx fun i x=>if i < t then x else f i x
theorem pP{α:Type}(f:Nat→α→α)(l:List α)(t:Nat)(h:t < l.length):from_ f (t+1) (l.set t (f t l[t]))=from_ f t l:=by
 unfold from_
 apply List.ext_getElem (by simp)
 intro i h1 h2
 simp only[List.getElem_mapIdx,List.getElem_set]
 by_cases hi:t=i
 ·subst hi;simp
 ·simp only[if_neg hi]
  by_cases h3:i < t
  ·rw[if_pos (by omega),if_pos h3]
  ·rw[if_neg (by omega),if_neg h3]
theorem ra{α:Type}(f:Nat→α→α)(l:List α)(t:Nat)(h:l.length≤t):from_ f t l=l:=by
 unfold from_
 apply List.ext_getElem (by simp)
 intro i h1 h2
 simp only[List.getElem_mapIdx]
 rw[if_pos (by omega)]
theorem uL{α:Type}(f:Nat→α→α)(n:Nat)(x:α):from_ f 0 (List.replicate n x)=(List.range n).map fun i=>f i x:=by
 unfold from_
 apply List.ext_getElem (by simp)
 intro i h1 h2
 simp
theorem dT{t:Ty}{l:List t.den}{i:Nat}(h:i < l.length):nth t l i=l[i]:=by simp[nth,h]
end Go.Ab
namespace Go.Ab.N
section
variable {α:Type} {x y:Option α} {a b n:Nat} {i j:Int}
theorem lt:aC (gM i j) x y=if i < j then x else y:=by unfold gM;split <;> rename_i h <;> simp[h]
theorem le:aC (wX i j) x y=if i≤j then x else y:=by unfold wX;split <;> rename_i h <;> simp[h]
theorem gt:aC (na i j) x y=if j < i then x else y:=by unfold na;split <;> rename_i h <;> simp[h]
theorem ge:aC (kX i j) x y=if j≤i then x else y:=by unfold kX;split <;> rename_i h <;> simp[h]
theorem eq:aC (ia i j) x y=if i=j then x else y:=by
 by_cases h:i=j
 ·rw[eu h,if_pos h];rfl
 ·rw[dR h,if_neg h];rfl
theorem ne:aC (qS i j) x y=if i=j then y else x:=by
 by_cases h:i=j
 ·rw[gO h,if_pos h];rfl
 ·rw[iM h,if_neg h];rfl
theorem ib:aC (dY i j) x y=if 0≤i∧i < j then x else y:=by unfold dY;split <;> rename_i h <;> simp[h]
theorem ic:aC (inc i j) x y=if 0≤i∧i≤j then x else y:=by unfold inc;split <;> rename_i h <;> simp[h]
theorem nn:aC (iW i) x y=if 0≤i then x else y:=by unfold iW;split <;> rename_i h <;> simp[h]
theorem nz:aC (iK i) x y=if i=0 then y else x:=by unfold iK;split <;> rename_i h <;> simp[h]
theorem dc{p:Prop} [Decidable p]:aC (decide p) x y=if p then x else y:=by split <;> rename_i h <;> simp[h]
theorem rm:aC (dK n b) x y=if n*b≤140737488355328∧n≤9223372036854775807 then x else y:=by unfold dK;exact dc
theorem an{c d:Bool}:aC (c && d) x y=aC c (aC d x y) y:=by cases c <;> rfl
theorem or{c d:Bool}:aC (c || d) x y=aC c x (aC d x y):=by cases c <;> rfl
theorem no{c:Bool}:aC (!c) x y=aC c y x:=by cases c <;> rfl
theorem IB(h:a+b≤9223372036854775807):bw .i64 (a:Int) (b:Int)=((a+b:Nat):Int):=by rw[dL (by omega) (by omega)];omega
theorem mC(h:a+OfNat.ofNat n≤9223372036854775807):bw .i64 (a:Int) (no_index (OfNat.ofNat n))=((a+OfNat.ofNat n:Nat):Int):=IB h
theorem Jm(h:OfNat.ofNat n+a≤9223372036854775807):bw .i64 (no_index (OfNat.ofNat n)) (a:Int)=((OfNat.ofNat n+a:Nat):Int):=IB h
theorem II(h:b≤a)(h2:a≤9223372036854775807):bS .i64 (a:Int) (b:Int)=((a - b:Nat):Int):=by rw[fe (by omega) (by omega)];omega
theorem IH(h:OfNat.ofNat n≤a)(h2:a≤9223372036854775807):bS .i64 (a:Int) (no_index (OfNat.ofNat n))=((a - OfNat.ofNat n:Nat):Int):=II h h2
theorem Ju(h:a≤OfNat.ofNat n)(h2:(OfNat.ofNat n:Nat)≤9223372036854775807):bS .i64 (no_index (OfNat.ofNat n)) (a:Int)=((OfNat.ofNat n - a:Nat):Int):=II h h2
theorem IF(h:a*b≤9223372036854775807):eS .i64 (a:Int) (b:Int)=((a*b:Nat):Int):=by
 have e:(a:Int)*(b:Int)=((a*b:Nat):Int):=by simp
 rw[jk (by omega) (by omega),e]
theorem Jr(h:a*OfNat.ofNat n≤9223372036854775807):eS .i64 (a:Int) (no_index (OfNat.ofNat n))=((a*OfNat.ofNat n:Nat):Int):=IF h
theorem IE(h:OfNat.ofNat n*a≤9223372036854775807):eS .i64 (no_index (OfNat.ofNat n)) (a:Int)=((OfNat.ofNat n*a:Nat):Int):=IF h
theorem I4(h:a≤9223372036854775807):kV .i64 (a:Int) (b:Int)=((a / b:Nat):Int):=by
 have:(a:Int).tdiv (b:Int)=((a / b:Nat):Int):=by rw[Int.tdiv_eq_ediv_of_nonneg (by omega)];simp
 have hl:a / b≤a:=Nat.div_le_self a b
 unfold kV
 rw[this]
 generalize a / b=c at hl
 exact lJ (by omega) (by omega)
theorem Js(h:a≤9223372036854775807):kV .i64 (a:Int) (no_index (OfNat.ofNat n))=((a / OfNat.ofNat n:Nat):Int):=I4 h
theorem I5:gd (a:Int) (b:Int)=((a%b:Nat):Int):=by
 unfold gd
 rw[Int.tmod_eq_emod_of_nonneg (by omega)]
 simp
theorem Jt:gd (a:Int) (no_index (OfNat.ofNat n))=((a%OfNat.ofNat n:Nat):Int):=I5
theorem cN(h:a≤9223372036854775807):dI .i64 (a:Int)=(a:Int):=mv (by omega) (by omega)
theorem cL(h:(OfNat.ofNat n:Nat)≤9223372036854775807):dI .i64 (no_index (OfNat.ofNat n))=OfNat.ofNat n:=cN h
theorem tL:Int.toNat (no_index (OfNat.ofNat n))=OfNat.ofNat n:=rfl
end
end Go.Ab.N
namespace Go.Ab
section
variable {P:Program}
theorem DY{E E':Env}(h1:E'.w=E.w)(h2:E'.g=E.g)(h3:E'.β=E.β)(h4:E'.s=E.s):E'=E:=by
 obtain⟨a,b,c,d⟩:=E
 obtain⟨a',b',c',d'⟩:=E'
 simp only at h1 h2 h3 h4
 subst h1 h2 h3 h4
 rfl
theorem oT.same{w:World}{g:Nat→jt}{β:Id→Option Pl}{dd:List eL}{a:az}{v:Value}(hv:VS ((jD dd).env w g β) a v)(ho:hP ((jD dd).env w g β)):
  oT ((jD dd).env w g β) ⟨a,dd,[]⟩ v w:=by
 have hE:(aT.st ⟨a,dd,[]⟩).env w g β=(jD dd).env w g β:=by
  refine DY rfl rfl rfl ?_
  funext id
  cases id with
  |dH k=>rfl
  |new i j=>
   show([([]:List eL)].getD i [])[j]? =(([]:List (List eL)).getD i [])[j]?
   cases i <;> rfl
 refine⟨g,β,?_⟩
 rw[hE]
 exact⟨hv,ho,Trans.refl w g,cW.refl _⟩
theorem lY.extern{f:FuncId}{fn:Func}{e:Array Value→Sem Value}(hf:P.funcs[f]? =some fn)(hname:(fn.name== "runtime.NumGoroutine")=false)(hb:fn.body.isNone=true)(hn:Extern.findNext fn=none)(he:Extern.find fn=some e){en:Entry}
  (h:∀w g β args dd iL x,qR ((jD dd).env w g β) args iL→hP ((jD dd).env w g β)→en.run args dd=some x→∃v,(e iL.toArray).run P w= .ok v w∧oT ((jD dd).env w g β) (en.out args dd x) v w):lY P f en:=by
 intro w g β args dd iL x h1 h2 h3
 obtain⟨v,h4,h5⟩:=h w g β args dd iL x h1 h2 h3
 refine .inr ⟨v,w,?_,h5⟩
 rw[run_callFunc_extern hf hname hb hn he,h4]
 rfl
def Gx.E:Entry:= {params:=[none],X:=Unit,run:=fun args _=>match args with | [_]=>some () | _=>none,out:=fun args dd _=>⟨args.headD .undef,dd,[]⟩}
theorem Gx.of{f:FuncId}{fn:Func}(hf:P.funcs[f]? =some fn)(hname:(fn.name== "runtime.NumGoroutine")=false)(hb:fn.body.isNone=true)(hn:Extern.findNext fn=none)(he:Extern.find fn=some Extern.AbiNoEscape.same):lY P f Gx.E:=by
 refine lY.extern hf hname hb hn he fun w g β args dd iL x h1 h2 h3=> ?_
 cases args with
 |nil=>cases h3
 |cons a as=>
  cases as with
  |cons _ _=>cases h3
  |nil=>
   cases iL with
   |nil=>exact h1.elim
   |cons v vs=>
    obtain⟨h4,h5⟩:=h1
    cases vs with
    |cons _ _=>exact h5.elim
    |nil=>exact⟨v,rfl,oT.same h4 h2⟩
theorem xf{w:World}:∀(xs:List Int) (a:Addr) (acc:ByteArray),(∀j x,xs[j]? =some x→w.cell? (a.add j)=some (.int .u8 x))→
  (Extern.Bytes.loadBytes a xs.length acc).run P w= .ok ⟨acc.data++(xs.map fun n=>UInt8.ofNat n.toNat).toArray⟩ w
 |[],a,acc,_=>by simp[Extern.Bytes.loadBytes]
 |x::l,a,acc,h=>by
  have h0:w.cell? a=some (.int .u8 x):=by
   have:=h 0 x rfl
   simpa[Addr.add]using this
  have ih:=xf l (a.add 1) (acc.push x.toNat.toUInt8) (fun j y hy=>by
   have:=h (j+1) y (by simpa using hy)
   have e:(a.add 1).add j=a.add (j+1):=by
    unfold Addr.add
    by_cases hj:j=0
    ·subst hj;simp
    ·simp[hj];omega
   rw[e];exact this)
  simp only[List.length_cons,Extern.Bytes.loadBytes,Sem.run_bind,run_load,h0,Result.andThen]
  rw[ih]
  congr 1
  apply ByteArray.ext
  simp[ByteArray.push]
theorem vy{E:Env}{l:List Int}{y:Value}(h:VS E (.d (.slice (.int .u8)) l) y):(Extern.Bytes.bytesOf y).run P E.w= .ok (gD l) E.w:=by
 obtain⟨a,cap,vs,rfl,_,hs,hrow,hch⟩:=kR h
 have hvs:=lI (k:= .u8) (vs:=vs) (l:=l) hch
 cases a with
 |none=>
  have hl:l=[]:=by
   cases l with
   |nil=>rfl
   |cons _ _=>simp at hs
  subst hl
  rfl
 |some ad=>
  have hload:=xf (P:=P) (w:=E.w) l ad .empty fun j x hx=>by
   obtain⟨b,off,e,hh⟩:=hrow j (.int .u8 x) (by rw[hvs];simp[hx])
   have e:ad=⟨b,off,none⟩:=by simpa using e
   subst e
   have h1:=hh.1
   unfold Addr.add
   by_cases hj:j=0
   ·subst hj;simpa using h1
   ·simpa[hj]using h1
  show(Extern.Bytes.loadBytes ad l.length .empty).run P E.w=_
  rw[hload]
  congr 1
  apply ByteArray.ext
  simp[gD]
def AG(a b:List Int):Int:=Extern.BytealgCompare.cmp (gD a) (gD b)
noncomputable def BJ.E:Entry:=Entry.of (D:=List Int×List Int) (X:=Int) [some (.slice (.int .u8)),some (.slice (.int .u8))] (fun d=>([.d (.slice (.int .u8)) d.1,.d (.slice (.int .u8)) d.2],[])) (fun _=>True) (fun d=>AG d.1 d.2) (fun x=>⟨.d (.int .i64) x,[],[]⟩)
theorem BJ.inj:∀d d':List Int×List Int,(([az.d (.slice (.int .u8)) d.1,az.d (.slice (.int .u8)) d.2],([]:List eL)):List az×List eL)=([.d (.slice (.int .u8)) d'.1,.d (.slice (.int .u8)) d'.2],[])→d=d':=by
 rintro⟨a,b⟩ ⟨a',b'⟩ h
 have e1:a=a':=Gb (t:= .slice (.int .u8)) (congrArg (fun s:List az×List eL=>s.1.getD 0 .undef) h)
 have e2:b=b':=Gb (t:= .slice (.int .u8)) (congrArg (fun s:List az×List eL=>s.1.getD 1 .undef) h)
 rw[e1,e2]
noncomputable def BJ.call:List Int×List Int→Option Int:=fun d=>BJ.E.run [.d (.slice (.int .u8)) d.1,.d (.slice (.int .u8)) d.2] []
theorem BJ.run(d:List Int×List Int):BJ.call d=some (AG d.1 d.2):=Entry.sR (d:=d) BJ.inj trivial
theorem BJ.of{f:FuncId}{fn:Func}(hf:P.funcs[f]? =some fn)(hname:(fn.name== "runtime.NumGoroutine")=false)(hb:fn.body.isNone=true)(hn:Extern.findNext fn=none)(he:Extern.find fn=some Extern.BytealgCompare.compare):lY P f BJ.E:=by
 refine lY.extern hf hname hb hn he fun w g β args dd iL x h1 h2 h3=> ?_
 have hx:∃d:List Int×List Int,(([az.d (.slice (.int .u8)) d.1,az.d (.slice (.int .u8)) d.2],([]:List eL)):List az×List eL)=(args,dd):=by
  by_cases hh:∃d:List Int×List Int,(([az.d (.slice (.int .u8)) d.1,az.d (.slice (.int .u8)) d.2],([]:List eL)):List az×List eL)=(args,dd)
  ·exact hh
  ·exfalso
   have hn:BJ.E.run args dd=none:=dif_neg fun⟨d,h,_⟩=>hh ⟨d,h⟩
   rw[hn]at h3
   cases h3
 obtain⟨d,hd⟩:=hx
 simp only[Prod.mk.injEq]at hd
 obtain⟨rfl,rfl⟩:=hd
 have hr:=BJ.run d
 have hx:x=AG d.1 d.2:=Option.some.inj (h3.symm.trans hr)
 subst hx
 match iL,h1 with
 |[u,v],⟨h4,h5,_⟩=>
  refine⟨.int .i64 (AG d.1 d.2),?_,oT.same (iD _ _) h2⟩
  have e1:=vy (P:=P) h4
  have e2:=vy (P:=P) h5
  have e1:(Extern.Bytes.bytesOf u).run P w= .ok (gD d.1) w:=e1
  have e2:(Extern.Bytes.bytesOf v).run P w= .ok (gD d.2) w:=e2
  have hdef:Extern.BytealgCompare.compare [u,v].toArray=(do let a ←Extern.Bytes.bytesOf u;let b ←Extern.Bytes.bytesOf v;pure (goInt (Extern.BytealgCompare.cmp a b))):=rfl
  rw[hdef]
  simp[e1,e2,goInt,AG]
def Av{X Y:Type} [Inhabited Y] (x:Option X):Option (X×Y):=ab x fun y=>some (y,default)
def qV{X Y:Type} [Inhabited X] (x:Option Y):Option (X×Y):=ab x fun y=>some (default,y)
@[simp] theorem HN{X Y:Type} [Inhabited Y] (x:X):Av (Y:=Y) (some x)=some (x,default):=rfl
@[simp] theorem HO{X Y:Type} [Inhabited X] (x:Y):qV (X:=X) (some x)=some (default,x):=rfl
def Entry.alt(p:List az→List eL→Bool)(params:List (Option Ty)){X Y:Type} [Inhabited X] [Inhabited Y] (r1:List az→List eL→Option X) (r2:List az→List eL→Option Y) (o1:List az→List eL→X→aT) (o2:List az→List eL→Y→aT):Entry:=
 {params,X:=X×Y,run:=fun a o=>match p a o with | true=>Av (r1 a o) | false=>qV (r2 a o),out:=fun a o x=>match p a o with | true=>o1 a o x.1 | false=>o2 a o x.2}
theorem lY.alt{f:FuncId}{p:List az→List eL→Bool}{params:List (Option Ty)}{X Y:Type} [Inhabited X] [Inhabited Y] {r1:List az→List eL→Option X} {r2:List az→List eL→Option Y} {o1:List az→List eL→X→aT} {o2:List az→List eL→Y→aT}
  (h1:lY P f {params,X,run:=r1,out:=o1}) (h2:lY P f {params,X:=Y,run:=r2,out:=o2}):lY P f (Entry.alt p params r1 r2 o1 o2):=by
 intro w g β args dd iL x h3 h4 h5
 have h5:(match p args dd with | true=>Av (r1 args dd) | false=>qV (r2 args dd))=some x:=h5
 cases hp:p args dd with
 |true=>
  rw[hp]at h5
  cases hr:r1 args dd with
  |none=>rw[hr]at h5;cases h5
  |some y=>
   rw[hr]at h5
   obtain rfl:(y,default)=x:=Option.some.inj h5
   have:=h1 w g β args dd iL y h3 h4 hr
   have e:(Entry.alt p params r1 r2 o1 o2).out args dd (y,default)=o1 args dd y:=by show(match p args dd with | true=>o1 args dd y | false=>o2 args dd default)=_;rw[hp]
   rw[e]
   exact this
 |false=>
  rw[hp]at h5
  cases hr:r2 args dd with
  |none=>rw[hr]at h5;cases h5
  |some y=>
   rw[hr]at h5
   obtain rfl:(default,y)=x:=Option.some.inj h5
   have:=h2 w g β args dd iL y h3 h4 hr
   have e:(Entry.alt p params r1 r2 o1 o2).out args dd (default,y)=o2 args dd y:=by show(match p args dd with | true=>o1 args dd default | false=>o2 args dd y)=_;rw[hp]
   rw[e]
   exact this
def Hp:List az→List eL→Bool:=fun _ dd=>match dd with | [_]=>true | _=>false
end
theorem S1:(type_of% @N.lt)∧(type_of% @N.le)∧(type_of% @N.gt)∧(type_of% @N.ge)∧(type_of% @N.eq)∧(type_of% @N.ne)∧(type_of% @N.ib)∧(type_of% @N.ic)∧(type_of% @N.nn)∧(type_of% @N.nz)∧(type_of% @N.dc)∧(type_of% @N.rm)∧(type_of% @N.an)∧(type_of% @N.or)∧(type_of% @N.no)∧(type_of% @ah)∧(type_of% @ae)∧(type_of% @aa):=⟨@N.lt,@N.le,@N.gt,@N.ge,@N.eq,@N.ne,@N.ib,@N.ic,@N.nn,@N.nz,@N.dc,@N.rm,@N.an,@N.or,@N.no,@ah,@ae,@aa⟩
theorem S2:(type_of% @aa)∧(type_of% @N.IB)∧(type_of% @N.mC)∧(type_of% @N.Jm)∧(type_of% @N.II)∧(type_of% @N.IH)∧(type_of% @N.Ju)∧(type_of% @N.IF)∧(type_of% @N.Jr)∧(type_of% @N.IE)∧(type_of% @N.I4)∧(type_of% @N.Js)∧(type_of% @N.I5)∧(type_of% @N.Jt)∧(type_of% @N.cN)∧(type_of% @N.cL)∧(type_of% @N.tL)∧(type_of% @Int.toNat_natCast)∧(type_of% @and_self)∧(type_of% @true_and)∧(type_of% @and_true):=⟨@aa,@N.IB,@N.mC,@N.Jm,@N.II,@N.IH,@N.Ju,@N.IF,@N.Jr,@N.IE,@N.I4,@N.Js,@N.I5,@N.Jt,@N.cN,@N.cL,@N.tL,@Int.toNat_natCast,@and_self,@true_and,@and_true⟩
end Go.Ab
namespace Go.Ab
open Go.ChangeShapes Go.WideShapes Go.ChangeAt Go.RowKit Go.Deep
def vT:(t:Ty)→t.den→Prop
 | .int k,x=>(Lit.int k x).wf=true
 | .bool,_=>True
 | .str,s=>(s:ByteArray).size≤maxLen
 | .slice t,l=>(l:List t.den).length≤maxLen∧∀x∈(l:List t.den),vT t x
 | .unit,_=>True
 | .pair a b,x=>vT a x.1∧vT b x.2
 | .arr n t,l=>(l:List t.den).length=n∧∀x∈(l:List t.den),vT t x
 | .gv _,_=>False
def mJ(P:Program)(rd:TypeId→Ty→Bool):Nat→List Field→Ty→Bool
 |_,[],.unit=>true
 |off,f::fs,.pair a b=>Nat.beq f.offset off && (rd f.type a && (Nat.beq (P.cellsOf f.type) a.size && mJ P rd (off+a.size) fs b))
 |_,_,_=>false
def nE(P:Program):Nat→TypeId→Ty→Bool
 | 0,_,_=>false
 |n+1,T,ty=>
  match P.underlying T,ty with
  |some (.int k),.int k'=>decide (k=k')
  |some .bool,.bool=>true
  |some .string,.str=>true
  |some (.slice e),.slice t=>nE P n e t && Nat.beq (P.cellsOf e) t.size
  |some (.array k e),.arr k' t=>Nat.beq k k' && (nE P n e t && (Nat.beq (P.cellsOf e) t.size && Nat.beq (P.cellsOf T) (k*t.size)))
  |some (.struct fs),ty=>mJ P (nE P n) 0 fs.toList ty && Nat.beq (P.cellsOf T) ty.size
  |_,_=>false
theorem Fx{a b:Nat}:(Nat.beq a b=true)=(a=b):=propext ⟨Nat.eq_of_beq_eq_true,fun h=>by subst h;exact Nat.beq_refl a⟩
theorem zr{α β:Type}{f:α→Option β}:∀ {l:List α} {r:List β},l.mapM f=some r→r.length=l.length∧∀(i:Nat) (x:α),l[i]? =some x→f x=r[i]?
 |[],r,h=>by
  simp only[List.mapM_nil,Option.pure_def,Option.some.injEq]at h
  subst h
  exact⟨rfl,fun i x h=>by simp at h⟩
 |y::l,r,h=>by
  simp only[List.mapM_cons,Option.bind_eq_bind,Option.pure_def,Option.bind_eq_some_iff,Option.some.injEq]at h
  obtain⟨b,hb,r',hr,rfl⟩:=h
  obtain⟨h1,h2⟩:=zr hr
  refine⟨by simp[h1],fun i x hi=> ?_⟩
  cases i with
  |zero=>
   simp only[List.getElem?_cons_zero,Option.some.injEq]at hi
   subst hi
   simpa using hb
  |succ i=>
   simp only[List.getElem?_cons_succ]at hi ⊢
   exact h2 i x hi
theorem CH{w:World}{base:Nat}{a:Addr}{n:Nat}{cs:List Value}(h:w.cells? base a n=some cs):cs.length=n∧∀i,i < n→w.cell? (a.add i)=cs[i]? :=by
 unfold World.cells? at h
 split at h
 ·obtain⟨h1,h2⟩:=zr h
  exact⟨by simpa using h1,fun i hi=>h2 i i (by simp[hi])⟩
 ·cases h
theorem add_add(a:Addr)(x y:Nat):(a.add x).add y=a.add (x+y):=by
 unfold Addr.add
 by_cases hx:x=0 <;> by_cases hy:y=0 <;> simp[hx,hy,Nat.add_assoc]
theorem Dm{w:World}{a:Addr}{v:Value}(h:w.cell? a=some v):a.spot=none:=by
 unfold World.cell? at h
 split at h
 ·split at h
  ·cases h
  ·rename_i hs
   cases hh:a.spot with
   |none=>rfl
   |some _=>simp[hh]at hs
 ·cases h
theorem Hw{E:Env}(hg:∀b,E.g b= .free){a:Addr}{vs:List Value}(h:∀i,i < vs.length→E.w.cell? (a.add i)=vs[i]?):oX E (some a) vs:=by
 intro i v hv
 have hi:i < vs.length:=(List.getElem?_eq_some_iff.1 hv).1
 have h0:=h 0 (by omega)
 rw[List.getElem?_eq_getElem (by omega)]at h0
 have hs:a.spot=none:=Dm (a:=a) (by simpa[Addr.add]using h0)
 obtain⟨b,off,sp⟩:=a
 simp only at hs
 subst hs
 refine⟨b,off,rfl,?_,?_⟩
 ·have:=h i hi
  rw[hv]at this
  rw[←this]
  unfold Addr.add
  split
  ·rename_i h;subst h;rfl
  ·rfl
 ·unfold lN
  rw[hg b]
  trivial
section
variable {H:Type} {enc:TypeId×Value→H} {P:Program} {base:Nat} {spare:Nat→Bool} {held:Bool} {E:Env}
theorem Cf{t:Ty}{R:List Value→t.den→Prop}{G:t.den→Prop}{w:World}{a:Addr}{z:Nat}(hR:∀c x,R c x→c.length=z):∀(len:Nat),(∀i,i < len→∃c x,R c x∧G x∧∀j,j < z→w.cell? (a.add (i*z+j))=c[j]?)→
  ∃(vs:List Value) (l:List t.den),vs.length=len*z∧l.length=len∧(∀i,i < vs.length→w.cell? (a.add i)=vs[i]?)∧bp R vs l∧∀x∈l,G x
 | 0,_=>⟨[],[],by simp,rfl,fun i h=>by simp at h,rfl,fun _ h=>by cases h⟩
 |len+1,h=>by
  obtain⟨vs,l,h1,h2,h3,h4,h5⟩:=Cf hR len fun i hi=>h i (by omega)
  obtain⟨c,x,g1,g2,g3⟩:=h len (by omega)
  have hc:=hR c x g1
  refine⟨vs++c,l++ [x],by rw[List.length_append,h1,hc,Nat.add_mul,Nat.one_mul],by rw[List.length_append,h2];rfl,fun i hi=> ?_,bp.append h4 ⟨c,[],by simp,g1,rfl⟩,fun y hy=> ?_⟩
  ·rw[List.length_append,h1,hc]at hi
   by_cases hl:i < vs.length
   ·rw[h3 i hl,List.getElem?_append_left hl]
   ·rw[List.getElem?_append_right (by omega),h1,←g3 (i - len*z) (by omega),show len*z+(i - len*z)=i by omega]
  ·rcases List.mem_append.1 hy with hy | hy
   ·exact h5 y hy
   ·rw[List.mem_singleton.1 hy];exact g2
theorem wK{t:Ty}{R:List Value→t.den→Prop}{G:t.den→Prop}{z:Nat}:∀(n:Nat) (cs:List Value),cs.length=n*z→(∀i,i < n→∃x,R ((cs.drop (i*z)).take z) x∧G x)→
  ∃l:List t.den,l.length=n∧bp R cs l∧∀x∈l,G x
 | 0,cs,h,_=>⟨[],rfl,List.eq_nil_of_length_eq_zero (by simpa using h),fun _ h=>by cases h⟩
 |n+1,cs,h,hi=>by
  obtain⟨x,g1,g2⟩:=hi 0 (by omega)
  obtain⟨l,h1,h2,h3⟩:=wK (R:=R) (G:=G) (z:=z) n (cs.drop z) (by rw[List.length_drop,h,Nat.add_mul];omega) fun i hin=>by
   obtain⟨y,k1,k2⟩:=hi (i+1) (by omega)
   refine⟨y,?_,k2⟩
   rw[List.drop_drop,show z+i*z=(i+1)*z by rw[Nat.add_mul];omega]
   exact k1
  refine⟨x::l,by simp[h1],⟨cs.take z,cs.drop z,(List.take_append_drop z cs).symm,by simpa using g1,h2⟩,fun y hy=> ?_⟩
  rcases List.mem_cons.1 hy with rfl | hy
  ·exact g2
  ·exact h3 y hy
theorem tz{rd:TypeId→Ty→Bool}{cs:List Value}:∀(fs:List Field) (off:Nat) (ty:Ty),mJ P rd off fs ty=true→off+ty.size≤cs.length→
  (∀f∈fs,∀t,rd f.type t=true→P.cellsOf f.type=t.size→∃v,du E t ((cs.drop f.offset).take (P.cellsOf f.type)) v∧vT t v)→∃v,du E ty ((cs.drop off).take ty.size) v∧vT ty v
 |[],off,ty,h,hl,_=>by
  cases ty <;> simp only[mJ]at h <;> first | cases h | skip
  exact⟨(),by simp[du,Ty.size],trivial⟩
 |f::fs,off,ty,h,hl,hf=>by
  cases ty <;> simp only[mJ]at h <;> first | cases h | skip
  rename_i a b
  simp only[Bool.and_eq_true,Fx]at h
  obtain⟨h1,h2,h3,h4⟩:=h
  have hl:off+(a.size+b.size)≤cs.length:=hl
  obtain⟨v,k1,k2⟩:=hf f (List.mem_cons_self ..) a h2 h3
  obtain⟨u,k3,k4⟩:=tz fs (off+a.size) b h4 (by omega) fun f' hf'=>hf f' (List.mem_cons_of_mem _ hf')
  refine⟨(v,u),⟨(cs.drop off).take a.size,(cs.drop (off+a.size)).take b.size,?_,?_,k3⟩,k2,k4⟩
  ·rw[show Ty.size (.pair a b)=a.size+b.size from rfl,List.take_add,List.drop_drop]
  ·rw[h1,h3]at k1;exact k1
theorem rE(hg:∀b,E.g b= .free):∀(n:Nat) (T:TypeId) (ty:Ty),nE P n T ty=true→∀ {fuel:Nat} {cs:List Value} {x:DataW H×List MemPlace},DataW.trod enc P E.w base spare held fuel T cs=some x→∃v,du E ty cs v∧vT ty v
 | 0,_,_,h,_,_,_,_=>by simp[nE]at h
 |n+1,T,ty,h,fuel,cs,x,hx=>by
  unfold nE at h
  split at h
  ·rename_i k k' hu
   obtain rfl:=of_decide_eq_true h
   obtain⟨m,rfl,_,hw⟩:=DataW.trod_int hu hx
   exact⟨m,rfl,hw⟩
  ·rename_i hu
   obtain⟨b,rfl,_⟩:=DataW.trod_bool hu hx
   exact⟨b,rfl,trivial⟩
  ·rename_i hu
   obtain⟨s,rfl,_,hs⟩:=DataW.trod_string hu hx
   exact⟨s,rfl,hs⟩
  ·rename_i e t hu
   simp only[Bool.and_eq_true,Fx]at h
   obtain⟨h1,h2⟩:=h
   rcases open_slice hu hx with⟨rfl,_⟩ | ⟨a,len,cap,m,f,D,Pl,rfl,_,hl,hm,hmm,_,he⟩
   ·exact⟨([]:List t.den),⟨none,0,[],rfl,Nat.le_refl _,fun h=>by simp at h,fun i v hv=>by simp at hv,rfl⟩,Nat.zero_le _,fun _ h=>by cases h⟩
   ·have hlm:len≤m:=by rw[hmm];split <;> omega
    obtain⟨vs,l,k1,k2,k3,k4,k5⟩:=Cf (t:=t) (R:=du E t) (G:=vT t) (w:=E.w) (a:=a) (z:=t.size) (fun c x h=>du.size h) len fun i hi=>by
     obtain⟨cs',g1,g2⟩:=he i (by omega)
     obtain⟨v,g3,g4⟩:=rE hg n e t h1 g2
     obtain⟨g5,g6⟩:=CH g1
     refine⟨cs',v,g3,g4,fun j hj=> ?_⟩
     rw[←g6 j (by omega),add_add,h2]
    refine⟨l,⟨some a,cap,vs,by rw[k2],by rw[k2];exact hl,fun _=>rfl,Hw hg k3,k4⟩,by rw[k2];omega,k5⟩
  ·rename_i k e k' t hu
   simp only[Bool.and_eq_true,Fx]at h
   obtain⟨rfl,h1,h2,h3⟩:=h
   obtain⟨xs,m,rfl,_,hl,hxl,he⟩:=DataW.trod_array hu hx
   obtain⟨l,k1,k2,k3⟩:=wK (t:=t) (R:=du E t) (G:=vT t) (z:=t.size) k cs (by rw[hl,h3]) fun i hi=>by
    have:=he i hi
    rw[List.getElem?_eq_getElem (by omega),h2]at this
    exact rE hg n e t h1 this
   exact⟨l,⟨k1,k2⟩,k1,k3⟩
  ·rename_i ty fs hu
   simp only[Bool.and_eq_true,Fx]at h
   obtain⟨h1,h2⟩:=h
   obtain⟨xs,m,rfl,_,hl,hxl,he⟩:=DataW.trod_struct hu hx
   obtain⟨v,k1,k2⟩:=tz (E:=E) (cs:=cs) fs.toList 0 _ h1 (by rw[hl,h2];omega) fun f hf t ht hc=>by
    obtain⟨i,hi,hfi⟩:=List.mem_iff_getElem.1 hf
    have hi':i < fs.size:=by simpa using hi
    have:=he i f (by rw[←hfi];simp[hi'])
    rw[List.getElem?_eq_getElem (by omega)]at this
    exact rE hg n f.type t ht this
   refine⟨v,?_,k2⟩
   rwa[List.drop_zero,List.take_of_length_le (by omega)]at k1
  ·cases h
end
end Go.Ab
namespace Go.Ab
open Go.ChangeShapes Go.WideShapes Go.ChangeAt Go.RowKit Go.Deep
section
variable {H:Type} {enc:TypeId×Value→H} {P:Program} {base b0:Nat} {spare:Nat→Bool} {held:Bool} {E:Env} {W:World}
theorem AQ{rd:TypeId→Ty→Bool}{fs:List Field}{off:Nat}{ty:Ty}(h:mJ P rd off fs ty=true):ty.agg=true:=by
 cases fs <;> cases ty <;> first | rfl | (simp[mJ]at h)
theorem EL(hw:E.w=W)(hg:∀b,E.g b= .free){n:Nat}{t:TypeId}{ty:Ty}(h:nE P n t ty=true){v:Value}{d:DataW H}{ps:List MemPlace}(hval:Value.okWide P W .any base t v)(hd:DataW.Trod enc P W b0 spare held t v d ps):
  ∃x:ty.den,VS E (.d ty x) v∧vT ty x:=by
 subst hw
 obtain⟨fuel,hf⟩:=hd
 obtain⟨x,h1,h2⟩:=rE hg n t ty h hf
 refine⟨x,⟨v.cells.toList,h1,?_⟩,h2⟩
 cases n with
 |zero=>simp[nE]at h
 |succ n=>
  unfold nE at h
  split at h
  ·rename_i k k' hu
   obtain⟨m,rfl⟩:=okWide_int hu hval
   rfl
  ·rename_i hu
   obtain⟨m,rfl⟩:=okWide_bool hu hval
   rfl
  ·rename_i hu
   obtain⟨m,rfl⟩:=okWide_string hu hval
   rfl
  ·rename_i hu
   obtain⟨a,len,cap,rfl⟩:=okWide_slice hu hval
   rfl
  ·rename_i hu
   simp only[Value.okWide,hu]at hval
   obtain⟨cs,rfl,_⟩:=hval
   show _=_
   simp[Value.cells]
  ·rename_i fs hu
   simp only[Value.okWide,hu]at hval
   obtain⟨cs,rfl,_⟩:=hval
   simp only[Bool.and_eq_true]at h
   have:=AQ h.1
   simp only[az.agg,this,fP,Value.cells,Array.toArray_toList]
  ·cases h
def DV:List Ty→Type
 |[]=>Unit
 |t::ts=>t.den×DV ts
def DV.iL:(ts:List Ty)→DV ts→List az
 |[],_=> []
 |t::ts,x=> .d t x.1::DV.iL ts x.2
def DV.Jb:(ts:List Ty)→DV ts→Prop
 |[],_=>True
 |t::ts,x=>vT t x.1∧DV.Jb ts x.2
def lD(P:Program)(n:Nat):List TypeId→List Ty→Bool
 |[],[]=>true
 |T::Ts,t::ts=>nE P n T t && lD P n Ts ts
 |_,_=>false
theorem w8(hw:E.w=W)(hg:∀b,E.g b= .free){n:Nat}:∀ {Ts:List TypeId} {ts:List Ty} {vs:List Value} {ds:List (DataW H)} {ps:List MemPlace},lD P n Ts ts=true→
  (∀(j:Nat) t v,Ts[j]? =some t→vs[j]? =some v→Value.okWide P W .any base t v)→DataW.TrodAll enc P W b0 spare held Ts vs ds ps→∃x:DV ts,qR E (DV.iL ts x) vs∧DV.Jb ts x
 |[],[],vs,ds,ps,_,_,h=>by
  obtain⟨rfl,rfl,rfl⟩:=trodAll_nil h
  exact⟨(),trivial,trivial⟩
 |T::Ts,[],_,_,_,h,_,_=>by simp[lD]at h
 |[],t::ts,_,_,_,h,_,_=>by simp[lD]at h
 |T::Ts,t::ts,vs,ds,ps,h,hval,hd=>by
  simp only[lD,Bool.and_eq_true]at h
  obtain⟨v,vs',d,ds',p,q,rfl,rfl,rfl,h1,h2⟩:=trodAll_cons hd
  obtain⟨x,k1,k2⟩:=EL hw hg h.1 (hval 0 T v rfl rfl) h1
  obtain⟨y,k3,k4⟩:=w8 hw hg h.2 (fun j t v hj hv=>hval (j+1) t v (by simpa using hj) (by simpa using hv)) h2
  exact⟨(x,y),⟨k1,k3⟩,⟨k2,k4⟩⟩
def lR(P:Program)(Ts:List TypeId):Bool:=Ts.all fun t=>P.readableRec t && decide (t < P.types.size)
theorem qm(hl:laidOutB P=true){W':World}(hb:Below W.heap.size W W')(sp:Nat→Bool):∀ {Ts:List TypeId} {vs:List Value} {ds:List (DataW H)} {ps:List MemPlace},lR P Ts=true→(∀p∈ps,p.block < W.heap.size)→(∀p∈ps,sp p.block=true)→
  DataW.TrodAll enc P W 0 (fun _=>true) true Ts vs ds ps→DataW.TrodAll enc P W' 0 sp true Ts vs ds ps
 |[],vs,ds,ps,_,_,_,h=>by
  obtain⟨rfl,rfl,rfl⟩:=trodAll_nil h
  exact trodAll_mk0
 |T::Ts,vs,ds,ps,hr,hlt,hs,h=>by
  obtain⟨v,vs',d,ds',p,q,rfl,rfl,rfl,h1,h2⟩:=trodAll_cons h
  simp only[lR,List.all_cons,Bool.and_eq_true,decide_eq_true_eq]at hr
  have h3:=WideElems.Trod_stays hl hr.1.1 hr.1.2 h1 (fun x hx=>hb.same (hlt x (List.mem_append.2 (.inl hx)))) (fun x hx=>hs x (List.mem_append.2 (.inl hx)))
  exact⟨p,q,h3,qm hl hb sp (by simpa[lR]using hr.2) (fun x hx=>hlt x (List.mem_append.2 (.inr hx))) (fun x hx=>hs x (List.mem_append.2 (.inr hx))) h2,rfl⟩
end
theorem pH{H:Type}{enc:TypeId×Value→H}{P:Program}{W:World}{b0:Nat}{spare:Nat→Bool}{held:Bool}:∀ {Ts:List TypeId} {vs:List Value} {ds:List (DataW H)} {ps:List MemPlace},DataW.TrodAll enc P W b0 spare held Ts vs ds ps→ds.length=Ts.length
 |[],_,_,_,h=>by
  obtain⟨_,rfl,_⟩:=trodAll_nil h
  rfl
 |_::_,_,_,_,h=>by
  obtain⟨v,vs',d,ds',p,q,rfl,rfl,rfl,h1,h2⟩:=trodAll_cons h
  simp[pH h2]
theorem zI{H:Type}{enc:TypeId×Value→H}{P:Program}{f:Func}{s:ChangeSpec}{W W':World}{args:Array Value}{v:Value}{ds gs:List (DataW H)}{before:List MemPlace}{tb:TypeId}
  (hl:laidOutB P=true) (hra:lR P f.params.toList=true) (hvars:s.vars=[]) (htb:f.resultTypes= #[tb]) (hub:P.underlying tb=some .bool)
  (hW:DataW.Whole enc P f.params.toList s.vars false W args.toList ds gs before) (hfn:s.fn H (ds++gs)= {results:=[.lit (.bool true)],args:=ds}) (hb:Below W.heap.size W W') (hv:v= .bool true):
  s.post enc P f false true false false W args v W':=by
 subst hv
 have hW':=hW
 have hold:∀p∈before,(fun b=>decide (b < W.heap.size)) p.block=true:=fun p hp=>by simpa using hW.lt p hp
 obtain⟨p,q,hA,hV,rfl,hz,_⟩:=hW
 rw[hvars]at hV
 obtain⟨rfl,rfl⟩:=trodVars_none hV
 have hlt:∀x∈p,x.block < W.heap.size:=fun x hx=>hW'.lt x (List.mem_append.2 (.inl hx))
 have hargs:∀sp:Nat→Bool,(∀x∈p,sp x.block=true)→DataW.TrodAll enc P W' 0 sp true f.params.toList args.toList (s.fn H (ds++ [])).args p:=fun sp hs=>by
  rw[hfn]
  exact qm hl hb sp hra hlt hs hA
 have hres:∀(b:Nat) (sp:Nat→Bool) (hd:Bool),DataW.TrodAll enc P W' b sp hd f.resultTypes.toList ((Value.bool true).resultList f.resultTypes.size) (s.fn H (ds++ [])).results []:=fun b sp hd=>by
  rw[hfn,htb]
  exact trodAll_mk1 (shut_bool hub _)
 have hvs:∀sp:Nat→Bool,DataW.TrodVars enc P W' sp s.vars (s.fn H (ds++ [])).vars []:=fun sp=>by
  rw[hfn,hvars]
  rfl
 refine⟨ds,[],p++ [],[],p,[],hW',hres _ _ _,hargs _ (fun x hx=>hold x (List.mem_append.2 (.inl hx))),hvs _,hb.frame _,fun h=>by cases h⟩
theorem py{P:Program}{n:Nat}:∀ {Ts:List TypeId} {ts:List Ty},lD P n Ts ts=true→Ts.length=ts.length
 |[],[],_=>rfl
 |[],_::_,h=>by simp[lD]at h
 |_::_,[],h=>by simp[lD]at h
 |_::_,_::_,h=>by
  simp only[lD,Bool.and_eq_true]at h
  simp[py h.2]
theorem CX{H:Type}{enc:TypeId×Value→H}{P:Program}{f:FuncId}{fn:Func}{en:Entry}{s:ChangeSpec}{tb:TypeId}(n:Nat)(tys:List Ty)(hD:lY P f en)(hf:P.funcs[f]? =some fn)(hbody:fn.body.isSome=true)(hname:(fn.name== "runtime.NumGoroutine")=false)
  (hl:laidOutB P=true) (hread:lD P n fn.params.toList tys=true) (hra:lR P fn.params.toList=true) (hvars:s.vars=[]) (htb:fn.resultTypes= #[tb]) (hub:P.underlying tb=some .bool)
  (hfn:∀ds:List (DataW H),ds.length=tys.length→s.fn H (ds++ [])= {results:=[.lit (.bool true)],args:=ds})
  (hrun:∀x:DV tys,DV.Jb tys x→∃r,en.run (DV.iL tys x) []=some r∧en.out (DV.iL tys x) [] r=⟨.d .bool true,[],[]⟩)
  {W:World} {base:Nat} {args:Array Value} {ds gs:List (DataW H)} {before:List MemPlace}
  (hval:∀(j:Nat) t v,fn.params[j]? =some t→args[j]? =some v→Value.okWide P W .any base t v)
  (hW:DataW.Whole enc P fn.params.toList s.vars false W args.toList ds gs before):
  Calls P f args W fun e W'=>∃v,e= .returned v∧s.post enc P fn false true false false W args v W':=by
 have hW':=hW
 obtain⟨p,q,hA,hV,_,_,_⟩:=hW
 rw[hvars]at hV
 obtain⟨rfl,rfl⟩:=trodVars_none hV
 obtain⟨x,hx1,hx2⟩:=w8 (E:=(jD []).env W (fun _=> .free) (fun _=>none)) rfl (fun _=>rfl) hread (fun j t v hj hv=>hval j t v (by simpa using hj) (by simpa using hv)) hA
 obtain⟨r,hr1,hr2⟩:=hrun x hx2
 have hent:(callFunc f args).run P W= .ok (.enter f args) W:=by
  unfold callFunc
  obtain⟨c,hc⟩:=Option.isSome_iff_exists.1 hbody
  have hname':¬fn.name= "runtime.NumGoroutine" :=by simpa using hname
  simp[hf,hname',hc]
 have hlen:ds.length=tys.length:=by rw[pH hA,py hread]
 have ho:hP ((jD []).env W (fun _=> .free) (fun _=>none)):=fun id ver fr c h=>by
  exfalso
  cases id with
  |dH k=>simp[AS.env,AS.cl,jD]at h
  |new i j=>simp[AS.env,AS.cl,jD]at h
 rcases hD W (fun _=> .free) (fun _=>none) (DV.iL tys x) [] args.toList r hx1 ho hr1 with⟨_,hc⟩ | ⟨v,w',hc,_⟩
 ·refine hc.mono fun e w' he=> ?_
  obtain⟨v,rfl,g',β',h1,_,h2,_⟩:=he
  rw[hr2]at h1
  refine⟨v,rfl,zI hl hra hvars htb hub hW' (hfn ds hlen) ⟨h2.os,h2.tape,h2.output.1,h2.size,fun b hb=>(h2.Cy b hb).2⟩ ?_⟩
  obtain⟨cs,k1,k2⟩:=h1
  have k1:cs=[.bool true]:=k1
  subst k1
  have k2: [Value.bool true]=[v]:=k2
  simpa using k2.symm
 ·rw[show args.toList.toArray=args from Array.toArray_toList ..,hent]at hc
  cases hc
end Go.Ab
namespace Go.Ab
abbrev W:=BitVec 32
def lq(w:W)(k:Nat):W:=w <<< (32 - k) ||| w >>> k
def HY(a b c d:Int):W:=BitVec.ofInt 32 a <<< 24 ||| BitVec.ofInt 32 b <<< 16 ||| BitVec.ofInt 32 c <<< 8 ||| BitVec.ofInt 32 d
def be(l:List Int)(i:Nat):W:=HY (l.getD (4*i) 0) (l.getD (4*i+1) 0) (l.getD (4*i+2) 0) (l.getD (4*i+3) 0)
structure St where
 a:W
 b:W
 c:W
 d:W
 e:W
 f:W
 g:W
 h:W
def St.l(s:St):List Int:=[vw s.a,vw s.b,vw s.c,vw s.d,vw s.e,vw s.f,vw s.g,vw s.h]
def Jd(x:W):W:=lq x 7^^^lq x 18^^^x >>> 3
def Je(y:W):W:=lq y 17^^^lq y 19^^^y >>> 10
def Gw(l:List W)(i:Nat):W:=l.getD (i - 16) 0+Jd (l.getD (i - 15) 0)+l.getD (i - 7) 0+Je (l.getD (i - 2) 0)
def ext(l:List W):List W:=l++ [Gw l l.length]
def Fq(m:List W):Nat→List W
 | 0=>m
 |n+1=>ext (Fq m n)
def words(b:List Int):List W:=(List.range 16).map (be b)
def sched(b:List Int):List W:=Fq (words b) 48
def kl:List Nat:=[
  0x428a2f98,0x71374491,0xb5c0fbcf,0xe9b5dba5,0x3956c25b,0x59f111f1,0x923f82a4,0xab1c5ed5,
  0xd807aa98,0x12835b01,0x243185be,0x550c7dc3,0x72be5d74,0x80deb1fe,0x9bdc06a7,0xc19bf174,
  0xe49b69c1,0xefbe4786,0x0fc19dc6,0x240ca1cc,0x2de92c6f,0x4a7484aa,0x5cb0a9dc,0x76f988da,
  0x983e5152,0xa831c66d,0xb00327c8,0xbf597fc7,0xc6e00bf3,0xd5a79147,0x06ca6351,0x14292967,
  0x27b70a85,0x2e1b2138,0x4d2c6dfc,0x53380d13,0x650a7354,0x766a0abb,0x81c2c92e,0x92722c85,
  0xa2bfe8a1,0xa81a664b,0xc24b8b70,0xc76c51a3,0xd192e819,0xd6990624,0xf40e3585,0x106aa070,
  0x19a4c116,0x1e376c08,0x2748774c,0x34b0bcb5,0x391c0cb3,0x4ed8aa4a,0x5b9cca4f,0x682e6ff3,
  0x748f82ee,0x78a5636f,0x84c87814,0x8cc70208,0x90befffa,0xa4506ceb,0xbef9a3f7,0xc67178f2]
def kw(i:Nat):W:=BitVec.ofNat 32 (kl.getD i 0)
def sJ:List Int:=kl.map fun(n:Nat)=>(n:Int)
def Ja(s:St)(k w:W):St:=
 let t:=s.h+(lq s.e 6^^^lq s.e 11^^^lq s.e 25)+(s.g^^^s.e &&& (s.f^^^s.g))+k+w
 let r:=lq s.a 2^^^lq s.a 13^^^lq s.a 22
 let most:=s.a &&& s.b ||| s.c &&& (s.a ||| s.b)
 ⟨t+r+most,s.a,s.b,s.c,s.d+t,s.e,s.f,s.g⟩
def rounds(ws:List W)(s:St):Nat→St
 | 0=>s
 |n+1=>Ja (rounds ws s n) (kw n) (ws.getD n 0)
def sO(s:St)(b:List Int):St:=
 let v:=rounds (sched b) s 64
 ⟨v.a+s.a,v.b+s.b,v.c+s.c,v.d+s.d,v.e+s.e,v.f+s.f,v.g+s.g,v.h+s.h⟩
def j4:St:=⟨0x6a09e667,0xbb67ae85,0x3c6ef372,0xa54ff53a,0x510e527f,0x9b05688c,0x1f83d9ab,0x5be0cd19⟩
def nc:Nat→St→List Int→St
 | 0,s,_=>s
 |n+1,s,l=>nc n (sO s (l.take 64)) (l.drop 64)
def blocks(s:St)(l:List Int):St:=nc (l.length / 64) s l
def IC(w:W)(k:Nat):Int:=vw ((w >>> (24 - 8*k)).setWidth 8)
def Fy(w:W):List Int:=[IC w 0,IC w 1,IC w 2,IC w 3]
def FU(s:St):List Int:=Fy s.a++Fy s.b++Fy s.c++Fy s.d++Fy s.e++Fy s.f++Fy s.g++Fy s.h
def iy(n:Int):List Int:=[n / 2^56%256,n / 2^48%256,n / 2^40%256,n / 2^32%256,n / 2^24%256,n / 2^16%256,n / 2^8%256,n%256]
def mM(n:Nat):Nat:=(119 - n%64)%64
def pad(b:List Int):List Int:=b++128::(List.replicate (mM b.length) 0++iy (8*b.length))
def Hz(b:List Int):List Int:=FU (blocks j4 (pad b))
def jb(parts:List (List Int)):List Int:=parts.flatMap fun p=>iy p.length++p
def s9(name:List Int)(parts:List (List Int)):List Int:=iy name.length++name++jb parts
def tag(name:List Int)(parts:List (List Int)):List Int:=Hz (s9 name parts)
theorem Bk(b:List Int):(Hz b).length=32:=rfl
theorem cM(n:Int):(iy n).length=8:=rfl
theorem lb(l:List W):(ext l).length=l.length+1:=by simp[ext]
theorem mY(m:List W):∀n,(Fq m n).length=m.length+n
 | 0=>rfl
 |n+1=>by rw[Fq,lb,mY m n];omega
theorem eZ(b:List Int):(words b).length=16:=by simp[words]
theorem o4:∀(n:Nat) (s:St) (a b:List Int),a.length=64*n→∀m,nc (n+m) s (a++b)=nc m (nc n s a) b
 | 0,s,a,b,h,m=>by
  have:a=[]:=List.eq_nil_of_length_eq_zero (by omega)
  subst this
  simp[nc]
 |n+1,s,a,b,h,m=>by
  rw[show n+1+m=(n+m)+1 by omega,nc,nc]
  rw[List.take_append_of_le_length (by omega),List.drop_append_of_le_length (by omega)]
  exact o4 n _ _ _ (by simp;omega) m
theorem qi(s:St)(a b:List Int)(h:a.length%64=0):blocks s (a++b)=blocks (blocks s a) b:=by
 unfold blocks
 have e:(a++b).length / 64=a.length / 64+b.length / 64:=by simp;omega
 rw[e]
 exact o4 _ _ _ _ (by omega) _
theorem o5(s:St)(l:List Int)(h:64≤l.length):blocks s l=blocks (sO s (l.take 64)) (l.drop 64):=by
 unfold blocks
 rw[show l.length / 64=(l.drop 64).length / 64+1 by simp;omega]
 rfl
theorem oa(s:St)(l:List Int)(h:l.length < 64):blocks s l=s:=by
 unfold blocks
 rw[show l.length / 64=0 by omega]
 rfl
def vS(x:Int):Prop:=0≤x∧x < 256
def Bytes(l:List Int):Prop:=∀x∈l,vS x
theorem Fz(w:BitVec 8):vS (vw w):=⟨tc w,Fg w⟩
theorem vS.vw{x:Int}(h:vS x):x=vw (BitVec.ofInt 8 x):=by
 rw[gL]
 obtain⟨h1,h2⟩:=h
 omega
theorem AB(s:St):Bytes (FU s):=by
 intro x hx
 simp only[FU,Fy,List.mem_append,List.mem_cons,List.not_mem_nil,or_false]at hx
 rcases hx with((((((hx | hx) | hx) | hx) | hx) | hx) | hx) | hx <;> rcases hx with rfl | rfl | rfl | rfl <;> exact Fz _
theorem CE(b:List Int):Bytes (Hz b):=AB _
end Go.Ab
