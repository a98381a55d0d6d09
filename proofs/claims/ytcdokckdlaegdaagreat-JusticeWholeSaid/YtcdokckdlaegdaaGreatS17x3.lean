/-
  Made short by a program of mine (wip/tools/mini.py).
-/
import Derived.Test.YtcdokckdlaegdaaGreatS17x2
import Derived.Laws.Externs
import Derived.KernelRfl
import Derived.ProofKit
import Derived.OpenShut
import Derived.Deep.Slices
import Derived.Carry
set_option linter.unusedVariables false
set_option linter.unusedSimpArgs false
namespace Go.Ab
theorem lG{n:Int}(h1: -9223372036854775808≤n)(h2:n≤9223372036854775807):IntKind.i64.wrap n=n:=by
 simp[IntKind.wrap,IntKind.bits,IntKind.signed]
 split <;> omega
theorem cR{x y:Int}(h1: -9223372036854775808≤x+y)(h2:x+y≤9223372036854775807):bo .i64 x y=x+y:=lG h1 h2
theorem fi{x y:Int}(h1: -9223372036854775808≤x - y)(h2:x - y≤9223372036854775807):bV .i64 x y=x - y:=lG h1 h2
theorem iw{x y:Int}(h1: -9223372036854775808≤x*y)(h2:x*y≤9223372036854775807):eK .i64 x y=x*y:=lG h1 h2
theorem km{x:Int}(h1: -9223372036854775808≤x)(h2:x≤9223372036854775807):dG .i64 x=x:=lG h1 h2
def vw{n:Nat}(w:BitVec n):Int:=(w.toNat:Int)
theorem gL(n:Nat)(x:Int):vw (BitVec.ofInt n x)=x%((2^n:Nat):Int):=by
 unfold vw
 rw[BitVec.toNat_ofInt]
 have:0≤x%((2^n:Nat):Int):=Int.emod_nonneg _ (by have:=Nat.two_pow_pos n;omega)
 omega
theorem s7{n:Nat}(w:BitVec n):0≤vw w:=Int.natCast_nonneg _
theorem Fc{n:Nat}(w:BitVec n):vw w < ((2^n:Nat):Int):=by have:=w.isLt;unfold vw;omega
theorem kD{n:Nat}(w:BitVec n):BitVec.ofInt n (vw w)=w:=by
 apply BitVec.eq_of_toNat_eq
 have:=gL n (vw w)
 unfold vw at this ⊢
 have h:=w.isLt
 rw[Int.emod_eq_of_lt (Int.natCast_nonneg _) (by omega)]at this
 omega
theorem wrap_u32(x:Int):IntKind.u32.wrap x=vw (BitVec.ofInt 32 x):=by rw[gL];simp[IntKind.wrap,IntKind.bits,IntKind.signed]
theorem wrap_u64(x:Int):IntKind.u64.wrap x=vw (BitVec.ofInt 64 x):=by rw[gL];simp[IntKind.wrap,IntKind.bits,IntKind.signed]
theorem wrap_u8(x:Int):IntKind.u8.wrap x=vw (BitVec.ofInt 8 x):=by rw[gL];simp[IntKind.wrap,IntKind.bits,IntKind.signed]
theorem ofInt_add(n:Nat)(x y:Int):BitVec.ofInt n (x+y)=BitVec.ofInt n x+BitVec.ofInt n y:=BitVec.ofInt_add ..
theorem nM(x y:BitVec 32):bo .u32 (vw x) (vw y)=vw (x+y):=by rw[bo,wrap_u32,BitVec.ofInt_add,kD,kD]
theorem BR(x:Int):dG .u32 x=vw (BitVec.ofInt 32 x):=wrap_u32 x
theorem xJ(x:Int):dG .u64 x=vw (BitVec.ofInt 64 x):=wrap_u64 x
theorem uH(x:Int):dG .u8 x=vw (BitVec.ofInt 8 x):=wrap_u8 x
theorem En{n:Nat}(x:BitVec n):BitVec.ofInt n ((x.toNat:Nat):Int)=x:=kD x
theorem jr(op:BinOp)(x y:BitVec 32):ct op .u32 (vw x) (vw y)=vw (match op with | .and=>x &&& y | .or=>x ||| y | .xor=>x^^^y | _=>x &&& ~~~y):=by
 unfold ct
 split <;> (simp only[IntKind.bits,kD,wrap_u32,En];rfl)
theorem Cw(op:BinOp)(x y:BitVec 64):ct op .u64 (vw x) (vw y)=vw (match op with | .and=>x &&& y | .or=>x ||| y | .xor=>x^^^y | _=>x &&& ~~~y):=by
 unfold ct
 split <;> (simp only[IntKind.bits,kD,wrap_u64,En];rfl)
theorem D0(x y:Nat):Int.fdiv (x:Int) (y:Int)=((x / y:Nat):Int):=by
 rw[Int.fdiv_eq_ediv_of_nonneg _ (Int.natCast_nonneg _)]
 rfl
theorem rV(k:Nat):(2:Int)^k=((2^k:Nat):Int):=by simp
theorem Hu{n:Nat}(w:BitVec n)(k:Nat):Int.fdiv (vw w) (2^(min k n))=vw (w >>> k):=by
 rw[rV]
 unfold vw
 rw[D0,BitVec.toNat_ushiftRight,Nat.shiftRight_eq_div_pow]
 congr 1
 rcases Nat.le_total k n with hk | hk
 ·rw[Nat.min_eq_left hk]
 ·rw[Nat.min_eq_right hk,Nat.div_eq_of_lt w.isLt,Nat.div_eq_of_lt]
  exact Nat.lt_of_lt_of_le w.isLt (Nat.pow_le_pow_right (by omega) hk)
theorem pc(w:BitVec 32)(k:Int):bW .u32 (vw w) k=vw (w >>> k.toNat):=Hu w k.toNat
theorem Ht{n:Nat}(w:BitVec n)(k:Nat):BitVec.ofInt n (vw w*2^(min k n))=w <<< k:=by
 apply BitVec.eq_of_toNat_eq
 rw[BitVec.toNat_ofInt,BitVec.toNat_shiftLeft,Nat.shiftLeft_eq]
 unfold vw
 rw[rV]
 have e:((w.toNat:Int)*((2^min k n:Nat):Int))=((w.toNat*2^min k n:Nat):Int):=by simp
 rw[e]
 have:(((w.toNat*2^min k n:Nat):Int)%((2^n:Nat):Int)).toNat=(w.toNat*2^min k n)%2^n:=by omega
 rw[this]
 rcases Nat.le_total k n with hk | hk
 ·rw[Nat.min_eq_left hk]
 ·rw[Nat.min_eq_right hk,Nat.mul_mod_left]
  obtain⟨m,rfl⟩:=Nat.exists_eq_add_of_le hk
  rw[Nat.pow_add,←Nat.mul_assoc,Nat.mul_right_comm,Nat.mul_mod_left]
theorem rf(w:BitVec 32)(k:Int):jx .u32 (vw w) k=vw (w <<< k.toNat):=by rw[jx,wrap_u32];congr 1;exact Ht w k.toNat
theorem bz{i n:Int}(h1:0≤i)(h2:i < n):dZ i n=true:=by simp[dZ,h1,h2]
theorem ko{i n:Int}(h1:0≤i)(h2:i≤n):inc i n=true:=by simp[inc,h1,h2]
theorem bB{x y:Int}(h:x < y):gM x y=true:=by simp[gM,h]
theorem bk{x y:Int}(h:¬x < y):gM x y=false:=by simp[gM];omega
theorem pa{x y:Int}(h:x≤y):yz x y=true:=by simp[yz,h]
theorem kV{x y:Int}(h:¬x≤y):yz x y=false:=by simp[yz];omega
theorem ee{x y:Int}(h:x > y):mX x y=true:=by simp[mX];omega
theorem dj{x y:Int}(h:¬x > y):mX x y=false:=by simp[mX];omega
theorem ij{x y:Int}(h:x≥y):lk x y=true:=by simp[lk];omega
theorem fR{x y:Int}(h:¬x≥y):lk x y=false:=by simp[lk];omega
theorem fg{x y:Int}(h:x=y):jO x y=true:=by simp[jO,h]
theorem eo{x y:Int}(h:¬x=y):jO x y=false:=by simp[jO,h]
theorem iM{x y:Int}(h:¬x=y):qQ x y=true:=by simp[qQ,h]
theorem gO{x y:Int}(h:x=y):qQ x y=false:=by simp[qQ,h]
theorem nb{x:Int}(h:0≤x):iU x=true:=by simp[iU,h]
theorem aL{p:Prop} [Decidable p] (h:p):decide p=true:=by simp[h]
theorem bN{p:Prop} [Decidable p] (h:¬p):decide p=false:=by simp[h]
theorem eR{n b:Nat}(h:n*b≤140737488355328)(h2:n≤9223372036854775807):dK n b=true:=by simp[dK,h,h2]
def from_{α:Type}(f:Nat→α→α)(t:Nat)(l:List α):List α:=l.mapIdx fun i x=>if i < t then x else f i x
theorem pI{α:Type}(f:Nat→α→α)(l:List α)(t:Nat)(h:t < l.length):from_ f (t+1) (l.set t (f t l[t]))=from_ f t l:=by
 unfold from_
 apply List.ext_getElem (by simp)
 intro i h1 h2
 simp only[List.getElem_mapIdx,List.getElem_set]
 by_cases hi:t=i
 ·subst hi;simp
 ·simp only[if_neg hi]
  by_cases h3:i < t
  ·rw[if_pos (by omega),if_pos h3]
  ·rw[if_neg (by omega),if_neg h3]
theorem qZ{α:Type}(f:Nat→α→α)(l:List α)(t:Nat)(h:l.length≤t):from_ f t l=l:=by
 unfold from_
 apply List.ext_getElem (by simp)
 intro i h1 h2
 simp only[List.getElem_mapIdx]
 rw[if_pos (by omega)]
theorem uE{α:Type}(f:Nat→α→α)(n:Nat)(x:α):from_ f 0 (List.replicate n x)=(List.range n).map fun i=>f i x:=by
 unfold from_
 apply List.ext_getElem (by simp)
 intro i h1 h2
 simp
theorem dS{t:Ty}{l:List t.den}{i:Nat}(h:i < l.length):nth t l i=l[i]:=by simp[nth,h]
end Go.Ab
namespace Go.Ab.N
section
variable {α:Type} {x y:Option α} {a b n:Nat} {i j:Int}
theorem lt:aD (gM i j) x y=if i < j then x else y:=by unfold gM;split <;> rename_i h <;> simp[h]
theorem le:aD (yz i j) x y=if i≤j then x else y:=by unfold yz;split <;> rename_i h <;> simp[h]
theorem gt:aD (mX i j) x y=if j < i then x else y:=by unfold mX;split <;> rename_i h <;> simp[h]
theorem ge:aD (lk i j) x y=if j≤i then x else y:=by unfold lk;split <;> rename_i h <;> simp[h]
theorem eq:aD (jO i j) x y=if i=j then x else y:=by
 by_cases h:i=j
 ·rw[fg h,if_pos h];rfl
 ·rw[eo h,if_neg h];rfl
theorem ne:aD (qQ i j) x y=if i=j then y else x:=by
 by_cases h:i=j
 ·rw[gO h,if_pos h];rfl
 ·rw[iM h,if_neg h];rfl
theorem ib:aD (dZ i j) x y=if 0≤i∧i < j then x else y:=by unfold dZ;split <;> rename_i h <;> simp[h]
theorem ic:aD (inc i j) x y=if 0≤i∧i≤j then x else y:=by unfold inc;split <;> rename_i h <;> simp[h]
theorem nn:aD (iU i) x y=if 0≤i then x else y:=by unfold iU;split <;> rename_i h <;> simp[h]
theorem nz:aD (iK i) x y=if i=0 then y else x:=by unfold iK;split <;> rename_i h <;> simp[h]
theorem dc{p:Prop} [Decidable p]:aD (decide p) x y=if p then x else y:=by split <;> rename_i h <;> simp[h]
theorem rm:aD (dK n b) x y=if n*b≤140737488355328∧n≤9223372036854775807 then x else y:=by unfold dK;exact dc
theorem an{c d:Bool}:aD (c && d) x y=aD c (aD d x y) y:=by cases c <;> rfl
theorem or{c d:Bool}:aD (c || d) x y=aD c x (aD d x y):=by cases c <;> rfl
theorem no{c:Bool}:aD (!c) x y=aD c y x:=by cases c <;> rfl
theorem Iu(h:a+b≤9223372036854775807):bo .i64 (a:Int) (b:Int)=((a+b:Nat):Int):=by rw[cR (by omega) (by omega)];omega
theorem mq(h:a+OfNat.ofNat n≤9223372036854775807):bo .i64 (a:Int) (no_index (OfNat.ofNat n))=((a+OfNat.ofNat n:Nat):Int):=Iu h
theorem Jg(h:OfNat.ofNat n+a≤9223372036854775807):bo .i64 (no_index (OfNat.ofNat n)) (a:Int)=((OfNat.ofNat n+a:Nat):Int):=Iu h
theorem IC(h:b≤a)(h2:a≤9223372036854775807):bV .i64 (a:Int) (b:Int)=((a - b:Nat):Int):=by rw[fi (by omega) (by omega)];omega
theorem IB(h:OfNat.ofNat n≤a)(h2:a≤9223372036854775807):bV .i64 (a:Int) (no_index (OfNat.ofNat n))=((a - OfNat.ofNat n:Nat):Int):=IC h h2
theorem Jo(h:a≤OfNat.ofNat n)(h2:(OfNat.ofNat n:Nat)≤9223372036854775807):bV .i64 (no_index (OfNat.ofNat n)) (a:Int)=((OfNat.ofNat n - a:Nat):Int):=IC h h2
theorem Iz(h:a*b≤9223372036854775807):eK .i64 (a:Int) (b:Int)=((a*b:Nat):Int):=by
 have e:(a:Int)*(b:Int)=((a*b:Nat):Int):=by simp
 rw[iw (by omega) (by omega),e]
theorem Jl(h:a*OfNat.ofNat n≤9223372036854775807):eK .i64 (a:Int) (no_index (OfNat.ofNat n))=((a*OfNat.ofNat n:Nat):Int):=Iz h
theorem Iy(h:OfNat.ofNat n*a≤9223372036854775807):eK .i64 (no_index (OfNat.ofNat n)) (a:Int)=((OfNat.ofNat n*a:Nat):Int):=Iz h
theorem IZ(h:a≤9223372036854775807):kM .i64 (a:Int) (b:Int)=((a / b:Nat):Int):=by
 have:(a:Int).tdiv (b:Int)=((a / b:Nat):Int):=by rw[Int.tdiv_eq_ediv_of_nonneg (by omega)];simp
 have hl:a / b≤a:=Nat.div_le_self a b
 unfold kM
 rw[this]
 generalize a / b=c at hl
 exact lG (by omega) (by omega)
theorem Jm(h:a≤9223372036854775807):kM .i64 (a:Int) (no_index (OfNat.ofNat n))=((a / OfNat.ofNat n:Nat):Int):=IZ h
theorem I0:fI (a:Int) (b:Int)=((a%b:Nat):Int):=by
 unfold fI
 rw[Int.tmod_eq_emod_of_nonneg (by omega)]
 simp
theorem Jn:fI (a:Int) (no_index (OfNat.ofNat n))=((a%OfNat.ofNat n:Nat):Int):=I0
theorem cN(h:a≤9223372036854775807):dG .i64 (a:Int)=(a:Int):=km (by omega) (by omega)
theorem cL(h:(OfNat.ofNat n:Nat)≤9223372036854775807):dG .i64 (no_index (OfNat.ofNat n))=OfNat.ofNat n:=cN h
theorem tL:Int.toNat (no_index (OfNat.ofNat n))=OfNat.ofNat n:=rfl
end
end Go.Ab.N
namespace Go.Ab
section
variable {P:Program}
theorem DX{E E':Env}(h1:E'.w=E.w)(h2:E'.g=E.g)(h3:E'.β=E.β)(h4:E'.s=E.s):E'=E:=by
 obtain⟨a,b,c,d⟩:=E
 obtain⟨a',b',c',d'⟩:=E'
 simp only at h1 h2 h3 h4
 subst h1 h2 h3 h4
 rfl
theorem oO.same{w:World}{g:Nat→jo}{β:Id→Option Pl}{dd:List eN}{a:az}{v:Value}(hv:VS ((jy dd).env w g β) a v)(ho:hM ((jy dd).env w g β)):
  oO ((jy dd).env w g β) ⟨a,dd,[]⟩ v w:=by
 have hE:(aT.st ⟨a,dd,[]⟩).env w g β=(jy dd).env w g β:=by
  refine DX rfl rfl rfl ?_
  funext id
  cases id with
  |dI k=>rfl
  |new i j=>
   show([([]:List eN)].getD i [])[j]? =(([]:List (List eN)).getD i [])[j]?
   cases i <;> rfl
 refine⟨g,β,?_⟩
 rw[hE]
 exact⟨hv,ho,Trans.refl w g,cW.refl _⟩
theorem lU.extern{f:FuncId}{fn:Func}{e:Array Value→Sem Value}(hf:P.funcs[f]? =some fn)(hname:(fn.name== "runtime.NumGoroutine")=false)(hb:fn.body.isNone=true)(hn:Extern.findNext fn=none)(he:Extern.find fn=some e){en:Entry}
  (h:∀w g β args dd iL x,qP ((jy dd).env w g β) args iL→hM ((jy dd).env w g β)→en.run args dd=some x→∃v,(e iL.toArray).run P w= .ok v w∧oO ((jy dd).env w g β) (en.out args dd x) v w):lU P f en:=by
 intro w g β args dd iL x h1 h2 h3
 obtain⟨v,h4,h5⟩:=h w g β args dd iL x h1 h2 h3
 refine .inr ⟨v,w,?_,h5⟩
 rw[run_callFunc_extern hf hname hb hn he,h4]
 rfl
def Gq.E:Entry:= {params:=[none],X:=Unit,run:=fun args _=>match args with | [_]=>some () | _=>none,out:=fun args dd _=>⟨args.headD .undef,dd,[]⟩}
theorem Gq.of{f:FuncId}{fn:Func}(hf:P.funcs[f]? =some fn)(hname:(fn.name== "runtime.NumGoroutine")=false)(hb:fn.body.isNone=true)(hn:Extern.findNext fn=none)(he:Extern.find fn=some Extern.AbiNoEscape.same):lU P f Gq.E:=by
 refine lU.extern hf hname hb hn he fun w g β args dd iL x h1 h2 h3=> ?_
 cases args with
 |nil=>cases h3
 |cons a as=>
  cases as with
  |cons _ _=>cases h3
  |nil=>
   cases iL with
   |nil=>exact h1.elim
   |cons v vs=>
    obtain⟨h4,h5⟩:=h1
    cases vs with
    |cons _ _=>exact h5.elim
    |nil=>exact⟨v,rfl,oO.same h4 h2⟩
theorem xc{w:World}:∀(xs:List Int) (a:Addr) (acc:ByteArray),(∀j x,xs[j]? =some x→w.cell? (a.add j)=some (.int .u8 x))→
  (Extern.Bytes.loadBytes a xs.length acc).run P w= .ok ⟨acc.data++(xs.map fun n=>UInt8.ofNat n.toNat).toArray⟩ w
 |[],a,acc,_=>by simp[Extern.Bytes.loadBytes]
 |x::l,a,acc,h=>by
  have h0:w.cell? a=some (.int .u8 x):=by
   have:=h 0 x rfl
   simpa[Addr.add]using this
  have ih:=xc l (a.add 1) (acc.push x.toNat.toUInt8) (fun j y hy=>by
   have:=h (j+1) y (by simpa using hy)
   have e:(a.add 1).add j=a.add (j+1):=by
    unfold Addr.add
    by_cases hj:j=0
    ·subst hj;simp
    ·simp[hj];omega
   rw[e];exact this)
  simp only[List.length_cons,Extern.Bytes.loadBytes,Sem.run_bind,run_load,h0,Result.andThen]
  rw[ih]
  congr 1
  apply ByteArray.ext
  simp[ByteArray.push]
theorem vl{E:Env}{l:List Int}{y:Value}(h:VS E (.d (.slice (.int .u8)) l) y):(Extern.Bytes.bytesOf y).run P E.w= .ok (gF l) E.w:=by
 obtain⟨a,cap,vs,rfl,_,hs,hrow,hch⟩:=kI h
 have hvs:=lF (k:= .u8) (vs:=vs) (l:=l) hch
 cases a with
 |none=>
  have hl:l=[]:=by
   cases l with
   |nil=>rfl
   |cons _ _=>simp at hs
  subst hl
  rfl
 |some ad=>
  have hload:=xc (P:=P) (w:=E.w) l ad .empty fun j x hx=>by
   obtain⟨b,off,e,hh⟩:=hrow j (.int .u8 x) (by rw[hvs];simp[hx])
   have e:ad=⟨b,off,none⟩:=by simpa using e
   subst e
   have h1:=hh.1
   unfold Addr.add
   by_cases hj:j=0
   ·subst hj;simpa using h1
   ·simpa[hj]using h1
  show(Extern.Bytes.loadBytes ad l.length .empty).run P E.w=_
  rw[hload]
  congr 1
  apply ByteArray.ext
  simp[gF]
def AG(a b:List Int):Int:=Extern.BytealgCompare.cmp (gF a) (gF b)
noncomputable def BF.E:Entry:=Entry.of (D:=List Int×List Int) (X:=Int) [some (.slice (.int .u8)),some (.slice (.int .u8))] (fun d=>([.d (.slice (.int .u8)) d.1,.d (.slice (.int .u8)) d.2],[])) (fun _=>True) (fun d=>AG d.1 d.2) (fun x=>⟨.d (.int .i64) x,[],[]⟩)
theorem BF.inj:∀d d':List Int×List Int,(([az.d (.slice (.int .u8)) d.1,az.d (.slice (.int .u8)) d.2],([]:List eN)):List az×List eN)=([.d (.slice (.int .u8)) d'.1,.d (.slice (.int .u8)) d'.2],[])→d=d':=by
 rintro⟨a,b⟩ ⟨a',b'⟩ h
 have e1:a=a':=F8 (t:= .slice (.int .u8)) (congrArg (fun s:List az×List eN=>s.1.getD 0 .undef) h)
 have e2:b=b':=F8 (t:= .slice (.int .u8)) (congrArg (fun s:List az×List eN=>s.1.getD 1 .undef) h)
 rw[e1,e2]
noncomputable def BF.call:List Int×List Int→Option Int:=fun d=>BF.E.run [.d (.slice (.int .u8)) d.1,.d (.slice (.int .u8)) d.2] []
theorem BF.run(d:List Int×List Int):BF.call d=some (AG d.1 d.2):=Entry.sO (d:=d) BF.inj trivial
theorem BF.of{f:FuncId}{fn:Func}(hf:P.funcs[f]? =some fn)(hname:(fn.name== "runtime.NumGoroutine")=false)(hb:fn.body.isNone=true)(hn:Extern.findNext fn=none)(he:Extern.find fn=some Extern.BytealgCompare.compare):lU P f BF.E:=by
 refine lU.extern hf hname hb hn he fun w g β args dd iL x h1 h2 h3=> ?_
 have hx:∃d:List Int×List Int,(([az.d (.slice (.int .u8)) d.1,az.d (.slice (.int .u8)) d.2],([]:List eN)):List az×List eN)=(args,dd):=by
  by_cases hh:∃d:List Int×List Int,(([az.d (.slice (.int .u8)) d.1,az.d (.slice (.int .u8)) d.2],([]:List eN)):List az×List eN)=(args,dd)
  ·exact hh
  ·exfalso
   have hn:BF.E.run args dd=none:=dif_neg fun⟨d,h,_⟩=>hh ⟨d,h⟩
   rw[hn]at h3
   cases h3
 obtain⟨d,hd⟩:=hx
 simp only[Prod.mk.injEq]at hd
 obtain⟨rfl,rfl⟩:=hd
 have hr:=BF.run d
 have hx:x=AG d.1 d.2:=Option.some.inj (h3.symm.trans hr)
 subst hx
 match iL,h1 with
 |[u,v],⟨h4,h5,_⟩=>
  refine⟨.int .i64 (AG d.1 d.2),?_,oO.same (iE _ _) h2⟩
  have e1:=vl (P:=P) h4
  have e2:=vl (P:=P) h5
  have e1:(Extern.Bytes.bytesOf u).run P w= .ok (gF d.1) w:=e1
  have e2:(Extern.Bytes.bytesOf v).run P w= .ok (gF d.2) w:=e2
  have hdef:Extern.BytealgCompare.compare [u,v].toArray=(do let a ←Extern.Bytes.bytesOf u;let b ←Extern.Bytes.bytesOf v;pure (goInt (Extern.BytealgCompare.cmp a b))):=rfl
  rw[hdef]
  simp[e1,e2,goInt,AG]
def Av{X Y:Type} [Inhabited Y] (x:Option X):Option (X×Y):=ab x fun y=>some (y,default)
def qT{X Y:Type} [Inhabited X] (x:Option Y):Option (X×Y):=ab x fun y=>some (default,y)
@[simp] theorem HG{X Y:Type} [Inhabited Y] (x:X):Av (Y:=Y) (some x)=some (x,default):=rfl
@[simp] theorem HH{X Y:Type} [Inhabited X] (x:Y):qT (X:=X) (some x)=some (default,x):=rfl
def Entry.alt(p:List az→List eN→Bool)(params:List (Option Ty)){X Y:Type} [Inhabited X] [Inhabited Y] (r1:List az→List eN→Option X) (r2:List az→List eN→Option Y) (o1:List az→List eN→X→aT) (o2:List az→List eN→Y→aT):Entry:=
 {params,X:=X×Y,run:=fun a o=>match p a o with | true=>Av (r1 a o) | false=>qT (r2 a o),out:=fun a o x=>match p a o with | true=>o1 a o x.1 | false=>o2 a o x.2}
theorem lU.alt{f:FuncId}{p:List az→List eN→Bool}{params:List (Option Ty)}{X Y:Type} [Inhabited X] [Inhabited Y] {r1:List az→List eN→Option X} {r2:List az→List eN→Option Y} {o1:List az→List eN→X→aT} {o2:List az→List eN→Y→aT}
  (h1:lU P f {params,X,run:=r1,out:=o1}) (h2:lU P f {params,X:=Y,run:=r2,out:=o2}):lU P f (Entry.alt p params r1 r2 o1 o2):=by
 intro w g β args dd iL x h3 h4 h5
 have h5:(match p args dd with | true=>Av (r1 args dd) | false=>qT (r2 args dd))=some x:=h5
 cases hp:p args dd with
 |true=>
  rw[hp]at h5
  cases hr:r1 args dd with
  |none=>rw[hr]at h5;cases h5
  |some y=>
   rw[hr]at h5
   obtain rfl:(y,default)=x:=Option.some.inj h5
   have:=h1 w g β args dd iL y h3 h4 hr
   have e:(Entry.alt p params r1 r2 o1 o2).out args dd (y,default)=o1 args dd y:=by show(match p args dd with | true=>o1 args dd y | false=>o2 args dd default)=_;rw[hp]
   rw[e]
   exact this
 |false=>
  rw[hp]at h5
  cases hr:r2 args dd with
  |none=>rw[hr]at h5;cases h5
  |some y=>
   rw[hr]at h5
   obtain rfl:(default,y)=x:=Option.some.inj h5
   have:=h2 w g β args dd iL y h3 h4 hr
   have e:(Entry.alt p params r1 r2 o1 o2).out args dd (default,y)=o2 args dd y:=by show(match p args dd with | true=>o1 args dd default | false=>o2 args dd y)=_;rw[hp]
   rw[e]
   exact this
def Hj:List az→List eN→Bool:=fun _ dd=>match dd with | [_]=>true | _=>false
end
theorem S1:(type_of% @N.lt)∧(type_of% @N.le)∧(type_of% @N.gt)∧(type_of% @N.ge)∧(type_of% @N.eq)∧(type_of% @N.ne)∧(type_of% @N.ib)∧(type_of% @N.ic)∧(type_of% @N.nn)∧(type_of% @N.nz)∧(type_of% @N.dc)∧(type_of% @N.rm)∧(type_of% @N.an)∧(type_of% @N.or)∧(type_of% @N.no)∧(type_of% @ah)∧(type_of% @ae)∧(type_of% @aa):=⟨@N.lt,@N.le,@N.gt,@N.ge,@N.eq,@N.ne,@N.ib,@N.ic,@N.nn,@N.nz,@N.dc,@N.rm,@N.an,@N.or,@N.no,@ah,@ae,@aa⟩
theorem S2:(type_of% @aa)∧(type_of% @N.Iu)∧(type_of% @N.mq)∧(type_of% @N.Jg)∧(type_of% @N.IC)∧(type_of% @N.IB)∧(type_of% @N.Jo)∧(type_of% @N.Iz)∧(type_of% @N.Jl)∧(type_of% @N.Iy)∧(type_of% @N.IZ)∧(type_of% @N.Jm)∧(type_of% @N.I0)∧(type_of% @N.Jn)∧(type_of% @N.cN)∧(type_of% @N.cL)∧(type_of% @N.tL)∧(type_of% @Int.toNat_natCast)∧(type_of% @and_self)∧(type_of% @true_and)∧(type_of% @and_true):=⟨@aa,@N.Iu,@N.mq,@N.Jg,@N.IC,@N.IB,@N.Jo,@N.Iz,@N.Jl,@N.Iy,@N.IZ,@N.Jm,@N.I0,@N.Jn,@N.cN,@N.cL,@N.tL,@Int.toNat_natCast,@and_self,@true_and,@and_true⟩
end Go.Ab
namespace Go.Ab
open Go.ChangeShapes Go.WideShapes Go.ChangeAt Go.RowKit Go.Deep
def xo:(t:Ty)→t.den→Prop
 | .int k,x=>(Lit.int k x).wf=true
 | .bool,_=>True
 | .str,s=>(s:ByteArray).size≤maxLen
 | .slice t,l=>(l:List t.den).length≤maxLen∧∀x∈(l:List t.den),xo t x
 | .unit,_=>True
 | .pair a b,x=>xo a x.1∧xo b x.2
 | .arr n t,l=>(l:List t.den).length=n∧∀x∈(l:List t.den),xo t x
 | .gz _,_=>False
def mA(P:Program)(rd:TypeId→Ty→Bool):Nat→List Field→Ty→Bool
 |_,[],.unit=>true
 |off,f::fs,.pair a b=>Nat.beq f.offset off && (rd f.type a && (Nat.beq (P.cellsOf f.type) a.size && mA P rd (off+a.size) fs b))
 |_,_,_=>false
def nw(P:Program):Nat→TypeId→Ty→Bool
 | 0,_,_=>false
 |n+1,T,ty=>
  match P.underlying T,ty with
  |some (.int k),.int k'=>decide (k=k')
  |some .bool,.bool=>true
  |some .string,.str=>true
  |some (.slice e),.slice t=>nw P n e t && Nat.beq (P.cellsOf e) t.size
  |some (.array k e),.arr k' t=>Nat.beq k k' && (nw P n e t && (Nat.beq (P.cellsOf e) t.size && Nat.beq (P.cellsOf T) (k*t.size)))
  |some (.struct fs),ty=>mA P (nw P n) 0 fs.toList ty && Nat.beq (P.cellsOf T) ty.size
  |_,_=>false
theorem Fu{a b:Nat}:(Nat.beq a b=true)=(a=b):=propext ⟨Nat.eq_of_beq_eq_true,fun h=>by subst h;exact Nat.beq_refl a⟩
theorem zs{α β:Type}{f:α→Option β}:∀ {l:List α} {r:List β},l.mapM f=some r→r.length=l.length∧∀(i:Nat) (x:α),l[i]? =some x→f x=r[i]?
 |[],r,h=>by
  simp only[List.mapM_nil,Option.pure_def,Option.some.injEq]at h
  subst h
  exact⟨rfl,fun i x h=>by simp at h⟩
 |y::l,r,h=>by
  simp only[List.mapM_cons,Option.bind_eq_bind,Option.pure_def,Option.bind_eq_some_iff,Option.some.injEq]at h
  obtain⟨b,hb,r',hr,rfl⟩:=h
  obtain⟨h1,h2⟩:=zs hr
  refine⟨by simp[h1],fun i x hi=> ?_⟩
  cases i with
  |zero=>
   simp only[List.getElem?_cons_zero,Option.some.injEq]at hi
   subst hi
   simpa using hb
  |succ i=>
   simp only[List.getElem?_cons_succ]at hi ⊢
   exact h2 i x hi
theorem CF{w:World}{base:Nat}{a:Addr}{n:Nat}{cs:List Value}(h:w.cells? base a n=some cs):cs.length=n∧∀i,i < n→w.cell? (a.add i)=cs[i]? :=by
 unfold World.cells? at h
 split at h
 ·obtain⟨h1,h2⟩:=zs h
  exact⟨by simpa using h1,fun i hi=>h2 i i (by simp[hi])⟩
 ·cases h
theorem add_add(a:Addr)(x y:Nat):(a.add x).add y=a.add (x+y):=by
 unfold Addr.add
 by_cases hx:x=0 <;> by_cases hy:y=0 <;> simp[hx,hy,Nat.add_assoc]
theorem Dl{w:World}{a:Addr}{v:Value}(h:w.cell? a=some v):a.spot=none:=by
 unfold World.cell? at h
 split at h
 ·split at h
  ·cases h
  ·rename_i hs
   cases hh:a.spot with
   |none=>rfl
   |some _=>simp[hh]at hs
 ·cases h
theorem Hp{E:Env}(hg:∀b,E.g b= .free){a:Addr}{vs:List Value}(h:∀i,i < vs.length→E.w.cell? (a.add i)=vs[i]?):oQ E (some a) vs:=by
 intro i v hv
 have hi:i < vs.length:=(List.getElem?_eq_some_iff.1 hv).1
 have h0:=h 0 (by omega)
 rw[List.getElem?_eq_getElem (by omega)]at h0
 have hs:a.spot=none:=Dl (a:=a) (by simpa[Addr.add]using h0)
 obtain⟨b,off,sp⟩:=a
 simp only at hs
 subst hs
 refine⟨b,off,rfl,?_,?_⟩
 ·have:=h i hi
  rw[hv]at this
  rw[←this]
  unfold Addr.add
  split
  ·rename_i h;subst h;rfl
  ·rfl
 ·unfold lJ
  rw[hg b]
  trivial
section
variable {H:Type} {enc:TypeId×Value→H} {P:Program} {base:Nat} {spare:Nat→Bool} {held:Bool} {E:Env}
theorem Cc{t:Ty}{R:List Value→t.den→Prop}{G:t.den→Prop}{w:World}{a:Addr}{z:Nat}(hR:∀c x,R c x→c.length=z):∀(len:Nat),(∀i,i < len→∃c x,R c x∧G x∧∀j,j < z→w.cell? (a.add (i*z+j))=c[j]?)→
  ∃(vs:List Value) (l:List t.den),vs.length=len*z∧l.length=len∧(∀i,i < vs.length→w.cell? (a.add i)=vs[i]?)∧bq R vs l∧∀x∈l,G x
 | 0,_=>⟨[],[],by simp,rfl,fun i h=>by simp at h,rfl,fun _ h=>by cases h⟩
 |len+1,h=>by
  obtain⟨vs,l,h1,h2,h3,h4,h5⟩:=Cc hR len fun i hi=>h i (by omega)
  obtain⟨c,x,g1,g2,g3⟩:=h len (by omega)
  have hc:=hR c x g1
  refine⟨vs++c,l++ [x],by rw[List.length_append,h1,hc,Nat.add_mul,Nat.one_mul],by rw[List.length_append,h2];rfl,fun i hi=> ?_,bq.append h4 ⟨c,[],by simp,g1,rfl⟩,fun y hy=> ?_⟩
  ·rw[List.length_append,h1,hc]at hi
   by_cases hl:i < vs.length
   ·rw[h3 i hl,List.getElem?_append_left hl]
   ·rw[List.getElem?_append_right (by omega),h1,←g3 (i - len*z) (by omega),show len*z+(i - len*z)=i by omega]
  ·rcases List.mem_append.1 hy with hy | hy
   ·exact h5 y hy
   ·rw[List.mem_singleton.1 hy];exact g2
theorem wD{t:Ty}{R:List Value→t.den→Prop}{G:t.den→Prop}{z:Nat}:∀(n:Nat) (cs:List Value),cs.length=n*z→(∀i,i < n→∃x,R ((cs.drop (i*z)).take z) x∧G x)→
  ∃l:List t.den,l.length=n∧bq R cs l∧∀x∈l,G x
 | 0,cs,h,_=>⟨[],rfl,List.eq_nil_of_length_eq_zero (by simpa using h),fun _ h=>by cases h⟩
 |n+1,cs,h,hi=>by
  obtain⟨x,g1,g2⟩:=hi 0 (by omega)
  obtain⟨l,h1,h2,h3⟩:=wD (R:=R) (G:=G) (z:=z) n (cs.drop z) (by rw[List.length_drop,h,Nat.add_mul];omega) fun i hin=>by
   obtain⟨y,k1,k2⟩:=hi (i+1) (by omega)
   refine⟨y,?_,k2⟩
   rw[List.drop_drop,show z+i*z=(i+1)*z by rw[Nat.add_mul];omega]
   exact k1
  refine⟨x::l,by simp[h1],⟨cs.take z,cs.drop z,(List.take_append_drop z cs).symm,by simpa using g1,h2⟩,fun y hy=> ?_⟩
  rcases List.mem_cons.1 hy with rfl | hy
  ·exact g2
  ·exact h3 y hy
theorem tv{rd:TypeId→Ty→Bool}{cs:List Value}:∀(fs:List Field) (off:Nat) (ty:Ty),mA P rd off fs ty=true→off+ty.size≤cs.length→
  (∀f∈fs,∀t,rd f.type t=true→P.cellsOf f.type=t.size→∃v,du E t ((cs.drop f.offset).take (P.cellsOf f.type)) v∧xo t v)→∃v,du E ty ((cs.drop off).take ty.size) v∧xo ty v
 |[],off,ty,h,hl,_=>by
  cases ty <;> simp only[mA]at h <;> first | cases h | skip
  exact⟨(),by simp[du,Ty.size],trivial⟩
 |f::fs,off,ty,h,hl,hf=>by
  cases ty <;> simp only[mA]at h <;> first | cases h | skip
  rename_i a b
  simp only[Bool.and_eq_true,Fu]at h
  obtain⟨h1,h2,h3,h4⟩:=h
  have hl:off+(a.size+b.size)≤cs.length:=hl
  obtain⟨v,k1,k2⟩:=hf f (List.mem_cons_self ..) a h2 h3
  obtain⟨u,k3,k4⟩:=tv fs (off+a.size) b h4 (by omega) fun f' hf'=>hf f' (List.mem_cons_of_mem _ hf')
  refine⟨(v,u),⟨(cs.drop off).take a.size,(cs.drop (off+a.size)).take b.size,?_,?_,k3⟩,k2,k4⟩
  ·rw[show Ty.size (.pair a b)=a.size+b.size from rfl,List.take_add,List.drop_drop]
  ·rw[h1,h3]at k1;exact k1
theorem rC(hg:∀b,E.g b= .free):∀(n:Nat) (T:TypeId) (ty:Ty),nw P n T ty=true→∀ {fuel:Nat} {cs:List Value} {x:DataW H×List MemPlace},DataW.trod enc P E.w base spare held fuel T cs=some x→∃v,du E ty cs v∧xo ty v
 | 0,_,_,h,_,_,_,_=>by simp[nw]at h
 |n+1,T,ty,h,fuel,cs,x,hx=>by
  unfold nw at h
  split at h
  ·rename_i k k' hu
   obtain rfl:=of_decide_eq_true h
   obtain⟨m,rfl,_,hw⟩:=DataW.trod_int hu hx
   exact⟨m,rfl,hw⟩
  ·rename_i hu
   obtain⟨b,rfl,_⟩:=DataW.trod_bool hu hx
   exact⟨b,rfl,trivial⟩
  ·rename_i hu
   obtain⟨s,rfl,_,hs⟩:=DataW.trod_string hu hx
   exact⟨s,rfl,hs⟩
  ·rename_i e t hu
   simp only[Bool.and_eq_true,Fu]at h
   obtain⟨h1,h2⟩:=h
   rcases open_slice hu hx with⟨rfl,_⟩ | ⟨a,len,cap,m,f,D,Pl,rfl,_,hl,hm,hmm,_,he⟩
   ·exact⟨([]:List t.den),⟨none,0,[],rfl,Nat.le_refl _,fun h=>by simp at h,fun i v hv=>by simp at hv,rfl⟩,Nat.zero_le _,fun _ h=>by cases h⟩
   ·have hlm:len≤m:=by rw[hmm];split <;> omega
    obtain⟨vs,l,k1,k2,k3,k4,k5⟩:=Cc (t:=t) (R:=du E t) (G:=xo t) (w:=E.w) (a:=a) (z:=t.size) (fun c x h=>du.size h) len fun i hi=>by
     obtain⟨cs',g1,g2⟩:=he i (by omega)
     obtain⟨v,g3,g4⟩:=rC hg n e t h1 g2
     obtain⟨g5,g6⟩:=CF g1
     refine⟨cs',v,g3,g4,fun j hj=> ?_⟩
     rw[←g6 j (by omega),add_add,h2]
    refine⟨l,⟨some a,cap,vs,by rw[k2],by rw[k2];exact hl,fun _=>rfl,Hp hg k3,k4⟩,by rw[k2];omega,k5⟩
  ·rename_i k e k' t hu
   simp only[Bool.and_eq_true,Fu]at h
   obtain⟨rfl,h1,h2,h3⟩:=h
   obtain⟨xs,m,rfl,_,hl,hxl,he⟩:=DataW.trod_array hu hx
   obtain⟨l,k1,k2,k3⟩:=wD (t:=t) (R:=du E t) (G:=xo t) (z:=t.size) k cs (by rw[hl,h3]) fun i hi=>by
    have:=he i hi
    rw[List.getElem?_eq_getElem (by omega),h2]at this
    exact rC hg n e t h1 this
   exact⟨l,⟨k1,k2⟩,k1,k3⟩
  ·rename_i ty fs hu
   simp only[Bool.and_eq_true,Fu]at h
   obtain⟨h1,h2⟩:=h
   obtain⟨xs,m,rfl,_,hl,hxl,he⟩:=DataW.trod_struct hu hx
   obtain⟨v,k1,k2⟩:=tv (E:=E) (cs:=cs) fs.toList 0 _ h1 (by rw[hl,h2];omega) fun f hf t ht hc=>by
    obtain⟨i,hi,hfi⟩:=List.mem_iff_getElem.1 hf
    have hi':i < fs.size:=by simpa using hi
    have:=he i f (by rw[←hfi];simp[hi'])
    rw[List.getElem?_eq_getElem (by omega)]at this
    exact rC hg n f.type t ht this
   refine⟨v,?_,k2⟩
   rwa[List.drop_zero,List.take_of_length_le (by omega)]at k1
  ·cases h
end
end Go.Ab
namespace Go.Ab
open Go.ChangeShapes Go.WideShapes Go.ChangeAt Go.RowKit Go.Deep
section
variable {H:Type} {enc:TypeId×Value→H} {P:Program} {base b0:Nat} {spare:Nat→Bool} {held:Bool} {E:Env} {W:World}
theorem AQ{rd:TypeId→Ty→Bool}{fs:List Field}{off:Nat}{ty:Ty}(h:mA P rd off fs ty=true):ty.agg=true:=by
 cases fs <;> cases ty <;> first | rfl | (simp[mA]at h)
theorem EI(hw:E.w=W)(hg:∀b,E.g b= .free){n:Nat}{t:TypeId}{ty:Ty}(h:nw P n t ty=true){v:Value}{d:DataW H}{ps:List MemPlace}(hval:Value.okWide P W .any base t v)(hd:DataW.Trod enc P W b0 spare held t v d ps):
  ∃x:ty.den,VS E (.d ty x) v∧xo ty x:=by
 subst hw
 obtain⟨fuel,hf⟩:=hd
 obtain⟨x,h1,h2⟩:=rC hg n t ty h hf
 refine⟨x,⟨v.cells.toList,h1,?_⟩,h2⟩
 cases n with
 |zero=>simp[nw]at h
 |succ n=>
  unfold nw at h
  split at h
  ·rename_i k k' hu
   obtain⟨m,rfl⟩:=okWide_int hu hval
   rfl
  ·rename_i hu
   obtain⟨m,rfl⟩:=okWide_bool hu hval
   rfl
  ·rename_i hu
   obtain⟨m,rfl⟩:=okWide_string hu hval
   rfl
  ·rename_i hu
   obtain⟨a,len,cap,rfl⟩:=okWide_slice hu hval
   rfl
  ·rename_i hu
   simp only[Value.okWide,hu]at hval
   obtain⟨cs,rfl,_⟩:=hval
   show _=_
   simp[Value.cells]
  ·rename_i fs hu
   simp only[Value.okWide,hu]at hval
   obtain⟨cs,rfl,_⟩:=hval
   simp only[Bool.and_eq_true]at h
   have:=AQ h.1
   simp only[az.agg,this,fU,Value.cells,Array.toArray_toList]
  ·cases h
def DV:List Ty→Type
 |[]=>Unit
 |t::ts=>t.den×DV ts
def DV.iL:(ts:List Ty)→DV ts→List az
 |[],_=> []
 |t::ts,x=> .d t x.1::DV.iL ts x.2
def DV.I6:(ts:List Ty)→DV ts→Prop
 |[],_=>True
 |t::ts,x=>xo t x.1∧DV.I6 ts x.2
def lz(P:Program)(n:Nat):List TypeId→List Ty→Bool
 |[],[]=>true
 |T::Ts,t::ts=>nw P n T t && lz P n Ts ts
 |_,_=>false
theorem w4(hw:E.w=W)(hg:∀b,E.g b= .free){n:Nat}:∀ {Ts:List TypeId} {ts:List Ty} {vs:List Value} {ds:List (DataW H)} {ps:List MemPlace},lz P n Ts ts=true→
  (∀(j:Nat) t v,Ts[j]? =some t→vs[j]? =some v→Value.okWide P W .any base t v)→DataW.TrodAll enc P W b0 spare held Ts vs ds ps→∃x:DV ts,qP E (DV.iL ts x) vs∧DV.I6 ts x
 |[],[],vs,ds,ps,_,_,h=>by
  obtain⟨rfl,rfl,rfl⟩:=trodAll_nil h
  exact⟨(),trivial,trivial⟩
 |T::Ts,[],_,_,_,h,_,_=>by simp[lz]at h
 |[],t::ts,_,_,_,h,_,_=>by simp[lz]at h
 |T::Ts,t::ts,vs,ds,ps,h,hval,hd=>by
  simp only[lz,Bool.and_eq_true]at h
  obtain⟨v,vs',d,ds',p,q,rfl,rfl,rfl,h1,h2⟩:=trodAll_cons hd
  obtain⟨x,k1,k2⟩:=EI hw hg h.1 (hval 0 T v rfl rfl) h1
  obtain⟨y,k3,k4⟩:=w4 hw hg h.2 (fun j t v hj hv=>hval (j+1) t v (by simpa using hj) (by simpa using hv)) h2
  exact⟨(x,y),⟨k1,k3⟩,⟨k2,k4⟩⟩
def lO(P:Program)(Ts:List TypeId):Bool:=Ts.all fun t=>P.readableRec t && decide (t < P.types.size)
theorem qj(hl:laidOutB P=true){W':World}(hb:Below W.heap.size W W')(sp:Nat→Bool):∀ {Ts:List TypeId} {vs:List Value} {ds:List (DataW H)} {ps:List MemPlace},lO P Ts=true→(∀p∈ps,p.block < W.heap.size)→(∀p∈ps,sp p.block=true)→
  DataW.TrodAll enc P W 0 (fun _=>true) true Ts vs ds ps→DataW.TrodAll enc P W' 0 sp true Ts vs ds ps
 |[],vs,ds,ps,_,_,_,h=>by
  obtain⟨rfl,rfl,rfl⟩:=trodAll_nil h
  exact trodAll_mk0
 |T::Ts,vs,ds,ps,hr,hlt,hs,h=>by
  obtain⟨v,vs',d,ds',p,q,rfl,rfl,rfl,h1,h2⟩:=trodAll_cons h
  simp only[lO,List.all_cons,Bool.and_eq_true,decide_eq_true_eq]at hr
  have h3:=WideElems.Trod_stays hl hr.1.1 hr.1.2 h1 (fun x hx=>hb.same (hlt x (List.mem_append.2 (.inl hx)))) (fun x hx=>hs x (List.mem_append.2 (.inl hx)))
  exact⟨p,q,h3,qj hl hb sp (by simpa[lO]using hr.2) (fun x hx=>hlt x (List.mem_append.2 (.inr hx))) (fun x hx=>hs x (List.mem_append.2 (.inr hx))) h2,rfl⟩
end
theorem pB{H:Type}{enc:TypeId×Value→H}{P:Program}{W:World}{b0:Nat}{spare:Nat→Bool}{held:Bool}:∀ {Ts:List TypeId} {vs:List Value} {ds:List (DataW H)} {ps:List MemPlace},DataW.TrodAll enc P W b0 spare held Ts vs ds ps→ds.length=Ts.length
 |[],_,_,_,h=>by
  obtain⟨_,rfl,_⟩:=trodAll_nil h
  rfl
 |_::_,_,_,_,h=>by
  obtain⟨v,vs',d,ds',p,q,rfl,rfl,rfl,h1,h2⟩:=trodAll_cons h
  simp[pB h2]
theorem zJ{H:Type}{enc:TypeId×Value→H}{P:Program}{f:Func}{s:ChangeSpec}{W W':World}{args:Array Value}{v:Value}{ds gs:List (DataW H)}{before:List MemPlace}{tb:TypeId}
  (hl:laidOutB P=true) (hra:lO P f.params.toList=true) (hvars:s.vars=[]) (htb:f.resultTypes= #[tb]) (hub:P.underlying tb=some .bool)
  (hW:DataW.Whole enc P f.params.toList s.vars false W args.toList ds gs before) (hfn:s.fn H (ds++gs)= {results:=[.lit (.bool true)],args:=ds}) (hb:Below W.heap.size W W') (hv:v= .bool true):
  s.post enc P f false true false false W args v W':=by
 subst hv
 have hW':=hW
 have hold:∀p∈before,(fun b=>decide (b < W.heap.size)) p.block=true:=fun p hp=>by simpa using hW.lt p hp
 obtain⟨p,q,hA,hV,rfl,hz,_⟩:=hW
 rw[hvars]at hV
 obtain⟨rfl,rfl⟩:=trodVars_none hV
 have hlt:∀x∈p,x.block < W.heap.size:=fun x hx=>hW'.lt x (List.mem_append.2 (.inl hx))
 have hargs:∀sp:Nat→Bool,(∀x∈p,sp x.block=true)→DataW.TrodAll enc P W' 0 sp true f.params.toList args.toList (s.fn H (ds++ [])).args p:=fun sp hs=>by
  rw[hfn]
  exact qj hl hb sp hra hlt hs hA
 have hres:∀(b:Nat) (sp:Nat→Bool) (hd:Bool),DataW.TrodAll enc P W' b sp hd f.resultTypes.toList ((Value.bool true).resultList f.resultTypes.size) (s.fn H (ds++ [])).results []:=fun b sp hd=>by
  rw[hfn,htb]
  exact trodAll_mk1 (shut_bool hub _)
 have hvs:∀sp:Nat→Bool,DataW.TrodVars enc P W' sp s.vars (s.fn H (ds++ [])).vars []:=fun sp=>by
  rw[hfn,hvars]
  rfl
 refine⟨ds,[],p++ [],[],p,[],hW',hres _ _ _,hargs _ (fun x hx=>hold x (List.mem_append.2 (.inl hx))),hvs _,hb.frame _,fun h=>by cases h⟩
theorem ph{P:Program}{n:Nat}:∀ {Ts:List TypeId} {ts:List Ty},lz P n Ts ts=true→Ts.length=ts.length
 |[],[],_=>rfl
 |[],_::_,h=>by simp[lz]at h
 |_::_,[],h=>by simp[lz]at h
 |_::_,_::_,h=>by
  simp only[lz,Bool.and_eq_true]at h
  simp[ph h.2]
theorem CY{H:Type}{enc:TypeId×Value→H}{P:Program}{f:FuncId}{fn:Func}{en:Entry}{s:ChangeSpec}{tb:TypeId}(n:Nat)(tys:List Ty)(hD:lU P f en)(hf:P.funcs[f]? =some fn)(hbody:fn.body.isSome=true)(hname:(fn.name== "runtime.NumGoroutine")=false)
  (hl:laidOutB P=true) (hread:lz P n fn.params.toList tys=true) (hra:lO P fn.params.toList=true) (hvars:s.vars=[]) (htb:fn.resultTypes= #[tb]) (hub:P.underlying tb=some .bool)
  (hfn:∀ds:List (DataW H),ds.length=tys.length→s.fn H (ds++ [])= {results:=[.lit (.bool true)],args:=ds})
  (hrun:∀x:DV tys,DV.I6 tys x→∃r,en.run (DV.iL tys x) []=some r∧en.out (DV.iL tys x) [] r=⟨.d .bool true,[],[]⟩)
  {W:World} {base:Nat} {args:Array Value} {ds gs:List (DataW H)} {before:List MemPlace}
  (hval:∀(j:Nat) t v,fn.params[j]? =some t→args[j]? =some v→Value.okWide P W .any base t v)
  (hW:DataW.Whole enc P fn.params.toList s.vars false W args.toList ds gs before):
  Calls P f args W fun e W'=>∃v,e= .returned v∧s.post enc P fn false true false false W args v W':=by
 have hW':=hW
 obtain⟨p,q,hA,hV,_,_,_⟩:=hW
 rw[hvars]at hV
 obtain⟨rfl,rfl⟩:=trodVars_none hV
 obtain⟨x,hx1,hx2⟩:=w4 (E:=(jy []).env W (fun _=> .free) (fun _=>none)) rfl (fun _=>rfl) hread (fun j t v hj hv=>hval j t v (by simpa using hj) (by simpa using hv)) hA
 obtain⟨r,hr1,hr2⟩:=hrun x hx2
 have hent:(callFunc f args).run P W= .ok (.enter f args) W:=by
  unfold callFunc
  obtain⟨c,hc⟩:=Option.isSome_iff_exists.1 hbody
  have hname':¬fn.name= "runtime.NumGoroutine" :=by simpa using hname
  simp[hf,hname',hc]
 have hlen:ds.length=tys.length:=by rw[pB hA,ph hread]
 have ho:hM ((jy []).env W (fun _=> .free) (fun _=>none)):=fun id ver fr c h=>by
  exfalso
  cases id with
  |dI k=>simp[AS.env,AS.cj,jy]at h
  |new i j=>simp[AS.env,AS.cj,jy]at h
 rcases hD W (fun _=> .free) (fun _=>none) (DV.iL tys x) [] args.toList r hx1 ho hr1 with⟨_,hc⟩ | ⟨v,w',hc,_⟩
 ·refine hc.mono fun e w' he=> ?_
  obtain⟨v,rfl,g',β',h1,_,h2,_⟩:=he
  rw[hr2]at h1
  refine⟨v,rfl,zJ hl hra hvars htb hub hW' (hfn ds hlen) ⟨h2.os,h2.tape,h2.output.1,h2.size,fun b hb=>(h2.Cx b hb).2⟩ ?_⟩
  obtain⟨cs,k1,k2⟩:=h1
  have k1:cs=[.bool true]:=k1
  subst k1
  have k2: [Value.bool true]=[v]:=k2
  simpa using k2.symm
 ·rw[show args.toList.toArray=args from Array.toArray_toList ..,hent]at hc
  cases hc
end Go.Ab
namespace Go.Ab
abbrev W:=BitVec 32
def ld(w:W)(k:Nat):W:=w <<< (32 - k) ||| w >>> k
def HR(a b c d:Int):W:=BitVec.ofInt 32 a <<< 24 ||| BitVec.ofInt 32 b <<< 16 ||| BitVec.ofInt 32 c <<< 8 ||| BitVec.ofInt 32 d
def be(l:List Int)(i:Nat):W:=HR (l.getD (4*i) 0) (l.getD (4*i+1) 0) (l.getD (4*i+2) 0) (l.getD (4*i+3) 0)
structure St where
 a:W
 b:W
 c:W
 d:W
 e:W
 f:W
 g:W
 h:W
def St.l(s:St):List Int:=[vw s.a,vw s.b,vw s.c,vw s.d,vw s.e,vw s.f,vw s.g,vw s.h]
def I8(x:W):W:=ld x 7^^^ld x 18^^^x >>> 3
def I9(y:W):W:=ld y 17^^^ld y 19^^^y >>> 10
def Gp(l:List W)(i:Nat):W:=l.getD (i - 16) 0+I8 (l.getD (i - 15) 0)+l.getD (i - 7) 0+I9 (l.getD (i - 2) 0)
def ext(l:List W):List W:=l++ [Gp l l.length]
def Fm(m:List W):Nat→List W
 | 0=>m
 |n+1=>ext (Fm m n)
def words(b:List Int):List W:=(List.range 16).map (be b)
def sched(b:List Int):List W:=Fm (words b) 48
def kl:List Nat:=[
  0x428a2f98,0x71374491,0xb5c0fbcf,0xe9b5dba5,0x3956c25b,0x59f111f1,0x923f82a4,0xab1c5ed5,
  0xd807aa98,0x12835b01,0x243185be,0x550c7dc3,0x72be5d74,0x80deb1fe,0x9bdc06a7,0xc19bf174,
  0xe49b69c1,0xefbe4786,0x0fc19dc6,0x240ca1cc,0x2de92c6f,0x4a7484aa,0x5cb0a9dc,0x76f988da,
  0x983e5152,0xa831c66d,0xb00327c8,0xbf597fc7,0xc6e00bf3,0xd5a79147,0x06ca6351,0x14292967,
  0x27b70a85,0x2e1b2138,0x4d2c6dfc,0x53380d13,0x650a7354,0x766a0abb,0x81c2c92e,0x92722c85,
  0xa2bfe8a1,0xa81a664b,0xc24b8b70,0xc76c51a3,0xd192e819,0xd6990624,0xf40e3585,0x106aa070,
  0x19a4c116,0x1e376c08,0x2748774c,0x34b0bcb5,0x391c0cb3,0x4ed8aa4a,0x5b9cca4f,0x682e6ff3,
  0x748f82ee,0x78a5636f,0x84c87814,0x8cc70208,0x90befffa,0xa4506ceb,0xbef9a3f7,0xc67178f2]
def kw(i:Nat):W:=BitVec.ofNat 32 (kl.getD i 0)
def sH:List Int:=kl.map fun(n:Nat)=>(n:Int)
def I5(s:St)(k w:W):St:=
 let t:=s.h+(ld s.e 6^^^ld s.e 11^^^ld s.e 25)+(s.g^^^s.e &&& (s.f^^^s.g))+k+w
 let r:=ld s.a 2^^^ld s.a 13^^^ld s.a 22
 let most:=s.a &&& s.b ||| s.c &&& (s.a ||| s.b)
 ⟨t+r+most,s.a,s.b,s.c,s.d+t,s.e,s.f,s.g⟩
def rounds(ws:List W)(s:St):Nat→St
 | 0=>s
 |n+1=>I5 (rounds ws s n) (kw n) (ws.getD n 0)
def sL(s:St)(b:List Int):St:=
 let v:=rounds (sched b) s 64
 ⟨v.a+s.a,v.b+s.b,v.c+s.c,v.d+s.d,v.e+s.e,v.f+s.f,v.g+s.g,v.h+s.h⟩
def jV:St:=⟨0x6a09e667,0xbb67ae85,0x3c6ef372,0xa54ff53a,0x510e527f,0x9b05688c,0x1f83d9ab,0x5be0cd19⟩
def mV:Nat→St→List Int→St
 | 0,s,_=>s
 |n+1,s,l=>mV n (sL s (l.take 64)) (l.drop 64)
def blocks(s:St)(l:List Int):St:=mV (l.length / 64) s l
def Iv(w:W)(k:Nat):Int:=vw ((w >>> (24 - 8*k)).setWidth 8)
def Fv(w:W):List Int:=[Iv w 0,Iv w 1,Iv w 2,Iv w 3]
def FQ(s:St):List Int:=Fv s.a++Fv s.b++Fv s.c++Fv s.d++Fv s.e++Fv s.f++Fv s.g++Fv s.h
def iA(n:Int):List Int:=[n / 2^56%256,n / 2^48%256,n / 2^40%256,n / 2^32%256,n / 2^24%256,n / 2^16%256,n / 2^8%256,n%256]
def mD(n:Nat):Nat:=(119 - n%64)%64
def pad(b:List Int):List Int:=b++128::(List.replicate (mD b.length) 0++iA (8*b.length))
def Hs(b:List Int):List Int:=FQ (blocks jV (pad b))
def iZ(parts:List (List Int)):List Int:=parts.flatMap fun p=>iA p.length++p
def s6(name:List Int)(parts:List (List Int)):List Int:=iA name.length++name++iZ parts
def tag(name:List Int)(parts:List (List Int)):List Int:=Hs (s6 name parts)
theorem Bj(b:List Int):(Hs b).length=32:=rfl
theorem cO(n:Int):(iA n).length=8:=rfl
theorem kU(l:List W):(ext l).length=l.length+1:=by simp[ext]
theorem mP(m:List W):∀n,(Fm m n).length=m.length+n
 | 0=>rfl
 |n+1=>by rw[Fm,kU,mP m n];omega
theorem fb(b:List Int):(words b).length=16:=by simp[words]
theorem oV:∀(n:Nat) (s:St) (a b:List Int),a.length=64*n→∀m,mV (n+m) s (a++b)=mV m (mV n s a) b
 | 0,s,a,b,h,m=>by
  have:a=[]:=List.eq_nil_of_length_eq_zero (by omega)
  subst this
  simp[mV]
 |n+1,s,a,b,h,m=>by
  rw[show n+1+m=(n+m)+1 by omega,mV,mV]
  rw[List.take_append_of_le_length (by omega),List.drop_append_of_le_length (by omega)]
  exact oV n _ _ _ (by simp;omega) m
theorem qc(s:St)(a b:List Int)(h:a.length%64=0):blocks s (a++b)=blocks (blocks s a) b:=by
 unfold blocks
 have e:(a++b).length / 64=a.length / 64+b.length / 64:=by simp;omega
 rw[e]
 exact oV _ _ _ _ (by omega) _
theorem oW(s:St)(l:List Int)(h:64≤l.length):blocks s l=blocks (sL s (l.take 64)) (l.drop 64):=by
 unfold blocks
 rw[show l.length / 64=(l.drop 64).length / 64+1 by simp;omega]
 rfl
theorem nV(s:St)(l:List Int)(h:l.length < 64):blocks s l=s:=by
 unfold blocks
 rw[show l.length / 64=0 by omega]
 rfl
def vK(x:Int):Prop:=0≤x∧x < 256
def Bytes(l:List Int):Prop:=∀x∈l,vK x
theorem Fw(w:BitVec 8):vK (vw w):=⟨s7 w,Fc w⟩
theorem vK.vw{x:Int}(h:vK x):x=vw (BitVec.ofInt 8 x):=by
 rw[gL]
 obtain⟨h1,h2⟩:=h
 omega
theorem AB(s:St):Bytes (FQ s):=by
 intro x hx
 simp only[FQ,Fv,List.mem_append,List.mem_cons,List.not_mem_nil,or_false]at hx
 rcases hx with((((((hx | hx) | hx) | hx) | hx) | hx) | hx) | hx <;> rcases hx with rfl | rfl | rfl | rfl <;> exact Fw _
theorem CC(b:List Int):Bytes (Hs b):=AB _
end Go.Ab
