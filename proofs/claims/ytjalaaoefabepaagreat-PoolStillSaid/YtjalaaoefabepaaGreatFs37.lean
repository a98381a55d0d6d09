/-
  PoolStill: true of every input, and the input reads behind the call as it read before.
-/
import Derived.Test.YtjalaaoefabepaaGreatS37x6
import Derived.Test.YtjalaaoefabepaaGreatRows
import Derived.SizedLaws
import Derived.WalkKit
import Derived.ProofKit
set_option linter.unusedVariables false
set_option linter.unusedSimpArgs false
namespace Go.Proofs.YtjalaaoefabepaaGreat.poolStill
open Go.ChangeShapes Go.WideShapes Go.ChangeAt Go.RowKit Go.Ab
set_option linter.unusedVariables false
theorem own:ownKnob Tryz.prog.godebug=none:=by kernel_rfl
theorem laid:laidOutB Tryz.prog=true:=by kernel_rfl
theorem aE4{l:List Int}(h:∀x∈l,ahD (.int .u8) x):Bytes l:=fun x hx=>by
 have h:(Lit.int .u8 x).wf=true:=h x hx;have h:0≤x∧x≤255:=by simpa[Lit.wf,IntKind.min,IntKind.max,IntKind.signed,IntKind.bits]using h
 exact⟨h.1,by omega⟩
theorem aGF{x:Int}(h:ahD (.int .i64) x): -9223372036854775808≤x∧x≤9223372036854775807:=by have h:(Lit.int .i64 x).wf=true:=h;simpa[Lit.wf,IntKind.min,IntKind.max,IntKind.signed,IntKind.bits]using h
theorem afy{x:Int}(h:ahD (.int .u64) x):ow x:=by
 have h:(Lit.int .u64 x).wf=true:=h;have h:0≤x∧x≤18446744073709551615:=by simpa[Lit.wf,IntKind.min,IntKind.max,IntKind.signed,IntKind.bits]using h
 exact⟨h.1,by omega⟩
theorem aG5{l:Lk}(h:ahD (.pair (.slice (.pair (.slice (.int .u64)) (.pair (.int .i64) (.pair (.int .i64) (.pair (.int .u64) .unit))))) .unit) l):afG l:=fun b hb=>⟨fun x hx=>afy ((h.1.2 b hb).1.2 x hx),afy (h.1.2 b hb).2.2.2.1⟩
theorem aOd{w:Pq}(h:ahD (.pair (.int .i64) (.pair (.slice (.pair (.int .u64) (.pair (.int .u64) .unit))) (.pair (.int .u64) .unit))) w):aaw w:=⟨fun s hs=>⟨afy (h.2.1.2 s hs).1,afy (h.2.1.2 s hs).2.1⟩,afy h.2.2.1⟩
theorem aQB{l:Lk}(h:ahD (.pair (.slice (.pair (.slice (.int .u64)) (.pair (.int .i64) (.pair (.int .i64) (.pair (.int .u64) .unit))))) .unit) l):aPr l:=⟨aG5 h,h.1.1⟩
theorem aKy{t:cR}(h:ahD (.pair (.slice (.pair (.pair (.arr 32 (.int .u8)) (.pair (.int .i64) .unit)) (.pair (.pair (.int .i64) (.pair (.slice (.pair (.int .u64) (.pair (.int .u64) .unit))) (.pair (.int .u64) .unit))) .unit))) (.pair (.slice (.pair (.int .i64) (.pair (.pair (.slice (.pair (.slice (.int .u64)) (.pair (.int .i64) (.pair (.int .i64) (.pair (.int .u64) .unit))))) .unit) .unit))) (.pair (.int .i64) .unit))) t):xx t:=⟨⟨fun o ho=>aQB (h.2.1.2 o ho).2.1,h.1.1,h.2.1.1⟩,fun x hx=>⟨⟨(h.1.2 x hx).1.1.1,aE4 (h.1.2 x hx).1.1.2⟩,aOd (h.1.2 x hx).2.1,(h.1.2 x hx).2.1.2.1.1⟩,(aGF h.2.2.1).2⟩
theorem aMY{o:gX}(h:ahD (.pair (.int .i64) (.pair (.pair (.slice (.pair (.slice (.int .u64)) (.pair (.int .i64) (.pair (.int .i64) (.pair (.int .u64) .unit))))) .unit) .unit)) o):anG o:=⟨aG5 h.2.1,h.2.1.1.1,(aGF h.1).2⟩
theorem aDi{E:Env}{t:Ty}{l:List t.den}{v:Value}(h:VS E (.d (.slice t) l) v):∃a cap,v= .slice a l.length cap:=by obtain⟨cs,hv,ho⟩:=h;simp only[V,cn]at hv;obtain⟨a,cap,vs,e,_⟩:=hv;have ho':cs=[v]:=ho;rw[e]at ho';exact⟨a,cap,by simpa using ho'.symm⟩
theorem params:Tryz.f3.params.toList=[22,3,23,26]:=by kernel_rfl
theorem azh:Tryz.prog.bytesOf 33=96:=by kernel_rfl
theorem axb:Tryz.prog.underlying 23=some (.slice 33):=by kernel_rfl
theorem aEz{H:Type}{enc:TypeId×Value→H}{W:World}{E:Env}{args:Array Value}{ds gs:List (DataW H)}{before:List MemPlace}{ts:List TypeId}(hW:DataW.Whole enc Tryz.prog Tryz.f3.params.toList Rows.poolStillSpec.vars false W args.toList ds gs before)
  (hz:(DataW.weightsEach Tryz.prog (Tryz.f3.params.toList++ts) (ds++gs)).all (· ≤reachBytes)=true) (x:DV [.slice (.pair (.int .i64) (.pair (.pair (.slice (.pair (.slice (.int .u64)) (.pair (.int .i64) (.pair (.int .i64) (.pair (.int .u64) .unit))))) .unit) .unit)),.int .i64,.slice (.pair (.int .i64) (.pair (.pair (.slice (.pair (.pair (.arr 32 (.int .u8)) (.pair (.int .i64) .unit)) (.pair (.pair (.int .i64) (.pair (.slice (.pair (.int .u64) (.pair (.int .u64) .unit))) (.pair (.int .u64) .unit))) .unit))) (.pair (.slice (.pair (.int .i64) (.pair (.pair (.slice (.pair (.slice (.int .u64)) (.pair (.int .i64) (.pair (.int .i64) (.pair (.int .u64) .unit))))) .unit) .unit))) (.pair (.int .i64) .unit))) (.pair (.int .i64) (.pair (.slice (.pair (.arr 32 (.int .u8)) (.pair (.int .i64) .unit))) .unit)))),.pair (.slice (.pair (.pair (.arr 32 (.int .u8)) (.pair (.int .i64) .unit)) (.pair (.pair (.int .i64) (.pair (.slice (.pair (.int .u64) (.pair (.int .u64) .unit))) (.pair (.int .u64) .unit))) .unit))) (.pair (.slice (.pair (.int .i64) (.pair (.pair (.slice (.pair (.slice (.int .u64)) (.pair (.int .i64) (.pair (.int .i64) (.pair (.int .u64) .unit))))) .unit) .unit))) (.pair (.int .i64) .unit))]) (hx:D7 E (DV.jT [.slice (.pair (.int .i64) (.pair (.pair (.slice (.pair (.slice (.int .u64)) (.pair (.int .i64) (.pair (.int .i64) (.pair (.int .u64) .unit))))) .unit) .unit)),.int .i64,.slice (.pair (.int .i64) (.pair (.pair (.slice (.pair (.pair (.arr 32 (.int .u8)) (.pair (.int .i64) .unit)) (.pair (.pair (.int .i64) (.pair (.slice (.pair (.int .u64) (.pair (.int .u64) .unit))) (.pair (.int .u64) .unit))) .unit))) (.pair (.slice (.pair (.int .i64) (.pair (.pair (.slice (.pair (.slice (.int .u64)) (.pair (.int .i64) (.pair (.int .i64) (.pair (.int .u64) .unit))))) .unit) .unit))) (.pair (.int .i64) .unit))) (.pair (.int .i64) (.pair (.slice (.pair (.arr 32 (.int .u8)) (.pair (.int .i64) .unit))) .unit)))),.pair (.slice (.pair (.pair (.arr 32 (.int .u8)) (.pair (.int .i64) .unit)) (.pair (.pair (.int .i64) (.pair (.slice (.pair (.int .u64) (.pair (.int .u64) .unit))) (.pair (.int .u64) .unit))) .unit))) (.pair (.slice (.pair (.int .i64) (.pair (.pair (.slice (.pair (.slice (.int .u64)) (.pair (.int .i64) (.pair (.int .i64) (.pair (.int .u64) .unit))))) .unit) .unit))) (.pair (.int .i64) .unit))] x) args.toList):
  List.length x.2.2.1*96≤140737488351232:=by
 obtain⟨p,q,hA,_⟩:=hW;rw[params]at hA hz;obtain⟨v0,w0,d0,e0,p0,q0,ha,rfl,rfl,_,r0⟩:=trodAll_cons hA;obtain⟨v1,w1,d1,e1,p1,q1,rfl,rfl,rfl,_,r1⟩:=trodAll_cons r0;obtain⟨v2,w2,d2,e2,p2,q2,rfl,rfl,rfl,h2,_⟩:=trodAll_cons r1;rw[ha]at hx;obtain⟨a,cap,rfl⟩:=aDi hx.2.2.1;obtain⟨fuel,hf⟩:=h2;rcases Go.Deep.open_slice axb hf with⟨e,_⟩ | ⟨a',len,cap',m,n',D,Pl,e,_,_,_,_,ed,_⟩
 ·have e: [Value.slice a (List.length x.2.2.1) cap]=[Value.slice none 0 0]:=e;have h0:List.length x.2.2.1=0:=(Value.slice.inj (List.cons.inj e).1).2.1;rw[h0];decide
 ·have e: [Value.slice a (List.length x.2.2.1) cap]=[Value.slice (some a') len cap']:=e;have h0:List.length x.2.2.1=len:=(Value.slice.inj (List.cons.inj e).1).2.1;obtain rfl:d2=_:=congrArg (fun z=>z.1) ed;have hs:=sized_slice hz (j:=2) (t:=23) (e:=33) rfl rfl axb;rw[azh,List.length_map,List.length_range]at hs;have hs:(len+_)*96≤140737488351232:=hs;rw[h0];exact Nat.le_trans (Nat.mul_le_mul_right 96 (Nat.le_add_right _ _)) hs
theorem at8{H:Type}{enc:TypeId×Value→H}{P:Program}{f:FuncId}{fn:Func}{en:Entry}{s:ChangeSpec}{tb:TypeId}(n:Nat)(tys:List Ty)(hD:tg P f en)(hf:P.funcs[f]? =some fn)(aSC:fn.body.isSome=true)(I8:(fn.name== "runtime.NumGoroutine")=false)
  (hl:laidOutB P=true) (aOL:zf P n fn.params.toList tys=true) (atK:zW P fn.params.toList=true) (axV:s.vars=[]) (aVd:fn.resultTypes= #[tb]) (aVf:P.underlying tb=some .bool)
  (aSP:∀ds:List (DataW H),ds.length=tys.length→s.fn H (ds++ [])= {results:=[.lit (.bool true)],args:=ds})
  {W:World} {base:Nat} {args:Array Value} {ds gs:List (DataW H)} {before:List MemPlace}
  (pV:∀x:DV tys,DV.aUe tys x→D7 ((jM []).env W (fun _=> .free) (fun _=>none)) (DV.jT tys x) args.toList→∃r,en.run (DV.jT tys x) []=some r∧en.out (DV.jT tys x) [] r=⟨.d .bool true,[],[]⟩)
  (xV:∀(j:Nat) t v,fn.params[j]? =some t→args[j]? =some v→Value.okWide P W .any base t v)
  (hW:DataW.Whole enc P fn.params.toList s.vars false W args.toList ds gs before):
  Calls P f args W fun e W'=>∃v,e= .returned v∧s.post enc P fn false true false false W args v W':=by
 have hW':=hW;obtain⟨p,q,hA,hV,_,_,_⟩:=hW;rw[axV]at hV;obtain⟨rfl,rfl⟩:=trodVars_none hV;obtain⟨x,aTg,aQs⟩:=ai5 (E:=(jM []).env W (fun _=> .free) (fun _=>none)) rfl (fun _=>rfl) aOL (fun j t v hj hv=>xV j t v (by simpa using hj) (by simpa using hv)) hA;obtain⟨r,aGx,asC⟩:=pV x aQs aTg;have di:(callFunc f args).run P W= .ok (.enter f args) W:=by
  unfold callFunc;obtain⟨c,hc⟩:=Option.isSome_iff_exists.1 aSC;have hname':¬fn.name= "runtime.NumGoroutine" :=by simpa using I8
  simp[hf,hname',hc]
 have hlen:ds.length=tys.length:=by rw[MB hA,LB aOL]
 have ho:iL ((jM []).env W (fun _=> .free) (fun _=>none)):=fun id ver fr c h=>by
  exfalso;cases id with
  |bW k=>simp[AS.env,AS.bT,jM]at h
  |new i j=>simp[AS.env,AS.bT,jM]at h
 rcases hD W (fun _=> .free) (fun _=>none) (DV.jT tys x) [] args.toList r aTg ho aGx with⟨_,hc⟩ | ⟨v,w',hc,_⟩
 ·refine hc.mono fun e w' he=> ?_
  obtain⟨v,rfl,g',β',h1,_,h2,_⟩:=he;rw[asC]at h1;refine⟨v,rfl,aqD hl atK axV aVd aVf hW' (aSP ds hlen) ⟨h2.os,h2.tape,h2.output.1,h2.size,fun b hb=>(h2.afP b hb).2⟩ ?_⟩;obtain⟨cs,k1,k2⟩:=h1;have k1:cs=[.bool true]:=k1;subst k1;have k2: [Value.bool true]=[v]:=k2;simpa using k2.symm
 ·rw[show args.toList.toArray=args from Array.toArray_toList ..,di]at hc;cases hc
set_option maxRecDepth 100000 in
theorem lifted(os:Os)(started:os.Started)(H:Type)(enc:TypeId×Value→H):
  ReturnsInHanded {} Tryz.checked os 3 .any (Rows.poolStillSpec.pre6 enc Tryz.prog Tryz.f3 Rows.poolStillRow.domain false) (Rows.poolStillSpec.post enc Tryz.prog Tryz.f3 false true false false):=by
 refine returnsInHanded_of_change_sized (C:=Tryz.checked) own started (by kernel_rfl) Tryz.func3
  (ChangeSpec.witness6 (enc:=enc) (C:=Tryz.checked) false ⟨#[],#[.slice none 0 0,.int .i64 0,.slice none 0 0,.agg #[.slice none 0 0,.slice none 0 0,.int .i64 0]],[]⟩ 24 (by kernel_rfl) (by kernel_rfl) (by kernel_rfl) (by kernel_rfl)) ?_
 intro W base args ds gs before xV hW _ hz _
 exact at8 14 [.slice (.pair (.int .i64) (.pair (.pair (.slice (.pair (.slice (.int .u64)) (.pair (.int .i64) (.pair (.int .i64) (.pair (.int .u64) .unit))))) .unit) .unit)),.int .i64,.slice (.pair (.int .i64) (.pair (.pair (.slice (.pair (.pair (.arr 32 (.int .u8)) (.pair (.int .i64) .unit)) (.pair (.pair (.int .i64) (.pair (.slice (.pair (.int .u64) (.pair (.int .u64) .unit))) (.pair (.int .u64) .unit))) .unit))) (.pair (.slice (.pair (.int .i64) (.pair (.pair (.slice (.pair (.slice (.int .u64)) (.pair (.int .i64) (.pair (.int .i64) (.pair (.int .u64) .unit))))) .unit) .unit))) (.pair (.int .i64) .unit))) (.pair (.int .i64) (.pair (.slice (.pair (.arr 32 (.int .u8)) (.pair (.int .i64) .unit))) .unit)))),.pair (.slice (.pair (.pair (.arr 32 (.int .u8)) (.pair (.int .i64) .unit)) (.pair (.pair (.int .i64) (.pair (.slice (.pair (.int .u64) (.pair (.int .u64) .unit))) (.pair (.int .u64) .unit))) .unit))) (.pair (.slice (.pair (.int .i64) (.pair (.pair (.slice (.pair (.slice (.int .u64)) (.pair (.int .i64) (.pair (.int .i64) (.pair (.int .u64) .unit))))) .unit) .unit))) (.pair (.int .i64) .unit))] (aCc.h.1 (by rfl)) Tryz.func3 (by kernel_rfl) (by kernel_rfl) laid (by kernel_rfl) (by kernel_rfl) rfl (by kernel_rfl:Tryz.f3.resultTypes= #[4]) Tryz.underlying4
  (fun | [_,_,_,_],_=>rfl) (fun x hx hv=>⟨true,avk (d:=(x.1,x.2.1,x.2.2.1,x.2.2.2.1)) ⟨fun o ho=>aMY (hx.1.2 o ho),hx.1.1,aEz hW hz x hv,fun y hy=>aKy (hx.2.2.1.2 y hy).2.1,aKy hx.2.2.2.1⟩,rfl⟩) xV hW
theorem uI{a b:Bool}(h:a=true)(h2:b=true):(a && b)=true:=by rw[h,h2];rfl
theorem aSm:mapsRowed Tryz.prog=true:=by kernel_rfl
theorem aPR:(Rows.poolStillRow.inPlace==Tryz.prog.inPlace 3)=true:=by kernel_rfl
theorem aPS:(Rows.poolStillRow.unfollowed==Tryz.prog.unfollowed 3)=true:=by kernel_rfl
theorem aPT:(Rows.poolStillRow.recurses==Tryz.prog.recurses 3)=true:=by kernel_rfl
theorem aPU:(Rows.poolStillRow.named==Tryz.prog.varsNamed 3)=true:=by kernel_rfl
theorem aPV:(Rows.poolStillRow.maps==(Tryz.f3.params.toList++Rows.poolStillSpec.plain.varTypes Tryz.prog).any (Tryz.prog.mapsRec ·))=true:=by kernel_rfl
theorem aPW:(Rows.poolStillRow.ifaces==(Tryz.f3.params.toList++Rows.poolStillSpec.plain.varTypes Tryz.prog).any (Tryz.prog.ifacesRec ·))=true:=by kernel_rfl
theorem aPX:(Rows.poolStillRow.loops==(Tryz.f3.params.toList++Rows.poolStillSpec.plain.varTypes Tryz.prog).any (Tryz.prog.loopsFrom ·))=true:=by kernel_rfl
theorem aPY:(Rows.poolStillRow.wideKeys==(Tryz.f3.params.toList++Rows.poolStillSpec.plain.varTypes Tryz.prog++Tryz.f3.resultTypes.toList).any (Tryz.prog.wideKeysFrom ·))=true:=by kernel_rfl
theorem aPZ:Tryz.prog.stopsHeard=true:=by kernel_rfl
theorem aP0:Tryz.prog.mayEnter=true:=by kernel_rfl
theorem aP1:(Rows.poolStillRow.lifted==Tryz.prog.liftsFinal)=true:=by kernel_rfl
theorem aP2:(Tryz.prog.make==some Rows.poolStillRow.make)=true:=by kernel_rfl
set_option maxRecDepth 100000 in
theorem VB:joinedFacts Tryz.prog 3 Tryz.f3 Rows.poolStillSpec Rows.poolStillRow=true:=by unfold joinedFacts;exact(uI (uI (uI (uI (uI (uI (uI (uI (uI (uI (uI (uI (uI (uI (uI (uI (uI (uI (uI (uI (uI (uI (uI (uI (uI (uI (uI (uI (uI (uI (uI (by kernel_rfl) laid) aSm) (by kernel_rfl)) (by kernel_rfl)) (by kernel_rfl)) (by kernel_rfl)) (by kernel_rfl)) (by kernel_rfl)) aPR) aPS) aPT) aPU) aPV) aPW) (by kernel_rfl)) aPX) aPY) (by kernel_rfl)) (by kernel_rfl)) (by kernel_rfl)) (by kernel_rfl)) (by kernel_rfl)) (by kernel_rfl)) aPZ) aP0) aP1) aP2) (by kernel_rfl)) (by kernel_rfl)) (by kernel_rfl)) (by kernel_rfl))
theorem aM0:Rows.poolStillRow.holds Tryz.pinned (OpenSpec.ofChange Rows.poolStillSpec):=
 OpenClaim.holds_of_wide 3 Tryz.f3 rfl rfl rfl rfl rfl rfl rfl ⟨rfl,rfl,rfl,rfl,rfl⟩ rfl rfl rfl rfl rfl (by kernel_rfl) Tryz.func3 VB
  (of_decide_eq_true (by kernel_rfl)) (by unfold Func.isWrapper;first | (rw[if_pos (by decide+kernel)];kernel_rfl) | (rw[if_neg (by decide+kernel)];exact⟨rfl,rfl⟩))
  (fun os started H enc _=>lifted os started H enc)
theorem proved:Rows.PoolStillSaid:=aM0
end Go.Proofs.YtjalaaoefabepaaGreat.poolStill
