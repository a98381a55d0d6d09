/-
  WatchFinal: true of every input, and the input reads behind the call as it read before.
-/
import Derived.Test.YtodfaneojnkngaaGreatS27x6
import Derived.Test.YtodfaneojnkngaaGreatRows
import Derived.WalkKit
import Derived.ProofKit
set_option linter.unusedVariables false
set_option linter.unusedSimpArgs false
namespace Go.Proofs.YtodfaneojnkngaaGreat.watchFinal
open Go.ChangeShapes Go.WideShapes Go.ChangeAt Go.RowKit Go.Ab
set_option linter.unusedVariables false
theorem own:ownKnob Tryz.prog.godebug=none:=by kernel_rfl
theorem laid:laidOutB Tryz.prog=true:=by kernel_rfl
theorem alM{l:List Int}(h:∀x∈l,ae5 (.int .u8) x):Bytes l:=fun x hx=>by
 have h:(Lit.int .u8 x).wf=true:=h x hx;have h:0≤x∧x≤255:=by simpa[Lit.wf,IntKind.min,IntKind.max,IntKind.signed,IntKind.bits]using h
 exact⟨h.1,by omega⟩
theorem aFd{x:Int}(h:ae5 (.int .i64) x): -9223372036854775808≤x∧x≤9223372036854775807:=by have h:(Lit.int .i64 x).wf=true:=h;simpa[Lit.wf,IntKind.min,IntKind.max,IntKind.signed,IntKind.bits]using h
theorem adk{x:Int}(h:ae5 (.int .u64) x):nU x:=by
 have h:(Lit.int .u64 x).wf=true:=h;have h:0≤x∧x≤18446744073709551615:=by simpa[Lit.wf,IntKind.min,IntKind.max,IntKind.signed,IntKind.bits]using h
 exact⟨h.1,by omega⟩
theorem aFL{l:Lk}(h:ae5 (.pair (.slice (.pair (.slice (.int .u64)) (.pair (.int .i64) (.pair (.int .i64) (.pair (.int .u64) .unit))))) .unit) l):adD l:=fun b hb=>⟨fun x hx=>adk ((h.1.2 b hb).1.2 x hx),adk (h.1.2 b hb).2.2.2.1⟩
theorem aMW{w:UC}(h:ae5 (.pair (.int .i64) (.pair (.slice (.pair (.int .u64) (.pair (.int .u64) .unit))) (.pair (.int .u64) .unit))) w):Yg w:=⟨fun s hs=>⟨adk (h.2.1.2 s hs).1,adk (h.2.1.2 s hs).2.1⟩,adk h.2.2.1⟩
theorem aPg{l:Lk}(h:ae5 (.pair (.slice (.pair (.slice (.int .u64)) (.pair (.int .i64) (.pair (.int .i64) (.pair (.int .u64) .unit))))) .unit) l):aNS l:=⟨aFL h,h.1.1⟩
theorem aPY{t:dv}(h:ae5 (.pair (.slice (.pair (.pair (.arr 32 (.int .u8)) (.pair (.int .i64) .unit)) (.pair (.pair (.int .i64) (.pair (.slice (.pair (.int .u64) (.pair (.int .u64) .unit))) (.pair (.int .u64) .unit))) .unit))) (.pair (.slice (.pair (.int .i64) (.pair (.pair (.slice (.pair (.slice (.int .u64)) (.pair (.int .i64) (.pair (.int .i64) (.pair (.int .u64) .unit))))) .unit) .unit))) (.pair (.int .i64) .unit))) t):nT t:=⟨⟨fun o ho=>aPg (h.2.1.2 o ho).2.1,h.1.1,h.2.1.1⟩,fun x hx=>⟨⟨(h.1.2 x hx).1.1.1,alM (h.1.2 x hx).1.1.2⟩,aMW (h.1.2 x hx).2.1,(h.1.2 x hx).2.1.2.1.1⟩,(aFd h.2.2.1).2⟩
theorem aLY{o:gf}(h:ae5 (.pair (.int .i64) (.pair (.pair (.slice (.pair (.slice (.int .u64)) (.pair (.int .i64) (.pair (.int .i64) (.pair (.int .u64) .unit))))) .unit) .unit)) o):aqc o:=⟨aFL h.2.1,h.2.1.1.1,(aFd h.1).2⟩
theorem aGy{o:bF}(h:ae5 (.pair (.arr 32 (.int .u8)) (.pair (.int .i64) .unit)) o):Le o:=⟨h.1.1,alM h.1.2⟩
set_option maxRecDepth 100000 in
theorem lifted(os:Os)(started:os.Started)(H:Type)(enc:TypeId×Value→H):
  ReturnsInHanded {} Tryz.checked os 4 .any (Rows.watchFinalSpec.pre6 enc Tryz.prog Tryz.f4 Rows.watchFinalRow.domain false) (Rows.watchFinalSpec.post enc Tryz.prog Tryz.f4 false true false false):=by
 refine returnsInHanded_of_change (C:=Tryz.checked) own started (by kernel_rfl) Tryz.func4
  (ChangeSpec.witness6 (enc:=enc) (C:=Tryz.checked) false ⟨#[],#[.slice none 0 0,.slice none 0 0,.agg (Array.replicate 32 (.int .u8 0)++ #[.int .i64 0])],[]⟩ 24 (by kernel_rfl) (by kernel_rfl) (by kernel_rfl) (by kernel_rfl)) ?_
 intro W base args ds gs before A5 hW _ _
 exact ayR 14 [.slice (.pair (.int .i64) (.pair (.pair (.slice (.pair (.slice (.int .u64)) (.pair (.int .i64) (.pair (.int .i64) (.pair (.int .u64) .unit))))) .unit) .unit)),.slice (.pair (.int .i64) (.pair (.slice (.pair (.slice (.pair (.pair (.arr 32 (.int .u8)) (.pair (.int .i64) .unit)) (.pair (.pair (.int .i64) (.pair (.slice (.pair (.int .u64) (.pair (.int .u64) .unit))) (.pair (.int .u64) .unit))) .unit))) (.pair (.slice (.pair (.int .i64) (.pair (.pair (.slice (.pair (.slice (.int .u64)) (.pair (.int .i64) (.pair (.int .i64) (.pair (.int .u64) .unit))))) .unit) .unit))) (.pair (.int .i64) .unit)))) (.pair (.int .i64) (.pair (.pair (.arr 32 (.int .u8)) (.pair (.int .i64) .unit)) .unit)))),.pair (.arr 32 (.int .u8)) (.pair (.int .i64) .unit)] (aBB.h.1 (by rfl)) Tryz.func4 (by kernel_rfl) (by kernel_rfl) laid (by kernel_rfl) (by kernel_rfl) rfl (by kernel_rfl:Tryz.f4.resultTypes= #[4]) Tryz.underlying4
  (fun | [_,_,_],_=>rfl) (fun x hx=>⟨true,auv (d:=(x.1,x.2.1,x.2.2.1)) ⟨fun o ho=>aLY (hx.1.2 o ho),hx.2.1.1,fun y hy=>⟨fun t ht=>aPY ((hx.2.1.2 y hy).2.1.2 t ht),aGy (hx.2.1.2 y hy).2.2.2.1⟩,aGy hx.2.2.1⟩,rfl⟩) A5 hW
theorem sM{a b:Bool}(h:a=true)(h2:b=true):(a && b)=true:=by rw[h,h2];rfl
theorem aQY:mapsRowed Tryz.prog=true:=by kernel_rfl
theorem aOq:(Rows.watchFinalRow.inPlace==Tryz.prog.inPlace 4)=true:=by kernel_rfl
theorem aOr:(Rows.watchFinalRow.unfollowed==Tryz.prog.unfollowed 4)=true:=by kernel_rfl
theorem aOs:(Rows.watchFinalRow.recurses==Tryz.prog.recurses 4)=true:=by kernel_rfl
theorem aOt:(Rows.watchFinalRow.named==Tryz.prog.varsNamed 4)=true:=by kernel_rfl
theorem aOu:(Rows.watchFinalRow.maps==(Tryz.f4.params.toList++Rows.watchFinalSpec.plain.varTypes Tryz.prog).any (Tryz.prog.mapsRec ·))=true:=by kernel_rfl
theorem aOv:(Rows.watchFinalRow.ifaces==(Tryz.f4.params.toList++Rows.watchFinalSpec.plain.varTypes Tryz.prog).any (Tryz.prog.ifacesRec ·))=true:=by kernel_rfl
theorem aOw:(Rows.watchFinalRow.loops==(Tryz.f4.params.toList++Rows.watchFinalSpec.plain.varTypes Tryz.prog).any (Tryz.prog.loopsFrom ·))=true:=by kernel_rfl
theorem aOx:(Rows.watchFinalRow.wideKeys==(Tryz.f4.params.toList++Rows.watchFinalSpec.plain.varTypes Tryz.prog++Tryz.f4.resultTypes.toList).any (Tryz.prog.wideKeysFrom ·))=true:=by kernel_rfl
theorem aOy:Tryz.prog.stopsHeard=true:=by kernel_rfl
theorem aOz:Tryz.prog.mayEnter=true:=by kernel_rfl
theorem aOA:(Rows.watchFinalRow.lifted==Tryz.prog.liftsFinal)=true:=by kernel_rfl
theorem aOB:(Tryz.prog.make==some Rows.watchFinalRow.make)=true:=by kernel_rfl
set_option maxRecDepth 100000 in
theorem Tn:joinedFacts Tryz.prog 4 Tryz.f4 Rows.watchFinalSpec Rows.watchFinalRow=true:=by unfold joinedFacts;exact(sM (sM (sM (sM (sM (sM (sM (sM (sM (sM (sM (sM (sM (sM (sM (sM (sM (sM (sM (sM (sM (sM (sM (sM (sM (sM (sM (sM (sM (sM (sM (by kernel_rfl) laid) aQY) (by kernel_rfl)) (by kernel_rfl)) (by kernel_rfl)) (by kernel_rfl)) (by kernel_rfl)) (by kernel_rfl)) aOq) aOr) aOs) aOt) aOu) aOv) (by kernel_rfl)) aOw) aOx) (by kernel_rfl)) (by kernel_rfl)) (by kernel_rfl)) (by kernel_rfl)) (by kernel_rfl)) (by kernel_rfl)) aOy) aOz) aOA) aOB) (by kernel_rfl)) (by kernel_rfl)) (by kernel_rfl)) (by kernel_rfl))
theorem aL0:Rows.watchFinalRow.holds Tryz.pinned (OpenSpec.ofChange Rows.watchFinalSpec):=
 OpenClaim.holds_of_wide 4 Tryz.f4 rfl rfl rfl rfl rfl rfl rfl ⟨rfl,rfl,rfl,rfl,rfl⟩ rfl rfl rfl rfl rfl (by kernel_rfl) Tryz.func4 Tn
  (of_decide_eq_true (by kernel_rfl)) (by unfold Func.isWrapper;first | (rw[if_pos (by decide+kernel)];kernel_rfl) | (rw[if_neg (by decide+kernel)];exact⟨rfl,rfl⟩))
  (fun os started H enc _=>lifted os started H enc)
theorem proved:Rows.WatchFinalSaid:=aL0
end Go.Proofs.YtodfaneojnkngaaGreat.watchFinal
