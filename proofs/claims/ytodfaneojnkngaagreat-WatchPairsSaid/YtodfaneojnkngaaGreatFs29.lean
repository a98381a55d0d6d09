/-
  WatchPairs: true of every input, and the input reads behind the call as it read before.
-/
import Derived.Test.YtodfaneojnkngaaGreatS29x6
import Derived.Test.YtodfaneojnkngaaGreatRows
import Derived.WalkKit
import Derived.ProofKit
set_option linter.unusedVariables false
set_option linter.unusedSimpArgs false
namespace Go.Proofs.YtodfaneojnkngaaGreat.watchPairs
open Go.ChangeShapes Go.WideShapes Go.ChangeAt Go.RowKit Go.Ab
set_option linter.unusedVariables false
theorem own:ownKnob Tryz.prog.godebug=none:=by kernel_rfl
theorem laid:laidOutB Tryz.prog=true:=by kernel_rfl
theorem anS{l:List Int}(h:∀x∈l,ag9 (.int .u8) x):Bytes l:=fun x hx=>by
 have h:(Lit.int .u8 x).wf=true:=h x hx;have h:0≤x∧x≤255:=by simpa[Lit.wf,IntKind.min,IntKind.max,IntKind.signed,IntKind.bits]using h
 exact⟨h.1,by omega⟩
theorem aHp{x:Int}(h:ag9 (.int .i64) x): -9223372036854775808≤x∧x≤9223372036854775807:=by have h:(Lit.int .i64 x).wf=true:=h;simpa[Lit.wf,IntKind.min,IntKind.max,IntKind.signed,IntKind.bits]using h
theorem afh{x:Int}(h:ag9 (.int .u64) x):oU x:=by
 have h:(Lit.int .u64 x).wf=true:=h;have h:0≤x∧x≤18446744073709551615:=by simpa[Lit.wf,IntKind.min,IntKind.max,IntKind.signed,IntKind.bits]using h
 exact⟨h.1,by omega⟩
theorem aHX{l:Lk}(h:ag9 (.pair (.slice (.pair (.slice (.int .u64)) (.pair (.int .i64) (.pair (.int .i64) (.pair (.int .u64) .unit))))) .unit) l):afE l:=fun b hb=>⟨fun x hx=>afh ((h.1.2 b hb).1.2 x hx),afh (h.1.2 b hb).2.2.2.1⟩
theorem aPc{w:YO}(h:ag9 (.pair (.int .i64) (.pair (.slice (.pair (.int .u64) (.pair (.int .u64) .unit))) (.pair (.int .u64) .unit))) w):Z9 w:=⟨fun s hs=>⟨afh (h.2.1.2 s hs).1,afh (h.2.1.2 s hs).2.1⟩,afh h.2.2.1⟩
theorem aRz{l:Lk}(h:ag9 (.pair (.slice (.pair (.slice (.int .u64)) (.pair (.int .i64) (.pair (.int .i64) (.pair (.int .u64) .unit))))) .unit) l):aQb l:=⟨aHX h,h.1.1⟩
theorem aSj{t:dR}(h:ag9 (.pair (.slice (.pair (.pair (.arr 32 (.int .u8)) (.pair (.int .i64) .unit)) (.pair (.pair (.int .i64) (.pair (.slice (.pair (.int .u64) (.pair (.int .u64) .unit))) (.pair (.int .u64) .unit))) .unit))) (.pair (.slice (.pair (.int .i64) (.pair (.pair (.slice (.pair (.slice (.int .u64)) (.pair (.int .i64) (.pair (.int .i64) (.pair (.int .u64) .unit))))) .unit) .unit))) (.pair (.int .i64) .unit))) t):ng t:=⟨⟨fun o ho=>aRz (h.2.1.2 o ho).2.1,h.1.1,h.2.1.1⟩,fun x hx=>⟨⟨(h.1.2 x hx).1.1.1,anS (h.1.2 x hx).1.1.2⟩,aPc (h.1.2 x hx).2.1,(h.1.2 x hx).2.1.2.1.1⟩,(aHp h.2.2.1).2⟩
theorem aN6{o:iu}(h:ag9 (.pair (.int .i64) (.pair (.pair (.slice (.pair (.slice (.int .u64)) (.pair (.int .i64) (.pair (.int .i64) (.pair (.int .u64) .unit))))) .unit) .unit)) o):asr o:=⟨aHX h.2.1,h.2.1.1.1,(aHp h.1).2⟩
theorem aIJ{o:bJ}(h:ag9 (.pair (.arr 32 (.int .u8)) (.pair (.int .i64) .unit)) o):C6 o:=⟨h.1.1,anS h.1.2⟩
set_option maxRecDepth 100000 in
theorem lifted(os:Os)(started:os.Started)(H:Type)(enc:TypeId×Value→H):
  ReturnsInHanded {} Tryz.checked os 6 .any (Rows.watchPairsSpec.pre6 enc Tryz.prog Tryz.f6 Rows.watchPairsRow.domain false) (Rows.watchPairsSpec.post enc Tryz.prog Tryz.f6 false true false false):=by
 refine returnsInHanded_of_change (C:=Tryz.checked) own started (by kernel_rfl) Tryz.func6
  (ChangeSpec.witness6 (enc:=enc) (C:=Tryz.checked) false ⟨#[],#[.slice none 0 0,.slice none 0 0,.slice none 0 0],[]⟩ 24 (by kernel_rfl) (by kernel_rfl) (by kernel_rfl) (by kernel_rfl)) ?_
 intro W base args ds gs before B9 hW _ _
 exact aA2 14 [.slice (.pair (.int .i64) (.pair (.pair (.slice (.pair (.slice (.int .u64)) (.pair (.int .i64) (.pair (.int .i64) (.pair (.int .u64) .unit))))) .unit) .unit)),.slice (.pair (.int .i64) (.pair (.slice (.pair (.slice (.pair (.pair (.arr 32 (.int .u8)) (.pair (.int .i64) .unit)) (.pair (.pair (.int .i64) (.pair (.slice (.pair (.int .u64) (.pair (.int .u64) .unit))) (.pair (.int .u64) .unit))) .unit))) (.pair (.slice (.pair (.int .i64) (.pair (.pair (.slice (.pair (.slice (.int .u64)) (.pair (.int .i64) (.pair (.int .i64) (.pair (.int .u64) .unit))))) .unit) .unit))) (.pair (.int .i64) .unit)))) (.pair (.int .i64) (.pair (.pair (.arr 32 (.int .u8)) (.pair (.int .i64) .unit)) .unit)))),.slice (.pair (.arr 32 (.int .u8)) (.pair (.int .i64) .unit))] (awK.h.1 (by rfl)) Tryz.func6 (by kernel_rfl) (by kernel_rfl) laid (by kernel_rfl) (by kernel_rfl) rfl (by kernel_rfl:Tryz.f6.resultTypes= #[4]) Tryz.underlying4
  (fun | [_,_,_],_=>rfl) (fun x hx=>⟨true,asa (d:=(x.1,x.2.1,x.2.2.1)) ⟨fun o ho=>aN6 (hx.1.2 o ho),hx.2.1.1,fun y hy=>⟨fun t ht=>aSj ((hx.2.1.2 y hy).2.1.2 t ht),aIJ (hx.2.1.2 y hy).2.2.2.1⟩,fun o ho=>aIJ (hx.2.2.1.2 o ho)⟩,rfl⟩) B9 hW
theorem tQ{a b:Bool}(h:a=true)(h2:b=true):(a && b)=true:=by rw[h,h2];rfl
theorem aTm:mapsRowed Tryz.prog=true:=by kernel_rfl
theorem aQI:(Rows.watchPairsRow.inPlace==Tryz.prog.inPlace 6)=true:=by kernel_rfl
theorem aQJ:(Rows.watchPairsRow.unfollowed==Tryz.prog.unfollowed 6)=true:=by kernel_rfl
theorem aQK:(Rows.watchPairsRow.recurses==Tryz.prog.recurses 6)=true:=by kernel_rfl
theorem aQL:(Rows.watchPairsRow.named==Tryz.prog.varsNamed 6)=true:=by kernel_rfl
theorem aQM:(Rows.watchPairsRow.maps==(Tryz.f6.params.toList++Rows.watchPairsSpec.plain.varTypes Tryz.prog).any (Tryz.prog.mapsRec ·))=true:=by kernel_rfl
theorem aQN:(Rows.watchPairsRow.ifaces==(Tryz.f6.params.toList++Rows.watchPairsSpec.plain.varTypes Tryz.prog).any (Tryz.prog.ifacesRec ·))=true:=by kernel_rfl
theorem aQO:(Rows.watchPairsRow.loops==(Tryz.f6.params.toList++Rows.watchPairsSpec.plain.varTypes Tryz.prog).any (Tryz.prog.loopsFrom ·))=true:=by kernel_rfl
theorem aQP:(Rows.watchPairsRow.wideKeys==(Tryz.f6.params.toList++Rows.watchPairsSpec.plain.varTypes Tryz.prog++Tryz.f6.resultTypes.toList).any (Tryz.prog.wideKeysFrom ·))=true:=by kernel_rfl
theorem aQQ:Tryz.prog.stopsHeard=true:=by kernel_rfl
theorem aQR:Tryz.prog.mayEnter=true:=by kernel_rfl
theorem aQS:(Rows.watchPairsRow.lifted==Tryz.prog.liftsFinal)=true:=by kernel_rfl
theorem aQT:(Tryz.prog.make==some Rows.watchPairsRow.make)=true:=by kernel_rfl
set_option maxRecDepth 100000 in
theorem Vv:joinedFacts Tryz.prog 6 Tryz.f6 Rows.watchPairsSpec Rows.watchPairsRow=true:=by unfold joinedFacts;exact(tQ (tQ (tQ (tQ (tQ (tQ (tQ (tQ (tQ (tQ (tQ (tQ (tQ (tQ (tQ (tQ (tQ (tQ (tQ (tQ (tQ (tQ (tQ (tQ (tQ (tQ (tQ (tQ (tQ (tQ (tQ (by kernel_rfl) laid) aTm) (by kernel_rfl)) (by kernel_rfl)) (by kernel_rfl)) (by kernel_rfl)) (by kernel_rfl)) (by kernel_rfl)) aQI) aQJ) aQK) aQL) aQM) aQN) (by kernel_rfl)) aQO) aQP) (by kernel_rfl)) (by kernel_rfl)) (by kernel_rfl)) (by kernel_rfl)) (by kernel_rfl)) (by kernel_rfl)) aQQ) aQR) aQS) aQT) (by kernel_rfl)) (by kernel_rfl)) (by kernel_rfl)) (by kernel_rfl))
theorem aN8:Rows.watchPairsRow.holds Tryz.pinned (OpenSpec.ofChange Rows.watchPairsSpec):=
 OpenClaim.holds_of_wide 6 Tryz.f6 rfl rfl rfl rfl rfl rfl rfl ⟨rfl,rfl,rfl,rfl,rfl⟩ rfl rfl rfl rfl rfl (by kernel_rfl) Tryz.func6 Vv
  (of_decide_eq_true (by kernel_rfl)) (by unfold Func.isWrapper;first | (rw[if_pos (by decide+kernel)];kernel_rfl) | (rw[if_neg (by decide+kernel)];exact⟨rfl,rfl⟩))
  (fun os started H enc _=>lifted os started H enc)
theorem proved:Rows.WatchPairsSaid:=aN8
end Go.Proofs.YtodfaneojnkngaaGreat.watchPairs
