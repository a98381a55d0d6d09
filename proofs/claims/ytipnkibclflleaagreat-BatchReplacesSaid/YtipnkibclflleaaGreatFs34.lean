/-
  BatchReplaces: true of every input, and the input reads behind the call as it read before.
-/
import Derived.Test.YtipnkibclflleaaGreatS34x6
import Derived.Test.YtipnkibclflleaaGreatRows
import Derived.WalkKit
import Derived.ProofKit
set_option linter.unusedVariables false
set_option linter.unusedSimpArgs false
namespace Go.Proofs.YtipnkibclflleaaGreat.batchReplaces
open Go.ChangeShapes Go.WideShapes Go.ChangeAt Go.RowKit Go.Ab
set_option linter.unusedVariables false
theorem own:ownKnob Tryz.prog.godebug=none:=by kernel_rfl
theorem laid:laidOutB Tryz.prog=true:=by kernel_rfl
theorem aCp{x:Int}(h:aqP (.int .i64) x): -9223372036854775808≤x∧x≤9223372036854775807:=by have h:(Lit.int .i64 x).wf=true:=h;simpa[Lit.wf,IntKind.min,IntKind.max,IntKind.signed,IntKind.bits]using h
set_option maxRecDepth 100000 in
theorem lifted(os:Os)(started:os.Started)(H:Type)(enc:TypeId×Value→H):
  ReturnsInHanded {} Tryz.checked os 3 .any (Rows.batchReplacesSpec.pre6 enc Tryz.prog Tryz.f3 Rows.batchReplacesRow.domain false) (Rows.batchReplacesSpec.post enc Tryz.prog Tryz.f3 false true false false):=by
 refine returnsInHanded_of_change (C:=Tryz.checked) own started (by kernel_rfl) Tryz.func3
  (ChangeSpec.witness6 (enc:=enc) (C:=Tryz.checked) false ⟨#[],#[.slice none 0 0,.int .i64 0,.int .i64 0,.agg #[.int .i64 0,.int .i64 0,.int .i64 0],.slice none 0 0],[]⟩ 24 (by kernel_rfl) (by kernel_rfl) (by kernel_rfl) (by kernel_rfl)) ?_
 intro W base args ds gs before yH hW _ _
 exact aoc 14 [.slice (.int .i64),.int .i64,.int .i64,.pair (.int .i64) (.pair (.int .i64) (.pair (.int .i64) .unit)),.slice (.int .i64)] (amU.h.1 (by rfl)) Tryz.func3 (by kernel_rfl) (by kernel_rfl) laid (by kernel_rfl) (by kernel_rfl) rfl (by kernel_rfl:Tryz.f3.resultTypes= #[4]) Tryz.underlying4
  (fun | [_,_,_,_,_],_=>rfl) (fun x hx=>⟨true,ag7 (d:=(x.1,x.2.1,x.2.2.1,x.2.2.2.1,x.2.2.2.2.1)) (aCp hx.2.1).2,rfl⟩) yH hW
theorem qw{a b:Bool}(h:a=true)(h2:b=true):(a && b)=true:=by rw[h,h2];rfl
theorem aEc:mapsRowed Tryz.prog=true:=by kernel_rfl
theorem aBy:(Rows.batchReplacesRow.inPlace==Tryz.prog.inPlace 3)=true:=by kernel_rfl
theorem aBz:(Rows.batchReplacesRow.unfollowed==Tryz.prog.unfollowed 3)=true:=by kernel_rfl
theorem aBA:(Rows.batchReplacesRow.recurses==Tryz.prog.recurses 3)=true:=by kernel_rfl
theorem aBB:(Rows.batchReplacesRow.named==Tryz.prog.varsNamed 3)=true:=by kernel_rfl
theorem aBC:(Rows.batchReplacesRow.maps==(Tryz.f3.params.toList++Rows.batchReplacesSpec.plain.varTypes Tryz.prog).any (Tryz.prog.mapsRec ·))=true:=by kernel_rfl
theorem aBD:(Rows.batchReplacesRow.ifaces==(Tryz.f3.params.toList++Rows.batchReplacesSpec.plain.varTypes Tryz.prog).any (Tryz.prog.ifacesRec ·))=true:=by kernel_rfl
theorem aBE:(Rows.batchReplacesRow.loops==(Tryz.f3.params.toList++Rows.batchReplacesSpec.plain.varTypes Tryz.prog).any (Tryz.prog.loopsFrom ·))=true:=by kernel_rfl
theorem aBF:(Rows.batchReplacesRow.wideKeys==(Tryz.f3.params.toList++Rows.batchReplacesSpec.plain.varTypes Tryz.prog++Tryz.f3.resultTypes.toList).any (Tryz.prog.wideKeysFrom ·))=true:=by kernel_rfl
theorem aBG:Tryz.prog.stopsHeard=true:=by kernel_rfl
theorem aBH:Tryz.prog.mayEnter=true:=by kernel_rfl
theorem aBI:(Rows.batchReplacesRow.lifted==Tryz.prog.liftsFinal)=true:=by kernel_rfl
theorem aBJ:(Tryz.prog.make==some Rows.batchReplacesRow.make)=true:=by kernel_rfl
set_option maxRecDepth 100000 in
theorem MY:joinedFacts Tryz.prog 3 Tryz.f3 Rows.batchReplacesSpec Rows.batchReplacesRow=true:=by unfold joinedFacts;exact(qw (qw (qw (qw (qw (qw (qw (qw (qw (qw (qw (qw (qw (qw (qw (qw (qw (qw (qw (qw (qw (qw (qw (qw (qw (qw (qw (qw (qw (qw (qw (by kernel_rfl) laid) aEc) (by kernel_rfl)) (by kernel_rfl)) (by kernel_rfl)) (by kernel_rfl)) (by kernel_rfl)) (by kernel_rfl)) aBy) aBz) aBA) aBB) aBC) aBD) (by kernel_rfl)) aBE) aBF) (by kernel_rfl)) (by kernel_rfl)) (by kernel_rfl)) (by kernel_rfl)) (by kernel_rfl)) (by kernel_rfl)) aBG) aBH) aBI) aBJ) (by kernel_rfl)) (by kernel_rfl)) (by kernel_rfl)) (by kernel_rfl))
theorem ay3:Rows.batchReplacesRow.holds Tryz.pinned (OpenSpec.ofChange Rows.batchReplacesSpec):=
 OpenClaim.holds_of_wide 3 Tryz.f3 rfl rfl rfl rfl rfl rfl rfl ⟨rfl,rfl,rfl,rfl,rfl⟩ rfl rfl rfl rfl rfl (by kernel_rfl) Tryz.func3 MY
  (of_decide_eq_true (by kernel_rfl)) (by unfold Func.isWrapper;first | (rw[if_pos (by decide+kernel)];kernel_rfl) | (rw[if_neg (by decide+kernel)];exact⟨rfl,rfl⟩))
  (fun os started H enc _=>lifted os started H enc)
theorem proved:Rows.BatchReplacesSaid:=ay3
end Go.Proofs.YtipnkibclflleaaGreat.batchReplaces
