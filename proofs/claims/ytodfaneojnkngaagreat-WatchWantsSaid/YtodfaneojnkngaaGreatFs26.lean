/-
  WatchWants: true of every input, and the input reads behind the call as it read before.
-/
import Derived.Test.YtodfaneojnkngaaGreatS26x6
import Derived.Test.YtodfaneojnkngaaGreatRows
import Derived.WalkKit
import Derived.ProofKit
set_option linter.unusedVariables false
set_option linter.unusedSimpArgs false
namespace Go.Proofs.YtodfaneojnkngaaGreat.watchWants
open Go.ChangeShapes Go.WideShapes Go.ChangeAt Go.RowKit Go.Ab
set_option linter.unusedVariables false
theorem own:ownKnob Tryz.prog.godebug=none:=by kernel_rfl
theorem laid:laidOutB Tryz.prog=true:=by kernel_rfl
theorem aBH{l:List Int}(h:∀x∈l,avo (.int .u8) x):Bytes l:=fun x hx=>by
 have h:(Lit.int .u8 x).wf=true:=h x hx;have h:0≤x∧x≤255:=by simpa[Lit.wf,IntKind.min,IntKind.max,IntKind.signed,IntKind.bits]using h
 exact⟨h.1,by omega⟩
theorem aN4{o:bu}(h:avo (.pair (.arr 32 (.int .u8)) (.pair (.int .i64) .unit)) o):Jo o:=⟨h.1.1,aBH h.1.2⟩
set_option maxRecDepth 100000 in
theorem lifted(os:Os)(started:os.Started)(H:Type)(enc:TypeId×Value→H):
  ReturnsInHanded {} Tryz.checked os 7 .any (Rows.watchWantsSpec.pre6 enc Tryz.prog Tryz.f7 Rows.watchWantsRow.domain false) (Rows.watchWantsSpec.post enc Tryz.prog Tryz.f7 false true false false):=by
 refine returnsInHanded_of_change (C:=Tryz.checked) own started (by kernel_rfl) Tryz.func7
  (ChangeSpec.witness6 (enc:=enc) (C:=Tryz.checked) false ⟨#[],#[.slice none 0 0,.slice none 0 0],[]⟩ 24 (by kernel_rfl) (by kernel_rfl) (by kernel_rfl) (by kernel_rfl)) ?_
 intro W base args ds gs before Aw hW _ _
 exact axy 14 [.slice (.pair (.arr 32 (.int .u8)) (.pair (.int .i64) .unit)),.slice (.pair (.arr 32 (.int .u8)) (.pair (.int .i64) .unit))] (atb.h.1 (by rfl)) Tryz.func7 (by kernel_rfl) (by kernel_rfl) laid (by kernel_rfl) (by kernel_rfl) rfl (by kernel_rfl:Tryz.f7.resultTypes= #[4]) Tryz.underlying4
  (fun | [_,_],_=>rfl) (fun x hx=>⟨true,aoI (d:=(x.1,x.2.1)) (fun o ho=>aN4 (hx.1.2 o ho)),rfl⟩) Aw hW
theorem rR{a b:Bool}(h:a=true)(h2:b=true):(a && b)=true:=by rw[h,h2];rfl
theorem aPy:mapsRowed Tryz.prog=true:=by kernel_rfl
theorem aMV:(Rows.watchWantsRow.inPlace==Tryz.prog.inPlace 7)=true:=by kernel_rfl
theorem aMW:(Rows.watchWantsRow.unfollowed==Tryz.prog.unfollowed 7)=true:=by kernel_rfl
theorem aMX:(Rows.watchWantsRow.recurses==Tryz.prog.recurses 7)=true:=by kernel_rfl
theorem aMY:(Rows.watchWantsRow.named==Tryz.prog.varsNamed 7)=true:=by kernel_rfl
theorem aMZ:(Rows.watchWantsRow.maps==(Tryz.f7.params.toList++Rows.watchWantsSpec.plain.varTypes Tryz.prog).any (Tryz.prog.mapsRec ·))=true:=by kernel_rfl
theorem aM0:(Rows.watchWantsRow.ifaces==(Tryz.f7.params.toList++Rows.watchWantsSpec.plain.varTypes Tryz.prog).any (Tryz.prog.ifacesRec ·))=true:=by kernel_rfl
theorem aM1:(Rows.watchWantsRow.loops==(Tryz.f7.params.toList++Rows.watchWantsSpec.plain.varTypes Tryz.prog).any (Tryz.prog.loopsFrom ·))=true:=by kernel_rfl
theorem aM2:(Rows.watchWantsRow.wideKeys==(Tryz.f7.params.toList++Rows.watchWantsSpec.plain.varTypes Tryz.prog++Tryz.f7.resultTypes.toList).any (Tryz.prog.wideKeysFrom ·))=true:=by kernel_rfl
theorem aM3:Tryz.prog.stopsHeard=true:=by kernel_rfl
theorem aM4:Tryz.prog.mayEnter=true:=by kernel_rfl
theorem aM5:(Rows.watchWantsRow.lifted==Tryz.prog.liftsFinal)=true:=by kernel_rfl
theorem aM6:(Tryz.prog.make==some Rows.watchWantsRow.make)=true:=by kernel_rfl
set_option maxRecDepth 100000 in
theorem Sw:joinedFacts Tryz.prog 7 Tryz.f7 Rows.watchWantsSpec Rows.watchWantsRow=true:=by unfold joinedFacts;exact(rR (rR (rR (rR (rR (rR (rR (rR (rR (rR (rR (rR (rR (rR (rR (rR (rR (rR (rR (rR (rR (rR (rR (rR (rR (rR (rR (rR (rR (rR (rR (by kernel_rfl) laid) aPy) (by kernel_rfl)) (by kernel_rfl)) (by kernel_rfl)) (by kernel_rfl)) (by kernel_rfl)) (by kernel_rfl)) aMV) aMW) aMX) aMY) aMZ) aM0) (by kernel_rfl)) aM1) aM2) (by kernel_rfl)) (by kernel_rfl)) (by kernel_rfl)) (by kernel_rfl)) (by kernel_rfl)) (by kernel_rfl)) aM3) aM4) aM5) aM6) (by kernel_rfl)) (by kernel_rfl)) (by kernel_rfl)) (by kernel_rfl))
theorem aKn:Rows.watchWantsRow.holds Tryz.pinned (OpenSpec.ofChange Rows.watchWantsSpec):=
 OpenClaim.holds_of_wide 7 Tryz.f7 rfl rfl rfl rfl rfl rfl rfl ⟨rfl,rfl,rfl,rfl,rfl⟩ rfl rfl rfl rfl rfl (by kernel_rfl) Tryz.func7 Sw
  (of_decide_eq_true (by kernel_rfl)) (by unfold Func.isWrapper;first | (rw[if_pos (by decide+kernel)];kernel_rfl) | (rw[if_neg (by decide+kernel)];exact⟨rfl,rfl⟩))
  (fun os started H enc _=>lifted os started H enc)
theorem proved:Rows.WatchWantsSaid:=aKn
end Go.Proofs.YtodfaneojnkngaaGreat.watchWants
