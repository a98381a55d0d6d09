/-
  ChainWaits: true of every input, and the input reads behind the call as it read before.
-/
import Derived.Test.YtlpebgkekjfhaaaGreatS21x6
import Derived.Test.YtlpebgkekjfhaaaGreatRows
import Derived.WalkKit
import Derived.ProofKit
set_option linter.unusedVariables false
set_option linter.unusedSimpArgs false
namespace Go.Proofs.YtlpebgkekjfhaaaGreat.chainWaits
open Go.ChangeShapes Go.WideShapes Go.ChangeAt Go.RowKit Go.Ab
set_option linter.unusedVariables false
theorem own:ownKnob Tryz.prog.godebug=none:=by kernel_rfl
theorem laid:laidOutB Tryz.prog=true:=by kernel_rfl
theorem Sb{x:Int}(h:J7 (.int .u64) x):mq x:=by
 have h:(Lit.int .u64 x).wf=true:=h
 have h:0≤x∧x≤18446744073709551615:=by simpa[Lit.wf,IntKind.min,IntKind.max,IntKind.signed,IntKind.bits]using h
 exact⟨h.1,by omega⟩
theorem Qr{x:Int}(h:J7 (.int .u8) x):0≤x∧x < 256:=by
 have h:(Lit.int .u8 x).wf=true:=h
 have h:0≤x∧x≤255:=by simpa[Lit.wf,IntKind.min,IntKind.max,IntKind.signed,IntKind.bits]using h
 exact⟨h.1,by omega⟩
set_option maxRecDepth 100000 in
theorem lifted(os:Os)(started:os.Started)(H:Type)(enc:TypeId×Value→H):
  ReturnsInHanded {} Tryz.checked os 3 .any (Rows.chainWaitsSpec.pre6 enc Tryz.prog Tryz.f3 Rows.chainWaitsRow.domain false) (Rows.chainWaitsSpec.post enc Tryz.prog Tryz.f3 false true false false):=by
 refine returnsInHanded_of_change (C:=Tryz.checked) own started (by kernel_rfl) Tryz.func3
  (ChangeSpec.witness6 (enc:=enc) (C:=Tryz.checked) false ⟨#[],#[.int .u64 0,.int .u8 0,.int .u8 0],[]⟩ 8 (by kernel_rfl) (by kernel_rfl) (by kernel_rfl) (by kernel_rfl)) ?_
 intro W base args ds gs before ri hW _ _
 exact KQ 14 [.int .u64,.int .u8,.int .u8] (aU.sg.h.1 (by rfl)) Tryz.func3 (by kernel_rfl) (by kernel_rfl) laid (by kernel_rfl) (by kernel_rfl) rfl (by kernel_rfl:Tryz.f3.resultTypes= #[4]) Tryz.underlying4
  (fun | [_,_,_],_=>rfl) (fun x hx=>⟨true,aU.run (d:=(x.1,x.2.1,x.2.2.1)) ⟨Sb hx.1,Qr hx.2.1,Qr hx.2.2.1⟩,rfl⟩) ri hW
theorem nv{a b:Bool}(h:a=true)(h2:b=true):(a && b)=true:=by rw[h,h2];rfl
theorem Tj:mapsRowed Tryz.prog=true:=by kernel_rfl
theorem QS:(Rows.chainWaitsRow.inPlace==Tryz.prog.inPlace 3)=true:=by kernel_rfl
theorem QT:(Rows.chainWaitsRow.unfollowed==Tryz.prog.unfollowed 3)=true:=by kernel_rfl
theorem QU:(Rows.chainWaitsRow.recurses==Tryz.prog.recurses 3)=true:=by kernel_rfl
theorem QV:(Rows.chainWaitsRow.named==Tryz.prog.varsNamed 3)=true:=by kernel_rfl
theorem QW:(Rows.chainWaitsRow.maps==(Tryz.f3.params.toList++Rows.chainWaitsSpec.plain.varTypes Tryz.prog).any (Tryz.prog.mapsRec ·))=true:=by kernel_rfl
theorem QX:(Rows.chainWaitsRow.ifaces==(Tryz.f3.params.toList++Rows.chainWaitsSpec.plain.varTypes Tryz.prog).any (Tryz.prog.ifacesRec ·))=true:=by kernel_rfl
theorem QY:(Rows.chainWaitsRow.loops==(Tryz.f3.params.toList++Rows.chainWaitsSpec.plain.varTypes Tryz.prog).any (Tryz.prog.loopsFrom ·))=true:=by kernel_rfl
theorem QZ:(Rows.chainWaitsRow.wideKeys==(Tryz.f3.params.toList++Rows.chainWaitsSpec.plain.varTypes Tryz.prog++Tryz.f3.resultTypes.toList).any (Tryz.prog.wideKeysFrom ·))=true:=by kernel_rfl
theorem Q0:Tryz.prog.stopsHeard=true:=by kernel_rfl
theorem Q1:Tryz.prog.mayEnter=true:=by kernel_rfl
theorem Q2:(Rows.chainWaitsRow.lifted==Tryz.prog.liftsFinal)=true:=by kernel_rfl
theorem Q3:(Tryz.prog.make==some Rows.chainWaitsRow.make)=true:=by kernel_rfl
set_option maxRecDepth 100000 in
theorem yO:joinedFacts Tryz.prog 3 Tryz.f3 Rows.chainWaitsSpec Rows.chainWaitsRow=true:=by
 unfold joinedFacts
 exact(nv (nv (nv (nv (nv (nv (nv (nv (nv (nv (nv (nv (nv (nv (nv (nv (nv (nv (nv (nv (nv (nv (nv (nv (nv (nv (nv (nv (nv (nv (nv (by kernel_rfl) laid) Tj) (by kernel_rfl)) (by kernel_rfl)) (by kernel_rfl)) (by kernel_rfl)) (by kernel_rfl)) (by kernel_rfl)) QS) QT) QU) QV) QW) QX) (by kernel_rfl)) QY) QZ) (by kernel_rfl)) (by kernel_rfl)) (by kernel_rfl)) (by kernel_rfl)) (by kernel_rfl)) (by kernel_rfl)) Q0) Q1) Q2) Q3) (by kernel_rfl)) (by kernel_rfl)) (by kernel_rfl)) (by kernel_rfl))
theorem Pk:Rows.chainWaitsRow.holds Tryz.pinned (OpenSpec.ofChange Rows.chainWaitsSpec):=
 OpenClaim.holds_of_wide 3 Tryz.f3 rfl rfl rfl rfl rfl rfl rfl ⟨rfl,rfl,rfl,rfl,rfl⟩ rfl rfl rfl rfl rfl (by kernel_rfl) Tryz.func3 yO
  (of_decide_eq_true (by kernel_rfl)) (by unfold Func.isWrapper;first | (rw[if_pos (by decide+kernel)];kernel_rfl) | (rw[if_neg (by decide+kernel)];exact⟨rfl,rfl⟩))
  (fun os started H enc _=>lifted os started H enc)
theorem proved:Rows.ChainWaitsSaid:=Pk
end Go.Proofs.YtlpebgkekjfhaaaGreat.chainWaits
