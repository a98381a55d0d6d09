/-
  BatchRises: true of every input, and the input reads behind the call as it read before.
-/
import Derived.Test.YtlpebgkekjfhaaaGreatS22x5
import Derived.Test.YtlpebgkekjfhaaaGreatRows
import Derived.WalkKit
import Derived.ProofKit
set_option linter.unusedVariables false
set_option linter.unusedSimpArgs false
namespace Go.Proofs.YtlpebgkekjfhaaaGreat.batchRises
open Go.ChangeShapes Go.WideShapes Go.ChangeAt Go.RowKit Go.Ab
set_option linter.unusedVariables false
theorem own:ownKnob Tryz.prog.godebug=none:=by kernel_rfl
theorem laid:laidOutB Tryz.prog=true:=by kernel_rfl
theorem Hq{l:List Int}(h:∀x∈l,Dv (.int .u8) x):Bytes l:=fun x hx=>by
 have h:(Lit.int .u8 x).wf=true:=h x hx
 have h:0≤x∧x≤255:=by simpa[Lit.wf,IntKind.min,IntKind.max,IntKind.signed,IntKind.bits]using h
 exact⟨h.1,by omega⟩
theorem Me{x:Int}(h:Dv (.int .i64) x): -9223372036854775808≤x∧x≤9223372036854775807:=by
 have h:(Lit.int .i64 x).wf=true:=h
 simpa[Lit.wf,IntKind.min,IntKind.max,IntKind.signed,IntKind.bits]using h
theorem EV{x:Int}(h:Dv (.int .u64) x):ku x:=by
 have h:(Lit.int .u64 x).wf=true:=h
 have h:0≤x∧x≤18446744073709551615:=by simpa[Lit.wf,IntKind.min,IntKind.max,IntKind.signed,IntKind.bits]using h
 exact⟨h.1,by omega⟩
theorem Mg{l:Lk}(h:Dv (.pair (.slice (.pair (.slice (.int .u64)) (.pair (.int .i64) (.pair (.int .i64) (.pair (.int .u64) .unit))))) .unit) l):Ke l:=fun b hb=>⟨fun x hx=>EV ((h.1.2 b hb).1.2 x hx),EV (h.1.2 b hb).2.2.2.1⟩
theorem Lg{x:eh}(h:Dv (.pair (.pair (.arr 32 (.int .u8)) (.pair (.int .i64) .unit)) (.pair (.pair (.int .i64) (.pair (.pair (.slice (.pair (.slice (.int .u64)) (.pair (.int .i64) (.pair (.int .i64) (.pair (.int .u64) .unit))))) .unit) .unit)) (.pair (.int .i64) (.pair (.int .u64) (.pair (.int .i64) (.pair (.int .i64) .unit)))))) x):OE x:=⟨⟨⟨h.1.1.1,Hq h.1.1.2⟩,EV h.2.2.2.1⟩,Mg h.2.1.2.1,(Me h.2.2.2.2.2.1).2⟩
set_option maxRecDepth 100000 in
theorem lifted(os:Os)(started:os.Started)(H:Type)(enc:TypeId×Value→H):
  ReturnsInHanded {} Tryz.checked os 12 .any (Rows.batchRisesSpec.pre6 enc Tryz.prog Tryz.f12 Rows.batchRisesRow.domain false) (Rows.batchRisesSpec.post enc Tryz.prog Tryz.f12 false true false false):=by
 refine returnsInHanded_of_change (C:=Tryz.checked) own started (by kernel_rfl) Tryz.func12
  (ChangeSpec.witness6 (enc:=enc) (C:=Tryz.checked) false ⟨#[],#[.slice none 0 0,.int .i64 0,.agg #[.int .i64 0,.int .i64 0,.int .i64 0],.int .i64 0,.int .i64 0,.int .i64 0],[]⟩ 24 (by kernel_rfl) (by kernel_rfl) (by kernel_rfl) (by kernel_rfl)) ?_
 intro W base args ds gs before oo hW _ _
 exact Gp 14 [.slice (.pair (.pair (.arr 32 (.int .u8)) (.pair (.int .i64) .unit)) (.pair (.pair (.int .i64) (.pair (.pair (.slice (.pair (.slice (.int .u64)) (.pair (.int .i64) (.pair (.int .i64) (.pair (.int .u64) .unit))))) .unit) .unit)) (.pair (.int .i64) (.pair (.int .u64) (.pair (.int .i64) (.pair (.int .i64) .unit)))))),.int .i64,.pair (.int .i64) (.pair (.int .i64) (.pair (.int .i64) .unit)),.int .i64,.int .i64,.int .i64] (aG.sg.h.1 (by rfl)) Tryz.func12 (by kernel_rfl) (by kernel_rfl) laid (by kernel_rfl) (by kernel_rfl) rfl (by kernel_rfl:Tryz.f12.resultTypes= #[4]) Tryz.underlying4
  (fun | [_,_,_,_,_,_],_=>rfl) (fun x hx=>⟨true,aG.run (d:=(x.1,x.2.1,x.2.2.1,x.2.2.2.1,x.2.2.2.2.1,x.2.2.2.2.2.1)) (fun y hy=>Lg (hx.1.2 y hy)),rfl⟩) oo hW
theorem kG{a b:Bool}(h:a=true)(h2:b=true):(a && b)=true:=by rw[h,h2];rfl
theorem Nh:mapsRowed Tryz.prog=true:=by kernel_rfl
theorem Ll:(Rows.batchRisesRow.inPlace==Tryz.prog.inPlace 12)=true:=by kernel_rfl
theorem Lm:(Rows.batchRisesRow.unfollowed==Tryz.prog.unfollowed 12)=true:=by kernel_rfl
theorem Ln:(Rows.batchRisesRow.recurses==Tryz.prog.recurses 12)=true:=by kernel_rfl
theorem Lo:(Rows.batchRisesRow.named==Tryz.prog.varsNamed 12)=true:=by kernel_rfl
theorem Lp:(Rows.batchRisesRow.maps==(Tryz.f12.params.toList++Rows.batchRisesSpec.plain.varTypes Tryz.prog).any (Tryz.prog.mapsRec ·))=true:=by kernel_rfl
theorem Lq:(Rows.batchRisesRow.ifaces==(Tryz.f12.params.toList++Rows.batchRisesSpec.plain.varTypes Tryz.prog).any (Tryz.prog.ifacesRec ·))=true:=by kernel_rfl
theorem Lr:(Rows.batchRisesRow.loops==(Tryz.f12.params.toList++Rows.batchRisesSpec.plain.varTypes Tryz.prog).any (Tryz.prog.loopsFrom ·))=true:=by kernel_rfl
theorem Lt:(Rows.batchRisesRow.wideKeys==(Tryz.f12.params.toList++Rows.batchRisesSpec.plain.varTypes Tryz.prog++Tryz.f12.resultTypes.toList).any (Tryz.prog.wideKeysFrom ·))=true:=by kernel_rfl
theorem Lu:Tryz.prog.stopsHeard=true:=by kernel_rfl
theorem Lv:Tryz.prog.mayEnter=true:=by kernel_rfl
theorem Lw:(Rows.batchRisesRow.lifted==Tryz.prog.liftsFinal)=true:=by kernel_rfl
theorem Lx:(Tryz.prog.make==some Rows.batchRisesRow.make)=true:=by kernel_rfl
set_option maxRecDepth 100000 in
theorem vj:joinedFacts Tryz.prog 12 Tryz.f12 Rows.batchRisesSpec Rows.batchRisesRow=true:=by
 unfold joinedFacts
 exact(kG (kG (kG (kG (kG (kG (kG (kG (kG (kG (kG (kG (kG (kG (kG (kG (kG (kG (kG (kG (kG (kG (kG (kG (kG (kG (kG (kG (kG (kG (kG (by kernel_rfl) laid) Nh) (by kernel_rfl)) (by kernel_rfl)) (by kernel_rfl)) (by kernel_rfl)) (by kernel_rfl)) (by kernel_rfl)) Ll) Lm) Ln) Lo) Lp) Lq) (by kernel_rfl)) Lr) Lt) (by kernel_rfl)) (by kernel_rfl)) (by kernel_rfl)) (by kernel_rfl)) (by kernel_rfl)) (by kernel_rfl)) Lu) Lv) Lw) Lx) (by kernel_rfl)) (by kernel_rfl)) (by kernel_rfl)) (by kernel_rfl))
theorem JU:Rows.batchRisesRow.holds Tryz.pinned (OpenSpec.ofChange Rows.batchRisesSpec):=
 OpenClaim.holds_of_wide 12 Tryz.f12 rfl rfl rfl rfl rfl rfl rfl ⟨rfl,rfl,rfl,rfl,rfl⟩ rfl rfl rfl rfl rfl (by kernel_rfl) Tryz.func12 vj
  (of_decide_eq_true (by kernel_rfl)) (by unfold Func.isWrapper;first | (rw[if_pos (by decide+kernel)];kernel_rfl) | (rw[if_neg (by decide+kernel)];exact⟨rfl,rfl⟩))
  (fun os started H enc _=>lifted os started H enc)
theorem proved:Rows.BatchRisesSaid:=JU
end Go.Proofs.YtlpebgkekjfhaaaGreat.batchRises
