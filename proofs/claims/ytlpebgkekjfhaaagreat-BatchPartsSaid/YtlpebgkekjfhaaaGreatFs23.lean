/-
  BatchParts: true of every input, and the input reads behind the call as it read before.
-/
import Derived.Test.YtlpebgkekjfhaaaGreatS23x5
import Derived.Test.YtlpebgkekjfhaaaGreatRows
import Derived.WalkKit
import Derived.ProofKit
set_option linter.unusedVariables false
set_option linter.unusedSimpArgs false
namespace Go.Proofs.YtlpebgkekjfhaaaGreat.batchParts
open Go.ChangeShapes Go.WideShapes Go.ChangeAt Go.RowKit Go.Ab
set_option linter.unusedVariables false
theorem own:ownKnob Tryz.prog.godebug=none:=by kernel_rfl
theorem laid:laidOutB Tryz.prog=true:=by kernel_rfl
theorem Iz{l:List Int}(h:∀x∈l,Ev (.int .u8) x):Bytes l:=fun x hx=>by
 have h:(Lit.int .u8 x).wf=true:=h x hx
 have h:0≤x∧x≤255:=by simpa[Lit.wf,IntKind.min,IntKind.max,IntKind.signed,IntKind.bits]using h
 exact⟨h.1,by omega⟩
theorem Ng{x:Int}(h:Ev (.int .i64) x): -9223372036854775808≤x∧x≤9223372036854775807:=by
 have h:(Lit.int .i64 x).wf=true:=h
 simpa[Lit.wf,IntKind.min,IntKind.max,IntKind.signed,IntKind.bits]using h
theorem F2{x:Int}(h:Ev (.int .u64) x):kX x:=by
 have h:(Lit.int .u64 x).wf=true:=h
 have h:0≤x∧x≤18446744073709551615:=by simpa[Lit.wf,IntKind.min,IntKind.max,IntKind.signed,IntKind.bits]using h
 exact⟨h.1,by omega⟩
theorem Ni{l:Lk}(h:Ev (.pair (.slice (.pair (.slice (.int .u64)) (.pair (.int .i64) (.pair (.int .i64) (.pair (.int .u64) .unit))))) .unit) l):Li l:=fun b hb=>⟨fun x hx=>F2 ((h.1.2 b hb).1.2 x hx),F2 (h.1.2 b hb).2.2.2.1⟩
theorem Mq{x:dh}(h:Ev (.pair (.pair (.arr 32 (.int .u8)) (.pair (.int .i64) .unit)) (.pair (.pair (.int .i64) (.pair (.pair (.slice (.pair (.slice (.int .u64)) (.pair (.int .i64) (.pair (.int .i64) (.pair (.int .u64) .unit))))) .unit) .unit)) (.pair (.int .i64) (.pair (.int .u64) (.pair (.int .i64) (.pair (.int .i64) .unit)))))) x):PM x:=⟨⟨⟨h.1.1.1,Iz h.1.1.2⟩,F2 h.2.2.2.1⟩,Ni h.2.1.2.1,(Ng h.2.2.2.2.2.1).2⟩
set_option maxRecDepth 100000 in
theorem lifted(os:Os)(started:os.Started)(H:Type)(enc:TypeId×Value→H):
  ReturnsInHanded {} Tryz.checked os 11 .any (Rows.batchPartsSpec.pre6 enc Tryz.prog Tryz.f11 Rows.batchPartsRow.domain false) (Rows.batchPartsSpec.post enc Tryz.prog Tryz.f11 false true false false):=by
 refine returnsInHanded_of_change (C:=Tryz.checked) own started (by kernel_rfl) Tryz.func11
  (ChangeSpec.witness6 (enc:=enc) (C:=Tryz.checked) false ⟨#[],#[.slice none 0 0,.int .i64 0,.agg #[.int .i64 0,.int .i64 0,.int .i64 0],.int .i64 0],[]⟩ 24 (by kernel_rfl) (by kernel_rfl) (by kernel_rfl) (by kernel_rfl)) ?_
 intro W base args ds gs before o7 hW _ _
 exact Hw 14 [.slice (.pair (.pair (.arr 32 (.int .u8)) (.pair (.int .i64) .unit)) (.pair (.pair (.int .i64) (.pair (.pair (.slice (.pair (.slice (.int .u64)) (.pair (.int .i64) (.pair (.int .i64) (.pair (.int .u64) .unit))))) .unit) .unit)) (.pair (.int .i64) (.pair (.int .u64) (.pair (.int .i64) (.pair (.int .i64) .unit)))))),.int .i64,.pair (.int .i64) (.pair (.int .i64) (.pair (.int .i64) .unit)),.int .i64] (ae.sg.h.1 (by rfl)) Tryz.func11 (by kernel_rfl) (by kernel_rfl) laid (by kernel_rfl) (by kernel_rfl) rfl (by kernel_rfl:Tryz.f11.resultTypes= #[4]) Tryz.underlying4
  (fun | [_,_,_,_],_=>rfl) (fun x hx=>⟨true,ae.run (d:=(x.1,x.2.1,x.2.2.1,x.2.2.2.1)) (fun y hy=>Mq (hx.1.2 y hy)),rfl⟩) o7 hW
theorem lk{a b:Bool}(h:a=true)(h2:b=true):(a && b)=true:=by rw[h,h2];rfl
theorem Ou:mapsRowed Tryz.prog=true:=by kernel_rfl
theorem Mu:(Rows.batchPartsRow.inPlace==Tryz.prog.inPlace 11)=true:=by kernel_rfl
theorem Mv:(Rows.batchPartsRow.unfollowed==Tryz.prog.unfollowed 11)=true:=by kernel_rfl
theorem Mw:(Rows.batchPartsRow.recurses==Tryz.prog.recurses 11)=true:=by kernel_rfl
theorem Mx:(Rows.batchPartsRow.named==Tryz.prog.varsNamed 11)=true:=by kernel_rfl
theorem My:(Rows.batchPartsRow.maps==(Tryz.f11.params.toList++Rows.batchPartsSpec.plain.varTypes Tryz.prog).any (Tryz.prog.mapsRec ·))=true:=by kernel_rfl
theorem Mz:(Rows.batchPartsRow.ifaces==(Tryz.f11.params.toList++Rows.batchPartsSpec.plain.varTypes Tryz.prog).any (Tryz.prog.ifacesRec ·))=true:=by kernel_rfl
theorem MA:(Rows.batchPartsRow.loops==(Tryz.f11.params.toList++Rows.batchPartsSpec.plain.varTypes Tryz.prog).any (Tryz.prog.loopsFrom ·))=true:=by kernel_rfl
theorem MB:(Rows.batchPartsRow.wideKeys==(Tryz.f11.params.toList++Rows.batchPartsSpec.plain.varTypes Tryz.prog++Tryz.f11.resultTypes.toList).any (Tryz.prog.wideKeysFrom ·))=true:=by kernel_rfl
theorem MC:Tryz.prog.stopsHeard=true:=by kernel_rfl
theorem MD:Tryz.prog.mayEnter=true:=by kernel_rfl
theorem ME:(Rows.batchPartsRow.lifted==Tryz.prog.liftsFinal)=true:=by kernel_rfl
theorem MF:(Tryz.prog.make==some Rows.batchPartsRow.make)=true:=by kernel_rfl
set_option maxRecDepth 100000 in
theorem wo:joinedFacts Tryz.prog 11 Tryz.f11 Rows.batchPartsSpec Rows.batchPartsRow=true:=by
 unfold joinedFacts
 exact(lk (lk (lk (lk (lk (lk (lk (lk (lk (lk (lk (lk (lk (lk (lk (lk (lk (lk (lk (lk (lk (lk (lk (lk (lk (lk (lk (lk (lk (lk (lk (by kernel_rfl) laid) Ou) (by kernel_rfl)) (by kernel_rfl)) (by kernel_rfl)) (by kernel_rfl)) (by kernel_rfl)) (by kernel_rfl)) Mu) Mv) Mw) Mx) My) Mz) (by kernel_rfl)) MA) MB) (by kernel_rfl)) (by kernel_rfl)) (by kernel_rfl)) (by kernel_rfl)) (by kernel_rfl)) (by kernel_rfl)) MC) MD) ME) MF) (by kernel_rfl)) (by kernel_rfl)) (by kernel_rfl)) (by kernel_rfl))
theorem KR:Rows.batchPartsRow.holds Tryz.pinned (OpenSpec.ofChange Rows.batchPartsSpec):=
 OpenClaim.holds_of_wide 11 Tryz.f11 rfl rfl rfl rfl rfl rfl rfl ⟨rfl,rfl,rfl,rfl,rfl⟩ rfl rfl rfl rfl rfl (by kernel_rfl) Tryz.func11 wo
  (of_decide_eq_true (by kernel_rfl)) (by unfold Func.isWrapper;first | (rw[if_pos (by decide+kernel)];kernel_rfl) | (rw[if_neg (by decide+kernel)];exact⟨rfl,rfl⟩))
  (fun os started H enc _=>lifted os started H enc)
theorem proved:Rows.BatchPartsSaid:=KR
end Go.Proofs.YtlpebgkekjfhaaaGreat.batchParts
