/-
  BatchPlans: true of every input, and the input reads behind the call as it read before.
-/
import Derived.Test.YtlpebgkekjfhaaaGreatS24x5
import Derived.Test.YtlpebgkekjfhaaaGreatRows
import Derived.WalkKit
import Derived.ProofKit
set_option linter.unusedVariables false
set_option linter.unusedSimpArgs false
namespace Go.Proofs.YtlpebgkekjfhaaaGreat.batchPlans
open Go.ChangeShapes Go.WideShapes Go.ChangeAt Go.RowKit Go.Ab
set_option linter.unusedVariables false
theorem own:ownKnob Tryz.prog.godebug=none:=by kernel_rfl
theorem laid:laidOutB Tryz.prog=true:=by kernel_rfl
theorem Ji{l:List Int}(h:∀x∈l,E2 (.int .u8) x):Bytes l:=fun x hx=>by
 have h:(Lit.int .u8 x).wf=true:=h x hx
 have h:0≤x∧x≤255:=by simpa[Lit.wf,IntKind.min,IntKind.max,IntKind.signed,IntKind.bits]using h
 exact⟨h.1,by omega⟩
theorem N6{x:Int}(h:E2 (.int .i64) x): -9223372036854775808≤x∧x≤9223372036854775807:=by
 have h:(Lit.int .i64 x).wf=true:=h
 simpa[Lit.wf,IntKind.min,IntKind.max,IntKind.signed,IntKind.bits]using h
theorem GC{x:Int}(h:E2 (.int .u64) x):lH x:=by
 have h:(Lit.int .u64 x).wf=true:=h
 have h:0≤x∧x≤18446744073709551615:=by simpa[Lit.wf,IntKind.min,IntKind.max,IntKind.signed,IntKind.bits]using h
 exact⟨h.1,by omega⟩
theorem Oa{l:Lk}(h:E2 (.pair (.slice (.pair (.slice (.int .u64)) (.pair (.int .i64) (.pair (.int .i64) (.pair (.int .u64) .unit))))) .unit) l):Ml l:=fun b hb=>⟨fun x hx=>GC ((h.1.2 b hb).1.2 x hx),GC (h.1.2 b hb).2.2.2.1⟩
theorem Nj{x:db}(h:E2 (.pair (.pair (.arr 32 (.int .u8)) (.pair (.int .i64) .unit)) (.pair (.pair (.int .i64) (.pair (.pair (.slice (.pair (.slice (.int .u64)) (.pair (.int .i64) (.pair (.int .i64) (.pair (.int .u64) .unit))))) .unit) .unit)) (.pair (.int .i64) (.pair (.int .u64) (.pair (.int .i64) (.pair (.int .i64) .unit)))))) x):QE x:=⟨⟨⟨h.1.1.1,Ji h.1.1.2⟩,GC h.2.2.2.1⟩,Oa h.2.1.2.1,(N6 h.2.2.2.2.2.1).2⟩
set_option maxRecDepth 100000 in
theorem lifted(os:Os)(started:os.Started)(H:Type)(enc:TypeId×Value→H):
  ReturnsInHanded {} Tryz.checked os 9 .any (Rows.batchPlansSpec.pre6 enc Tryz.prog Tryz.f9 Rows.batchPlansRow.domain false) (Rows.batchPlansSpec.post enc Tryz.prog Tryz.f9 false true false false):=by
 refine returnsInHanded_of_change (C:=Tryz.checked) own started (by kernel_rfl) Tryz.func9
  (ChangeSpec.witness6 (enc:=enc) (C:=Tryz.checked) false ⟨#[],#[.slice none 0 0,.int .i64 0,.agg #[.int .i64 0,.int .i64 0,.int .i64 0],.int .i64 0],[]⟩ 24 (by kernel_rfl) (by kernel_rfl) (by kernel_rfl) (by kernel_rfl)) ?_
 intro W base args ds gs before pN hW _ _
 exact H7 14 [.slice (.pair (.pair (.arr 32 (.int .u8)) (.pair (.int .i64) .unit)) (.pair (.pair (.int .i64) (.pair (.pair (.slice (.pair (.slice (.int .u64)) (.pair (.int .i64) (.pair (.int .i64) (.pair (.int .u64) .unit))))) .unit) .unit)) (.pair (.int .i64) (.pair (.int .u64) (.pair (.int .i64) (.pair (.int .i64) .unit)))))),.int .i64,.pair (.int .i64) (.pair (.int .i64) (.pair (.int .i64) .unit)),.int .i64] (aT.sg.h.1 (by rfl)) Tryz.func9 (by kernel_rfl) (by kernel_rfl) laid (by kernel_rfl) (by kernel_rfl) rfl (by kernel_rfl:Tryz.f9.resultTypes= #[4]) Tryz.underlying4
  (fun | [_,_,_,_],_=>rfl) (fun x hx=>⟨true,aT.run (d:=(x.1,x.2.1,x.2.2.1,x.2.2.2.1)) (fun y hy=>Nj (hx.1.2 y hy)),rfl⟩) pN hW
theorem lS{a b:Bool}(h:a=true)(h2:b=true):(a && b)=true:=by rw[h,h2];rfl
theorem Pj:mapsRowed Tryz.prog=true:=by kernel_rfl
theorem No:(Rows.batchPlansRow.inPlace==Tryz.prog.inPlace 9)=true:=by kernel_rfl
theorem Np:(Rows.batchPlansRow.unfollowed==Tryz.prog.unfollowed 9)=true:=by kernel_rfl
theorem Nq:(Rows.batchPlansRow.recurses==Tryz.prog.recurses 9)=true:=by kernel_rfl
theorem Nr:(Rows.batchPlansRow.named==Tryz.prog.varsNamed 9)=true:=by kernel_rfl
theorem Ns:(Rows.batchPlansRow.maps==(Tryz.f9.params.toList++Rows.batchPlansSpec.plain.varTypes Tryz.prog).any (Tryz.prog.mapsRec ·))=true:=by kernel_rfl
theorem Nt:(Rows.batchPlansRow.ifaces==(Tryz.f9.params.toList++Rows.batchPlansSpec.plain.varTypes Tryz.prog).any (Tryz.prog.ifacesRec ·))=true:=by kernel_rfl
theorem Nu:(Rows.batchPlansRow.loops==(Tryz.f9.params.toList++Rows.batchPlansSpec.plain.varTypes Tryz.prog).any (Tryz.prog.loopsFrom ·))=true:=by kernel_rfl
theorem Nv:(Rows.batchPlansRow.wideKeys==(Tryz.f9.params.toList++Rows.batchPlansSpec.plain.varTypes Tryz.prog++Tryz.f9.resultTypes.toList).any (Tryz.prog.wideKeysFrom ·))=true:=by kernel_rfl
theorem Nw:Tryz.prog.stopsHeard=true:=by kernel_rfl
theorem Nx:Tryz.prog.mayEnter=true:=by kernel_rfl
theorem Ny:(Rows.batchPlansRow.lifted==Tryz.prog.liftsFinal)=true:=by kernel_rfl
theorem Nz:(Tryz.prog.make==some Rows.batchPlansRow.make)=true:=by kernel_rfl
set_option maxRecDepth 100000 in
theorem xf:joinedFacts Tryz.prog 9 Tryz.f9 Rows.batchPlansSpec Rows.batchPlansRow=true:=by
 unfold joinedFacts
 exact(lS (lS (lS (lS (lS (lS (lS (lS (lS (lS (lS (lS (lS (lS (lS (lS (lS (lS (lS (lS (lS (lS (lS (lS (lS (lS (lS (lS (lS (lS (lS (by kernel_rfl) laid) Pj) (by kernel_rfl)) (by kernel_rfl)) (by kernel_rfl)) (by kernel_rfl)) (by kernel_rfl)) (by kernel_rfl)) No) Np) Nq) Nr) Ns) Nt) (by kernel_rfl)) Nu) Nv) (by kernel_rfl)) (by kernel_rfl)) (by kernel_rfl)) (by kernel_rfl)) (by kernel_rfl)) (by kernel_rfl)) Nw) Nx) Ny) Nz) (by kernel_rfl)) (by kernel_rfl)) (by kernel_rfl)) (by kernel_rfl))
theorem LQ:Rows.batchPlansRow.holds Tryz.pinned (OpenSpec.ofChange Rows.batchPlansSpec):=
 OpenClaim.holds_of_wide 9 Tryz.f9 rfl rfl rfl rfl rfl rfl rfl ⟨rfl,rfl,rfl,rfl,rfl⟩ rfl rfl rfl rfl rfl (by kernel_rfl) Tryz.func9 xf
  (of_decide_eq_true (by kernel_rfl)) (by unfold Func.isWrapper;first | (rw[if_pos (by decide+kernel)];kernel_rfl) | (rw[if_neg (by decide+kernel)];exact⟨rfl,rfl⟩))
  (fun os started H enc _=>lifted os started H enc)
theorem proved:Rows.BatchPlansSaid:=LQ
end Go.Proofs.YtlpebgkekjfhaaaGreat.batchPlans
