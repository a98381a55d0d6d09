/-
  BatchTells: true of every input, and the input reads behind the call as it read before.
-/
import Derived.Test.YtlpebgkekjfhaaaGreatS25x6
import Derived.Test.YtlpebgkekjfhaaaGreatRows
import Derived.WalkKit
import Derived.ProofKit
set_option linter.unusedVariables false
set_option linter.unusedSimpArgs false
namespace Go.Proofs.YtlpebgkekjfhaaaGreat.batchTells
open Go.ChangeShapes Go.WideShapes Go.ChangeAt Go.RowKit Go.Ab
set_option linter.unusedVariables false
theorem own:ownKnob Tryz.prog.godebug=none:=by kernel_rfl
theorem laid:laidOutB Tryz.prog=true:=by kernel_rfl
theorem Lo{l:List Int}(h:∀x∈l,Fi (.int .u8) x):Bytes l:=fun x hx=>by
 have h:(Lit.int .u8 x).wf=true:=h x hx
 have h:0≤x∧x≤255:=by simpa[Lit.wf,IntKind.min,IntKind.max,IntKind.signed,IntKind.bits]using h
 exact⟨h.1,by omega⟩
theorem P7{x:Int}(h:Fi (.int .i64) x): -9223372036854775808≤x∧x≤9223372036854775807:=by
 have h:(Lit.int .i64 x).wf=true:=h
 simpa[Lit.wf,IntKind.min,IntKind.max,IntKind.signed,IntKind.bits]using h
theorem E2{x:Int}(h:Fi (.int .u64) x):je x:=by
 have h:(Lit.int .u64 x).wf=true:=h
 have h:0≤x∧x≤18446744073709551615:=by simpa[Lit.wf,IntKind.min,IntKind.max,IntKind.signed,IntKind.bits]using h
 exact⟨h.1,by omega⟩
theorem Mf{l:Lk}(h:Fi (.pair (.slice (.pair (.slice (.int .u64)) (.pair (.int .i64) (.pair (.int .i64) (.pair (.int .u64) .unit))))) .unit) l):Hh l:=fun b hb=>⟨fun x hx=>E2 ((h.1.2 b hb).1.2 x hx),E2 (h.1.2 b hb).2.2.2.1⟩
theorem Pg{x:eK}(h:Fi (.pair (.pair (.arr 32 (.int .u8)) (.pair (.int .i64) .unit)) (.pair (.pair (.int .i64) (.pair (.pair (.slice (.pair (.slice (.int .u64)) (.pair (.int .i64) (.pair (.int .i64) (.pair (.int .u64) .unit))))) .unit) .unit)) (.pair (.int .i64) (.pair (.int .u64) (.pair (.int .i64) (.pair (.int .i64) .unit)))))) x):Sz x:=⟨⟨⟨h.1.1.1,Lo h.1.1.2⟩,E2 h.2.2.2.1⟩,Mf h.2.1.2.1,(P7 h.2.2.2.2.2.1).2⟩
theorem P9{l:Lk}(h:Fi (.pair (.slice (.pair (.slice (.int .u64)) (.pair (.int .i64) (.pair (.int .i64) (.pair (.int .u64) .unit))))) .unit) l):Fh l:=⟨Mf h,h.1.1⟩
set_option maxRecDepth 100000 in
theorem lifted(os:Os)(started:os.Started)(H:Type)(enc:TypeId×Value→H):
  ReturnsInHanded {} Tryz.checked os 10 .any (Rows.batchTellsSpec.pre6 enc Tryz.prog Tryz.f10 Rows.batchTellsRow.domain false) (Rows.batchTellsSpec.post enc Tryz.prog Tryz.f10 false true false false):=by
 refine returnsInHanded_of_change (C:=Tryz.checked) own started (by kernel_rfl) Tryz.func10
  (ChangeSpec.witness6 (enc:=enc) (C:=Tryz.checked) false ⟨#[],#[.slice none 0 0,.int .i64 0,.agg #[.int .i64 0,.int .i64 0,.int .i64 0],.int .i64 0,.int .i64 0,.slice none 0 0,.agg #[.slice none 0 0],.int .i64 0],[]⟩ 24 (by kernel_rfl) (by kernel_rfl) (by kernel_rfl) (by kernel_rfl)) ?_
 intro W base args ds gs before r9 hW _ _
 exact Ki 14 [.slice (.pair (.pair (.arr 32 (.int .u8)) (.pair (.int .i64) .unit)) (.pair (.pair (.int .i64) (.pair (.pair (.slice (.pair (.slice (.int .u64)) (.pair (.int .i64) (.pair (.int .i64) (.pair (.int .u64) .unit))))) .unit) .unit)) (.pair (.int .i64) (.pair (.int .u64) (.pair (.int .i64) (.pair (.int .i64) .unit)))))),.int .i64,.pair (.int .i64) (.pair (.int .i64) (.pair (.int .i64) .unit)),.int .i64,.int .i64,.slice (.int .u64),.pair (.slice (.pair (.slice (.int .u64)) (.pair (.int .i64) (.pair (.int .i64) (.pair (.int .u64) .unit))))) .unit,.int .i64] (bl.sg.h.1 (by rfl)) Tryz.func10 (by kernel_rfl) (by kernel_rfl) laid (by kernel_rfl) (by kernel_rfl) rfl (by kernel_rfl:Tryz.f10.resultTypes= #[4]) Tryz.underlying4
  (fun | [_,_,_,_,_,_,_,_],_=>rfl) (fun x hx=>⟨true,bl.run (d:=(x.1,x.2.1,x.2.2.1,x.2.2.2.1,x.2.2.2.2.1,x.2.2.2.2.2.1,x.2.2.2.2.2.2.1,x.2.2.2.2.2.2.2.1)) ⟨fun y hy=>Pg (hx.1.2 y hy),fun k hk=>E2 (hx.2.2.2.2.2.1.2 k hk),P9 hx.2.2.2.2.2.2.1⟩,rfl⟩) r9 hW
theorem nQ{a b:Bool}(h:a=true)(h2:b=true):(a && b)=true:=by rw[h,h2];rfl
theorem Ri:mapsRowed Tryz.prog=true:=by kernel_rfl
theorem Pm:(Rows.batchTellsRow.inPlace==Tryz.prog.inPlace 10)=true:=by kernel_rfl
theorem Po:(Rows.batchTellsRow.unfollowed==Tryz.prog.unfollowed 10)=true:=by kernel_rfl
theorem Pp:(Rows.batchTellsRow.recurses==Tryz.prog.recurses 10)=true:=by kernel_rfl
theorem Pq:(Rows.batchTellsRow.named==Tryz.prog.varsNamed 10)=true:=by kernel_rfl
theorem Pr:(Rows.batchTellsRow.maps==(Tryz.f10.params.toList++Rows.batchTellsSpec.plain.varTypes Tryz.prog).any (Tryz.prog.mapsRec ·))=true:=by kernel_rfl
theorem Ps:(Rows.batchTellsRow.ifaces==(Tryz.f10.params.toList++Rows.batchTellsSpec.plain.varTypes Tryz.prog).any (Tryz.prog.ifacesRec ·))=true:=by kernel_rfl
theorem Pt:(Rows.batchTellsRow.loops==(Tryz.f10.params.toList++Rows.batchTellsSpec.plain.varTypes Tryz.prog).any (Tryz.prog.loopsFrom ·))=true:=by kernel_rfl
theorem Pu:(Rows.batchTellsRow.wideKeys==(Tryz.f10.params.toList++Rows.batchTellsSpec.plain.varTypes Tryz.prog++Tryz.f10.resultTypes.toList).any (Tryz.prog.wideKeysFrom ·))=true:=by kernel_rfl
theorem Pv:Tryz.prog.stopsHeard=true:=by kernel_rfl
theorem Pw:Tryz.prog.mayEnter=true:=by kernel_rfl
theorem Px:(Rows.batchTellsRow.lifted==Tryz.prog.liftsFinal)=true:=by kernel_rfl
theorem Py:(Tryz.prog.make==some Rows.batchTellsRow.make)=true:=by kernel_rfl
set_option maxRecDepth 100000 in
theorem zd:joinedFacts Tryz.prog 10 Tryz.f10 Rows.batchTellsSpec Rows.batchTellsRow=true:=by
 unfold joinedFacts
 exact(nQ (nQ (nQ (nQ (nQ (nQ (nQ (nQ (nQ (nQ (nQ (nQ (nQ (nQ (nQ (nQ (nQ (nQ (nQ (nQ (nQ (nQ (nQ (nQ (nQ (nQ (nQ (nQ (nQ (nQ (nQ (by kernel_rfl) laid) Ri) (by kernel_rfl)) (by kernel_rfl)) (by kernel_rfl)) (by kernel_rfl)) (by kernel_rfl)) (by kernel_rfl)) Pm) Po) Pp) Pq) Pr) Ps) (by kernel_rfl)) Pt) Pu) (by kernel_rfl)) (by kernel_rfl)) (by kernel_rfl)) (by kernel_rfl)) (by kernel_rfl)) (by kernel_rfl)) Pv) Pw) Px) Py) (by kernel_rfl)) (by kernel_rfl)) (by kernel_rfl)) (by kernel_rfl))
theorem NW:Rows.batchTellsRow.holds Tryz.pinned (OpenSpec.ofChange Rows.batchTellsSpec):=
 OpenClaim.holds_of_wide 10 Tryz.f10 rfl rfl rfl rfl rfl rfl rfl ⟨rfl,rfl,rfl,rfl,rfl⟩ rfl rfl rfl rfl rfl (by kernel_rfl) Tryz.func10 zd
  (of_decide_eq_true (by kernel_rfl)) (by unfold Func.isWrapper;first | (rw[if_pos (by decide+kernel)];kernel_rfl) | (rw[if_neg (by decide+kernel)];exact⟨rfl,rfl⟩))
  (fun os started H enc _=>lifted os started H enc)
theorem proved:Rows.BatchTellsSaid:=NW
end Go.Proofs.YtlpebgkekjfhaaaGreat.batchTells
