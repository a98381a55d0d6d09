/-
  TxTells: true of every input, and the input reads behind the call as it read before.
-/
import Derived.Test.YtomcjgkejmaocaaGreatS36x6
import Derived.Test.YtomcjgkejmaocaaGreatRows
import Derived.WalkKit
import Derived.ProofKit
set_option linter.unusedVariables false
set_option linter.unusedSimpArgs false
namespace Go.Proofs.YtomcjgkejmaocaaGreat.txTells
open Go.ChangeShapes Go.WideShapes Go.ChangeAt Go.RowKit Go.Ab
set_option linter.unusedVariables false
theorem own:ownKnob Tryz.prog.godebug=none:=by kernel_rfl
theorem laid:laidOutB Tryz.prog=true:=by kernel_rfl
theorem af6{l:List Int}(h:∀x∈l,afG (.int .u8) x):Bytes l:=fun x hx=>by
 have h:(Lit.int .u8 x).wf=true:=h x hx;have h:0≤x∧x≤255:=by simpa[Lit.wf,IntKind.min,IntKind.max,IntKind.signed,IntKind.bits]using h
 exact⟨h.1,by omega⟩
theorem aCJ{x:Int}(h:afG (.int .i64) x): -9223372036854775808≤x∧x≤9223372036854775807:=by have h:(Lit.int .i64 x).wf=true:=h;simpa[Lit.wf,IntKind.min,IntKind.max,IntKind.signed,IntKind.bits]using h
theorem QK{x:Int}(h:afG (.int .u64) x):iN x:=by
 have h:(Lit.int .u64 x).wf=true:=h;have h:0≤x∧x≤18446744073709551615:=by simpa[Lit.wf,IntKind.min,IntKind.max,IntKind.signed,IntKind.bits]using h
 exact⟨h.1,by omega⟩
theorem aCQ{l:Lk}(h:afG (.pair (.slice (.pair (.slice (.int .u64)) (.pair (.int .i64) (.pair (.int .i64) (.pair (.int .u64) .unit))))) .unit) l):YH l:=fun b hb=>⟨fun x hx=>QK ((h.1.2 b hb).1.2 x hx),QK (h.1.2 b hb).2.2.2.1⟩
theorem aBh{w:FB}(h:afG (.pair (.int .i64) (.pair (.slice (.pair (.int .u64) (.pair (.int .u64) .unit))) (.pair (.int .u64) .unit))) w):OU w:=⟨fun s hs=>⟨QK (h.2.1.2 s hs).1,QK (h.2.1.2 s hs).2.1⟩,QK h.2.2.1⟩
theorem ayF{t:eT}(h:afG (.pair (.slice (.pair (.pair (.arr 32 (.int .u8)) (.pair (.int .i64) .unit)) (.pair (.pair (.int .i64) (.pair (.slice (.pair (.int .u64) (.pair (.int .u64) .unit))) (.pair (.int .u64) .unit))) .unit))) (.pair (.slice (.pair (.int .i64) (.pair (.pair (.slice (.pair (.slice (.int .u64)) (.pair (.int .i64) (.pair (.int .i64) (.pair (.int .u64) .unit))))) .unit) .unit))) (.pair (.int .i64) .unit))) t):aFY t:=⟨fun x hx=>⟨⟨(h.1.2 x hx).1.1.1,af6 (h.1.2 x hx).1.1.2⟩,aBh (h.1.2 x hx).2.1⟩,fun o ho=>aCQ (h.2.1.2 o ho).2.1,(aCJ h.2.2.1).2⟩
set_option maxRecDepth 100000 in
theorem lifted(os:Os)(started:os.Started)(H:Type)(enc:TypeId×Value→H):
  ReturnsInHanded {} Tryz.checked os 3 .any (Rows.txTellsSpec.pre6 enc Tryz.prog Tryz.f3 Rows.txTellsRow.domain false) (Rows.txTellsSpec.post enc Tryz.prog Tryz.f3 false true false false):=by
 refine returnsInHanded_of_change (C:=Tryz.checked) own started (by kernel_rfl) Tryz.func3
  (ChangeSpec.witness6 (enc:=enc) (C:=Tryz.checked) false ⟨#[],#[.agg #[.slice none 0 0,.slice none 0 0,.int .i64 0],.agg #[.slice none 0 0,.slice none 0 0,.int .i64 0],.slice none 0 0,.int .i64 0,.int .i64 0,.slice none 0 0,.int .u64 0],[]⟩ 8 (by kernel_rfl) (by kernel_rfl) (by kernel_rfl) (by kernel_rfl)) ?_
 intro W base args ds gs before u9 hW _ _
 exact aqG 8 [.pair (.slice (.pair (.pair (.arr 32 (.int .u8)) (.pair (.int .i64) .unit)) (.pair (.pair (.int .i64) (.pair (.slice (.pair (.int .u64) (.pair (.int .u64) .unit))) (.pair (.int .u64) .unit))) .unit))) (.pair (.slice (.pair (.int .i64) (.pair (.pair (.slice (.pair (.slice (.int .u64)) (.pair (.int .i64) (.pair (.int .i64) (.pair (.int .u64) .unit))))) .unit) .unit))) (.pair (.int .i64) .unit)),.pair (.slice (.pair (.pair (.arr 32 (.int .u8)) (.pair (.int .i64) .unit)) (.pair (.pair (.int .i64) (.pair (.slice (.pair (.int .u64) (.pair (.int .u64) .unit))) (.pair (.int .u64) .unit))) .unit))) (.pair (.slice (.pair (.int .i64) (.pair (.pair (.slice (.pair (.slice (.int .u64)) (.pair (.int .i64) (.pair (.int .i64) (.pair (.int .u64) .unit))))) .unit) .unit))) (.pair (.int .i64) .unit)),.slice (.int .u8),.int .i64,.int .i64,.slice (.int .u64),.int .u64] (an0.h.1 (by rfl)) Tryz.func3 (by kernel_rfl) (by kernel_rfl) laid (by kernel_rfl) (by kernel_rfl) rfl (by kernel_rfl:Tryz.f3.resultTypes= #[4]) Tryz.underlying4
  (fun | [_,_,_,_,_,_,_],_=>rfl) (fun x hx=>⟨true,ajH (d:=(x.1,x.2.1,x.2.2.1,x.2.2.2.1,x.2.2.2.2.1,x.2.2.2.2.2.1,x.2.2.2.2.2.2.1)) ⟨⟨ayF hx.1,ayF hx.2.1⟩,af6 hx.2.2.1.2,fun p hp=>QK (hx.2.2.2.2.2.1.2 p hp)⟩,rfl⟩) u9 hW
theorem aAr:Rows.txTellsRow.holds Tryz.pinned (OpenSpec.ofChange Rows.txTellsSpec):=
 OpenClaim.holds_of_wide 3 Tryz.f3 rfl rfl rfl rfl rfl rfl rfl ⟨rfl,rfl,rfl,rfl,rfl⟩ rfl rfl rfl rfl rfl (by kernel_rfl) Tryz.func3 (by kernel_rfl)
  (of_decide_eq_true (by kernel_rfl)) (by unfold Func.isWrapper;first | (rw[if_pos (by decide+kernel)];kernel_rfl) | (rw[if_neg (by decide+kernel)];exact⟨rfl,rfl⟩))
  (fun os started H enc _=>lifted os started H enc)
theorem proved:Rows.TxTellsSaid:=aAr
end Go.Proofs.YtomcjgkejmaocaaGreat.txTells
