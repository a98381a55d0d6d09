/-
  TxNames: true of every input, and the input reads behind the call as it read before.
-/
import Derived.Test.YtglpcfdjdabdnaaGreatS11x5
import Derived.Test.YtglpcfdjdabdnaaGreatRows
import Derived.WalkKit
import Derived.ProofKit
set_option linter.unusedVariables false
set_option linter.unusedSimpArgs false
namespace Go.Proofs.YtglpcfdjdabdnaaGreat.txNames
open Go.ChangeShapes Go.WideShapes Go.ChangeAt Go.RowKit Go.Ab
set_option linter.unusedVariables false
theorem own:ownKnob Tryz.prog.godebug=none:=by kernel_rfl
theorem laid:laidOutB Tryz.prog=true:=by kernel_rfl
theorem AN{l:List Int}(h:∀x∈l,vu (.int .u8) x):Bytes l:=fun x hx=>by
 have h:(Lit.int .u8 x).wf=true:=h x hx
 have h:0≤x∧x≤255:=by simpa[Lit.wf,IntKind.min,IntKind.max,IntKind.signed,IntKind.bits]using h
 exact⟨h.1,by omega⟩
theorem Dg{x:Int}(h:vu (.int .i64) x): -9223372036854775808≤x∧x≤9223372036854775807:=by
 have h:(Lit.int .i64 x).wf=true:=h
 simpa[Lit.wf,IntKind.min,IntKind.max,IntKind.signed,IntKind.bits]using h
theorem sU{x:Int}(h:vu (.int .u64) x):ik x:=by
 have h:(Lit.int .u64 x).wf=true:=h
 have h:0≤x∧x≤18446744073709551615:=by simpa[Lit.wf,IntKind.min,IntKind.max,IntKind.signed,IntKind.bits]using h
 exact⟨h.1,by omega⟩
theorem Dk{l:Lk}(h:vu (.pair (.slice (.pair (.slice (.int .u64)) (.pair (.int .i64) (.pair (.int .i64) (.pair (.int .u64) .unit))))) .unit) l):yB l:=fun b hb=>⟨fun x hx=>sU ((h.1.2 b hb).1.2 x hx),sU (h.1.2 b hb).2.2.2.1⟩
theorem vo{w:j6}(h:vu (.pair (.int .i64) (.pair (.slice (.pair (.int .u64) (.pair (.int .u64) .unit))) (.pair (.int .u64) .unit))) w):oo w:=⟨fun s hs=>⟨sU (h.2.1.2 s hs).1,sU (h.2.1.2 s hs).2.1⟩,sU h.2.2.1⟩
theorem DE{t:eD}(h:vu (.pair (.slice (.pair (.pair (.arr 32 (.int .u8)) (.pair (.int .i64) .unit)) (.pair (.pair (.int .i64) (.pair (.slice (.pair (.int .u64) (.pair (.int .u64) .unit))) (.pair (.int .u64) .unit))) .unit))) (.pair (.slice (.pair (.int .i64) (.pair (.pair (.slice (.pair (.slice (.int .u64)) (.pair (.int .i64) (.pair (.int .i64) (.pair (.int .u64) .unit))))) .unit) .unit))) (.pair (.int .i64) .unit))) t):DR t:=⟨fun x hx=>⟨⟨(h.1.2 x hx).1.1.1,AN (h.1.2 x hx).1.1.2⟩,vo (h.1.2 x hx).2.1⟩,fun o ho=>Dk (h.2.1.2 o ho).2.1,(Dg h.2.2.1).2⟩
set_option maxRecDepth 100000 in
theorem lifted(os:Os)(started:os.Started)(H:Type)(enc:TypeId×Value→H):
  ReturnsInHanded {} Tryz.checked os 7 .any (Rows.txNamesSpec.pre6 enc Tryz.prog Tryz.f7 Rows.txNamesRow.domain false) (Rows.txNamesSpec.post enc Tryz.prog Tryz.f7 false true false false):=by
 refine returnsInHanded_of_change (C:=Tryz.checked) own started (by kernel_rfl) Tryz.func7
  (ChangeSpec.witness6 (enc:=enc) (C:=Tryz.checked) false ⟨#[],#[.agg #[.slice none 0 0,.slice none 0 0,.int .i64 0],.agg #[.int .i64 0,.slice none 0 0,.int .u64 0],.agg #[.int .i64 0,.slice none 0 0,.int .u64 0]],[]⟩ 8 (by kernel_rfl) (by kernel_rfl) (by kernel_rfl) (by kernel_rfl)) ?_
 intro W base args ds gs before hval hW _ _
 exact zS 8 [.pair (.slice (.pair (.pair (.arr 32 (.int .u8)) (.pair (.int .i64) .unit)) (.pair (.pair (.int .i64) (.pair (.slice (.pair (.int .u64) (.pair (.int .u64) .unit))) (.pair (.int .u64) .unit))) .unit))) (.pair (.slice (.pair (.int .i64) (.pair (.pair (.slice (.pair (.slice (.int .u64)) (.pair (.int .i64) (.pair (.int .i64) (.pair (.int .u64) .unit))))) .unit) .unit))) (.pair (.int .i64) .unit)),.pair (.int .i64) (.pair (.slice (.pair (.int .u64) (.pair (.int .u64) .unit))) (.pair (.int .u64) .unit)),.pair (.int .i64) (.pair (.slice (.pair (.int .u64) (.pair (.int .u64) .unit))) (.pair (.int .u64) .unit))] ag.sg.h Tryz.func7 (by kernel_rfl) (by kernel_rfl) laid (by kernel_rfl) (by kernel_rfl) rfl (by kernel_rfl:Tryz.f7.resultTypes= #[4]) Tryz.underlying4
  (fun | [_,_,_],_=>rfl) (fun x hx=>⟨true,ag.run (d:=(x.1,x.2.1,x.2.2.1)) ⟨DE hx.1,vo hx.2.1,vo hx.2.2.1⟩,rfl⟩) hval hW
theorem EL:Rows.txNamesRow.holds Tryz.pinned (OpenSpec.ofChange Rows.txNamesSpec):=
 OpenClaim.holds_of_wide 7 Tryz.f7 rfl rfl rfl rfl rfl rfl rfl ⟨rfl,rfl,rfl,rfl,rfl⟩ rfl rfl rfl rfl rfl (by kernel_rfl) Tryz.func7 (by kernel_rfl)
  (of_decide_eq_true (by kernel_rfl)) (by unfold Func.isWrapper;first | (rw[if_pos (by decide+kernel)];kernel_rfl) | (rw[if_neg (by decide+kernel)];exact⟨rfl,rfl⟩))
  (fun os started H enc _=>lifted os started H enc)
theorem proved:Rows.TxNamesSaid:=EL
end Go.Proofs.YtglpcfdjdabdnaaGreat.txNames
