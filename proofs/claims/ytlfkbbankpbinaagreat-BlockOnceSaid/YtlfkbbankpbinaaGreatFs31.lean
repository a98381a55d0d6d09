/-
  BlockOnce: true of every input, and the input reads behind the call as it read before.
-/
import Derived.Test.YtlfkbbankpbinaaGreatS31x6
import Derived.Test.YtlfkbbankpbinaaGreatRows
import Derived.WalkKit
import Derived.ProofKit
set_option linter.unusedVariables false
set_option linter.unusedSimpArgs false
namespace Go.Proofs.YtlfkbbankpbinaaGreat.blockOnce
open Go.ChangeShapes Go.WideShapes Go.ChangeAt Go.RowKit Go.Ab
set_option linter.unusedVariables false
theorem own:ownKnob Tryz.prog.godebug=none:=by kernel_rfl
theorem laid:laidOutB Tryz.prog=true:=by kernel_rfl
theorem atn{l:List Int}(h:∀x∈l,Yo (.int .u8) x):Bytes l:=fun x hx=>by
 have h:(Lit.int .u8 x).wf=true:=h x hx;have h:0≤x∧x≤255:=by simpa[Lit.wf,IntKind.min,IntKind.max,IntKind.signed,IntKind.bits]using h
 exact⟨h.1,by omega⟩
theorem TT{x:Int}(h:Yo (.int .i64) x): -9223372036854775808≤x∧x≤9223372036854775807:=by have h:(Lit.int .i64 x).wf=true:=h;simpa[Lit.wf,IntKind.min,IntKind.max,IntKind.signed,IntKind.bits]using h
theorem WZ{x:Int}(h:Yo (.int .u64) x):ou x:=by
 have h:(Lit.int .u64 x).wf=true:=h;have h:0≤x∧x≤18446744073709551615:=by simpa[Lit.wf,IntKind.min,IntKind.max,IntKind.signed,IntKind.bits]using h
 exact⟨h.1,by omega⟩
theorem avF{l:Lk}(h:Yo (.pair (.slice (.pair (.slice (.int .u64)) (.pair (.int .i64) (.pair (.int .i64) (.pair (.int .u64) .unit))))) .unit) l):alF l:=fun b hb=>⟨fun x hx=>WZ ((h.1.2 b hb).1.2 x hx),WZ (h.1.2 b hb).2.2.2.1⟩
theorem aB0{w:RT}(h:Yo (.pair (.int .i64) (.pair (.slice (.pair (.int .u64) (.pair (.int .u64) .unit))) (.pair (.int .u64) .unit))) w):Su w:=⟨fun s hs=>⟨WZ (h.2.1.2 s hs).1,WZ (h.2.1.2 s hs).2.1⟩,WZ h.2.2.1⟩
theorem aEq{l:Lk}(h:Yo (.pair (.slice (.pair (.slice (.int .u64)) (.pair (.int .i64) (.pair (.int .i64) (.pair (.int .u64) .unit))))) .unit) l):aC5 l:=⟨avF h,h.1.1⟩
theorem aE5{t:dM}(h:Yo (.pair (.slice (.pair (.pair (.arr 32 (.int .u8)) (.pair (.int .i64) .unit)) (.pair (.pair (.int .i64) (.pair (.slice (.pair (.int .u64) (.pair (.int .u64) .unit))) (.pair (.int .u64) .unit))) .unit))) (.pair (.slice (.pair (.int .i64) (.pair (.pair (.slice (.pair (.slice (.int .u64)) (.pair (.int .i64) (.pair (.int .i64) (.pair (.int .u64) .unit))))) .unit) .unit))) (.pair (.int .i64) .unit))) t):wX t:=⟨⟨fun o ho=>aEq (h.2.1.2 o ho).2.1,h.1.1,h.2.1.1⟩,fun x hx=>⟨⟨(h.1.2 x hx).1.1.1,atn (h.1.2 x hx).1.1.2⟩,aB0 (h.1.2 x hx).2.1,(h.1.2 x hx).2.1.2.1.1⟩,(TT h.2.2.1).2⟩
theorem aAU{o:lT}(h:Yo (.pair (.int .i64) (.pair (.pair (.slice (.pair (.slice (.int .u64)) (.pair (.int .i64) (.pair (.int .i64) (.pair (.int .u64) .unit))))) .unit) .unit)) o):adE o:=⟨avF h.2.1,h.2.1.1.1,(TT h.1).2⟩
theorem azf{b:qq}(h:Yo (.pair (.int .i64) (.pair (.arr 32 (.int .u8)) (.pair (.slice (.pair (.slice (.pair (.pair (.arr 32 (.int .u8)) (.pair (.int .i64) .unit)) (.pair (.pair (.int .i64) (.pair (.slice (.pair (.int .u64) (.pair (.int .u64) .unit))) (.pair (.int .u64) .unit))) .unit))) (.pair (.slice (.pair (.int .i64) (.pair (.pair (.slice (.pair (.slice (.int .u64)) (.pair (.int .i64) (.pair (.int .i64) (.pair (.int .u64) .unit))))) .unit) .unit))) (.pair (.int .i64) .unit)))) (.pair (.int .i64) (.pair (.slice (.pair (.arr 32 (.int .u8)) (.pair (.int .i64) .unit))) .unit))))) b):asx b:=⟨fun t ht=>aE5 (h.2.2.1.2 t ht),⟨(TT h.1).2,h.2.1.1,(TT h.2.2.2.1).2⟩,fun o ho=>⟨(h.2.2.2.2.1.2 o ho).1.1,(TT (h.2.2.2.2.1.2 o ho).2.1).2⟩⟩
set_option maxRecDepth 100000 in
theorem lifted(os:Os)(started:os.Started)(H:Type)(enc:TypeId×Value→H):
  ReturnsInHanded {} Tryz.checked os 3 .any (Rows.blockOnceSpec.pre6 enc Tryz.prog Tryz.f3 Rows.blockOnceRow.domain false) (Rows.blockOnceSpec.post enc Tryz.prog Tryz.f3 false true false false):=by
 refine returnsInHanded_of_change (C:=Tryz.checked) own started (by kernel_rfl) Tryz.func3
  (ChangeSpec.witness6 (enc:=enc) (C:=Tryz.checked) false ⟨#[],#[.slice none 0 0,.agg (#[.int .i64 0]++Array.replicate 32 (.int .u8 0)++ #[.slice none 0 0,.int .i64 0,.slice none 0 0]),.int .i64 0],[]⟩ 24 (by kernel_rfl) (by kernel_rfl) (by kernel_rfl) (by kernel_rfl)) ?_
 intro W base args ds gs before zx hW _ _
 exact apQ 14 [.slice (.pair (.int .i64) (.pair (.pair (.slice (.pair (.slice (.int .u64)) (.pair (.int .i64) (.pair (.int .i64) (.pair (.int .u64) .unit))))) .unit) .unit)),.pair (.int .i64) (.pair (.arr 32 (.int .u8)) (.pair (.slice (.pair (.slice (.pair (.pair (.arr 32 (.int .u8)) (.pair (.int .i64) .unit)) (.pair (.pair (.int .i64) (.pair (.slice (.pair (.int .u64) (.pair (.int .u64) .unit))) (.pair (.int .u64) .unit))) .unit))) (.pair (.slice (.pair (.int .i64) (.pair (.pair (.slice (.pair (.slice (.int .u64)) (.pair (.int .i64) (.pair (.int .i64) (.pair (.int .u64) .unit))))) .unit) .unit))) (.pair (.int .i64) .unit)))) (.pair (.int .i64) (.pair (.slice (.pair (.arr 32 (.int .u8)) (.pair (.int .i64) .unit))) .unit)))),.int .i64] (aiF.h.1 (by rfl)) Tryz.func3 (by kernel_rfl) (by kernel_rfl) laid (by kernel_rfl) (by kernel_rfl) rfl (by kernel_rfl:Tryz.f3.resultTypes= #[4]) Tryz.underlying4
  (fun | [_,_,_],_=>rfl) (fun x hx=>⟨true,aeh (d:=(x.1,x.2.1,x.2.2.1)) ⟨fun o ho=>aAU (hx.1.2 o ho),azf hx.2.1⟩,rfl⟩) zx hW
theorem rv{a b:Bool}(h:a=true)(h2:b=true):(a && b)=true:=by rw[h,h2];rfl
theorem aFX:mapsRowed Tryz.prog=true:=by kernel_rfl
theorem aDA:(Rows.blockOnceRow.inPlace==Tryz.prog.inPlace 3)=true:=by kernel_rfl
theorem aDB:(Rows.blockOnceRow.unfollowed==Tryz.prog.unfollowed 3)=true:=by kernel_rfl
theorem aDC:(Rows.blockOnceRow.recurses==Tryz.prog.recurses 3)=true:=by kernel_rfl
theorem aDD:(Rows.blockOnceRow.named==Tryz.prog.varsNamed 3)=true:=by kernel_rfl
theorem aDE:(Rows.blockOnceRow.maps==(Tryz.f3.params.toList++Rows.blockOnceSpec.plain.varTypes Tryz.prog).any (Tryz.prog.mapsRec ·))=true:=by kernel_rfl
theorem aDF:(Rows.blockOnceRow.ifaces==(Tryz.f3.params.toList++Rows.blockOnceSpec.plain.varTypes Tryz.prog).any (Tryz.prog.ifacesRec ·))=true:=by kernel_rfl
theorem aDG:(Rows.blockOnceRow.loops==(Tryz.f3.params.toList++Rows.blockOnceSpec.plain.varTypes Tryz.prog).any (Tryz.prog.loopsFrom ·))=true:=by kernel_rfl
theorem aDH:(Rows.blockOnceRow.wideKeys==(Tryz.f3.params.toList++Rows.blockOnceSpec.plain.varTypes Tryz.prog++Tryz.f3.resultTypes.toList).any (Tryz.prog.wideKeysFrom ·))=true:=by kernel_rfl
theorem aDI:Tryz.prog.stopsHeard=true:=by kernel_rfl
theorem aDJ:Tryz.prog.mayEnter=true:=by kernel_rfl
theorem aDK:(Rows.blockOnceRow.lifted==Tryz.prog.liftsFinal)=true:=by kernel_rfl
theorem aDL:(Tryz.prog.make==some Rows.blockOnceRow.make)=true:=by kernel_rfl
set_option maxRecDepth 100000 in
theorem Ou:joinedFacts Tryz.prog 3 Tryz.f3 Rows.blockOnceSpec Rows.blockOnceRow=true:=by unfold joinedFacts;exact(rv (rv (rv (rv (rv (rv (rv (rv (rv (rv (rv (rv (rv (rv (rv (rv (rv (rv (rv (rv (rv (rv (rv (rv (rv (rv (rv (rv (rv (rv (rv (by kernel_rfl) laid) aFX) (by kernel_rfl)) (by kernel_rfl)) (by kernel_rfl)) (by kernel_rfl)) (by kernel_rfl)) (by kernel_rfl)) aDA) aDB) aDC) aDD) aDE) aDF) (by kernel_rfl)) aDG) aDH) (by kernel_rfl)) (by kernel_rfl)) (by kernel_rfl)) (by kernel_rfl)) (by kernel_rfl)) (by kernel_rfl)) aDI) aDJ) aDK) aDL) (by kernel_rfl)) (by kernel_rfl)) (by kernel_rfl)) (by kernel_rfl))
theorem aAX:Rows.blockOnceRow.holds Tryz.pinned (OpenSpec.ofChange Rows.blockOnceSpec):=
 OpenClaim.holds_of_wide 3 Tryz.f3 rfl rfl rfl rfl rfl rfl rfl ⟨rfl,rfl,rfl,rfl,rfl⟩ rfl rfl rfl rfl rfl (by kernel_rfl) Tryz.func3 Ou
  (of_decide_eq_true (by kernel_rfl)) (by unfold Func.isWrapper;first | (rw[if_pos (by decide+kernel)];kernel_rfl) | (rw[if_neg (by decide+kernel)];exact⟨rfl,rfl⟩))
  (fun os started H enc _=>lifted os started H enc)
theorem proved:Rows.BlockOnceSaid:=aAX
end Go.Proofs.YtlfkbbankpbinaaGreat.blockOnce
