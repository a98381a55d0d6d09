/-
  BlockTwo: true of every input, and the input reads behind the call as it read before.
-/
import Derived.Test.YtlfkbbankpbinaaGreatS32x6
import Derived.Test.YtlfkbbankpbinaaGreatRows
import Derived.WalkKit
import Derived.ProofKit
set_option linter.unusedVariables false
set_option linter.unusedSimpArgs false
namespace Go.Proofs.YtlfkbbankpbinaaGreat.blockTwo
open Go.ChangeShapes Go.WideShapes Go.ChangeAt Go.RowKit Go.Ab
set_option linter.unusedVariables false
theorem own:ownKnob Tryz.prog.godebug=none:=by kernel_rfl
theorem laid:laidOutB Tryz.prog=true:=by kernel_rfl
theorem asv{l:List Int}(h:∀x∈l,Xy (.int .u8) x):Bytes l:=fun x hx=>by
 have h:(Lit.int .u8 x).wf=true:=h x hx;have h:0≤x∧x≤255:=by simpa[Lit.wf,IntKind.min,IntKind.max,IntKind.signed,IntKind.bits]using h
 exact⟨h.1,by omega⟩
theorem S5{x:Int}(h:Xy (.int .i64) x): -9223372036854775808≤x∧x≤9223372036854775807:=by have h:(Lit.int .i64 x).wf=true:=h;simpa[Lit.wf,IntKind.min,IntKind.max,IntKind.signed,IntKind.bits]using h
theorem Wd{x:Int}(h:Xy (.int .u64) x):nY x:=by
 have h:(Lit.int .u64 x).wf=true:=h;have h:0≤x∧x≤18446744073709551615:=by simpa[Lit.wf,IntKind.min,IntKind.max,IntKind.signed,IntKind.bits]using h
 exact⟨h.1,by omega⟩
theorem auM{l:Lk}(h:Xy (.pair (.slice (.pair (.slice (.int .u64)) (.pair (.int .i64) (.pair (.int .i64) (.pair (.int .u64) .unit))))) .unit) l):akP l:=fun b hb=>⟨fun x hx=>Wd ((h.1.2 b hb).1.2 x hx),Wd (h.1.2 b hb).2.2.2.1⟩
theorem aA5{w:Re}(h:Xy (.pair (.int .i64) (.pair (.slice (.pair (.int .u64) (.pair (.int .u64) .unit))) (.pair (.int .u64) .unit))) w):RL w:=⟨fun s hs=>⟨Wd (h.2.1.2 s hs).1,Wd (h.2.1.2 s hs).2.1⟩,Wd h.2.2.1⟩
theorem aDq{l:Lk}(h:Xy (.pair (.slice (.pair (.slice (.int .u64)) (.pair (.int .i64) (.pair (.int .i64) (.pair (.int .u64) .unit))))) .unit) l):aB7 l:=⟨auM h,h.1.1⟩
theorem aD6{t:dS}(h:Xy (.pair (.slice (.pair (.pair (.arr 32 (.int .u8)) (.pair (.int .i64) .unit)) (.pair (.pair (.int .i64) (.pair (.slice (.pair (.int .u64) (.pair (.int .u64) .unit))) (.pair (.int .u64) .unit))) .unit))) (.pair (.slice (.pair (.int .i64) (.pair (.pair (.slice (.pair (.slice (.int .u64)) (.pair (.int .i64) (.pair (.int .i64) (.pair (.int .u64) .unit))))) .unit) .unit))) (.pair (.int .i64) .unit))) t):vW t:=⟨⟨fun o ho=>aDq (h.2.1.2 o ho).2.1,h.1.1,h.2.1.1⟩,fun x hx=>⟨⟨(h.1.2 x hx).1.1.1,asv (h.1.2 x hx).1.1.2⟩,aA5 (h.1.2 x hx).2.1,(h.1.2 x hx).2.1.2.1.1⟩,(S5 h.2.2.1).2⟩
theorem azY{o:lM}(h:Xy (.pair (.int .i64) (.pair (.pair (.slice (.pair (.slice (.int .u64)) (.pair (.int .i64) (.pair (.int .i64) (.pair (.int .u64) .unit))))) .unit) .unit)) o):acL o:=⟨auM h.2.1,h.2.1.1.1,(S5 h.1).2⟩
theorem ayj{b:pX}(h:Xy (.pair (.int .i64) (.pair (.arr 32 (.int .u8)) (.pair (.slice (.pair (.slice (.pair (.pair (.arr 32 (.int .u8)) (.pair (.int .i64) .unit)) (.pair (.pair (.int .i64) (.pair (.slice (.pair (.int .u64) (.pair (.int .u64) .unit))) (.pair (.int .u64) .unit))) .unit))) (.pair (.slice (.pair (.int .i64) (.pair (.pair (.slice (.pair (.slice (.int .u64)) (.pair (.int .i64) (.pair (.int .i64) (.pair (.int .u64) .unit))))) .unit) .unit))) (.pair (.int .i64) .unit)))) (.pair (.int .i64) (.pair (.slice (.pair (.arr 32 (.int .u8)) (.pair (.int .i64) .unit))) .unit))))) b):arE b:=⟨fun t ht=>aD6 (h.2.2.1.2 t ht),⟨(S5 h.1).2,h.2.1.1,(S5 h.2.2.2.1).2⟩,fun o ho=>⟨(h.2.2.2.2.1.2 o ho).1.1,(S5 (h.2.2.2.2.1.2 o ho).2.1).2⟩⟩
set_option maxRecDepth 100000 in
theorem lifted(os:Os)(started:os.Started)(H:Type)(enc:TypeId×Value→H):
  ReturnsInHanded {} Tryz.checked os 4 .any (Rows.blockTwoSpec.pre6 enc Tryz.prog Tryz.f4 Rows.blockTwoRow.domain false) (Rows.blockTwoSpec.post enc Tryz.prog Tryz.f4 false true false false):=by
 refine returnsInHanded_of_change (C:=Tryz.checked) own started (by kernel_rfl) Tryz.func4
  (ChangeSpec.witness6 (enc:=enc) (C:=Tryz.checked) false ⟨#[],#[.slice none 0 0,.agg (#[.int .i64 0]++Array.replicate 32 (.int .u8 0)++ #[.slice none 0 0,.int .i64 0,.slice none 0 0]),.int .i64 0],[]⟩ 24 (by kernel_rfl) (by kernel_rfl) (by kernel_rfl) (by kernel_rfl)) ?_
 intro W base args ds gs before zd hW _ _
 exact ao2 14 [.slice (.pair (.int .i64) (.pair (.pair (.slice (.pair (.slice (.int .u64)) (.pair (.int .i64) (.pair (.int .i64) (.pair (.int .u64) .unit))))) .unit) .unit)),.pair (.int .i64) (.pair (.arr 32 (.int .u8)) (.pair (.slice (.pair (.slice (.pair (.pair (.arr 32 (.int .u8)) (.pair (.int .i64) .unit)) (.pair (.pair (.int .i64) (.pair (.slice (.pair (.int .u64) (.pair (.int .u64) .unit))) (.pair (.int .u64) .unit))) .unit))) (.pair (.slice (.pair (.int .i64) (.pair (.pair (.slice (.pair (.slice (.int .u64)) (.pair (.int .i64) (.pair (.int .i64) (.pair (.int .u64) .unit))))) .unit) .unit))) (.pair (.int .i64) .unit)))) (.pair (.int .i64) (.pair (.slice (.pair (.arr 32 (.int .u8)) (.pair (.int .i64) .unit))) .unit)))),.int .i64] (anI.h.1 (by rfl)) Tryz.func4 (by kernel_rfl) (by kernel_rfl) laid (by kernel_rfl) (by kernel_rfl) rfl (by kernel_rfl:Tryz.f4.resultTypes= #[4]) Tryz.underlying4
  (fun | [_,_,_],_=>rfl) (fun x hx=>⟨true,ahP (d:=(x.1,x.2.1,x.2.2.1)) ⟨fun o ho=>azY (hx.1.2 o ho),ayj hx.2.1⟩,rfl⟩) zd hW
theorem qY{a b:Bool}(h:a=true)(h2:b=true):(a && b)=true:=by rw[h,h2];rfl
theorem aE3:mapsRowed Tryz.prog=true:=by kernel_rfl
theorem aCz:(Rows.blockTwoRow.inPlace==Tryz.prog.inPlace 4)=true:=by kernel_rfl
theorem aCA:(Rows.blockTwoRow.unfollowed==Tryz.prog.unfollowed 4)=true:=by kernel_rfl
theorem aCB:(Rows.blockTwoRow.recurses==Tryz.prog.recurses 4)=true:=by kernel_rfl
theorem aCC:(Rows.blockTwoRow.named==Tryz.prog.varsNamed 4)=true:=by kernel_rfl
theorem aCD:(Rows.blockTwoRow.maps==(Tryz.f4.params.toList++Rows.blockTwoSpec.plain.varTypes Tryz.prog).any (Tryz.prog.mapsRec ·))=true:=by kernel_rfl
theorem aCE:(Rows.blockTwoRow.ifaces==(Tryz.f4.params.toList++Rows.blockTwoSpec.plain.varTypes Tryz.prog).any (Tryz.prog.ifacesRec ·))=true:=by kernel_rfl
theorem aCF:(Rows.blockTwoRow.loops==(Tryz.f4.params.toList++Rows.blockTwoSpec.plain.varTypes Tryz.prog).any (Tryz.prog.loopsFrom ·))=true:=by kernel_rfl
theorem aCG:(Rows.blockTwoRow.wideKeys==(Tryz.f4.params.toList++Rows.blockTwoSpec.plain.varTypes Tryz.prog++Tryz.f4.resultTypes.toList).any (Tryz.prog.wideKeysFrom ·))=true:=by kernel_rfl
theorem aCH:Tryz.prog.stopsHeard=true:=by kernel_rfl
theorem aCI:Tryz.prog.mayEnter=true:=by kernel_rfl
theorem aCJ:(Rows.blockTwoRow.lifted==Tryz.prog.liftsFinal)=true:=by kernel_rfl
theorem aCK:(Tryz.prog.make==some Rows.blockTwoRow.make)=true:=by kernel_rfl
set_option maxRecDepth 100000 in
theorem NQ:joinedFacts Tryz.prog 4 Tryz.f4 Rows.blockTwoSpec Rows.blockTwoRow=true:=by unfold joinedFacts;exact(qY (qY (qY (qY (qY (qY (qY (qY (qY (qY (qY (qY (qY (qY (qY (qY (qY (qY (qY (qY (qY (qY (qY (qY (qY (qY (qY (qY (qY (qY (qY (by kernel_rfl) laid) aE3) (by kernel_rfl)) (by kernel_rfl)) (by kernel_rfl)) (by kernel_rfl)) (by kernel_rfl)) (by kernel_rfl)) aCz) aCA) aCB) aCC) aCD) aCE) (by kernel_rfl)) aCF) aCG) (by kernel_rfl)) (by kernel_rfl)) (by kernel_rfl)) (by kernel_rfl)) (by kernel_rfl)) (by kernel_rfl)) aCH) aCI) aCJ) aCK) (by kernel_rfl)) (by kernel_rfl)) (by kernel_rfl)) (by kernel_rfl))
theorem az1:Rows.blockTwoRow.holds Tryz.pinned (OpenSpec.ofChange Rows.blockTwoSpec):=
 OpenClaim.holds_of_wide 4 Tryz.f4 rfl rfl rfl rfl rfl rfl rfl ⟨rfl,rfl,rfl,rfl,rfl⟩ rfl rfl rfl rfl rfl (by kernel_rfl) Tryz.func4 NQ
  (of_decide_eq_true (by kernel_rfl)) (by unfold Func.isWrapper;first | (rw[if_pos (by decide+kernel)];kernel_rfl) | (rw[if_neg (by decide+kernel)];exact⟨rfl,rfl⟩))
  (fun os started H enc _=>lifted os started H enc)
theorem proved:Rows.BlockTwoSaid:=az1
end Go.Proofs.YtlfkbbankpbinaaGreat.blockTwo
