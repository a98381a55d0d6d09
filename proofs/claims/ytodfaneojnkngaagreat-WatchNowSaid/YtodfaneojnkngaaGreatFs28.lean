/-
  WatchNow: true of every input, and the input reads behind the call as it read before.
-/
import Derived.Test.YtodfaneojnkngaaGreatS28x6
import Derived.Test.YtodfaneojnkngaaGreatRows
import Derived.WalkKit
import Derived.ProofKit
set_option linter.unusedVariables false
set_option linter.unusedSimpArgs false
namespace Go.Proofs.YtodfaneojnkngaaGreat.watchNow
open Go.ChangeShapes Go.WideShapes Go.ChangeAt Go.RowKit Go.Ab
set_option linter.unusedVariables false
theorem own:ownKnob Tryz.prog.godebug=none:=by kernel_rfl
theorem laid:laidOutB Tryz.prog=true:=by kernel_rfl
theorem al2{l:List Int}(h:∀x∈l,afh (.int .u8) x):Bytes l:=fun x hx=>by
 have h:(Lit.int .u8 x).wf=true:=h x hx;have h:0≤x∧x≤255:=by simpa[Lit.wf,IntKind.min,IntKind.max,IntKind.signed,IntKind.bits]using h
 exact⟨h.1,by omega⟩
theorem aFq{x:Int}(h:afh (.int .i64) x): -9223372036854775808≤x∧x≤9223372036854775807:=by have h:(Lit.int .i64 x).wf=true:=h;simpa[Lit.wf,IntKind.min,IntKind.max,IntKind.signed,IntKind.bits]using h
theorem adv{x:Int}(h:afh (.int .u64) x):nV x:=by
 have h:(Lit.int .u64 x).wf=true:=h;have h:0≤x∧x≤18446744073709551615:=by simpa[Lit.wf,IntKind.min,IntKind.max,IntKind.signed,IntKind.bits]using h
 exact⟨h.1,by omega⟩
theorem aFY{l:Lk}(h:afh (.pair (.slice (.pair (.slice (.int .u64)) (.pair (.int .i64) (.pair (.int .i64) (.pair (.int .u64) .unit))))) .unit) l):adK l:=fun b hb=>⟨fun x hx=>adv ((h.1.2 b hb).1.2 x hx),adv (h.1.2 b hb).2.2.2.1⟩
theorem aM3{w:UR}(h:afh (.pair (.int .i64) (.pair (.slice (.pair (.int .u64) (.pair (.int .u64) .unit))) (.pair (.int .u64) .unit))) w):Yp w:=⟨fun s hs=>⟨adv (h.2.1.2 s hs).1,adv (h.2.1.2 s hs).2.1⟩,adv h.2.2.1⟩
theorem aPq{l:Lk}(h:afh (.pair (.slice (.pair (.slice (.int .u64)) (.pair (.int .i64) (.pair (.int .i64) (.pair (.int .u64) .unit))))) .unit) l):aN3 l:=⟨aFY h,h.1.1⟩
theorem aP9{t:dw}(h:afh (.pair (.slice (.pair (.pair (.arr 32 (.int .u8)) (.pair (.int .i64) .unit)) (.pair (.pair (.int .i64) (.pair (.slice (.pair (.int .u64) (.pair (.int .u64) .unit))) (.pair (.int .u64) .unit))) .unit))) (.pair (.slice (.pair (.int .i64) (.pair (.pair (.slice (.pair (.slice (.int .u64)) (.pair (.int .i64) (.pair (.int .i64) (.pair (.int .u64) .unit))))) .unit) .unit))) (.pair (.int .i64) .unit))) t):nU t:=⟨⟨fun o ho=>aPq (h.2.1.2 o ho).2.1,h.1.1,h.2.1.1⟩,fun x hx=>⟨⟨(h.1.2 x hx).1.1.1,al2 (h.1.2 x hx).1.1.2⟩,aM3 (h.1.2 x hx).2.1,(h.1.2 x hx).2.1.2.1.1⟩,(aFq h.2.2.1).2⟩
theorem aL5{o:gm}(h:afh (.pair (.int .i64) (.pair (.pair (.slice (.pair (.slice (.int .u64)) (.pair (.int .i64) (.pair (.int .i64) (.pair (.int .u64) .unit))))) .unit) .unit)) o):aqy o:=⟨aFY h.2.1,h.2.1.1.1,(aFq h.1).2⟩
theorem aGK{o:bC}(h:afh (.pair (.arr 32 (.int .u8)) (.pair (.int .i64) .unit)) o):Lp o:=⟨h.1.1,al2 h.1.2⟩
set_option maxRecDepth 100000 in
theorem lifted(os:Os)(started:os.Started)(H:Type)(enc:TypeId×Value→H):
  ReturnsInHanded {} Tryz.checked os 5 .any (Rows.watchNowSpec.pre6 enc Tryz.prog Tryz.f5 Rows.watchNowRow.domain false) (Rows.watchNowSpec.post enc Tryz.prog Tryz.f5 false true false false):=by
 refine returnsInHanded_of_change (C:=Tryz.checked) own started (by kernel_rfl) Tryz.func5
  (ChangeSpec.witness6 (enc:=enc) (C:=Tryz.checked) false ⟨#[],#[.slice none 0 0,.slice none 0 0,.slice none 0 0],[]⟩ 24 (by kernel_rfl) (by kernel_rfl) (by kernel_rfl) (by kernel_rfl)) ?_
 intro W base args ds gs before A5 hW _ _
 exact azb 14 [.slice (.pair (.int .i64) (.pair (.pair (.slice (.pair (.slice (.int .u64)) (.pair (.int .i64) (.pair (.int .i64) (.pair (.int .u64) .unit))))) .unit) .unit)),.slice (.pair (.int .i64) (.pair (.slice (.pair (.slice (.pair (.pair (.arr 32 (.int .u8)) (.pair (.int .i64) .unit)) (.pair (.pair (.int .i64) (.pair (.slice (.pair (.int .u64) (.pair (.int .u64) .unit))) (.pair (.int .u64) .unit))) .unit))) (.pair (.slice (.pair (.int .i64) (.pair (.pair (.slice (.pair (.slice (.int .u64)) (.pair (.int .i64) (.pair (.int .i64) (.pair (.int .u64) .unit))))) .unit) .unit))) (.pair (.int .i64) .unit)))) (.pair (.int .i64) (.pair (.pair (.arr 32 (.int .u8)) (.pair (.int .i64) .unit)) .unit)))),.slice (.pair (.arr 32 (.int .u8)) (.pair (.int .i64) .unit))] (aB1.h.1 (by rfl)) Tryz.func5 (by kernel_rfl) (by kernel_rfl) laid (by kernel_rfl) (by kernel_rfl) rfl (by kernel_rfl:Tryz.f5.resultTypes= #[4]) Tryz.underlying4
  (fun | [_,_,_],_=>rfl) (fun x hx=>⟨true,auQ (d:=(x.1,x.2.1,x.2.2.1)) ⟨fun o ho=>aL5 (hx.1.2 o ho),hx.2.1.1,fun y hy=>⟨fun t ht=>aP9 ((hx.2.1.2 y hy).2.1.2 t ht),aGK (hx.2.1.2 y hy).2.2.2.1⟩,fun o ho=>aGK (hx.2.2.1.2 o ho)⟩,rfl⟩) A5 hW
theorem sQ{a b:Bool}(h:a=true)(h2:b=true):(a && b)=true:=by rw[h,h2];rfl
theorem aQ9:mapsRowed Tryz.prog=true:=by kernel_rfl
theorem aOA:(Rows.watchNowRow.inPlace==Tryz.prog.inPlace 5)=true:=by kernel_rfl
theorem aOB:(Rows.watchNowRow.unfollowed==Tryz.prog.unfollowed 5)=true:=by kernel_rfl
theorem aOC:(Rows.watchNowRow.recurses==Tryz.prog.recurses 5)=true:=by kernel_rfl
theorem aOD:(Rows.watchNowRow.named==Tryz.prog.varsNamed 5)=true:=by kernel_rfl
theorem aOE:(Rows.watchNowRow.maps==(Tryz.f5.params.toList++Rows.watchNowSpec.plain.varTypes Tryz.prog).any (Tryz.prog.mapsRec ·))=true:=by kernel_rfl
theorem aOF:(Rows.watchNowRow.ifaces==(Tryz.f5.params.toList++Rows.watchNowSpec.plain.varTypes Tryz.prog).any (Tryz.prog.ifacesRec ·))=true:=by kernel_rfl
theorem aOG:(Rows.watchNowRow.loops==(Tryz.f5.params.toList++Rows.watchNowSpec.plain.varTypes Tryz.prog).any (Tryz.prog.loopsFrom ·))=true:=by kernel_rfl
theorem aOH:(Rows.watchNowRow.wideKeys==(Tryz.f5.params.toList++Rows.watchNowSpec.plain.varTypes Tryz.prog++Tryz.f5.resultTypes.toList).any (Tryz.prog.wideKeysFrom ·))=true:=by kernel_rfl
theorem aOI:Tryz.prog.stopsHeard=true:=by kernel_rfl
theorem aOJ:Tryz.prog.mayEnter=true:=by kernel_rfl
theorem aOK:(Rows.watchNowRow.lifted==Tryz.prog.liftsFinal)=true:=by kernel_rfl
theorem aOL:(Tryz.prog.make==some Rows.watchNowRow.make)=true:=by kernel_rfl
set_option maxRecDepth 100000 in
theorem TF:joinedFacts Tryz.prog 5 Tryz.f5 Rows.watchNowSpec Rows.watchNowRow=true:=by unfold joinedFacts;exact(sQ (sQ (sQ (sQ (sQ (sQ (sQ (sQ (sQ (sQ (sQ (sQ (sQ (sQ (sQ (sQ (sQ (sQ (sQ (sQ (sQ (sQ (sQ (sQ (sQ (sQ (sQ (sQ (sQ (sQ (sQ (by kernel_rfl) laid) aQ9) (by kernel_rfl)) (by kernel_rfl)) (by kernel_rfl)) (by kernel_rfl)) (by kernel_rfl)) (by kernel_rfl)) aOA) aOB) aOC) aOD) aOE) aOF) (by kernel_rfl)) aOG) aOH) (by kernel_rfl)) (by kernel_rfl)) (by kernel_rfl)) (by kernel_rfl)) (by kernel_rfl)) (by kernel_rfl)) aOI) aOJ) aOK) aOL) (by kernel_rfl)) (by kernel_rfl)) (by kernel_rfl)) (by kernel_rfl))
theorem aL7:Rows.watchNowRow.holds Tryz.pinned (OpenSpec.ofChange Rows.watchNowSpec):=
 OpenClaim.holds_of_wide 5 Tryz.f5 rfl rfl rfl rfl rfl rfl rfl ⟨rfl,rfl,rfl,rfl,rfl⟩ rfl rfl rfl rfl rfl (by kernel_rfl) Tryz.func5 TF
  (of_decide_eq_true (by kernel_rfl)) (by unfold Func.isWrapper;first | (rw[if_pos (by decide+kernel)];kernel_rfl) | (rw[if_neg (by decide+kernel)];exact⟨rfl,rfl⟩))
  (fun os started H enc _=>lifted os started H enc)
theorem proved:Rows.WatchNowSaid:=aL7
end Go.Proofs.YtodfaneojnkngaaGreat.watchNow
