/-
  CoinsTells: true of every input, and the input reads behind the call as it read before.
-/
import Derived.Test.YtlpebgkekjfhaaaGreatS16x7
import Derived.Test.YtlpebgkekjfhaaaGreatRows
import Derived.WalkKit
import Derived.ProofKit
set_option linter.unusedVariables false
set_option linter.unusedSimpArgs false
namespace Go.Proofs.YtlpebgkekjfhaaaGreat.coinsTells
open Go.ChangeShapes Go.WideShapes Go.ChangeAt Go.RowKit Go.Ab
set_option linter.unusedVariables false
theorem own:ownKnob Tryz.prog.godebug=none:=by kernel_rfl
theorem laid:laidOutB Tryz.prog=true:=by kernel_rfl
theorem CD{l:List Int}(h:∀x∈l,wI (.int .u8) x):Bytes l:=fun x hx=>by
 have h:(Lit.int .u8 x).wf=true:=h x hx
 have h:0≤x∧x≤255:=by simpa[Lit.wf,IntKind.min,IntKind.max,IntKind.signed,IntKind.bits]using h
 exact⟨h.1,by omega⟩
theorem C0{x:Int}(h:wI (.int .i64) x): -9223372036854775808≤x∧x≤9223372036854775807:=by
 have h:(Lit.int .i64 x).wf=true:=h
 simpa[Lit.wf,IntKind.min,IntKind.max,IntKind.signed,IntKind.bits]using h
theorem uV{x:Int}(h:wI (.int .u64) x):gY x:=by
 have h:(Lit.int .u64 x).wf=true:=h
 have h:0≤x∧x≤18446744073709551615:=by simpa[Lit.wf,IntKind.min,IntKind.max,IntKind.signed,IntKind.bits]using h
 exact⟨h.1,by omega⟩
theorem Dd{l:Lk}(h:wI (.pair (.slice (.pair (.slice (.int .u64)) (.pair (.int .i64) (.pair (.int .i64) (.pair (.int .u64) .unit))))) .unit) l):u9 l:=fun b hb=>⟨fun x hx=>uV ((h.1.2 b hb).1.2 x hx),uV (h.1.2 b hb).2.2.2.1⟩
theorem E4{w:so}(h:wI (.pair (.int .i64) (.pair (.slice (.pair (.int .u64) (.pair (.int .u64) .unit))) (.pair (.int .u64) .unit))) w):vb w:=⟨fun s hs=>⟨uV (h.2.1.2 s hs).1,uV (h.2.1.2 s hs).2.1⟩,uV h.2.2.1⟩
theorem F6{l:Lk}(h:wI (.pair (.slice (.pair (.slice (.int .u64)) (.pair (.int .i64) (.pair (.int .i64) (.pair (.int .u64) .unit))))) .unit) l):GD l:=⟨Dd h,h.1.1⟩
theorem Gx{t:fv}(h:wI (.pair (.slice (.pair (.pair (.arr 32 (.int .u8)) (.pair (.int .i64) .unit)) (.pair (.pair (.int .i64) (.pair (.slice (.pair (.int .u64) (.pair (.int .u64) .unit))) (.pair (.int .u64) .unit))) .unit))) (.pair (.slice (.pair (.int .i64) (.pair (.pair (.slice (.pair (.slice (.int .u64)) (.pair (.int .i64) (.pair (.int .i64) (.pair (.int .u64) .unit))))) .unit) .unit))) (.pair (.int .i64) .unit))) t):nE t:=⟨⟨fun o ho=>F6 (h.2.1.2 o ho).2.1,h.1.1,h.2.1.1⟩,fun x hx=>⟨⟨(h.1.2 x hx).1.1.1,CD (h.1.2 x hx).1.1.2⟩,E4 (h.1.2 x hx).2.1,(h.1.2 x hx).2.1.2.1.1⟩,(C0 h.2.2.1).2⟩
theorem EM{o:gm}(h:wI (.pair (.int .i64) (.pair (.pair (.slice (.pair (.slice (.int .u64)) (.pair (.int .i64) (.pair (.int .i64) (.pair (.int .u64) .unit))))) .unit) .unit)) o):sO o:=⟨Dd h.2.1,h.2.1.1.1,(C0 h.1).2⟩
set_option maxRecDepth 100000 in
theorem lifted(os:Os)(started:os.Started)(H:Type)(enc:TypeId×Value→H):
  ReturnsInHanded {} Tryz.checked os 6 .any (Rows.coinsTellsSpec.pre6 enc Tryz.prog Tryz.f6 Rows.coinsTellsRow.domain false) (Rows.coinsTellsSpec.post enc Tryz.prog Tryz.f6 false true false false):=by
 refine returnsInHanded_of_change (C:=Tryz.checked) own started (by kernel_rfl) Tryz.func6
  (ChangeSpec.witness6 (enc:=enc) (C:=Tryz.checked) false ⟨#[],#[.slice none 0 0,.slice none 0 0],[]⟩ 8 (by kernel_rfl) (by kernel_rfl) (by kernel_rfl) (by kernel_rfl)) ?_
 intro W base args ds gs before hval hW _ _
 exact BO 14 [.slice (.pair (.int .i64) (.pair (.pair (.slice (.pair (.slice (.int .u64)) (.pair (.int .i64) (.pair (.int .i64) (.pair (.int .u64) .unit))))) .unit) .unit)),.slice (.pair (.int .i64) (.pair (.pair (.slice (.pair (.pair (.arr 32 (.int .u8)) (.pair (.int .i64) .unit)) (.pair (.pair (.int .i64) (.pair (.slice (.pair (.int .u64) (.pair (.int .u64) .unit))) (.pair (.int .u64) .unit))) .unit))) (.pair (.slice (.pair (.int .i64) (.pair (.pair (.slice (.pair (.slice (.int .u64)) (.pair (.int .i64) (.pair (.int .i64) (.pair (.int .u64) .unit))))) .unit) .unit))) (.pair (.int .i64) .unit))) (.pair (.int .i64) .unit)))] aP.sg.h Tryz.func6 (by kernel_rfl) (by kernel_rfl) laid (by kernel_rfl) (by kernel_rfl) rfl (by kernel_rfl:Tryz.f6.resultTypes= #[4]) Tryz.underlying4
  (fun | [_,_],_=>rfl) (fun x hx=>⟨true,aP.run (d:=(x.1,x.2.1)) ⟨fun o ho=>EM (hx.1.2 o ho),hx.2.1.1,fun y hy=>Gx (hx.2.1.2 y hy).2.1⟩,rfl⟩) hval hW
theorem jP{a b:Bool}(h:a=true)(h2:b=true):(a && b)=true:=by rw[h,h2];rfl
theorem G4:mapsRowed Tryz.prog=true:=by kernel_rfl
theorem FM:(Rows.coinsTellsRow.inPlace==Tryz.prog.inPlace 6)=true:=by kernel_rfl
theorem FN:(Rows.coinsTellsRow.unfollowed==Tryz.prog.unfollowed 6)=true:=by kernel_rfl
theorem FO:(Rows.coinsTellsRow.recurses==Tryz.prog.recurses 6)=true:=by kernel_rfl
theorem FP:(Rows.coinsTellsRow.named==Tryz.prog.varsNamed 6)=true:=by kernel_rfl
theorem FQ:(Rows.coinsTellsRow.maps==(Tryz.f6.params.toList++Rows.coinsTellsSpec.plain.varTypes Tryz.prog).any (Tryz.prog.mapsRec ·))=true:=by kernel_rfl
theorem FR:(Rows.coinsTellsRow.ifaces==(Tryz.f6.params.toList++Rows.coinsTellsSpec.plain.varTypes Tryz.prog).any (Tryz.prog.ifacesRec ·))=true:=by kernel_rfl
theorem FT:(Rows.coinsTellsRow.loops==(Tryz.f6.params.toList++Rows.coinsTellsSpec.plain.varTypes Tryz.prog).any (Tryz.prog.loopsFrom ·))=true:=by kernel_rfl
theorem FU:(Rows.coinsTellsRow.wideKeys==(Tryz.f6.params.toList++Rows.coinsTellsSpec.plain.varTypes Tryz.prog++Tryz.f6.resultTypes.toList).any (Tryz.prog.wideKeysFrom ·))=true:=by kernel_rfl
theorem FV:Tryz.prog.stopsHeard=true:=by kernel_rfl
theorem FW:Tryz.prog.mayEnter=true:=by kernel_rfl
theorem FX:(Rows.coinsTellsRow.lifted==Tryz.prog.liftsFinal)=true:=by kernel_rfl
theorem FY:(Tryz.prog.make==some Rows.coinsTellsRow.make)=true:=by kernel_rfl
set_option maxRecDepth 100000 in
theorem rP:joinedFacts Tryz.prog 6 Tryz.f6 Rows.coinsTellsSpec Rows.coinsTellsRow=true:=by
 unfold joinedFacts
 exact(jP (jP (jP (jP (jP (jP (jP (jP (jP (jP (jP (jP (jP (jP (jP (jP (jP (jP (jP (jP (jP (jP (jP (jP (jP (jP (jP (jP (jP (jP (jP (by kernel_rfl) laid) G4) (by kernel_rfl)) (by kernel_rfl)) (by kernel_rfl)) (by kernel_rfl)) (by kernel_rfl)) (by kernel_rfl)) FM) FN) FO) FP) FQ) FR) (by kernel_rfl)) FT) FU) (by kernel_rfl)) (by kernel_rfl)) (by kernel_rfl)) (by kernel_rfl)) (by kernel_rfl)) (by kernel_rfl)) FV) FW) FX) FY) (by kernel_rfl)) (by kernel_rfl)) (by kernel_rfl)) (by kernel_rfl))
theorem EO:Rows.coinsTellsRow.holds Tryz.pinned (OpenSpec.ofChange Rows.coinsTellsSpec):=
 OpenClaim.holds_of_wide 6 Tryz.f6 rfl rfl rfl rfl rfl rfl rfl ⟨rfl,rfl,rfl,rfl,rfl⟩ rfl rfl rfl rfl rfl (by kernel_rfl) Tryz.func6 rP
  (of_decide_eq_true (by kernel_rfl)) (by unfold Func.isWrapper;first | (rw[if_pos (by decide+kernel)];kernel_rfl) | (rw[if_neg (by decide+kernel)];exact⟨rfl,rfl⟩))
  (fun os started H enc _=>lifted os started H enc)
theorem proved:Rows.CoinsTellsSaid:=EO
end Go.Proofs.YtlpebgkekjfhaaaGreat.coinsTells
