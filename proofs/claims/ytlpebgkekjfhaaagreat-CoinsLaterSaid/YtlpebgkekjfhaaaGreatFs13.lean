/-
  CoinsLater: true of every input, and the input reads behind the call as it read before.
-/
import Derived.Test.YtlpebgkekjfhaaaGreatS13x6
import Derived.Test.YtlpebgkekjfhaaaGreatRows
import Derived.WalkKit
import Derived.ProofKit
set_option linter.unusedVariables false
set_option linter.unusedSimpArgs false
namespace Go.Proofs.YtlpebgkekjfhaaaGreat.coinsLater
open Go.ChangeShapes Go.WideShapes Go.ChangeAt Go.RowKit Go.Ab
set_option linter.unusedVariables false
theorem own:ownKnob Tryz.prog.godebug=none:=by kernel_rfl
theorem laid:laidOutB Tryz.prog=true:=by kernel_rfl
theorem CH{l:List Int}(h:∀x∈l,v7 (.int .u8) x):Bytes l:=fun x hx=>by
 have h:(Lit.int .u8 x).wf=true:=h x hx
 have h:0≤x∧x≤255:=by simpa[Lit.wf,IntKind.min,IntKind.max,IntKind.signed,IntKind.bits]using h
 exact⟨h.1,by omega⟩
theorem zJ{x:Int}(h:v7 (.int .i64) x): -9223372036854775808≤x∧x≤9223372036854775807:=by
 have h:(Lit.int .i64 x).wf=true:=h
 simpa[Lit.wf,IntKind.min,IntKind.max,IntKind.signed,IntKind.bits]using h
theorem uE{x:Int}(h:v7 (.int .u64) x):iZ x:=by
 have h:(Lit.int .u64 x).wf=true:=h
 have h:0≤x∧x≤18446744073709551615:=by simpa[Lit.wf,IntKind.min,IntKind.max,IntKind.signed,IntKind.bits]using h
 exact⟨h.1,by omega⟩
theorem De{l:Lk}(h:v7 (.pair (.slice (.pair (.slice (.int .u64)) (.pair (.int .i64) (.pair (.int .i64) (.pair (.int .u64) .unit))))) .unit) l):Ck l:=fun b hb=>⟨fun x hx=>uE ((h.1.2 b hb).1.2 x hx),uE (h.1.2 b hb).2.2.2.1⟩
theorem Fi{w:oT}(h:v7 (.pair (.int .i64) (.pair (.slice (.pair (.int .u64) (.pair (.int .u64) .unit))) (.pair (.int .u64) .unit))) w):wa w:=⟨fun s hs=>⟨uE (h.2.1.2 s hs).1,uE (h.2.1.2 s hs).2.1⟩,uE h.2.2.1⟩
theorem Gh{l:Lk}(h:v7 (.pair (.slice (.pair (.slice (.int .u64)) (.pair (.int .i64) (.pair (.int .i64) (.pair (.int .u64) .unit))))) .unit) l):FH l:=⟨De h,h.1.1⟩
theorem D3{t:eT}(h:v7 (.pair (.slice (.pair (.pair (.arr 32 (.int .u8)) (.pair (.int .i64) .unit)) (.pair (.pair (.int .i64) (.pair (.slice (.pair (.int .u64) (.pair (.int .u64) .unit))) (.pair (.int .u64) .unit))) .unit))) (.pair (.slice (.pair (.int .i64) (.pair (.pair (.slice (.pair (.slice (.int .u64)) (.pair (.int .i64) (.pair (.int .i64) (.pair (.int .u64) .unit))))) .unit) .unit))) (.pair (.int .i64) .unit))) t):oE t:=⟨⟨fun o ho=>Gh (h.2.1.2 o ho).2.1,h.1.1,h.2.1.1⟩,fun x hx=>⟨⟨(h.1.2 x hx).1.1.1,CH (h.1.2 x hx).1.1.2⟩,Fi (h.1.2 x hx).2.1,(h.1.2 x hx).2.1.2.1.1⟩,(zJ h.2.2.1).2⟩
theorem EZ{o:fx}(h:v7 (.pair (.int .i64) (.pair (.pair (.slice (.pair (.slice (.int .u64)) (.pair (.int .i64) (.pair (.int .i64) (.pair (.int .u64) .unit))))) .unit) .unit)) o):zf o:=⟨De h.2.1,h.2.1.1.1,(zJ h.1).2⟩
set_option maxRecDepth 100000 in
theorem lifted(os:Os)(started:os.Started)(H:Type)(enc:TypeId×Value→H):
  ReturnsInHanded {} Tryz.checked os 5 .any (Rows.coinsLaterSpec.pre6 enc Tryz.prog Tryz.f5 Rows.coinsLaterRow.domain false) (Rows.coinsLaterSpec.post enc Tryz.prog Tryz.f5 false true false false):=by
 refine returnsInHanded_of_change (C:=Tryz.checked) own started (by kernel_rfl) Tryz.func5
  (ChangeSpec.witness6 (enc:=enc) (C:=Tryz.checked) false ⟨#[],#[.slice none 0 0,.slice none 0 0,.agg #[.slice none 0 0,.slice none 0 0,.int .i64 0],.int .i64 0,.int .i64 0],[]⟩ 8 (by kernel_rfl) (by kernel_rfl) (by kernel_rfl) (by kernel_rfl)) ?_
 intro W base args ds gs before hval hW _ _
 exact BO 14 [.slice (.pair (.int .i64) (.pair (.pair (.slice (.pair (.slice (.int .u64)) (.pair (.int .i64) (.pair (.int .i64) (.pair (.int .u64) .unit))))) .unit) .unit)),.slice (.pair (.int .i64) (.pair (.pair (.slice (.pair (.pair (.arr 32 (.int .u8)) (.pair (.int .i64) .unit)) (.pair (.pair (.int .i64) (.pair (.slice (.pair (.int .u64) (.pair (.int .u64) .unit))) (.pair (.int .u64) .unit))) .unit))) (.pair (.slice (.pair (.int .i64) (.pair (.pair (.slice (.pair (.slice (.int .u64)) (.pair (.int .i64) (.pair (.int .i64) (.pair (.int .u64) .unit))))) .unit) .unit))) (.pair (.int .i64) .unit))) (.pair (.int .i64) .unit))),.pair (.slice (.pair (.pair (.arr 32 (.int .u8)) (.pair (.int .i64) .unit)) (.pair (.pair (.int .i64) (.pair (.slice (.pair (.int .u64) (.pair (.int .u64) .unit))) (.pair (.int .u64) .unit))) .unit))) (.pair (.slice (.pair (.int .i64) (.pair (.pair (.slice (.pair (.slice (.int .u64)) (.pair (.int .i64) (.pair (.int .i64) (.pair (.int .u64) .unit))))) .unit) .unit))) (.pair (.int .i64) .unit)),.int .i64,.int .i64] aZ.sg.h Tryz.func5 (by kernel_rfl) (by kernel_rfl) laid (by kernel_rfl) (by kernel_rfl) rfl (by kernel_rfl:Tryz.f5.resultTypes= #[4]) Tryz.underlying4
  (fun | [_,_,_,_,_],_=>rfl) (fun x hx=>⟨true,aZ.run (d:=(x.1,x.2.1,x.2.2.1,x.2.2.2.1,x.2.2.2.2.1)) ⟨fun o ho=>EZ (hx.1.2 o ho),hx.2.1.1,fun y hy=>D3 (hx.2.1.2 y hy).2.1,D3 hx.2.2.1,(zJ hx.2.2.2.1).1⟩,rfl⟩) hval hW
theorem jn{a b:Bool}(h:a=true)(h2:b=true):(a && b)=true:=by rw[h,h2];rfl
theorem Hh:mapsRowed Tryz.prog=true:=by kernel_rfl
theorem FY:(Rows.coinsLaterRow.inPlace==Tryz.prog.inPlace 5)=true:=by kernel_rfl
theorem FZ:(Rows.coinsLaterRow.unfollowed==Tryz.prog.unfollowed 5)=true:=by kernel_rfl
theorem F0:(Rows.coinsLaterRow.recurses==Tryz.prog.recurses 5)=true:=by kernel_rfl
theorem F1:(Rows.coinsLaterRow.named==Tryz.prog.varsNamed 5)=true:=by kernel_rfl
theorem F2:(Rows.coinsLaterRow.maps==(Tryz.f5.params.toList++Rows.coinsLaterSpec.plain.varTypes Tryz.prog).any (Tryz.prog.mapsRec ·))=true:=by kernel_rfl
theorem F3:(Rows.coinsLaterRow.ifaces==(Tryz.f5.params.toList++Rows.coinsLaterSpec.plain.varTypes Tryz.prog).any (Tryz.prog.ifacesRec ·))=true:=by kernel_rfl
theorem F4:(Rows.coinsLaterRow.loops==(Tryz.f5.params.toList++Rows.coinsLaterSpec.plain.varTypes Tryz.prog).any (Tryz.prog.loopsFrom ·))=true:=by kernel_rfl
theorem F5:(Rows.coinsLaterRow.wideKeys==(Tryz.f5.params.toList++Rows.coinsLaterSpec.plain.varTypes Tryz.prog++Tryz.f5.resultTypes.toList).any (Tryz.prog.wideKeysFrom ·))=true:=by kernel_rfl
theorem F6:Tryz.prog.stopsHeard=true:=by kernel_rfl
theorem F7:Tryz.prog.mayEnter=true:=by kernel_rfl
theorem F8:(Rows.coinsLaterRow.lifted==Tryz.prog.liftsFinal)=true:=by kernel_rfl
theorem F9:(Tryz.prog.make==some Rows.coinsLaterRow.make)=true:=by kernel_rfl
set_option maxRecDepth 100000 in
theorem rn:joinedFacts Tryz.prog 5 Tryz.f5 Rows.coinsLaterSpec Rows.coinsLaterRow=true:=by
 unfold joinedFacts
 exact(jn (jn (jn (jn (jn (jn (jn (jn (jn (jn (jn (jn (jn (jn (jn (jn (jn (jn (jn (jn (jn (jn (jn (jn (jn (jn (jn (jn (jn (jn (jn (by kernel_rfl) laid) Hh) (by kernel_rfl)) (by kernel_rfl)) (by kernel_rfl)) (by kernel_rfl)) (by kernel_rfl)) (by kernel_rfl)) FY) FZ) F0) F1) F2) F3) (by kernel_rfl)) F4) F5) (by kernel_rfl)) (by kernel_rfl)) (by kernel_rfl)) (by kernel_rfl)) (by kernel_rfl)) (by kernel_rfl)) F6) F7) F8) F9) (by kernel_rfl)) (by kernel_rfl)) (by kernel_rfl)) (by kernel_rfl))
theorem E1:Rows.coinsLaterRow.holds Tryz.pinned (OpenSpec.ofChange Rows.coinsLaterSpec):=
 OpenClaim.holds_of_wide 5 Tryz.f5 rfl rfl rfl rfl rfl rfl rfl ⟨rfl,rfl,rfl,rfl,rfl⟩ rfl rfl rfl rfl rfl (by kernel_rfl) Tryz.func5 rn
  (of_decide_eq_true (by kernel_rfl)) (by unfold Func.isWrapper;first | (rw[if_pos (by decide+kernel)];kernel_rfl) | (rw[if_neg (by decide+kernel)];exact⟨rfl,rfl⟩))
  (fun os started H enc _=>lifted os started H enc)
theorem proved:Rows.CoinsLaterSaid:=E1
end Go.Proofs.YtlpebgkekjfhaaaGreat.coinsLater
