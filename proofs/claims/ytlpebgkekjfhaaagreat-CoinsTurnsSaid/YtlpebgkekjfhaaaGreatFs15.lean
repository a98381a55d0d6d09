/-
  CoinsTurns: true of every input, and the input reads behind the call as it read before.
-/
import Derived.Test.YtlpebgkekjfhaaaGreatS15x6
import Derived.Test.YtlpebgkekjfhaaaGreatRows
import Derived.WalkKit
import Derived.ProofKit
set_option linter.unusedVariables false
set_option linter.unusedSimpArgs false
namespace Go.Proofs.YtlpebgkekjfhaaaGreat.coinsTurns
open Go.ChangeShapes Go.WideShapes Go.ChangeAt Go.RowKit Go.Ab
set_option linter.unusedVariables false
theorem own:ownKnob Tryz.prog.godebug=none:=by kernel_rfl
theorem laid:laidOutB Tryz.prog=true:=by kernel_rfl
theorem Aw{l:List Int}(h:∀x∈l,tX (.int .u8) x):Bytes l:=fun x hx=>by
 have h:(Lit.int .u8 x).wf=true:=h x hx
 have h:0≤x∧x≤255:=by simpa[Lit.wf,IntKind.min,IntKind.max,IntKind.signed,IntKind.bits]using h
 exact⟨h.1,by omega⟩
theorem AV{x:Int}(h:tX (.int .i64) x): -9223372036854775808≤x∧x≤9223372036854775807:=by
 have h:(Lit.int .i64 x).wf=true:=h
 simpa[Lit.wf,IntKind.min,IntKind.max,IntKind.signed,IntKind.bits]using h
theorem sq{x:Int}(h:tX (.int .u64) x):gX x:=by
 have h:(Lit.int .u64 x).wf=true:=h
 have h:0≤x∧x≤18446744073709551615:=by simpa[Lit.wf,IntKind.min,IntKind.max,IntKind.signed,IntKind.bits]using h
 exact⟨h.1,by omega⟩
theorem Be{l:Lk}(h:tX (.pair (.slice (.pair (.slice (.int .u64)) (.pair (.int .i64) (.pair (.int .i64) (.pair (.int .u64) .unit))))) .unit) l):Af l:=fun b hb=>⟨fun x hx=>sq ((h.1.2 b hb).1.2 x hx),sq (h.1.2 b hb).2.2.2.1⟩
theorem C2{w:sY}(h:tX (.pair (.int .i64) (.pair (.slice (.pair (.int .u64) (.pair (.int .u64) .unit))) (.pair (.int .u64) .unit))) w):w7 w:=⟨fun s hs=>⟨sq (h.2.1.2 s hs).1,sq (h.2.1.2 s hs).2.1⟩,sq h.2.2.1⟩
theorem DS{l:Lk}(h:tX (.pair (.slice (.pair (.slice (.int .u64)) (.pair (.int .i64) (.pair (.int .i64) (.pair (.int .u64) .unit))))) .unit) l):Em l:=⟨Be h,h.1.1⟩
theorem BZ{t:eI}(h:tX (.pair (.slice (.pair (.pair (.arr 32 (.int .u8)) (.pair (.int .i64) .unit)) (.pair (.pair (.int .i64) (.pair (.slice (.pair (.int .u64) (.pair (.int .u64) .unit))) (.pair (.int .u64) .unit))) .unit))) (.pair (.slice (.pair (.int .i64) (.pair (.pair (.slice (.pair (.slice (.int .u64)) (.pair (.int .i64) (.pair (.int .i64) (.pair (.int .u64) .unit))))) .unit) .unit))) (.pair (.int .i64) .unit))) t):nV t:=⟨⟨fun o ho=>DS (h.2.1.2 o ho).2.1,h.1.1,h.2.1.1⟩,fun x hx=>⟨⟨(h.1.2 x hx).1.1.1,Aw (h.1.2 x hx).1.1.2⟩,C2 (h.1.2 x hx).2.1,(h.1.2 x hx).2.1.2.1.1⟩,(AV h.2.2.1).2⟩
theorem CL{o:fR}(h:tX (.pair (.int .i64) (.pair (.pair (.slice (.pair (.slice (.int .u64)) (.pair (.int .i64) (.pair (.int .i64) (.pair (.int .u64) .unit))))) .unit) .unit)) o):w4 o:=⟨Be h.2.1,h.2.1.1.1,(AV h.1).2⟩
set_option maxRecDepth 100000 in
theorem lifted(os:Os)(started:os.Started)(H:Type)(enc:TypeId×Value→H):
  ReturnsInHanded {} Tryz.checked os 8 .any (Rows.coinsTurnsSpec.pre6 enc Tryz.prog Tryz.f8 Rows.coinsTurnsRow.domain false) (Rows.coinsTurnsSpec.post enc Tryz.prog Tryz.f8 false true false false):=by
 refine returnsInHanded_of_change (C:=Tryz.checked) own started (by kernel_rfl) Tryz.func8
  (ChangeSpec.witness6 (enc:=enc) (C:=Tryz.checked) false ⟨#[],#[.slice none 0 0,.agg #[.slice none 0 0,.slice none 0 0,.int .i64 0],.agg #[.slice none 0 0,.slice none 0 0,.int .i64 0],.int .i64 0],[]⟩ 8 (by kernel_rfl) (by kernel_rfl) (by kernel_rfl) (by kernel_rfl)) ?_
 intro W base args ds gs before hval hW _ _
 exact zy 14 [.slice (.pair (.int .i64) (.pair (.pair (.slice (.pair (.slice (.int .u64)) (.pair (.int .i64) (.pair (.int .i64) (.pair (.int .u64) .unit))))) .unit) .unit)),.pair (.slice (.pair (.pair (.arr 32 (.int .u8)) (.pair (.int .i64) .unit)) (.pair (.pair (.int .i64) (.pair (.slice (.pair (.int .u64) (.pair (.int .u64) .unit))) (.pair (.int .u64) .unit))) .unit))) (.pair (.slice (.pair (.int .i64) (.pair (.pair (.slice (.pair (.slice (.int .u64)) (.pair (.int .i64) (.pair (.int .i64) (.pair (.int .u64) .unit))))) .unit) .unit))) (.pair (.int .i64) .unit)),.pair (.slice (.pair (.pair (.arr 32 (.int .u8)) (.pair (.int .i64) .unit)) (.pair (.pair (.int .i64) (.pair (.slice (.pair (.int .u64) (.pair (.int .u64) .unit))) (.pair (.int .u64) .unit))) .unit))) (.pair (.slice (.pair (.int .i64) (.pair (.pair (.slice (.pair (.slice (.int .u64)) (.pair (.int .i64) (.pair (.int .i64) (.pair (.int .u64) .unit))))) .unit) .unit))) (.pair (.int .i64) .unit)),.int .i64] ab.sg.h Tryz.func8 (by kernel_rfl) (by kernel_rfl) laid (by kernel_rfl) (by kernel_rfl) rfl (by kernel_rfl:Tryz.f8.resultTypes= #[4]) Tryz.underlying4
  (fun | [_,_,_,_],_=>rfl) (fun x hx=>⟨true,ab.run (d:=(x.1,x.2.1,x.2.2.1,x.2.2.2.1)) ⟨fun o ho=>CL (hx.1.2 o ho),BZ hx.2.1,BZ hx.2.2.1⟩,rfl⟩) hval hW
theorem gY{a b:Bool}(h:a=true)(h2:b=true):(a && b)=true:=by rw[h,h2];rfl
theorem EI:mapsRowed Tryz.prog=true:=by kernel_rfl
theorem DB:(Rows.coinsTurnsRow.inPlace==Tryz.prog.inPlace 8)=true:=by kernel_rfl
theorem DC:(Rows.coinsTurnsRow.unfollowed==Tryz.prog.unfollowed 8)=true:=by kernel_rfl
theorem DD:(Rows.coinsTurnsRow.recurses==Tryz.prog.recurses 8)=true:=by kernel_rfl
theorem DE:(Rows.coinsTurnsRow.named==Tryz.prog.varsNamed 8)=true:=by kernel_rfl
theorem DF:(Rows.coinsTurnsRow.maps==(Tryz.f8.params.toList++Rows.coinsTurnsSpec.plain.varTypes Tryz.prog).any (Tryz.prog.mapsRec ·))=true:=by kernel_rfl
theorem DG:(Rows.coinsTurnsRow.ifaces==(Tryz.f8.params.toList++Rows.coinsTurnsSpec.plain.varTypes Tryz.prog).any (Tryz.prog.ifacesRec ·))=true:=by kernel_rfl
theorem DH:(Rows.coinsTurnsRow.loops==(Tryz.f8.params.toList++Rows.coinsTurnsSpec.plain.varTypes Tryz.prog).any (Tryz.prog.loopsFrom ·))=true:=by kernel_rfl
theorem DI:(Rows.coinsTurnsRow.wideKeys==(Tryz.f8.params.toList++Rows.coinsTurnsSpec.plain.varTypes Tryz.prog++Tryz.f8.resultTypes.toList).any (Tryz.prog.wideKeysFrom ·))=true:=by kernel_rfl
theorem DJ:Tryz.prog.stopsHeard=true:=by kernel_rfl
theorem DK:Tryz.prog.mayEnter=true:=by kernel_rfl
theorem DL:(Rows.coinsTurnsRow.lifted==Tryz.prog.liftsFinal)=true:=by kernel_rfl
theorem DM:(Tryz.prog.make==some Rows.coinsTurnsRow.make)=true:=by kernel_rfl
set_option maxRecDepth 100000 in
theorem pv:joinedFacts Tryz.prog 8 Tryz.f8 Rows.coinsTurnsSpec Rows.coinsTurnsRow=true:=by
 unfold joinedFacts
 exact(gY (gY (gY (gY (gY (gY (gY (gY (gY (gY (gY (gY (gY (gY (gY (gY (gY (gY (gY (gY (gY (gY (gY (gY (gY (gY (gY (gY (gY (gY (gY (by kernel_rfl) laid) EI) (by kernel_rfl)) (by kernel_rfl)) (by kernel_rfl)) (by kernel_rfl)) (by kernel_rfl)) (by kernel_rfl)) DB) DC) DD) DE) DF) DG) (by kernel_rfl)) DH) DI) (by kernel_rfl)) (by kernel_rfl)) (by kernel_rfl)) (by kernel_rfl)) (by kernel_rfl)) (by kernel_rfl)) DJ) DK) DL) DM) (by kernel_rfl)) (by kernel_rfl)) (by kernel_rfl)) (by kernel_rfl))
theorem CO:Rows.coinsTurnsRow.holds Tryz.pinned (OpenSpec.ofChange Rows.coinsTurnsSpec):=
 OpenClaim.holds_of_wide 8 Tryz.f8 rfl rfl rfl rfl rfl rfl rfl ⟨rfl,rfl,rfl,rfl,rfl⟩ rfl rfl rfl rfl rfl (by kernel_rfl) Tryz.func8 pv
  (of_decide_eq_true (by kernel_rfl)) (by unfold Func.isWrapper;first | (rw[if_pos (by decide+kernel)];kernel_rfl) | (rw[if_neg (by decide+kernel)];exact⟨rfl,rfl⟩))
  (fun os started H enc _=>lifted os started H enc)
theorem proved:Rows.CoinsTurnsSaid:=CO
end Go.Proofs.YtlpebgkekjfhaaaGreat.coinsTurns
