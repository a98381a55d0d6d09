/-
  CoinsUndo: true of every input, and the input reads behind the call as it read before.
-/
import Derived.Test.YtlpebgkekjfhaaaGreatS14x5
import Derived.Test.YtlpebgkekjfhaaaGreatRows
import Derived.WalkKit
import Derived.ProofKit
set_option linter.unusedVariables false
set_option linter.unusedSimpArgs false
namespace Go.Proofs.YtlpebgkekjfhaaaGreat.coinsUndo
open Go.ChangeShapes Go.WideShapes Go.ChangeAt Go.RowKit Go.Ab
set_option linter.unusedVariables false
theorem own:ownKnob Tryz.prog.godebug=none:=by kernel_rfl
theorem laid:laidOutB Tryz.prog=true:=by kernel_rfl
theorem AG{l:List Int}(h:∀x∈l,ui (.int .u8) x):Bytes l:=fun x hx=>by
 have h:(Lit.int .u8 x).wf=true:=h x hx
 have h:0≤x∧x≤255:=by simpa[Lit.wf,IntKind.min,IntKind.max,IntKind.signed,IntKind.bits]using h
 exact⟨h.1,by omega⟩
theorem A1{x:Int}(h:ui (.int .i64) x): -9223372036854775808≤x∧x≤9223372036854775807:=by
 have h:(Lit.int .i64 x).wf=true:=h
 simpa[Lit.wf,IntKind.min,IntKind.max,IntKind.signed,IntKind.bits]using h
theorem sD{x:Int}(h:ui (.int .u64) x):gX x:=by
 have h:(Lit.int .u64 x).wf=true:=h
 have h:0≤x∧x≤18446744073709551615:=by simpa[Lit.wf,IntKind.min,IntKind.max,IntKind.signed,IntKind.bits]using h
 exact⟨h.1,by omega⟩
theorem Bh{l:Lk}(h:ui (.pair (.slice (.pair (.slice (.int .u64)) (.pair (.int .i64) (.pair (.int .i64) (.pair (.int .u64) .unit))))) .unit) l):Ap l:=fun b hb=>⟨fun x hx=>sD ((h.1.2 b hb).1.2 x hx),sD (h.1.2 b hb).2.2.2.1⟩
theorem C2{w:tf}(h:ui (.pair (.int .i64) (.pair (.slice (.pair (.int .u64) (.pair (.int .u64) .unit))) (.pair (.int .u64) .unit))) w):xg w:=⟨fun s hs=>⟨sD (h.2.1.2 s hs).1,sD (h.2.1.2 s hs).2.1⟩,sD h.2.2.1⟩
theorem DW{l:Lk}(h:ui (.pair (.slice (.pair (.slice (.int .u64)) (.pair (.int .i64) (.pair (.int .i64) (.pair (.int .u64) .unit))))) .unit) l):Er l:=⟨Bh h,h.1.1⟩
theorem Ei{t:fg}(h:ui (.pair (.slice (.pair (.pair (.arr 32 (.int .u8)) (.pair (.int .i64) .unit)) (.pair (.pair (.int .i64) (.pair (.slice (.pair (.int .u64) (.pair (.int .u64) .unit))) (.pair (.int .u64) .unit))) .unit))) (.pair (.slice (.pair (.int .i64) (.pair (.pair (.slice (.pair (.slice (.int .u64)) (.pair (.int .i64) (.pair (.int .i64) (.pair (.int .u64) .unit))))) .unit) .unit))) (.pair (.int .i64) .unit))) t):ni t:=⟨⟨fun o ho=>DW (h.2.1.2 o ho).2.1,h.1.1,h.2.1.1⟩,fun x hx=>⟨⟨(h.1.2 x hx).1.1.1,AG (h.1.2 x hx).1.1.2⟩,C2 (h.1.2 x hx).2.1,(h.1.2 x hx).2.1.2.1.1⟩,(A1 h.2.2.1).2⟩
theorem CL{o:fc}(h:ui (.pair (.int .i64) (.pair (.pair (.slice (.pair (.slice (.int .u64)) (.pair (.int .i64) (.pair (.int .i64) (.pair (.int .u64) .unit))))) .unit) .unit)) o):xd o:=⟨Bh h.2.1,h.2.1.1.1,(A1 h.1).2⟩
set_option maxRecDepth 100000 in
theorem lifted(os:Os)(started:os.Started)(H:Type)(enc:TypeId×Value→H):
  ReturnsInHanded {} Tryz.checked os 7 .any (Rows.coinsUndoSpec.pre6 enc Tryz.prog Tryz.f7 Rows.coinsUndoRow.domain false) (Rows.coinsUndoSpec.post enc Tryz.prog Tryz.f7 false true false false):=by
 refine returnsInHanded_of_change (C:=Tryz.checked) own started (by kernel_rfl) Tryz.func7
  (ChangeSpec.witness6 (enc:=enc) (C:=Tryz.checked) false ⟨#[],#[.slice none 0 0,.slice none 0 0],[]⟩ 8 (by kernel_rfl) (by kernel_rfl) (by kernel_rfl) (by kernel_rfl)) ?_
 intro W base args ds gs before hval hW _ _
 exact zI 14 [.slice (.pair (.int .i64) (.pair (.pair (.slice (.pair (.slice (.int .u64)) (.pair (.int .i64) (.pair (.int .i64) (.pair (.int .u64) .unit))))) .unit) .unit)),.slice (.pair (.int .i64) (.pair (.pair (.slice (.pair (.pair (.arr 32 (.int .u8)) (.pair (.int .i64) .unit)) (.pair (.pair (.int .i64) (.pair (.slice (.pair (.int .u64) (.pair (.int .u64) .unit))) (.pair (.int .u64) .unit))) .unit))) (.pair (.slice (.pair (.int .i64) (.pair (.pair (.slice (.pair (.slice (.int .u64)) (.pair (.int .i64) (.pair (.int .i64) (.pair (.int .u64) .unit))))) .unit) .unit))) (.pair (.int .i64) .unit))) (.pair (.int .i64) .unit)))] av.sg.h Tryz.func7 (by kernel_rfl) (by kernel_rfl) laid (by kernel_rfl) (by kernel_rfl) rfl (by kernel_rfl:Tryz.f7.resultTypes= #[4]) Tryz.underlying4
  (fun | [_,_],_=>rfl) (fun x hx=>⟨true,av.run (d:=(x.1,x.2.1)) ⟨fun o ho=>CL (hx.1.2 o ho),hx.2.1.1,fun y hy=>Ei (hx.2.1.2 y hy).2.1⟩,rfl⟩) hval hW
theorem gY{a b:Bool}(h:a=true)(h2:b=true):(a && b)=true:=by rw[h,h2];rfl
theorem EM:mapsRowed Tryz.prog=true:=by kernel_rfl
theorem DD:(Rows.coinsUndoRow.inPlace==Tryz.prog.inPlace 7)=true:=by kernel_rfl
theorem DE:(Rows.coinsUndoRow.unfollowed==Tryz.prog.unfollowed 7)=true:=by kernel_rfl
theorem DF:(Rows.coinsUndoRow.recurses==Tryz.prog.recurses 7)=true:=by kernel_rfl
theorem DG:(Rows.coinsUndoRow.named==Tryz.prog.varsNamed 7)=true:=by kernel_rfl
theorem DH:(Rows.coinsUndoRow.maps==(Tryz.f7.params.toList++Rows.coinsUndoSpec.plain.varTypes Tryz.prog).any (Tryz.prog.mapsRec ·))=true:=by kernel_rfl
theorem DI:(Rows.coinsUndoRow.ifaces==(Tryz.f7.params.toList++Rows.coinsUndoSpec.plain.varTypes Tryz.prog).any (Tryz.prog.ifacesRec ·))=true:=by kernel_rfl
theorem DJ:(Rows.coinsUndoRow.loops==(Tryz.f7.params.toList++Rows.coinsUndoSpec.plain.varTypes Tryz.prog).any (Tryz.prog.loopsFrom ·))=true:=by kernel_rfl
theorem DK:(Rows.coinsUndoRow.wideKeys==(Tryz.f7.params.toList++Rows.coinsUndoSpec.plain.varTypes Tryz.prog++Tryz.f7.resultTypes.toList).any (Tryz.prog.wideKeysFrom ·))=true:=by kernel_rfl
theorem DL:Tryz.prog.stopsHeard=true:=by kernel_rfl
theorem DM:Tryz.prog.mayEnter=true:=by kernel_rfl
theorem DN:(Rows.coinsUndoRow.lifted==Tryz.prog.liftsFinal)=true:=by kernel_rfl
theorem DO:(Tryz.prog.make==some Rows.coinsUndoRow.make)=true:=by kernel_rfl
set_option maxRecDepth 100000 in
theorem pH:joinedFacts Tryz.prog 7 Tryz.f7 Rows.coinsUndoSpec Rows.coinsUndoRow=true:=by
 unfold joinedFacts
 exact(gY (gY (gY (gY (gY (gY (gY (gY (gY (gY (gY (gY (gY (gY (gY (gY (gY (gY (gY (gY (gY (gY (gY (gY (gY (gY (gY (gY (gY (gY (gY (by kernel_rfl) laid) EM) (by kernel_rfl)) (by kernel_rfl)) (by kernel_rfl)) (by kernel_rfl)) (by kernel_rfl)) (by kernel_rfl)) DD) DE) DF) DG) DH) DI) (by kernel_rfl)) DJ) DK) (by kernel_rfl)) (by kernel_rfl)) (by kernel_rfl)) (by kernel_rfl)) (by kernel_rfl)) (by kernel_rfl)) DL) DM) DN) DO) (by kernel_rfl)) (by kernel_rfl)) (by kernel_rfl)) (by kernel_rfl))
theorem CO:Rows.coinsUndoRow.holds Tryz.pinned (OpenSpec.ofChange Rows.coinsUndoSpec):=
 OpenClaim.holds_of_wide 7 Tryz.f7 rfl rfl rfl rfl rfl rfl rfl ⟨rfl,rfl,rfl,rfl,rfl⟩ rfl rfl rfl rfl rfl (by kernel_rfl) Tryz.func7 pH
  (of_decide_eq_true (by kernel_rfl)) (by unfold Func.isWrapper;first | (rw[if_pos (by decide+kernel)];kernel_rfl) | (rw[if_neg (by decide+kernel)];exact⟨rfl,rfl⟩))
  (fun os started H enc _=>lifted os started H enc)
theorem proved:Rows.CoinsUndoSaid:=CO
end Go.Proofs.YtlpebgkekjfhaaaGreat.coinsUndo
