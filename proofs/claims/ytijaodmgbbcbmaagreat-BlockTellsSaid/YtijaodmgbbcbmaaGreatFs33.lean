/-
  BlockTells: true of every input, and the input reads behind the call as it read before.
-/
import Derived.Test.YtijaodmgbbcbmaaGreatS33x7
import Derived.Test.YtijaodmgbbcbmaaGreatRows
import Derived.WalkKit
import Derived.ProofKit
set_option linter.unusedVariables false
set_option linter.unusedSimpArgs false
namespace Go.Proofs.YtijaodmgbbcbmaaGreat.blockTells
open Go.ChangeShapes Go.WideShapes Go.ChangeAt Go.RowKit Go.Ab
set_option linter.unusedVariables false
theorem own:ownKnob Tryz.prog.godebug=none:=by kernel_rfl
theorem laid:laidOutB Tryz.prog=true:=by kernel_rfl
theorem aIJ{l:List Int}(h:∀x∈l,aju (.int .u8) x):Bytes l:=fun x hx=>by
 have h:(Lit.int .u8 x).wf=true:=h x hx;have h:0≤x∧x≤255:=by simpa[Lit.wf,IntKind.min,IntKind.max,IntKind.signed,IntKind.bits]using h
 exact⟨h.1,by omega⟩
theorem adp{x:Int}(h:aju (.int .i64) x): -9223372036854775808≤x∧x≤9223372036854775807:=by have h:(Lit.int .i64 x).wf=true:=h;simpa[Lit.wf,IntKind.min,IntKind.max,IntKind.signed,IntKind.bits]using h
theorem ahx{x:Int}(h:aju (.int .u64) x):lG x:=by
 have h:(Lit.int .u64 x).wf=true:=h;have h:0≤x∧x≤18446744073709551615:=by simpa[Lit.wf,IntKind.min,IntKind.max,IntKind.signed,IntKind.bits]using h
 exact⟨h.1,by omega⟩
theorem aKV{l:Lk}(h:aju (.pair (.slice (.pair (.slice (.int .u64)) (.pair (.int .i64) (.pair (.int .i64) (.pair (.int .u64) .unit))))) .unit) l):abu l:=fun b hb=>⟨fun x hx=>ahx ((h.1.2 b hb).1.2 x hx),ahx (h.1.2 b hb).2.2.2.1⟩
theorem aSP{w:V9}(h:aju (.pair (.int .i64) (.pair (.slice (.pair (.int .u64) (.pair (.int .u64) .unit))) (.pair (.int .u64) .unit))) w):Sl w:=⟨fun s hs=>⟨ahx (h.2.1.2 s hs).1,ahx (h.2.1.2 s hs).2.1⟩,ahx h.2.2.1⟩
theorem aU8{l:Lk}(h:aju (.pair (.slice (.pair (.slice (.int .u64)) (.pair (.int .i64) (.pair (.int .i64) (.pair (.int .u64) .unit))))) .unit) l):aTV l:=⟨aKV h,h.1.1⟩
theorem aVV{t:dM}(h:aju (.pair (.slice (.pair (.pair (.arr 32 (.int .u8)) (.pair (.int .i64) .unit)) (.pair (.pair (.int .i64) (.pair (.slice (.pair (.int .u64) (.pair (.int .u64) .unit))) (.pair (.int .u64) .unit))) .unit))) (.pair (.slice (.pair (.int .i64) (.pair (.pair (.slice (.pair (.slice (.int .u64)) (.pair (.int .i64) (.pair (.int .i64) (.pair (.int .u64) .unit))))) .unit) .unit))) (.pair (.int .i64) .unit))) t):th t:=⟨⟨fun o ho=>aU8 (h.2.1.2 o ho).2.1,h.1.1,h.2.1.1⟩,fun x hx=>⟨⟨(h.1.2 x hx).1.1.1,aIJ (h.1.2 x hx).1.1.2⟩,aSP (h.1.2 x hx).2.1,(h.1.2 x hx).2.1.2.1.1⟩,(adp h.2.2.1).2⟩
theorem aRg{o:jV}(h:aju (.pair (.int .i64) (.pair (.pair (.slice (.pair (.slice (.int .u64)) (.pair (.int .i64) (.pair (.int .i64) (.pair (.int .u64) .unit))))) .unit) .unit)) o):Wi o:=⟨aKV h.2.1,h.2.1.1.1,(adp h.1).2⟩
theorem aAC{b:kE}(h:aju (.pair (.int .i64) (.pair (.arr 32 (.int .u8)) (.pair (.slice (.pair (.slice (.pair (.pair (.arr 32 (.int .u8)) (.pair (.int .i64) .unit)) (.pair (.pair (.int .i64) (.pair (.slice (.pair (.int .u64) (.pair (.int .u64) .unit))) (.pair (.int .u64) .unit))) .unit))) (.pair (.slice (.pair (.int .i64) (.pair (.pair (.slice (.pair (.slice (.int .u64)) (.pair (.int .i64) (.pair (.int .i64) (.pair (.int .u64) .unit))))) .unit) .unit))) (.pair (.int .i64) .unit)))) (.pair (.int .i64) (.pair (.slice (.pair (.arr 32 (.int .u8)) (.pair (.int .i64) .unit))) .unit))))) b):avL b:=⟨fun t ht=>aVV (h.2.2.1.2 t ht),⟨(adp h.1).2,h.2.1.1,(adp h.2.2.2.1).2⟩,fun o ho=>⟨(h.2.2.2.2.1.2 o ho).1.1,(adp (h.2.2.2.2.1.2 o ho).2.1).2⟩⟩
set_option maxRecDepth 100000 in
theorem lifted(os:Os)(started:os.Started)(H:Type)(enc:TypeId×Value→H):
  ReturnsInHanded {} Tryz.checked os 3 .any (Rows.blockTellsSpec.pre6 enc Tryz.prog Tryz.f3 Rows.blockTellsRow.domain false) (Rows.blockTellsSpec.post enc Tryz.prog Tryz.f3 false true false false):=by
 refine returnsInHanded_of_change (C:=Tryz.checked) own started (by kernel_rfl) Tryz.func3
  (ChangeSpec.witness6 (enc:=enc) (C:=Tryz.checked) false ⟨#[],#[.slice none 0 0,.agg (#[.int .i64 0]++Array.replicate 32 (.int .u8 0)++ #[.slice none 0 0,.int .i64 0,.slice none 0 0]),.agg (#[.int .i64 0]++Array.replicate 32 (.int .u8 0)++ #[.slice none 0 0,.int .i64 0,.slice none 0 0])],[]⟩ 24 (by kernel_rfl) (by kernel_rfl) (by kernel_rfl) (by kernel_rfl)) ?_
 intro W base args ds gs before DG hW _ _
 exact aEx 14 [.slice (.pair (.int .i64) (.pair (.pair (.slice (.pair (.slice (.int .u64)) (.pair (.int .i64) (.pair (.int .i64) (.pair (.int .u64) .unit))))) .unit) .unit)),.pair (.int .i64) (.pair (.arr 32 (.int .u8)) (.pair (.slice (.pair (.slice (.pair (.pair (.arr 32 (.int .u8)) (.pair (.int .i64) .unit)) (.pair (.pair (.int .i64) (.pair (.slice (.pair (.int .u64) (.pair (.int .u64) .unit))) (.pair (.int .u64) .unit))) .unit))) (.pair (.slice (.pair (.int .i64) (.pair (.pair (.slice (.pair (.slice (.int .u64)) (.pair (.int .i64) (.pair (.int .i64) (.pair (.int .u64) .unit))))) .unit) .unit))) (.pair (.int .i64) .unit)))) (.pair (.int .i64) (.pair (.slice (.pair (.arr 32 (.int .u8)) (.pair (.int .i64) .unit))) .unit)))),.pair (.int .i64) (.pair (.arr 32 (.int .u8)) (.pair (.slice (.pair (.slice (.pair (.pair (.arr 32 (.int .u8)) (.pair (.int .i64) .unit)) (.pair (.pair (.int .i64) (.pair (.slice (.pair (.int .u64) (.pair (.int .u64) .unit))) (.pair (.int .u64) .unit))) .unit))) (.pair (.slice (.pair (.int .i64) (.pair (.pair (.slice (.pair (.slice (.int .u64)) (.pair (.int .i64) (.pair (.int .i64) (.pair (.int .u64) .unit))))) .unit) .unit))) (.pair (.int .i64) .unit)))) (.pair (.int .i64) (.pair (.slice (.pair (.arr 32 (.int .u8)) (.pair (.int .i64) .unit))) .unit))))] (aqS.h.1 (by rfl)) Tryz.func3 (by kernel_rfl) (by kernel_rfl) laid (by kernel_rfl) (by kernel_rfl) rfl (by kernel_rfl:Tryz.f3.resultTypes= #[4]) Tryz.underlying4
  (fun | [_,_,_],_=>rfl) (fun x hx=>⟨true,amp (d:=(x.1,x.2.1,x.2.2.1)) ⟨fun o ho=>aRg (hx.1.2 o ho),aAC hx.2.1,aAC hx.2.2.1⟩,rfl⟩) DG hW
theorem uZ{a b:Bool}(h:a=true)(h2:b=true):(a && b)=true:=by rw[h,h2];rfl
theorem aWT:mapsRowed Tryz.prog=true:=by kernel_rfl
theorem aUp:(Rows.blockTellsRow.inPlace==Tryz.prog.inPlace 3)=true:=by kernel_rfl
theorem aUq:(Rows.blockTellsRow.unfollowed==Tryz.prog.unfollowed 3)=true:=by kernel_rfl
theorem aUr:(Rows.blockTellsRow.recurses==Tryz.prog.recurses 3)=true:=by kernel_rfl
theorem aUs:(Rows.blockTellsRow.named==Tryz.prog.varsNamed 3)=true:=by kernel_rfl
theorem aUt:(Rows.blockTellsRow.maps==(Tryz.f3.params.toList++Rows.blockTellsSpec.plain.varTypes Tryz.prog).any (Tryz.prog.mapsRec ·))=true:=by kernel_rfl
theorem aUu:(Rows.blockTellsRow.ifaces==(Tryz.f3.params.toList++Rows.blockTellsSpec.plain.varTypes Tryz.prog).any (Tryz.prog.ifacesRec ·))=true:=by kernel_rfl
theorem aUv:(Rows.blockTellsRow.loops==(Tryz.f3.params.toList++Rows.blockTellsSpec.plain.varTypes Tryz.prog).any (Tryz.prog.loopsFrom ·))=true:=by kernel_rfl
theorem aUw:(Rows.blockTellsRow.wideKeys==(Tryz.f3.params.toList++Rows.blockTellsSpec.plain.varTypes Tryz.prog++Tryz.f3.resultTypes.toList).any (Tryz.prog.wideKeysFrom ·))=true:=by kernel_rfl
theorem aUx:Tryz.prog.stopsHeard=true:=by kernel_rfl
theorem aUy:Tryz.prog.mayEnter=true:=by kernel_rfl
theorem aUz:(Rows.blockTellsRow.lifted==Tryz.prog.liftsFinal)=true:=by kernel_rfl
theorem aUA:(Tryz.prog.make==some Rows.blockTellsRow.make)=true:=by kernel_rfl
set_option maxRecDepth 100000 in
theorem WV:joinedFacts Tryz.prog 3 Tryz.f3 Rows.blockTellsSpec Rows.blockTellsRow=true:=by unfold joinedFacts;exact(uZ (uZ (uZ (uZ (uZ (uZ (uZ (uZ (uZ (uZ (uZ (uZ (uZ (uZ (uZ (uZ (uZ (uZ (uZ (uZ (uZ (uZ (uZ (uZ (uZ (uZ (uZ (uZ (uZ (uZ (uZ (by kernel_rfl) laid) aWT) (by kernel_rfl)) (by kernel_rfl)) (by kernel_rfl)) (by kernel_rfl)) (by kernel_rfl)) (by kernel_rfl)) aUp) aUq) aUr) aUs) aUt) aUu) (by kernel_rfl)) aUv) aUw) (by kernel_rfl)) (by kernel_rfl)) (by kernel_rfl)) (by kernel_rfl)) (by kernel_rfl)) (by kernel_rfl)) aUx) aUy) aUz) aUA) (by kernel_rfl)) (by kernel_rfl)) (by kernel_rfl)) (by kernel_rfl))
theorem aRi:Rows.blockTellsRow.holds Tryz.pinned (OpenSpec.ofChange Rows.blockTellsSpec):=
 OpenClaim.holds_of_wide 3 Tryz.f3 rfl rfl rfl rfl rfl rfl rfl ⟨rfl,rfl,rfl,rfl,rfl⟩ rfl rfl rfl rfl rfl (by kernel_rfl) Tryz.func3 WV
  (of_decide_eq_true (by kernel_rfl)) (by unfold Func.isWrapper;first | (rw[if_pos (by decide+kernel)];kernel_rfl) | (rw[if_neg (by decide+kernel)];exact⟨rfl,rfl⟩))
  (fun os started H enc _=>lifted os started H enc)
theorem proved:Rows.BlockTellsSaid:=aRi
end Go.Proofs.YtijaodmgbbcbmaaGreat.blockTells
