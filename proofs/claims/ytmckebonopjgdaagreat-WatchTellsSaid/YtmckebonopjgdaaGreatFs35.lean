/-
  WatchTells: true of every input, and the input reads behind the call as it read before.
-/
import Derived.Test.YtmckebonopjgdaaGreatS35x6
import Derived.Test.YtmckebonopjgdaaGreatRows
import Derived.WalkKit
import Derived.ProofKit
set_option linter.defProp false
set_option linter.unusedVariables false
set_option linter.unusedSimpArgs false
namespace Go.Proofs.YtmckebonopjgdaaGreat.watchTells
open Go.ChangeShapes Go.WideShapes Go.ChangeAt Go.RowKit Go.Ab
set_option linter.unusedVariables false
theorem own:ownKnob Tryz.prog.godebug=none:=by kernel_rfl
theorem laid:laidOutB Tryz.prog=true:=by kernel_rfl
theorem aBB{l:List Int}(h:∀x∈l,ard (.int .u8) x):Bytes l:=fun x hx=>by
 have h:(Lit.int .u8 x).wf=true:=h x hx;have h:0≤x∧x≤255:=by simpa[Lit.wf,IntKind.min,IntKind.max,IntKind.signed,IntKind.bits]using h
 exact⟨h.1,by omega⟩
theorem aX4{x:Int}(h:ard (.int .i64) x): -9223372036854775808≤x∧x≤9223372036854775807:=by have h:(Lit.int .i64 x).wf=true:=h;simpa[Lit.wf,IntKind.min,IntKind.max,IntKind.signed,IntKind.bits]using h
theorem aqN{x:Int}(h:ard (.int .u64) x):mC x:=by
 have h:(Lit.int .u64 x).wf=true:=h;have h:0≤x∧x≤18446744073709551615:=by simpa[Lit.wf,IntKind.min,IntKind.max,IntKind.signed,IntKind.bits]using h
 exact⟨h.1,by omega⟩
theorem aYD{l:Lk}(h:ard (.pair (.slice (.pair (.slice (.int .u64)) (.pair (.int .i64) (.pair (.int .i64) (.pair (.int .u64) .unit))))) .unit) l):akk l:=fun b hb=>⟨fun x hx=>aqN ((h.1.2 b hb).1.2 x hx),aqN (h.1.2 b hb).2.2.2.1⟩
theorem bhg{w:Ua}(h:ard (.pair (.int .i64) (.pair (.slice (.pair (.int .u64) (.pair (.int .u64) .unit))) (.pair (.int .u64) .unit))) w):Ze w:=⟨fun s hs=>⟨aqN (h.2.1.2 s hs).1,aqN (h.2.1.2 s hs).2.1⟩,aqN h.2.2.1⟩
theorem bjw{l:Lk}(h:ard (.pair (.slice (.pair (.slice (.int .u64)) (.pair (.int .i64) (.pair (.int .i64) (.pair (.int .u64) .unit))))) .unit) l):bie l:=⟨aYD h,h.1.1⟩
theorem bkj{t:di}(h:ard (.pair (.slice (.pair (.pair (.arr 32 (.int .u8)) (.pair (.int .i64) .unit)) (.pair (.pair (.int .i64) (.pair (.slice (.pair (.int .u64) (.pair (.int .u64) .unit))) (.pair (.int .u64) .unit))) .unit))) (.pair (.slice (.pair (.int .i64) (.pair (.pair (.slice (.pair (.slice (.int .u64)) (.pair (.int .i64) (.pair (.int .i64) (.pair (.int .u64) .unit))))) .unit) .unit))) (.pair (.int .i64) .unit))) t):mE t:=⟨⟨fun o ho=>bjw (h.2.1.2 o ho).2.1,h.1.1,h.2.1.1⟩,fun x hx=>⟨⟨(h.1.2 x hx).1.1.1,aBB (h.1.2 x hx).1.1.2⟩,bhg (h.1.2 x hx).2.1,(h.1.2 x hx).2.1.2.1.1⟩,(aX4 h.2.2.1).2⟩
theorem bfO{o:dW}(h:ard (.pair (.int .i64) (.pair (.pair (.slice (.pair (.slice (.int .u64)) (.pair (.int .i64) (.pair (.int .i64) (.pair (.int .u64) .unit))))) .unit) .unit)) o):Pj o:=⟨aYD h.2.1,h.2.1.1.1,(aX4 h.1).2⟩
theorem bjR{o:bO}(h:ard (.pair (.arr 32 (.int .u8)) (.pair (.int .i64) .unit)) o):CV o:=⟨h.1.1,aBB h.1.2⟩
set_option maxRecDepth 100000 in
theorem lifted(os:Os)(started:os.Started)(H:Type)(enc:TypeId×Value→H):
  ReturnsInHanded {} Tryz.checked os 3 .any (Rows.watchTellsSpec.pre6 enc Tryz.prog Tryz.f3 Rows.watchTellsRow.domain false) (Rows.watchTellsSpec.post enc Tryz.prog Tryz.f3 false true false false):=by
 refine returnsInHanded_of_change (C:=Tryz.checked) own started (by kernel_rfl) Tryz.func3
  (ChangeSpec.witness6 (enc:=enc) (C:=Tryz.checked) false ⟨#[],#[.slice none 0 0,.slice none 0 0],[]⟩ 24 (by kernel_rfl) (by kernel_rfl) (by kernel_rfl) (by kernel_rfl)) ?_
 intro W base args ds gs before Hv hW _ _
 exact aQ5 14 [.slice (.pair (.int .i64) (.pair (.pair (.slice (.pair (.slice (.int .u64)) (.pair (.int .i64) (.pair (.int .i64) (.pair (.int .u64) .unit))))) .unit) .unit)),.slice (.pair (.int .i64) (.pair (.slice (.pair (.slice (.pair (.pair (.arr 32 (.int .u8)) (.pair (.int .i64) .unit)) (.pair (.pair (.int .i64) (.pair (.slice (.pair (.int .u64) (.pair (.int .u64) .unit))) (.pair (.int .u64) .unit))) .unit))) (.pair (.slice (.pair (.int .i64) (.pair (.pair (.slice (.pair (.slice (.int .u64)) (.pair (.int .i64) (.pair (.int .i64) (.pair (.int .u64) .unit))))) .unit) .unit))) (.pair (.int .i64) .unit)))) (.pair (.int .i64) (.pair (.pair (.arr 32 (.int .u8)) (.pair (.int .i64) .unit)) .unit))))] (aUJ.h.1 (by rfl)) Tryz.func3 (by kernel_rfl) (by kernel_rfl) laid (by kernel_rfl) (by kernel_rfl) rfl (by kernel_rfl:Tryz.f3.resultTypes= #[4]) Tryz.underlying4
  (fun | [_,_],_=>rfl) (fun x hx=>⟨true,aMm (d:=(x.1,x.2.1)) ⟨fun o ho=>bfO (hx.1.2 o ho),hx.2.1.1,fun y hy=>⟨fun t ht=>bkj ((hx.2.1.2 y hy).2.1.2 t ht),bjR (hx.2.1.2 y hy).2.2.2.1⟩⟩,rfl⟩) Hv hW
theorem wC{a b:Bool}(h:a=true)(h2:b=true):(a && b)=true:=by rw[h,h2];rfl
theorem blp:mapsRowed Tryz.prog=true:=by kernel_rfl
theorem biO:(Rows.watchTellsRow.inPlace==Tryz.prog.inPlace 3)=true:=by kernel_rfl
theorem biP:(Rows.watchTellsRow.unfollowed==Tryz.prog.unfollowed 3)=true:=by kernel_rfl
theorem biQ:(Rows.watchTellsRow.recurses==Tryz.prog.recurses 3)=true:=by kernel_rfl
theorem biR:(Rows.watchTellsRow.named==Tryz.prog.varsNamed 3)=true:=by kernel_rfl
theorem biS:(Rows.watchTellsRow.maps==(Tryz.f3.params.toList++Rows.watchTellsSpec.plain.varTypes Tryz.prog).any (Tryz.prog.mapsRec ·))=true:=by kernel_rfl
theorem biT:(Rows.watchTellsRow.ifaces==(Tryz.f3.params.toList++Rows.watchTellsSpec.plain.varTypes Tryz.prog).any (Tryz.prog.ifacesRec ·))=true:=by kernel_rfl
theorem biU:(Rows.watchTellsRow.loops==(Tryz.f3.params.toList++Rows.watchTellsSpec.plain.varTypes Tryz.prog).any (Tryz.prog.loopsFrom ·))=true:=by kernel_rfl
theorem biV:(Rows.watchTellsRow.wideKeys==(Tryz.f3.params.toList++Rows.watchTellsSpec.plain.varTypes Tryz.prog++Tryz.f3.resultTypes.toList).any (Tryz.prog.wideKeysFrom ·))=true:=by kernel_rfl
theorem biW:Tryz.prog.stopsHeard=true:=by kernel_rfl
theorem biX:Tryz.prog.mayEnter=true:=by kernel_rfl
theorem biY:(Rows.watchTellsRow.lifted==Tryz.prog.liftsFinal)=true:=by kernel_rfl
theorem biZ:(Tryz.prog.make==some Rows.watchTellsRow.make)=true:=by kernel_rfl
set_option maxRecDepth 100000 in
theorem XK:joinedFacts Tryz.prog 3 Tryz.f3 Rows.watchTellsSpec Rows.watchTellsRow=true:=by unfold joinedFacts;exact(wC (wC (wC (wC (wC (wC (wC (wC (wC (wC (wC (wC (wC (wC (wC (wC (wC (wC (wC (wC (wC (wC (wC (wC (wC (wC (wC (wC (wC (wC (wC (by kernel_rfl) laid) blp) (by kernel_rfl)) (by kernel_rfl)) (by kernel_rfl)) (by kernel_rfl)) (by kernel_rfl)) (by kernel_rfl)) biO) biP) biQ) biR) biS) biT) (by kernel_rfl)) biU) biV) (by kernel_rfl)) (by kernel_rfl)) (by kernel_rfl)) (by kernel_rfl)) (by kernel_rfl)) (by kernel_rfl)) biW) biX) biY) biZ) (by kernel_rfl)) (by kernel_rfl)) (by kernel_rfl)) (by kernel_rfl))
theorem bfQ:Rows.watchTellsRow.holds Tryz.pinned (OpenSpec.ofChange Rows.watchTellsSpec):=
 OpenClaim.holds_of_wide 3 Tryz.f3 rfl rfl rfl rfl rfl rfl rfl ⟨rfl,rfl,rfl,rfl,rfl⟩ rfl rfl rfl rfl rfl (by kernel_rfl) Tryz.func3 XK
  (of_decide_eq_true (by kernel_rfl)) (by unfold Func.isWrapper;first | (rw[if_pos (by decide+kernel)];kernel_rfl) | (rw[if_neg (by decide+kernel)];exact⟨rfl,rfl⟩))
  (fun os started H enc _=>lifted os started H enc)
theorem proved:Rows.WatchTellsSaid:=bfQ
end Go.Proofs.YtmckebonopjgdaaGreat.watchTells
