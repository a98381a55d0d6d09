/-
  JusticeWhole: true of every input, and the input reads behind the call as it read before.
-/
import Derived.Test.YtcdokckdlaegdaaGreatS17x6
import Derived.Test.YtcdokckdlaegdaaGreatRows
import Derived.WalkKit
import Derived.ProofKit
set_option linter.unusedVariables false
set_option linter.unusedSimpArgs false
namespace Go.Proofs.YtcdokckdlaegdaaGreat.justiceWhole
open Go.ChangeShapes Go.WideShapes Go.ChangeAt Go.RowKit Go.Ab
set_option linter.unusedVariables false
theorem own:ownKnob Tryz.prog.godebug=none:=by kernel_rfl
theorem laid:laidOutB Tryz.prog=true:=by kernel_rfl
theorem DL{l:List Int}(h:∀x∈l,xo (.int .u8) x):Bytes l:=fun x hx=>by
 have h:(Lit.int .u8 x).wf=true:=h x hx
 have h:0≤x∧x≤255:=by simpa[Lit.wf,IntKind.min,IntKind.max,IntKind.signed,IntKind.bits]using h
 exact⟨h.1,by omega⟩
theorem Bu{x:Int}(h:xo (.int .u16) x):0≤x∧x < 65536:=by
 have h:(Lit.int .u16 x).wf=true:=h
 have h:0≤x∧x≤65535:=by simpa[Lit.wf,IntKind.min,IntKind.max,IntKind.signed,IntKind.bits]using h
 exact⟨h.1,by omega⟩
theorem Bv{x:Int}(h:xo (.int .u64) x):fo x:=by
 have h:(Lit.int .u64 x).wf=true:=h
 have h:0≤x∧x≤18446744073709551615:=by simpa[Lit.wf,IntKind.min,IntKind.max,IntKind.signed,IntKind.bits]using h
 exact⟨h.1,by omega⟩
theorem Hc{l:Lk}(h:xo (.pair (.slice (.pair (.slice (.int .u64)) (.pair (.int .i64) (.pair (.int .i64) (.pair (.int .u64) .unit))))) .unit) l):GB l:=fun b hb=>⟨fun x hx=>Bv ((h.1.2 b hb).1.2 x hx),Bv (h.1.2 b hb).2.2.2.1⟩
theorem sI{l:Lk}(h:xo (.pair (.slice (.pair (.slice (.int .u64)) (.pair (.int .i64) (.pair (.int .i64) (.pair (.int .u64) .unit))))) .unit) l):oM l:=⟨Hc h,h.1.1⟩
theorem xj{x:Int}(h:xo (.int .u8) x):0≤x∧x < 256:=by
 have h:(Lit.int .u8 x).wf=true:=h
 have h:0≤x∧x≤255:=by simpa[Lit.wf,IntKind.min,IntKind.max,IntKind.signed,IntKind.bits]using h
 exact⟨h.1,by omega⟩
theorem E7{x:Int}(h:xo (.int .u32) x):0≤x∧x < 4294967296:=by
 have h:(Lit.int .u32 x).wf=true:=h
 have h:0≤x∧x≤4294967295:=by simpa[Lit.wf,IntKind.min,IntKind.max,IntKind.signed,IntKind.bits]using h
 exact⟨h.1,by omega⟩
theorem Hk{p:tc}(h:xo (.pair (.arr 2 (.arr 32 (.int .u8))) (.pair (.int .u32) (.pair (.int .u32) (.pair (.int .u8) (.pair (.int .u8) (.pair (.slice (.pair (.int .u8) (.pair (.int .u16) (.pair (.int .u16) (.pair (.int .u64) .unit))))) (.pair (.int .u16) (.pair (.arr 32 (.int .u8)) .unit)))))))) p):Fi p:=by
 have hl:p.1.length=2:=h.1.1
 have hs:∀k:Nat,k < 2→Sm (nth tH p.1 k):=fun k hk=>by
  rw[dS (t:=tH) (by omega:k < p.1.length)]
  have:=h.1.2 _ (List.getElem_mem (by omega:k < p.1.length))
  exact⟨this.1,DL this.2⟩
 exact⟨hl,(hs 0 (by decide)).1,(hs 1 (by decide)).1,E7 h.2.1,E7 h.2.2.1,xj h.2.2.2.1,xj h.2.2.2.2.1,fun o ho=>by
  have:=h.2.2.2.2.2.1.2 o ho
  exact⟨xj this.1,Bu this.2.1,Bu this.2.2.1,Bv this.2.2.2.1⟩,h.2.2.2.2.2.1.1,Bu h.2.2.2.2.2.2.1⟩
set_option maxRecDepth 100000 in
theorem lifted(os:Os)(started:os.Started)(H:Type)(enc:TypeId×Value→H):
  ReturnsInHanded {} Tryz.checked os 4 .any (Rows.justiceWholeSpec.pre6 enc Tryz.prog Tryz.f4 Rows.justiceWholeRow.domain false) (Rows.justiceWholeSpec.post enc Tryz.prog Tryz.f4 false true false false):=by
 refine returnsInHanded_of_change (C:=Tryz.checked) own started (by kernel_rfl) Tryz.func4
  (ChangeSpec.witness6 (enc:=enc) (C:=Tryz.checked) false ⟨#[],#[.agg (Array.replicate 64 (.int .u8 0)++ #[.int .u32 0,.int .u32 0,.int .u8 0,.int .u8 0,.slice none 0 0,.int .u16 0]++Array.replicate 32 (.int .u8 0)),.int .u8 0,.int .u8 0],[]⟩ 24 (by kernel_rfl) (by kernel_rfl) (by kernel_rfl) (by kernel_rfl)) ?_
 intro W base args ds gs before hval hW _ _
 exact CY 14 [.pair (.arr 2 (.arr 32 (.int .u8))) (.pair (.int .u32) (.pair (.int .u32) (.pair (.int .u8) (.pair (.int .u8) (.pair (.slice (.pair (.int .u8) (.pair (.int .u16) (.pair (.int .u16) (.pair (.int .u64) .unit))))) (.pair (.int .u16) (.pair (.arr 32 (.int .u8)) .unit))))))),.int .u8,.int .u8] aC.sg.h Tryz.func4 (by kernel_rfl) (by kernel_rfl) laid (by kernel_rfl) (by kernel_rfl) rfl (by kernel_rfl:Tryz.f4.resultTypes= #[4]) Tryz.underlying4
  (fun | [_,_,_],_=>rfl) (fun x hx=>⟨true,aC.run (d:=(x.1,x.2.1,x.2.2.1)) ⟨Hk hx.1,xj hx.2.1,(xj hx.2.2.1).1,(xj hx.2.2.1).2⟩,rfl⟩) hval hW
theorem jS{a b:Bool}(h:a=true)(h2:b=true):(a && b)=true:=by rw[h,h2];rfl
theorem HX:mapsRowed Tryz.prog=true:=by kernel_rfl
theorem GQ:(Rows.justiceWholeRow.inPlace==Tryz.prog.inPlace 4)=true:=by kernel_rfl
theorem GR:(Rows.justiceWholeRow.unfollowed==Tryz.prog.unfollowed 4)=true:=by kernel_rfl
theorem GS:(Rows.justiceWholeRow.recurses==Tryz.prog.recurses 4)=true:=by kernel_rfl
theorem GU:(Rows.justiceWholeRow.named==Tryz.prog.varsNamed 4)=true:=by kernel_rfl
theorem GV:(Rows.justiceWholeRow.maps==(Tryz.f4.params.toList++Rows.justiceWholeSpec.plain.varTypes Tryz.prog).any (Tryz.prog.mapsRec ·))=true:=by kernel_rfl
theorem GW:(Rows.justiceWholeRow.ifaces==(Tryz.f4.params.toList++Rows.justiceWholeSpec.plain.varTypes Tryz.prog).any (Tryz.prog.ifacesRec ·))=true:=by kernel_rfl
theorem GX:(Rows.justiceWholeRow.loops==(Tryz.f4.params.toList++Rows.justiceWholeSpec.plain.varTypes Tryz.prog).any (Tryz.prog.loopsFrom ·))=true:=by kernel_rfl
theorem GY:(Rows.justiceWholeRow.wideKeys==(Tryz.f4.params.toList++Rows.justiceWholeSpec.plain.varTypes Tryz.prog++Tryz.f4.resultTypes.toList).any (Tryz.prog.wideKeysFrom ·))=true:=by kernel_rfl
theorem GZ:Tryz.prog.stopsHeard=true:=by kernel_rfl
theorem G0:Tryz.prog.mayEnter=true:=by kernel_rfl
theorem G1:(Rows.justiceWholeRow.lifted==Tryz.prog.liftsFinal)=true:=by kernel_rfl
theorem G2:(Tryz.prog.make==some Rows.justiceWholeRow.make)=true:=by kernel_rfl
set_option maxRecDepth 100000 in
theorem sE:joinedFacts Tryz.prog 4 Tryz.f4 Rows.justiceWholeSpec Rows.justiceWholeRow=true:=by
 unfold joinedFacts
 exact(jS (jS (jS (jS (jS (jS (jS (jS (jS (jS (jS (jS (jS (jS (jS (jS (jS (jS (jS (jS (jS (jS (jS (jS (jS (jS (jS (jS (jS (jS (jS (by kernel_rfl) laid) HX) (by kernel_rfl)) (by kernel_rfl)) (by kernel_rfl)) (by kernel_rfl)) (by kernel_rfl)) (by kernel_rfl)) GQ) GR) GS) GU) GV) GW) (by kernel_rfl)) GX) GY) (by kernel_rfl)) (by kernel_rfl)) (by kernel_rfl)) (by kernel_rfl)) (by kernel_rfl)) (by kernel_rfl)) GZ) G0) G1) G2) (by kernel_rfl)) (by kernel_rfl)) (by kernel_rfl)) (by kernel_rfl))
theorem FR:Rows.justiceWholeRow.holds Tryz.pinned (OpenSpec.ofChange Rows.justiceWholeSpec):=
 OpenClaim.holds_of_wide 4 Tryz.f4 rfl rfl rfl rfl rfl rfl rfl ⟨rfl,rfl,rfl,rfl,rfl⟩ rfl rfl rfl rfl rfl (by kernel_rfl) Tryz.func4 sE
  (of_decide_eq_true (by kernel_rfl)) (by unfold Func.isWrapper;first | (rw[if_pos (by decide+kernel)];kernel_rfl) | (rw[if_neg (by decide+kernel)];exact⟨rfl,rfl⟩))
  (fun os started H enc _=>lifted os started H enc)
theorem proved:Rows.JusticeWholeSaid:=FR
end Go.Proofs.YtcdokckdlaegdaaGreat.justiceWhole
