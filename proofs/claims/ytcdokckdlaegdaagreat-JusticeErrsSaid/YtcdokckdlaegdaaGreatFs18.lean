/-
  JusticeErrs: true of every input, and the input reads behind the call as it read before.
-/
import Derived.Test.YtcdokckdlaegdaaGreatS18x6
import Derived.Test.YtcdokckdlaegdaaGreatRows
import Derived.WalkKit
import Derived.ProofKit
set_option linter.unusedVariables false
set_option linter.unusedSimpArgs false
namespace Go.Proofs.YtcdokckdlaegdaaGreat.justiceErrs
open Go.ChangeShapes Go.WideShapes Go.ChangeAt Go.RowKit Go.Ab
set_option linter.unusedVariables false
theorem own:ownKnob Tryz.prog.godebug=none:=by kernel_rfl
theorem laid:laidOutB Tryz.prog=true:=by kernel_rfl
theorem yO{l:List Int}(h:∀x∈l,vT (.int .u8) x):Bytes l:=fun x hx=>by
 have h:(Lit.int .u8 x).wf=true:=h x hx
 have h:0≤x∧x≤255:=by simpa[Lit.wf,IntKind.min,IntKind.max,IntKind.signed,IntKind.bits]using h
 exact⟨h.1,by omega⟩
theorem D8{x:Int}(h:vT (.int .i64) x): -9223372036854775808≤x∧x≤9223372036854775807:=by
 have h:(Lit.int .i64 x).wf=true:=h
 simpa[Lit.wf,IntKind.min,IntKind.max,IntKind.signed,IntKind.bits]using h
theorem Bw{x:Int}(h:vT (.int .u16) x):0≤x∧x < 65536:=by
 have h:(Lit.int .u16 x).wf=true:=h
 have h:0≤x∧x≤65535:=by simpa[Lit.wf,IntKind.min,IntKind.max,IntKind.signed,IntKind.bits]using h
 exact⟨h.1,by omega⟩
theorem Bx{x:Int}(h:vT (.int .u64) x):fh x:=by
 have h:(Lit.int .u64 x).wf=true:=h
 have h:0≤x∧x≤18446744073709551615:=by simpa[Lit.wf,IntKind.min,IntKind.max,IntKind.signed,IntKind.bits]using h
 exact⟨h.1,by omega⟩
theorem Hi{l:Lk}(h:vT (.pair (.slice (.pair (.slice (.int .u64)) (.pair (.int .i64) (.pair (.int .i64) (.pair (.int .u64) .unit))))) .unit) l):GI l:=fun b hb=>⟨fun x hx=>Bx ((h.1.2 b hb).1.2 x hx),Bx (h.1.2 b hb).2.2.2.1⟩
theorem qE{l:Lk}(h:vT (.pair (.slice (.pair (.slice (.int .u64)) (.pair (.int .i64) (.pair (.int .i64) (.pair (.int .u64) .unit))))) .unit) l):nX l:=⟨Hi h,h.1.1⟩
theorem Fa{x:Int}(h:vT (.int .u8) x):0≤x∧x < 256:=by
 have h:(Lit.int .u8 x).wf=true:=h
 have h:0≤x∧x≤255:=by simpa[Lit.wf,IntKind.min,IntKind.max,IntKind.signed,IntKind.bits]using h
 exact⟨h.1,by omega⟩
theorem E9{x:Int}(h:vT (.int .u32) x):0≤x∧x < 4294967296:=by
 have h:(Lit.int .u32 x).wf=true:=h
 have h:0≤x∧x≤4294967295:=by simpa[Lit.wf,IntKind.min,IntKind.max,IntKind.signed,IntKind.bits]using h
 exact⟨h.1,by omega⟩
theorem Hr{p:pK}(h:vT (.pair (.arr 2 (.arr 32 (.int .u8))) (.pair (.int .u32) (.pair (.int .u32) (.pair (.int .u8) (.pair (.int .u8) (.pair (.slice (.pair (.int .u8) (.pair (.int .u16) (.pair (.int .u16) (.pair (.int .u64) .unit))))) (.pair (.int .u16) (.pair (.arr 32 (.int .u8)) .unit)))))))) p):Fl p:=by
 have hl:p.1.length=2:=h.1.1
 have hs:∀k:Nat,k < 2→Sm (nth tH p.1 k):=fun k hk=>by
  rw[dT (t:=tH) (by omega:k < p.1.length)]
  have:=h.1.2 _ (List.getElem_mem (by omega:k < p.1.length))
  exact⟨this.1,yO this.2⟩
 exact⟨hl,(hs 0 (by decide)).1,(hs 1 (by decide)).1,E9 h.2.1,E9 h.2.2.1,Fa h.2.2.2.1,Fa h.2.2.2.2.1,fun o ho=>by
  have:=h.2.2.2.2.2.1.2 o ho
  exact⟨Fa this.1,Bw this.2.1,Bw this.2.2.1,Bx this.2.2.2.1⟩,h.2.2.2.2.2.1.1,Bw h.2.2.2.2.2.2.1⟩
theorem Hq{p:pK}(h:vT (.pair (.arr 2 (.arr 32 (.int .u8))) (.pair (.int .u32) (.pair (.int .u32) (.pair (.int .u8) (.pair (.int .u8) (.pair (.slice (.pair (.int .u8) (.pair (.int .u16) (.pair (.int .u16) (.pair (.int .u64) .unit))))) (.pair (.int .u16) (.pair (.arr 32 (.int .u8)) .unit)))))))) p):Sm p.2.2.2.2.2.2.2.1:=⟨h.2.2.2.2.2.2.2.1.1,yO h.2.2.2.2.2.2.2.1.2⟩
set_option maxRecDepth 100000 in
theorem lifted(os:Os)(started:os.Started)(H:Type)(enc:TypeId×Value→H):
  ReturnsInHanded {} Tryz.checked os 3 .any (Rows.justiceErrsSpec.pre6 enc Tryz.prog Tryz.f3 Rows.justiceErrsRow.domain false) (Rows.justiceErrsSpec.post enc Tryz.prog Tryz.f3 false true false false):=by
 refine returnsInHanded_of_change (C:=Tryz.checked) own started (by kernel_rfl) Tryz.func3
  (ChangeSpec.witness6 (enc:=enc) (C:=Tryz.checked) false ⟨#[],#[.agg (Array.replicate 64 (.int .u8 0)++ #[.int .u32 0,.int .u32 0,.int .u8 0,.int .u8 0,.slice none 0 0,.int .u16 0]++Array.replicate 32 (.int .u8 0)),.int .i64 0,.int .i64 0,.agg #[.slice none 0 0]],[]⟩ 24 (by kernel_rfl) (by kernel_rfl) (by kernel_rfl) (by kernel_rfl)) ?_
 intro W base args ds gs before hval hW _ _
 exact CX 14 [.pair (.arr 2 (.arr 32 (.int .u8))) (.pair (.int .u32) (.pair (.int .u32) (.pair (.int .u8) (.pair (.int .u8) (.pair (.slice (.pair (.int .u8) (.pair (.int .u16) (.pair (.int .u16) (.pair (.int .u64) .unit))))) (.pair (.int .u16) (.pair (.arr 32 (.int .u8)) .unit))))))),.int .i64,.int .i64,.pair (.slice (.pair (.slice (.int .u64)) (.pair (.int .i64) (.pair (.int .i64) (.pair (.int .u64) .unit))))) .unit] aO.sg.h Tryz.func3 (by kernel_rfl) (by kernel_rfl) laid (by kernel_rfl) (by kernel_rfl) rfl (by kernel_rfl:Tryz.f3.resultTypes= #[4]) Tryz.underlying4
  (fun | [_,_,_,_],_=>rfl) (fun x hx=>⟨true,aO.run (d:=(x.1,x.2.1,x.2.2.1,x.2.2.2.1)) ⟨Hr hx.1,Hq hx.1,D8 hx.2.1,D8 hx.2.2.1,qE hx.2.2.2.1⟩,rfl⟩) hval hW
theorem jW{a b:Bool}(h:a=true)(h2:b=true):(a && b)=true:=by rw[h,h2];rfl
theorem H5:mapsRowed Tryz.prog=true:=by kernel_rfl
theorem GX:(Rows.justiceErrsRow.inPlace==Tryz.prog.inPlace 3)=true:=by kernel_rfl
theorem GY:(Rows.justiceErrsRow.unfollowed==Tryz.prog.unfollowed 3)=true:=by kernel_rfl
theorem GZ:(Rows.justiceErrsRow.recurses==Tryz.prog.recurses 3)=true:=by kernel_rfl
theorem G0:(Rows.justiceErrsRow.named==Tryz.prog.varsNamed 3)=true:=by kernel_rfl
theorem G1:(Rows.justiceErrsRow.maps==(Tryz.f3.params.toList++Rows.justiceErrsSpec.plain.varTypes Tryz.prog).any (Tryz.prog.mapsRec ·))=true:=by kernel_rfl
theorem G2:(Rows.justiceErrsRow.ifaces==(Tryz.f3.params.toList++Rows.justiceErrsSpec.plain.varTypes Tryz.prog).any (Tryz.prog.ifacesRec ·))=true:=by kernel_rfl
theorem G3:(Rows.justiceErrsRow.loops==(Tryz.f3.params.toList++Rows.justiceErrsSpec.plain.varTypes Tryz.prog).any (Tryz.prog.loopsFrom ·))=true:=by kernel_rfl
theorem G4:(Rows.justiceErrsRow.wideKeys==(Tryz.f3.params.toList++Rows.justiceErrsSpec.plain.varTypes Tryz.prog++Tryz.f3.resultTypes.toList).any (Tryz.prog.wideKeysFrom ·))=true:=by kernel_rfl
theorem G5:Tryz.prog.stopsHeard=true:=by kernel_rfl
theorem G6:Tryz.prog.mayEnter=true:=by kernel_rfl
theorem G7:(Rows.justiceErrsRow.lifted==Tryz.prog.liftsFinal)=true:=by kernel_rfl
theorem G8:(Tryz.prog.make==some Rows.justiceErrsRow.make)=true:=by kernel_rfl
set_option maxRecDepth 100000 in
theorem sG:joinedFacts Tryz.prog 3 Tryz.f3 Rows.justiceErrsSpec Rows.justiceErrsRow=true:=by
 unfold joinedFacts
 exact(jW (jW (jW (jW (jW (jW (jW (jW (jW (jW (jW (jW (jW (jW (jW (jW (jW (jW (jW (jW (jW (jW (jW (jW (jW (jW (jW (jW (jW (jW (jW (by kernel_rfl) laid) H5) (by kernel_rfl)) (by kernel_rfl)) (by kernel_rfl)) (by kernel_rfl)) (by kernel_rfl)) (by kernel_rfl)) GX) GY) GZ) G0) G1) G2) (by kernel_rfl)) G3) G4) (by kernel_rfl)) (by kernel_rfl)) (by kernel_rfl)) (by kernel_rfl)) (by kernel_rfl)) (by kernel_rfl)) G5) G6) G7) G8) (by kernel_rfl)) (by kernel_rfl)) (by kernel_rfl)) (by kernel_rfl))
theorem FV:Rows.justiceErrsRow.holds Tryz.pinned (OpenSpec.ofChange Rows.justiceErrsSpec):=
 OpenClaim.holds_of_wide 3 Tryz.f3 rfl rfl rfl rfl rfl rfl rfl ⟨rfl,rfl,rfl,rfl,rfl⟩ rfl rfl rfl rfl rfl (by kernel_rfl) Tryz.func3 sG
  (of_decide_eq_true (by kernel_rfl)) (by unfold Func.isWrapper;first | (rw[if_pos (by decide+kernel)];kernel_rfl) | (rw[if_neg (by decide+kernel)];exact⟨rfl,rfl⟩))
  (fun os started H enc _=>lifted os started H enc)
theorem proved:Rows.JusticeErrsSaid:=FV
end Go.Proofs.YtcdokckdlaegdaaGreat.justiceErrs
