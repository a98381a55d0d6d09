/-
  JusticeComes: true of every input, and the input reads behind the call as it read before.
-/
import Derived.Test.YtcdokckdlaegdaaGreatS19x7
import Derived.Test.YtcdokckdlaegdaaGreatRows
import Derived.WalkKit
import Derived.ProofKit
set_option linter.unusedVariables false
set_option linter.unusedSimpArgs false
namespace Go.Proofs.YtcdokckdlaegdaaGreat.justiceComes
open Go.ChangeShapes Go.WideShapes Go.ChangeAt Go.RowKit Go.Ab
set_option linter.unusedVariables false
theorem own:ownKnob Tryz.prog.godebug=none:=by kernel_rfl
theorem laid:laidOutB Tryz.prog=true:=by kernel_rfl
theorem Gq{l:List Int}(h:∀x∈l,D3 (.int .u8) x):Bytes l:=fun x hx=>by
 have h:(Lit.int .u8 x).wf=true:=h x hx
 have h:0≤x∧x≤255:=by simpa[Lit.wf,IntKind.min,IntKind.max,IntKind.signed,IntKind.bits]using h
 exact⟨h.1,by omega⟩
theorem FX{x:Int}(h:D3 (.int .u16) x):0≤x∧x < 65536:=by
 have h:(Lit.int .u16 x).wf=true:=h
 have h:0≤x∧x≤65535:=by simpa[Lit.wf,IntKind.min,IntKind.max,IntKind.signed,IntKind.bits]using h
 exact⟨h.1,by omega⟩
theorem Jr{x:Int}(h:D3 (.int .u64) x):iy x:=by
 have h:(Lit.int .u64 x).wf=true:=h
 have h:0≤x∧x≤18446744073709551615:=by simpa[Lit.wf,IntKind.min,IntKind.max,IntKind.signed,IntKind.bits]using h
 exact⟨h.1,by omega⟩
theorem RM{l:Lk}(h:D3 (.pair (.slice (.pair (.slice (.int .u64)) (.pair (.int .i64) (.pair (.int .i64) (.pair (.int .u64) .unit))))) .unit) l):LX l:=fun b hb=>⟨fun x hx=>Jr ((h.1.2 b hb).1.2 x hx),Jr (h.1.2 b hb).2.2.2.1⟩
theorem zS{l:Lk}(h:D3 (.pair (.slice (.pair (.slice (.int .u64)) (.pair (.int .i64) (.pair (.int .i64) (.pair (.int .u64) .unit))))) .unit) l):uq l:=⟨RM h,h.1.1⟩
theorem HY{x:Int}(h:D3 (.int .u8) x):0≤x∧x < 256:=by
 have h:(Lit.int .u8 x).wf=true:=h
 have h:0≤x∧x≤255:=by simpa[Lit.wf,IntKind.min,IntKind.max,IntKind.signed,IntKind.bits]using h
 exact⟨h.1,by omega⟩
theorem Oh{x:Int}(h:D3 (.int .u32) x):0≤x∧x < 4294967296:=by
 have h:(Lit.int .u32 x).wf=true:=h
 have h:0≤x∧x≤4294967295:=by simpa[Lit.wf,IntKind.min,IntKind.max,IntKind.signed,IntKind.bits]using h
 exact⟨h.1,by omega⟩
theorem RW{p:yf}(h:D3 (.pair (.arr 2 (.arr 32 (.int .u8))) (.pair (.int .u32) (.pair (.int .u32) (.pair (.int .u8) (.pair (.int .u8) (.pair (.slice (.pair (.int .u8) (.pair (.int .u16) (.pair (.int .u16) (.pair (.int .u64) .unit))))) (.pair (.int .u16) (.pair (.arr 32 (.int .u8)) .unit)))))))) p):LY p:=by
 have hl:p.1.length=2:=h.1.1
 have hs:∀k:Nat,k < 2→Sm (nth tH p.1 k):=fun k hk=>by
  rw[dQ (t:=tH) (by omega:k < p.1.length)]
  have:=h.1.2 _ (List.getElem_mem (by omega:k < p.1.length))
  exact⟨this.1,Gq this.2⟩
 exact⟨hl,(hs 0 (by decide)).1,(hs 1 (by decide)).1,Oh h.2.1,Oh h.2.2.1,HY h.2.2.2.1,HY h.2.2.2.2.1,fun o ho=>by
  have:=h.2.2.2.2.2.1.2 o ho
  exact⟨HY this.1,FX this.2.1,FX this.2.2.1,Jr this.2.2.2.1⟩,h.2.2.2.2.2.1.1,FX h.2.2.2.2.2.2.1⟩
theorem RV{p:yf}(h:D3 (.pair (.arr 2 (.arr 32 (.int .u8))) (.pair (.int .u32) (.pair (.int .u32) (.pair (.int .u8) (.pair (.int .u8) (.pair (.slice (.pair (.int .u8) (.pair (.int .u16) (.pair (.int .u16) (.pair (.int .u64) .unit))))) (.pair (.int .u16) (.pair (.arr 32 (.int .u8)) .unit)))))))) p):Sm p.2.2.2.2.2.2.2.1:=⟨h.2.2.2.2.2.2.2.1.1,Gq h.2.2.2.2.2.2.2.1.2⟩
set_option maxRecDepth 100000 in
theorem lifted(os:Os)(started:os.Started)(H:Type)(enc:TypeId×Value→H):
  ReturnsInHanded {} Tryz.checked os 6 .any (Rows.justiceComesSpec.pre6 enc Tryz.prog Tryz.f6 Rows.justiceComesRow.domain false) (Rows.justiceComesSpec.post enc Tryz.prog Tryz.f6 false true false false):=by
 refine returnsInHanded_of_change (C:=Tryz.checked) own started (by kernel_rfl) Tryz.func6
  (ChangeSpec.witness6 (enc:=enc) (C:=Tryz.checked) false ⟨#[],#[.agg (Array.replicate 64 (.int .u8 0)++ #[.int .u32 0,.int .u32 0,.int .u8 0,.int .u8 0,.slice none 0 0,.int .u16 0]++Array.replicate 32 (.int .u8 0)),.int .u8 0,.int .u8 0,.int .u16 0],[]⟩ 24 (by kernel_rfl) (by kernel_rfl) (by kernel_rfl) (by kernel_rfl)) ?_
 intro W base args ds gs before sF hW _ _
 exact Lj 14 [.pair (.arr 2 (.arr 32 (.int .u8))) (.pair (.int .u32) (.pair (.int .u32) (.pair (.int .u8) (.pair (.int .u8) (.pair (.slice (.pair (.int .u8) (.pair (.int .u16) (.pair (.int .u16) (.pair (.int .u64) .unit))))) (.pair (.int .u16) (.pair (.arr 32 (.int .u8)) .unit))))))),.int .u8,.int .u8,.int .u16] dA.sg.h Tryz.func6 (by kernel_rfl) (by kernel_rfl) laid (by kernel_rfl) (by kernel_rfl) rfl (by kernel_rfl:Tryz.f6.resultTypes= #[4]) Tryz.underlying4
  (fun | [_,_,_,_],_=>rfl) (fun x hx=>⟨true,dA.run (d:=(x.1,x.2.1,x.2.2.1,x.2.2.2.1)) ⟨RW hx.1,RV hx.1,HY hx.2.1,HY hx.2.2.1,FX hx.2.2.2.1⟩,rfl⟩) sF hW
theorem pj{a b:Bool}(h:a=true)(h2:b=true):(a && b)=true:=by rw[h,h2];rfl
theorem S3:mapsRowed Tryz.prog=true:=by kernel_rfl
theorem QX:(Rows.justiceComesRow.inPlace==Tryz.prog.inPlace 6)=true:=by kernel_rfl
theorem QY:(Rows.justiceComesRow.unfollowed==Tryz.prog.unfollowed 6)=true:=by kernel_rfl
theorem QZ:(Rows.justiceComesRow.recurses==Tryz.prog.recurses 6)=true:=by kernel_rfl
theorem Q0:(Rows.justiceComesRow.named==Tryz.prog.varsNamed 6)=true:=by kernel_rfl
theorem Q1:(Rows.justiceComesRow.maps==(Tryz.f6.params.toList++Rows.justiceComesSpec.plain.varTypes Tryz.prog).any (Tryz.prog.mapsRec ·))=true:=by kernel_rfl
theorem Q2:(Rows.justiceComesRow.ifaces==(Tryz.f6.params.toList++Rows.justiceComesSpec.plain.varTypes Tryz.prog).any (Tryz.prog.ifacesRec ·))=true:=by kernel_rfl
theorem Q3:(Rows.justiceComesRow.loops==(Tryz.f6.params.toList++Rows.justiceComesSpec.plain.varTypes Tryz.prog).any (Tryz.prog.loopsFrom ·))=true:=by kernel_rfl
theorem Q4:(Rows.justiceComesRow.wideKeys==(Tryz.f6.params.toList++Rows.justiceComesSpec.plain.varTypes Tryz.prog++Tryz.f6.resultTypes.toList).any (Tryz.prog.wideKeysFrom ·))=true:=by kernel_rfl
theorem Q5:Tryz.prog.stopsHeard=true:=by kernel_rfl
theorem Q6:Tryz.prog.mayEnter=true:=by kernel_rfl
theorem Q7:(Rows.justiceComesRow.lifted==Tryz.prog.liftsFinal)=true:=by kernel_rfl
theorem Q8:(Tryz.prog.make==some Rows.justiceComesRow.make)=true:=by kernel_rfl
set_option maxRecDepth 100000 in
theorem zN:joinedFacts Tryz.prog 6 Tryz.f6 Rows.justiceComesSpec Rows.justiceComesRow=true:=by
 unfold joinedFacts
 exact(pj (pj (pj (pj (pj (pj (pj (pj (pj (pj (pj (pj (pj (pj (pj (pj (pj (pj (pj (pj (pj (pj (pj (pj (pj (pj (pj (pj (pj (pj (pj (by kernel_rfl) laid) S3) (by kernel_rfl)) (by kernel_rfl)) (by kernel_rfl)) (by kernel_rfl)) (by kernel_rfl)) (by kernel_rfl)) QX) QY) QZ) Q0) Q1) Q2) (by kernel_rfl)) Q3) Q4) (by kernel_rfl)) (by kernel_rfl)) (by kernel_rfl)) (by kernel_rfl)) (by kernel_rfl)) (by kernel_rfl)) Q5) Q6) Q7) Q8) (by kernel_rfl)) (by kernel_rfl)) (by kernel_rfl)) (by kernel_rfl))
theorem PG:Rows.justiceComesRow.holds Tryz.pinned (OpenSpec.ofChange Rows.justiceComesSpec):=
 OpenClaim.holds_of_wide 6 Tryz.f6 rfl rfl rfl rfl rfl rfl rfl ⟨rfl,rfl,rfl,rfl,rfl⟩ rfl rfl rfl rfl rfl (by kernel_rfl) Tryz.func6 zN
  (of_decide_eq_true (by kernel_rfl)) (by unfold Func.isWrapper;first | (rw[if_pos (by decide+kernel)];kernel_rfl) | (rw[if_neg (by decide+kernel)];exact⟨rfl,rfl⟩))
  (fun os started H enc _=>lifted os started H enc)
theorem proved:Rows.JusticeComesSaid:=PG
end Go.Proofs.YtcdokckdlaegdaaGreat.justiceComes
