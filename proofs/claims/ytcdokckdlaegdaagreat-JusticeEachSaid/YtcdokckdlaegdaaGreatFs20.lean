/-
  JusticeEach: true of every input, and the input reads behind the call as it read before.
-/
import Derived.Test.YtcdokckdlaegdaaGreatS20x7
import Derived.Test.YtcdokckdlaegdaaGreatRows
import Derived.WalkKit
import Derived.ProofKit
set_option linter.unusedVariables false
set_option linter.unusedSimpArgs false
namespace Go.Proofs.YtcdokckdlaegdaaGreat.justiceEach
open Go.ChangeShapes Go.WideShapes Go.ChangeAt Go.RowKit Go.Ab
set_option linter.unusedVariables false
theorem own:ownKnob Tryz.prog.godebug=none:=by kernel_rfl
theorem laid:laidOutB Tryz.prog=true:=by kernel_rfl
theorem GJ{l:List Int}(h:∀x∈l,Ef (.int .u8) x):Bytes l:=fun x hx=>by
 have h:(Lit.int .u8 x).wf=true:=h x hx
 have h:0≤x∧x≤255:=by simpa[Lit.wf,IntKind.min,IntKind.max,IntKind.signed,IntKind.bits]using h
 exact⟨h.1,by omega⟩
theorem JI{x:Int}(h:Ef (.int .u16) x):0≤x∧x < 65536:=by
 have h:(Lit.int .u16 x).wf=true:=h
 have h:0≤x∧x≤65535:=by simpa[Lit.wf,IntKind.min,IntKind.max,IntKind.signed,IntKind.bits]using h
 exact⟨h.1,by omega⟩
theorem JJ{x:Int}(h:Ef (.int .u64) x):iw x:=by
 have h:(Lit.int .u64 x).wf=true:=h
 have h:0≤x∧x≤18446744073709551615:=by simpa[Lit.wf,IntKind.min,IntKind.max,IntKind.signed,IntKind.bits]using h
 exact⟨h.1,by omega⟩
theorem R8{l:Lk}(h:Ef (.pair (.slice (.pair (.slice (.int .u64)) (.pair (.int .i64) (.pair (.int .i64) (.pair (.int .u64) .unit))))) .unit) l):Mm l:=fun b hb=>⟨fun x hx=>JJ ((h.1.2 b hb).1.2 x hx),JJ (h.1.2 b hb).2.2.2.1⟩
theorem zY{l:Lk}(h:Ef (.pair (.slice (.pair (.slice (.int .u64)) (.pair (.int .i64) (.pair (.int .i64) (.pair (.int .u64) .unit))))) .unit) l):ua l:=⟨R8 h,h.1.1⟩
theorem E5{x:Int}(h:Ef (.int .u8) x):0≤x∧x < 256:=by
 have h:(Lit.int .u8 x).wf=true:=h
 have h:0≤x∧x≤255:=by simpa[Lit.wf,IntKind.min,IntKind.max,IntKind.signed,IntKind.bits]using h
 exact⟨h.1,by omega⟩
theorem OA{x:Int}(h:Ef (.int .u32) x):0≤x∧x < 4294967296:=by
 have h:(Lit.int .u32 x).wf=true:=h
 have h:0≤x∧x≤4294967295:=by simpa[Lit.wf,IntKind.min,IntKind.max,IntKind.signed,IntKind.bits]using h
 exact⟨h.1,by omega⟩
theorem Sj{p:yk}(h:Ef (.pair (.arr 2 (.arr 32 (.int .u8))) (.pair (.int .u32) (.pair (.int .u32) (.pair (.int .u8) (.pair (.int .u8) (.pair (.slice (.pair (.int .u8) (.pair (.int .u16) (.pair (.int .u16) (.pair (.int .u64) .unit))))) (.pair (.int .u16) (.pair (.arr 32 (.int .u8)) .unit)))))))) p):Mn p:=by
 have hl:p.1.length=2:=h.1.1
 have hs:∀k:Nat,k < 2→Sm (nth tH p.1 k):=fun k hk=>by
  rw[dP (t:=tH) (by omega:k < p.1.length)]
  have:=h.1.2 _ (List.getElem_mem (by omega:k < p.1.length))
  exact⟨this.1,GJ this.2⟩
 exact⟨hl,(hs 0 (by decide)).1,(hs 1 (by decide)).1,OA h.2.1,OA h.2.2.1,E5 h.2.2.2.1,E5 h.2.2.2.2.1,fun o ho=>by
  have:=h.2.2.2.2.2.1.2 o ho
  exact⟨E5 this.1,JI this.2.1,JI this.2.2.1,JJ this.2.2.2.1⟩,h.2.2.2.2.2.1.1,JI h.2.2.2.2.2.2.1⟩
theorem Si{p:yk}(h:Ef (.pair (.arr 2 (.arr 32 (.int .u8))) (.pair (.int .u32) (.pair (.int .u32) (.pair (.int .u8) (.pair (.int .u8) (.pair (.slice (.pair (.int .u8) (.pair (.int .u16) (.pair (.int .u16) (.pair (.int .u64) .unit))))) (.pair (.int .u16) (.pair (.arr 32 (.int .u8)) .unit)))))))) p):Sm p.2.2.2.2.2.2.2.1:=⟨h.2.2.2.2.2.2.2.1.1,GJ h.2.2.2.2.2.2.2.1.2⟩
set_option maxRecDepth 100000 in
theorem lifted(os:Os)(started:os.Started)(H:Type)(enc:TypeId×Value→H):
  ReturnsInHanded {} Tryz.checked os 5 .any (Rows.justiceEachSpec.pre6 enc Tryz.prog Tryz.f5 Rows.justiceEachRow.domain false) (Rows.justiceEachSpec.post enc Tryz.prog Tryz.f5 false true false false):=by
 refine returnsInHanded_of_change (C:=Tryz.checked) own started (by kernel_rfl) Tryz.func5
  (ChangeSpec.witness6 (enc:=enc) (C:=Tryz.checked) false ⟨#[],#[.agg (Array.replicate 64 (.int .u8 0)++ #[.int .u32 0,.int .u32 0,.int .u8 0,.int .u8 0,.slice none 0 0,.int .u16 0]++Array.replicate 32 (.int .u8 0)),.int .u8 0,.int .u8 0,.int .u8 0],[]⟩ 24 (by kernel_rfl) (by kernel_rfl) (by kernel_rfl) (by kernel_rfl)) ?_
 intro W base args ds gs before sI hW _ _
 exact LF 14 [.pair (.arr 2 (.arr 32 (.int .u8))) (.pair (.int .u32) (.pair (.int .u32) (.pair (.int .u8) (.pair (.int .u8) (.pair (.slice (.pair (.int .u8) (.pair (.int .u16) (.pair (.int .u16) (.pair (.int .u64) .unit))))) (.pair (.int .u16) (.pair (.arr 32 (.int .u8)) .unit))))))),.int .u8,.int .u8,.int .u8] bg.sg.h Tryz.func5 (by kernel_rfl) (by kernel_rfl) laid (by kernel_rfl) (by kernel_rfl) rfl (by kernel_rfl:Tryz.f5.resultTypes= #[4]) Tryz.underlying4
  (fun | [_,_,_,_],_=>rfl) (fun x hx=>⟨true,bg.run (d:=(x.1,x.2.1,x.2.2.1,x.2.2.2.1)) ⟨Sj hx.1,Si hx.1,E5 hx.2.1,E5 hx.2.2.1,E5 hx.2.2.2.1⟩,rfl⟩) sI hW
theorem pn{a b:Bool}(h:a=true)(h2:b=true):(a && b)=true:=by rw[h,h2];rfl
theorem To:mapsRowed Tryz.prog=true:=by kernel_rfl
theorem Ri:(Rows.justiceEachRow.inPlace==Tryz.prog.inPlace 5)=true:=by kernel_rfl
theorem Rj:(Rows.justiceEachRow.unfollowed==Tryz.prog.unfollowed 5)=true:=by kernel_rfl
theorem Rk:(Rows.justiceEachRow.recurses==Tryz.prog.recurses 5)=true:=by kernel_rfl
theorem Rl:(Rows.justiceEachRow.named==Tryz.prog.varsNamed 5)=true:=by kernel_rfl
theorem Rm:(Rows.justiceEachRow.maps==(Tryz.f5.params.toList++Rows.justiceEachSpec.plain.varTypes Tryz.prog).any (Tryz.prog.mapsRec ·))=true:=by kernel_rfl
theorem Rn:(Rows.justiceEachRow.ifaces==(Tryz.f5.params.toList++Rows.justiceEachSpec.plain.varTypes Tryz.prog).any (Tryz.prog.ifacesRec ·))=true:=by kernel_rfl
theorem Ro:(Rows.justiceEachRow.loops==(Tryz.f5.params.toList++Rows.justiceEachSpec.plain.varTypes Tryz.prog).any (Tryz.prog.loopsFrom ·))=true:=by kernel_rfl
theorem Rp:(Rows.justiceEachRow.wideKeys==(Tryz.f5.params.toList++Rows.justiceEachSpec.plain.varTypes Tryz.prog++Tryz.f5.resultTypes.toList).any (Tryz.prog.wideKeysFrom ·))=true:=by kernel_rfl
theorem Rq:Tryz.prog.stopsHeard=true:=by kernel_rfl
theorem Rr:Tryz.prog.mayEnter=true:=by kernel_rfl
theorem Rs:(Rows.justiceEachRow.lifted==Tryz.prog.liftsFinal)=true:=by kernel_rfl
theorem Rt:(Tryz.prog.make==some Rows.justiceEachRow.make)=true:=by kernel_rfl
set_option maxRecDepth 100000 in
theorem zT:joinedFacts Tryz.prog 5 Tryz.f5 Rows.justiceEachSpec Rows.justiceEachRow=true:=by
 unfold joinedFacts
 exact(pn (pn (pn (pn (pn (pn (pn (pn (pn (pn (pn (pn (pn (pn (pn (pn (pn (pn (pn (pn (pn (pn (pn (pn (pn (pn (pn (pn (pn (pn (pn (by kernel_rfl) laid) To) (by kernel_rfl)) (by kernel_rfl)) (by kernel_rfl)) (by kernel_rfl)) (by kernel_rfl)) (by kernel_rfl)) Ri) Rj) Rk) Rl) Rm) Rn) (by kernel_rfl)) Ro) Rp) (by kernel_rfl)) (by kernel_rfl)) (by kernel_rfl)) (by kernel_rfl)) (by kernel_rfl)) (by kernel_rfl)) Rq) Rr) Rs) Rt) (by kernel_rfl)) (by kernel_rfl)) (by kernel_rfl)) (by kernel_rfl))
theorem PV:Rows.justiceEachRow.holds Tryz.pinned (OpenSpec.ofChange Rows.justiceEachSpec):=
 OpenClaim.holds_of_wide 5 Tryz.f5 rfl rfl rfl rfl rfl rfl rfl ⟨rfl,rfl,rfl,rfl,rfl⟩ rfl rfl rfl rfl rfl (by kernel_rfl) Tryz.func5 zT
  (of_decide_eq_true (by kernel_rfl)) (by unfold Func.isWrapper;first | (rw[if_pos (by decide+kernel)];kernel_rfl) | (rw[if_neg (by decide+kernel)];exact⟨rfl,rfl⟩))
  (fun os started H enc _=>lifted os started H enc)
theorem proved:Rows.JusticeEachSaid:=PV
end Go.Proofs.YtcdokckdlaegdaaGreat.justiceEach
