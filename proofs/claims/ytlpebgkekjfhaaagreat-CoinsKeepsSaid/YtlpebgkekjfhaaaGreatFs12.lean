/-
  CoinsKeeps: true of every input, and the input reads behind the call as it read before.
-/
import Derived.Test.YtlpebgkekjfhaaaGreatS12x6
import Derived.Test.YtlpebgkekjfhaaaGreatRows
import Derived.WalkKit
import Derived.ProofKit
set_option linter.unusedVariables false
set_option linter.unusedSimpArgs false
namespace Go.Proofs.YtlpebgkekjfhaaaGreat.coinsKeeps
open Go.ChangeShapes Go.WideShapes Go.ChangeAt Go.RowKit Go.Ab
set_option linter.unusedVariables false
theorem own:ownKnob Tryz.prog.godebug=none:=by kernel_rfl
theorem laid:laidOutB Tryz.prog=true:=by kernel_rfl
theorem CL{l:List Int}(h:∀x∈l,wb (.int .u8) x):Bytes l:=fun x hx=>by
 have h:(Lit.int .u8 x).wf=true:=h x hx
 have h:0≤x∧x≤255:=by simpa[Lit.wf,IntKind.min,IntKind.max,IntKind.signed,IntKind.bits]using h
 exact⟨h.1,by omega⟩
theorem C7{x:Int}(h:wb (.int .i64) x): -9223372036854775808≤x∧x≤9223372036854775807:=by
 have h:(Lit.int .i64 x).wf=true:=h
 simpa[Lit.wf,IntKind.min,IntKind.max,IntKind.signed,IntKind.bits]using h
theorem uF{x:Int}(h:wb (.int .u64) x):jd x:=by
 have h:(Lit.int .u64 x).wf=true:=h
 have h:0≤x∧x≤18446744073709551615:=by simpa[Lit.wf,IntKind.min,IntKind.max,IntKind.signed,IntKind.bits]using h
 exact⟨h.1,by omega⟩
theorem Dl{l:Lk}(h:wb (.pair (.slice (.pair (.slice (.int .u64)) (.pair (.int .i64) (.pair (.int .i64) (.pair (.int .u64) .unit))))) .unit) l):Cm l:=fun b hb=>⟨fun x hx=>uF ((h.1.2 b hb).1.2 x hx),uF (h.1.2 b hb).2.2.2.1⟩
theorem Fs{w:oY}(h:wb (.pair (.int .i64) (.pair (.slice (.pair (.int .u64) (.pair (.int .u64) .unit))) (.pair (.int .u64) .unit))) w):we w:=⟨fun s hs=>⟨uF (h.2.1.2 s hs).1,uF (h.2.1.2 s hs).2.1⟩,uF h.2.2.1⟩
theorem Gn{l:Lk}(h:wb (.pair (.slice (.pair (.slice (.int .u64)) (.pair (.int .i64) (.pair (.int .i64) (.pair (.int .u64) .unit))))) .unit) l):FO l:=⟨Dl h,h.1.1⟩
theorem GR{t:eT}(h:wb (.pair (.slice (.pair (.pair (.arr 32 (.int .u8)) (.pair (.int .i64) .unit)) (.pair (.pair (.int .i64) (.pair (.slice (.pair (.int .u64) (.pair (.int .u64) .unit))) (.pair (.int .u64) .unit))) .unit))) (.pair (.slice (.pair (.int .i64) (.pair (.pair (.slice (.pair (.slice (.int .u64)) (.pair (.int .i64) (.pair (.int .i64) (.pair (.int .u64) .unit))))) .unit) .unit))) (.pair (.int .i64) .unit))) t):nR t:=⟨⟨fun o ho=>Gn (h.2.1.2 o ho).2.1,h.1.1,h.2.1.1⟩,fun x hx=>⟨⟨(h.1.2 x hx).1.1.1,CL (h.1.2 x hx).1.1.2⟩,Fs (h.1.2 x hx).2.1,(h.1.2 x hx).2.1.2.1.1⟩,(C7 h.2.2.1).2⟩
theorem E6{o:fu}(h:wb (.pair (.int .i64) (.pair (.pair (.slice (.pair (.slice (.int .u64)) (.pair (.int .i64) (.pair (.int .i64) (.pair (.int .u64) .unit))))) .unit) .unit)) o):xr o:=⟨Dl h.2.1,h.2.1.1.1,(C7 h.1).2⟩
set_option maxRecDepth 100000 in
theorem lifted(os:Os)(started:os.Started)(H:Type)(enc:TypeId×Value→H):
  ReturnsInHanded {} Tryz.checked os 4 .any (Rows.coinsKeepsSpec.pre6 enc Tryz.prog Tryz.f4 Rows.coinsKeepsRow.domain false) (Rows.coinsKeepsSpec.post enc Tryz.prog Tryz.f4 false true false false):=by
 refine returnsInHanded_of_change (C:=Tryz.checked) own started (by kernel_rfl) Tryz.func4
  (ChangeSpec.witness6 (enc:=enc) (C:=Tryz.checked) false ⟨#[],#[.slice none 0 0,.slice none 0 0],[]⟩ 8 (by kernel_rfl) (by kernel_rfl) (by kernel_rfl) (by kernel_rfl)) ?_
 intro W base args ds gs before hval hW _ _
 exact BR 14 [.slice (.pair (.int .i64) (.pair (.pair (.slice (.pair (.slice (.int .u64)) (.pair (.int .i64) (.pair (.int .i64) (.pair (.int .u64) .unit))))) .unit) .unit)),.slice (.pair (.int .i64) (.pair (.pair (.slice (.pair (.pair (.arr 32 (.int .u8)) (.pair (.int .i64) .unit)) (.pair (.pair (.int .i64) (.pair (.slice (.pair (.int .u64) (.pair (.int .u64) .unit))) (.pair (.int .u64) .unit))) .unit))) (.pair (.slice (.pair (.int .i64) (.pair (.pair (.slice (.pair (.slice (.int .u64)) (.pair (.int .i64) (.pair (.int .i64) (.pair (.int .u64) .unit))))) .unit) .unit))) (.pair (.int .i64) .unit))) (.pair (.int .i64) .unit)))] ae.sg.h Tryz.func4 (by kernel_rfl) (by kernel_rfl) laid (by kernel_rfl) (by kernel_rfl) rfl (by kernel_rfl:Tryz.f4.resultTypes= #[4]) Tryz.underlying4
  (fun | [_,_],_=>rfl) (fun x hx=>⟨true,ae.run (d:=(x.1,x.2.1)) ⟨fun o ho=>E6 (hx.1.2 o ho),hx.2.1.1,fun y hy=>GR (hx.2.1.2 y hy).2.1⟩,rfl⟩) hval hW
theorem jr{a b:Bool}(h:a=true)(h2:b=true):(a && b)=true:=by rw[h,h2];rfl
theorem Hp:mapsRowed Tryz.prog=true:=by kernel_rfl
theorem F5:(Rows.coinsKeepsRow.inPlace==Tryz.prog.inPlace 4)=true:=by kernel_rfl
theorem F6:(Rows.coinsKeepsRow.unfollowed==Tryz.prog.unfollowed 4)=true:=by kernel_rfl
theorem F7:(Rows.coinsKeepsRow.recurses==Tryz.prog.recurses 4)=true:=by kernel_rfl
theorem F8:(Rows.coinsKeepsRow.named==Tryz.prog.varsNamed 4)=true:=by kernel_rfl
theorem F9:(Rows.coinsKeepsRow.maps==(Tryz.f4.params.toList++Rows.coinsKeepsSpec.plain.varTypes Tryz.prog).any (Tryz.prog.mapsRec ·))=true:=by kernel_rfl
theorem Ga:(Rows.coinsKeepsRow.ifaces==(Tryz.f4.params.toList++Rows.coinsKeepsSpec.plain.varTypes Tryz.prog).any (Tryz.prog.ifacesRec ·))=true:=by kernel_rfl
theorem Gb:(Rows.coinsKeepsRow.loops==(Tryz.f4.params.toList++Rows.coinsKeepsSpec.plain.varTypes Tryz.prog).any (Tryz.prog.loopsFrom ·))=true:=by kernel_rfl
theorem Gc:(Rows.coinsKeepsRow.wideKeys==(Tryz.f4.params.toList++Rows.coinsKeepsSpec.plain.varTypes Tryz.prog++Tryz.f4.resultTypes.toList).any (Tryz.prog.wideKeysFrom ·))=true:=by kernel_rfl
theorem Gd:Tryz.prog.stopsHeard=true:=by kernel_rfl
theorem Ge:Tryz.prog.mayEnter=true:=by kernel_rfl
theorem Gf:(Rows.coinsKeepsRow.lifted==Tryz.prog.liftsFinal)=true:=by kernel_rfl
theorem Gg:(Tryz.prog.make==some Rows.coinsKeepsRow.make)=true:=by kernel_rfl
set_option maxRecDepth 100000 in
theorem rA:joinedFacts Tryz.prog 4 Tryz.f4 Rows.coinsKeepsSpec Rows.coinsKeepsRow=true:=by
 unfold joinedFacts
 exact(jr (jr (jr (jr (jr (jr (jr (jr (jr (jr (jr (jr (jr (jr (jr (jr (jr (jr (jr (jr (jr (jr (jr (jr (jr (jr (jr (jr (jr (jr (jr (by kernel_rfl) laid) Hp) (by kernel_rfl)) (by kernel_rfl)) (by kernel_rfl)) (by kernel_rfl)) (by kernel_rfl)) (by kernel_rfl)) F5) F6) F7) F8) F9) Ga) (by kernel_rfl)) Gb) Gc) (by kernel_rfl)) (by kernel_rfl)) (by kernel_rfl)) (by kernel_rfl)) (by kernel_rfl)) (by kernel_rfl)) Gd) Ge) Gf) Gg) (by kernel_rfl)) (by kernel_rfl)) (by kernel_rfl)) (by kernel_rfl))
theorem E8:Rows.coinsKeepsRow.holds Tryz.pinned (OpenSpec.ofChange Rows.coinsKeepsSpec):=
 OpenClaim.holds_of_wide 4 Tryz.f4 rfl rfl rfl rfl rfl rfl rfl ⟨rfl,rfl,rfl,rfl,rfl⟩ rfl rfl rfl rfl rfl (by kernel_rfl) Tryz.func4 rA
  (of_decide_eq_true (by kernel_rfl)) (by unfold Func.isWrapper;first | (rw[if_pos (by decide+kernel)];kernel_rfl) | (rw[if_neg (by decide+kernel)];exact⟨rfl,rfl⟩))
  (fun os started H enc _=>lifted os started H enc)
theorem proved:Rows.CoinsKeepsSaid:=E8
end Go.Proofs.YtlpebgkekjfhaaaGreat.coinsKeeps
