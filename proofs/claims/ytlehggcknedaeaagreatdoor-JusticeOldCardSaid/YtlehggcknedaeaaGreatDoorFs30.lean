/-
  JusticeOld: true of every input, and the input reads behind the call as it read before.
-/
import Derived.Test.YtlehggcknedaeaaGreatDoorS30x6
import Derived.Test.YtlehggcknedaeaaGreatDoorRows
import Derived.Test.YtlehggcknedaeaaGreatDoorTie
import Derived.Test.YtlehggcknedaeaaGreatDoorCards
import Derived.WalkKit
import Derived.LaidLaws
import Derived.Handed
import Derived.Lib.LaidTab
import Derived.Stop.LaidErr
import Derived.SevenTiedAt
import Derived.ProofKit
set_option linter.unusedVariables false
set_option linter.unusedSimpArgs false
namespace Go.Proofs.YtlehggcknedaeaaGreatDoor.justiceOld
open Go.ChangeShapes Go.WideShapes Go.ChangeAt Go.RowKit Go.Ab
set_option linter.unusedVariables false
theorem own:ownKnob Tryz.prog.godebug=none:=by kernel_rfl
theorem laid:laidOutB Tryz.prog=true:=by kernel_rfl
theorem atZ{l:List Int}(h:∀x∈l,YX (.int .u8) x):Bytes l:=fun x hx=>by
 have h:(Lit.int .u8 x).wf=true:=h x hx;have h:0≤x∧x≤255:=by simpa[Lit.wf,IntKind.min,IntKind.max,IntKind.signed,IntKind.bits]using h
 exact⟨h.1,by omega⟩
theorem al4{x:Int}(h:YX (.int .u16) x):0≤x∧x < 65536:=by
 have h:(Lit.int .u16 x).wf=true:=h;have h:0≤x∧x≤65535:=by simpa[Lit.wf,IntKind.min,IntKind.max,IntKind.signed,IntKind.bits]using h
 exact⟨h.1,by omega⟩
theorem al5{x:Int}(h:YX (.int .u64) x):eG x:=by
 have h:(Lit.int .u64 x).wf=true:=h;have h:0≤x∧x≤18446744073709551615:=by simpa[Lit.wf,IntKind.min,IntKind.max,IntKind.signed,IntKind.bits]using h
 exact⟨h.1,by omega⟩
theorem aFZ{l:Lk}(h:YX (.pair (.slice (.pair (.slice (.int .u64)) (.pair (.int .i64) (.pair (.int .i64) (.pair (.int .u64) .unit))))) .unit) l):atb l:=fun b hb=>⟨fun x hx=>al5 ((h.1.2 b hb).1.2 x hx),al5 (h.1.2 b hb).2.2.2.1⟩
theorem M5{l:Lk}(h:YX (.pair (.slice (.pair (.slice (.int .u64)) (.pair (.int .i64) (.pair (.int .i64) (.pair (.int .u64) .unit))))) .unit) l):Ba l:=⟨aFZ h,h.1.1⟩
theorem YQ{x:Int}(h:YX (.int .u8) x):0≤x∧x < 256:=by
 have h:(Lit.int .u8 x).wf=true:=h;have h:0≤x∧x≤255:=by simpa[Lit.wf,IntKind.min,IntKind.max,IntKind.signed,IntKind.bits]using h
 exact⟨h.1,by omega⟩
theorem azS{x:Int}(h:YX (.int .u32) x):0≤x∧x < 4294967296:=by
 have h:(Lit.int .u32 x).wf=true:=h;have h:0≤x∧x≤4294967295:=by simpa[Lit.wf,IntKind.min,IntKind.max,IntKind.signed,IntKind.bits]using h
 exact⟨h.1,by omega⟩
theorem aGg{p:Jf}(h:YX (.pair (.arr 2 (.arr 32 (.int .u8))) (.pair (.int .u32) (.pair (.int .u32) (.pair (.int .u8) (.pair (.int .u8) (.pair (.slice (.pair (.int .u8) (.pair (.int .u16) (.pair (.int .u16) (.pair (.int .u64) .unit))))) (.pair (.int .u16) (.pair (.arr 32 (.int .u8)) .unit)))))))) p):amh p:=by
 have hl:p.1.length=2:=h.1.1;have hs:∀k:Nat,k < 2→Sm (nth tH p.1 k):=fun k hk=>by rw[cK (t:=tH) (by omega:k < p.1.length)];have:=h.1.2 _ (List.getElem_mem (by omega:k < p.1.length));exact⟨this.1,atZ this.2⟩
 exact⟨hl,(hs 0 (by decide)).1,(hs 1 (by decide)).1,azS h.2.1,azS h.2.2.1,YQ h.2.2.2.1,YQ h.2.2.2.2.1,fun o ho=>by
  have:=h.2.2.2.2.2.1.2 o ho;exact⟨YQ this.1,al4 this.2.1,al4 this.2.2.1,al5 this.2.2.2.1⟩,h.2.2.2.2.2.1.1,al4 h.2.2.2.2.2.2.1⟩
theorem aHR{W:World}(h:laidMet Tryz.prog Rows.justiceOldRow.laid W):Gl ((gq []).env W (fun _=> .free) (fun _=>none)):=by
 have h2:laidMet Tryz.prog [("math/bits.deBruijn64tab",Lib.tabData .u8 aHK)] W:=laidMet.tail h
 have hg:Tryz.prog.globalNamed "math/bits.deBruijn64tab" =some 1:=by kernel_rfl
 have hT:=Lib.tabIs_of_head (t:=251) (e:=5) (n:=64) hg (by kernel_rfl) (by kernel_rfl) (by kernel_rfl) (by kernel_rfl) (by kernel_rfl) h2;intro t ht;obtain rfl:=List.mem_singleton.1 ht;refine⟨rfl,fun i v hv=>⟨1,0,rfl,?_,trivial⟩⟩;have hv:(aHK.map fun z=>Value.int .u8 z)[i]? =some v:=hv
 rw[List.getElem?_map,Option.map_eq_some_iff]at hv;obtain⟨z,hz,rfl⟩:=hv;have hc:=hT.cell hg i (List.getElem?_eq_some_iff.1 hz).1;rw[show aHK.getD i 0=z by rw[List.getD_eq_getElem?_getD,hz];rfl]at hc;rw[Nat.zero_add];exact hc
def t32:List Int:=[0,1,28,2,29,14,24,3,30,22,20,15,25,17,4,8,31,27,13,23,21,19,16,7,26,12,18,6,11,5,10,9]
noncomputable def XX(os:Os):World:=
 let w0:=World.holding Tryz.prog os ⟨#[],#[],[]⟩
 {w0 with heap:=(w0.heap.modify 0 fun | .cells _ t frozen=> .cells (t32.map fun z=>Value.int .u8 z).toArray t frozen | o=>o).modify 1 fun | .cells _ t frozen=> .cells (aHK.map fun z=>Value.int .u8 z).toArray t frozen | o=>o}
theorem awO(os:Os)(args:Array Value):laidMet Tryz.prog Rows.justiceOldRow.laid ((XX os).forCall (fun _ _=>0) ⟨#[],args,[]⟩).memory:=
 laidMet_of_run' 8 (by kernel_rfl) (by kernel_rfl)
set_option maxRecDepth 100000 in
theorem lifted(os:Os)(started:os.Started)(H:Type)(enc:TypeId×Value→H):
  ReturnsInHanded {} Tryz.checked os 3 .any (fun w args=>(Rows.justiceOldSpec.pre enc Tryz.prog Tryz.f3 Rows.justiceOldRow.domain false w args∧laidMet Tryz.prog Rows.justiceOldRow.laid w)∧sizedMet enc Tryz.prog Tryz.f3 (OpenSpec.ofChange Rows.justiceOldSpec) false w args) (Rows.justiceOldSpec.post enc Tryz.prog Tryz.f3 false true false false):=by
 refine returnsInHanded_of_change_and (C:=Tryz.checked) (X:=fun w _=>laidMet Tryz.prog Rows.justiceOldRow.laid w) (fun _ _ _ hh h=>h.of_heap hh) own started (by kernel_rfl) Tryz.func3
  (ChangeSpec.witness_at (enc:=enc) (C:=Tryz.checked) (os:=os) (X:=fun w _=>laidMet Tryz.prog Rows.justiceOldRow.laid w) false (XX os) #[.agg (Array.replicate 64 (.int .u8 0)++ #[.int .u32 0,.int .u32 0,.int .u8 0,.int .u8 0,.slice none 0 0,.int .u16 0]++Array.replicate 32 (.int .u8 0)),.int .u8 0,.int .u8 0,.int .u8 0] 24 rfl (by kernel_rfl) (by kernel_rfl) (by kernel_rfl) (by kernel_rfl) (by kernel_rfl) (awO os _)) ?_
 intro W base args ds gs before xA hW _ _ hL _
 exact aqC 14 [.pair (.arr 2 (.arr 32 (.int .u8))) (.pair (.int .u32) (.pair (.int .u32) (.pair (.int .u8) (.pair (.int .u8) (.pair (.slice (.pair (.int .u8) (.pair (.int .u16) (.pair (.int .u16) (.pair (.int .u64) .unit))))) (.pair (.int .u16) (.pair (.arr 32 (.int .u8)) .unit))))))),.int .u8,.int .u8,.int .u8] (aB9.h.1 (by rfl)) Tryz.func3 (by kernel_rfl) (by kernel_rfl) laid (by kernel_rfl) (by kernel_rfl) rfl (by kernel_rfl:Tryz.f3.resultTypes= #[4]) Tryz.underlying4
  (fun | [_,_,_,_],_=>rfl) (fun x hx=>⟨true,awM (d:=(x.1,x.2.1,x.2.2.1,x.2.2.2.1)) ⟨aGg hx.1,YQ hx.2.1,YQ hx.2.2.1,YQ hx.2.2.2.1⟩,rfl⟩) xA hW (aHR hL)
theorem pH{a b:Bool}(h:a=true)(h2:b=true):(a && b)=true:=by rw[h,h2];rfl
theorem aHL:mapsRowed Tryz.prog=true:=by kernel_rfl
theorem aEZ:(Rows.justiceOldRow.inPlace==Tryz.prog.inPlace 3)=true:=by kernel_rfl
theorem aE0:(Rows.justiceOldRow.unfollowed==Tryz.prog.unfollowed 3)=true:=by kernel_rfl
theorem aE1:(Rows.justiceOldRow.recurses==Tryz.prog.recurses 3)=true:=by kernel_rfl
theorem aE2:(Rows.justiceOldRow.named==Tryz.prog.varsNamed 3)=true:=by kernel_rfl
theorem aE3:(Rows.justiceOldRow.maps==(Tryz.f3.params.toList++Rows.justiceOldSpec.plain.varTypes Tryz.prog).any (Tryz.prog.mapsRec ·))=true:=by kernel_rfl
theorem aE4:(Rows.justiceOldRow.ifaces==(Tryz.f3.params.toList++Rows.justiceOldSpec.plain.varTypes Tryz.prog).any (Tryz.prog.ifacesRec ·))=true:=by kernel_rfl
theorem aE5:(Rows.justiceOldRow.loops==(Tryz.f3.params.toList++Rows.justiceOldSpec.plain.varTypes Tryz.prog).any (Tryz.prog.loopsFrom ·))=true:=by kernel_rfl
theorem aE6:(Rows.justiceOldRow.wideKeys==(Tryz.f3.params.toList++Rows.justiceOldSpec.plain.varTypes Tryz.prog++Tryz.f3.resultTypes.toList).any (Tryz.prog.wideKeysFrom ·))=true:=by kernel_rfl
theorem aE7:Tryz.prog.stopsHeard=true:=by kernel_rfl
theorem aE8:Tryz.prog.mayEnter=true:=by kernel_rfl
theorem aE9:(Rows.justiceOldRow.lifted==Tryz.prog.liftsFinal)=true:=by kernel_rfl
theorem aFa:(Tryz.prog.make==some Rows.justiceOldRow.make)=true:=by kernel_rfl
set_option maxRecDepth 100000 in
theorem MS:joinedFacts Tryz.prog 3 Tryz.f3 Rows.justiceOldSpec Rows.justiceOldRow=true:=by unfold joinedFacts;exact(pH (pH (pH (pH (pH (pH (pH (pH (pH (pH (pH (pH (pH (pH (pH (pH (pH (pH (pH (pH (pH (pH (pH (pH (pH (pH (pH (pH (pH (pH (pH (by kernel_rfl) laid) aHL) (by kernel_rfl)) (by kernel_rfl)) (by kernel_rfl)) (by kernel_rfl)) (by kernel_rfl)) (by kernel_rfl)) aEZ) aE0) aE1) aE2) aE3) aE4) (by kernel_rfl)) aE5) aE6) (by kernel_rfl)) (by kernel_rfl)) (by kernel_rfl)) (by kernel_rfl)) (by kernel_rfl)) (by kernel_rfl)) aE7) aE8) aE9) aFa) (by kernel_rfl)) (by kernel_rfl)) (by kernel_rfl)) (by kernel_rfl))
theorem over:Rows.justiceOldRow.holds Tryz.pinned (OpenSpec.ofChange Rows.justiceOldSpec):=
 OpenClaim.holds_of_wide 3 Tryz.f3 rfl rfl rfl rfl rfl rfl rfl ⟨rfl,rfl,rfl,rfl,rfl⟩ rfl rfl rfl rfl rfl (by kernel_rfl) Tryz.func3 MS
  (of_decide_eq_true (by kernel_rfl)) (by unfold Func.isWrapper;first | (rw[if_pos (by decide+kernel)];kernel_rfl) | (rw[if_neg (by decide+kernel)];exact⟨rfl,rfl⟩))
  (fun os started H enc _=>lifted os started H enc)
theorem params:Tryz.f3.params= #[29,5,5,5]:=by kernel_rfl
theorem stands : ∀ t ∈ ([29, 5, 5, 5] : List Nat), Tryz.pinned.checked.prog.wantsStandIn t = false := fun t ht => by
  have h29 : Tryz.pinned.checked.prog.wantsStandIn 29 = false := by kernel_rfl
  have h5 : Tryz.pinned.checked.prog.wantsStandIn 5 = false := by kernel_rfl
  rcases List.mem_cons.1 ht with rfl | ht
  · exact h29
  rcases List.mem_cons.1 ht with rfl | ht
  · exact h5
  rcases List.mem_cons.1 ht with rfl | ht
  · exact h5
  rcases List.mem_cons.1 ht with rfl | ht
  · exact h5
  cases ht
theorem looks (f : FuncId) (fn : Func) (h1 : Tryz.pinned.checked.prog.funcNamed Rows.justiceOldRow.func = some f) (h2 : Tryz.pinned.checked.prog.funcs[f]? = some fn) : false = Tryz.pinned.checked.prog.looks [] ∧ ∀ (j : Nat) t, fn.params[j]? = some t → Tryz.pinned.checked.prog.wantsStandIn t = false := by
  obtain rfl : f = 3 := Option.some.inj (h1.symm.trans (by kernel_rfl))
  obtain rfl : fn = Tryz.f3 := Option.some.inj (h2.symm.trans Tryz.func3)
  refine ⟨by kernel_rfl, fun j t hj => ?_⟩
  rw [params] at hj
  exact stands t (Array.mem_toList_iff.2 (Array.mem_of_getElem? hj))
theorem proved : Rows.JusticeOldCardSaid :=
  Claim7.holds_tied_plain_at .later [] [.data, .data] true _ false over (fun _ h => by cases h) (by kernel_rfl) (fun _ h => by cases h)
    justiceOld_row_tie rfl ⟨rfl, rfl⟩ (by kernel_rfl) (by decide) looks (by kernel_rfl)
end Go.Proofs.YtlehggcknedaeaaGreatDoor.justiceOld
