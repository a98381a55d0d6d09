/-
  SealBack: its row.
-/
import Derived.Test.YtdmpbapgnkdjpaaRows
import Derived.Test.YtdmpbapgnkdjpaaAb31
import Derived.Test.YtdmpbapgnkdjpaaSl2
import Derived.WalkKit
import Derived.ProofKit
namespace Go.Proofs.Ytdmpbapgnkdjpaa.sealBack
open Go.ChangeShapes Go.WideShapes Go.ChangeAt Go.RowKit Go.Ab
set_option linter.unusedVariables false

theorem own : ownKnob Try.prog.godebug = none := by kernel_rfl
theorem laid : laidOutB Try.prog = true := by kernel_rfl

theorem bytes_of {l : List Int} (h : Rng (.slice (.int .u8)) l) : Bytes l := fun x hx => by
  have h : (Lit.int .u8 x).wf = true := h.2 x hx
  have h : 0 ≤ x ∧ x ≤ 255 := by simpa [Lit.wf, IntKind.min, IntKind.max, IntKind.signed, IntKind.bits] using h
  exact ⟨h.1, by omega⟩

set_option maxRecDepth 100000 in
theorem lifted (os : Os) (started : os.Started) (H : Type) (enc : TypeId × Value → H) :
    ReturnsInHanded {} Try.checked os 4 .any (Rows.sealBackSpec.pre6 enc Try.prog Try.f4 Rows.sealBackRow.domain false) (Rows.sealBackSpec.post enc Try.prog Try.f4 false true false false) := by
  refine returnsInHanded_of_change (C := Try.checked) own started (by kernel_rfl) Try.func4
    (ChangeSpec.witness6 (enc := enc) (C := Try.checked) false ⟨#[], #[.agg (Array.replicate 32 (.int .u8 0)), .slice none 0 0, .slice none 0 0], []⟩ 8 (by kernel_rfl) (by kernel_rfl) (by kernel_rfl) (by kernel_rfl)) ?_
  intro W base args ds gs before hval hW _ _
  exact law_calls 8 [.arr 32 (.int .u8), .slice (.int .u8), .slice (.int .u8)] lback.does Try.func4 (by kernel_rfl) (by kernel_rfl) laid (by kernel_rfl) (by kernel_rfl) rfl (by kernel_rfl : Try.f4.resultTypes = #[4]) Try.underlying4
    (fun | [_, _, _], _ => rfl) (fun x hx => ⟨true, lback.run (d := (x.1, x.2.1, x.2.2.1)) ⟨hx.1.1, bytes_of hx.2.1, bytes_of hx.2.2.1⟩, rfl⟩) hval hW

theorem over : Rows.sealBackRow.holds Try.pinned (OpenSpec.ofChange Rows.sealBackSpec) :=
  OpenClaim.holds_of_wide 4 Try.f4 rfl rfl rfl rfl rfl rfl rfl ⟨rfl, rfl, rfl, rfl, rfl⟩ rfl rfl rfl rfl rfl (by kernel_rfl) Try.func4 (by kernel_rfl)
    (of_decide_eq_true (by kernel_rfl)) (by unfold Func.isWrapper; first | (rw [if_pos (by decide +kernel)]; kernel_rfl) | (rw [if_neg (by decide +kernel)]; exact ⟨rfl, rfl⟩))
    (fun os started H enc _ => lifted os started H enc)

theorem proved : Rows.SealBackSaid := over
end Go.Proofs.Ytdmpbapgnkdjpaa.sealBack
