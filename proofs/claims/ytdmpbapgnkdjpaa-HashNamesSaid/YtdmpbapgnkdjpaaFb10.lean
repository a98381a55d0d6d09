/-
  HashNames: true of every input, and the input reads behind the call as it read before.
-/
import Derived.Test.YtdmpbapgnkdjpaaRows
import Derived.Test.YtdmpbapgnkdjpaaAb30
import Derived.Test.YtdmpbapgnkdjpaaHl2
import Derived.WalkKit
import Derived.ProofKit
namespace Go.Proofs.Ytdmpbapgnkdjpaa.hashNames
open Go.ChangeShapes Go.WideShapes Go.ChangeAt Go.RowKit Go.Ab
set_option linter.unusedVariables false

theorem own : ownKnob Try.prog.godebug = none := by kernel_rfl
theorem laid : laidOutB Try.prog = true := by kernel_rfl

theorem bytes_of {l : List Int} (h : ∀ x ∈ l, Rng (.int .u8) x) : Bytes l := fun x hx => by
  have h : (Lit.int .u8 x).wf = true := h x hx
  have h : 0 ≤ x ∧ x ≤ 255 := by simpa [Lit.wf, IntKind.min, IntKind.max, IntKind.signed, IntKind.bits] using h
  exact ⟨h.1, by omega⟩
theorem i64_of {x : Int} (h : Rng (.int .i64) x) : -9223372036854775808 ≤ x ∧ x ≤ 9223372036854775807 := by
  have h : (Lit.int .i64 x).wf = true := h
  simpa [Lit.wf, IntKind.min, IntKind.max, IntKind.signed, IntKind.bits] using h
theorem u16_of {x : Int} (h : Rng (.int .u16) x) : 0 ≤ x ∧ x < 65536 := by
  have h : (Lit.int .u16 x).wf = true := h
  have h : 0 ≤ x ∧ x ≤ 65535 := by simpa [Lit.wf, IntKind.min, IntKind.max, IntKind.signed, IntKind.bits] using h
  exact ⟨h.1, by omega⟩

set_option maxRecDepth 100000 in
theorem lifted (os : Os) (started : os.Started) (H : Type) (enc : TypeId × Value → H) :
    ReturnsInHanded {} Try.checked os 12 .any (Rows.hashNamesSpec.pre6 enc Try.prog Try.f12 Rows.hashNamesRow.domain false) (Rows.hashNamesSpec.post enc Try.prog Try.f12 false true false false) := by
  refine returnsInHanded_of_change (C := Try.checked) own started (by kernel_rfl) Try.func12
    (ChangeSpec.witness6 (enc := enc) (C := Try.checked) false ⟨#[], #[.string ⟨#[]⟩, .slice none 0 0, .slice none 0 0], []⟩ 8 (by kernel_rfl) (by kernel_rfl) (by kernel_rfl) (by kernel_rfl)) ?_
  intro W base args ds gs before hval hW _ _
  exact law_calls 8 [.str, .slice (.int .u8), .slice (.int .u8)] hnames.does Try.func12 (by kernel_rfl) (by kernel_rfl) laid (by kernel_rfl) (by kernel_rfl) rfl (by kernel_rfl : Try.f12.resultTypes = #[4]) Try.underlying4
    (fun | [_, _, _], _ => rfl) (fun x hx => ⟨true, hnames.run (d := (x.1, x.2.1, x.2.2.1)) trivial, rfl⟩) hval hW

theorem over : Rows.hashNamesRow.holds Try.pinned (OpenSpec.ofChange Rows.hashNamesSpec) :=
  OpenClaim.holds_of_wide 12 Try.f12 rfl rfl rfl rfl rfl rfl rfl ⟨rfl, rfl, rfl, rfl, rfl⟩ rfl rfl rfl rfl rfl (by kernel_rfl) Try.func12 (by kernel_rfl)
    (of_decide_eq_true (by kernel_rfl)) (by unfold Func.isWrapper; first | (rw [if_pos (by decide +kernel)]; kernel_rfl) | (rw [if_neg (by decide +kernel)]; exact ⟨rfl, rfl⟩))
    (fun os started H enc _ => lifted os started H enc)

theorem proved : Rows.HashNamesSaid := over
end Go.Proofs.Ytdmpbapgnkdjpaa.hashNames
