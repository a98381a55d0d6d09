/-
  LockTells: true of every input, and the input reads behind the call as it read before.
-/
import Derived.Test.YtglpcfdjdabdnaaGreatM6x4
import Derived.Test.YtglpcfdjdabdnaaGreatRows
import Derived.WalkKit
import Derived.ProofKit
namespace Go.Proofs.YtglpcfdjdabdnaaGreat.lockTells
open Go.ChangeShapes Go.WideShapes Go.ChangeAt Go.RowKit Go.Ab
set_option linter.unusedVariables false

theorem own : ownKnob Tryz.prog.godebug = none := by kernel_rfl
theorem laid : laidOutB Tryz.prog = true := by kernel_rfl

theorem bytes_of {l : List Int} (h : ∀ x ∈ l, Rng (.int .u8) x) : Bytes l := fun x hx => by
  have h : (Lit.int .u8 x).wf = true := h x hx
  have h : 0 ≤ x ∧ x ≤ 255 := by simpa [Lit.wf, IntKind.min, IntKind.max, IntKind.signed, IntKind.bits] using h
  exact ⟨h.1, by omega⟩
theorem i64_of {x : Int} (h : Rng (.int .i64) x) : -9223372036854775808 ≤ x ∧ x ≤ 9223372036854775807 := by
  have h : (Lit.int .i64 x).wf = true := h
  simpa [Lit.wf, IntKind.min, IntKind.max, IntKind.signed, IntKind.bits] using h
theorem u16_of {x : Int} (h : Rng (.int .u16) x) : 0 ≤ x ∧ x < 65536 := by
  have h : (Lit.int .u16 x).wf = true := h
  have h : 0 ≤ x ∧ x ≤ 65535 := by simpa [Lit.wf, IntKind.min, IntKind.max, IntKind.signed, IntKind.bits] using h
  exact ⟨h.1, by omega⟩
theorem u64_of {x : Int} (h : Rng (.int .u64) x) : U64 x := by
  have h : (Lit.int .u64 x).wf = true := h
  have h : 0 ≤ x ∧ x ≤ 18446744073709551615 := by simpa [Lit.wf, IntKind.min, IntKind.max, IntKind.signed, IntKind.bits] using h
  exact ⟨h.1, by omega⟩
theorem lkU_of {l : Lk} (h : Rng (.pair (.slice (.pair (.slice (.int .u64)) (.pair (.int .i64) (.pair (.int .i64) (.pair (.int .u64) .unit))))) .unit) l) : LkU l := fun b hb => ⟨fun x hx => u64_of ((h.1.2 b hb).1.2 x hx), u64_of (h.1.2 b hb).2.2.2.1⟩
theorem witU_of {w : Wit} (h : Rng (.pair (.int .i64) (.pair (.slice (.pair (.int .u64) (.pair (.int .u64) .unit))) (.pair (.int .u64) .unit))) w) : WitU w := ⟨fun s hs => ⟨u64_of (h.2.1.2 s hs).1, u64_of (h.2.1.2 s hs).2.1⟩, u64_of h.2.2.1⟩

set_option maxRecDepth 100000 in
theorem lifted (os : Os) (started : os.Started) (H : Type) (enc : TypeId × Value → H) :
    ReturnsInHanded {} Tryz.checked os 3 .any (Rows.lockTellsSpec.pre6 enc Tryz.prog Tryz.f3 Rows.lockTellsRow.domain false) (Rows.lockTellsSpec.post enc Tryz.prog Tryz.f3 false true false false) := by
  refine returnsInHanded_of_change (C := Tryz.checked) own started (by kernel_rfl) Tryz.func3
    (ChangeSpec.witness6 (enc := enc) (C := Tryz.checked) false ⟨#[], #[.agg #[.slice none 0 0], .agg #[.slice none 0 0], .slice none 0 0], []⟩ 8 (by kernel_rfl) (by kernel_rfl) (by kernel_rfl) (by kernel_rfl)) ?_
  intro W base args ds gs before hval hW _ _
  exact law_calls 8 [.pair (.slice (.pair (.slice (.int .u64)) (.pair (.int .i64) (.pair (.int .i64) (.pair (.int .u64) .unit))))) .unit, .pair (.slice (.pair (.slice (.int .u64)) (.pair (.int .i64) (.pair (.int .i64) (.pair (.int .u64) .unit))))) .unit, .slice (.int .u8)] locktells.does Tryz.func3 (by kernel_rfl) (by kernel_rfl) laid (by kernel_rfl) (by kernel_rfl) rfl (by kernel_rfl : Tryz.f3.resultTypes = #[4]) Tryz.underlying4
    (fun | [_, _, _], _ => rfl) (fun x hx => ⟨true, locktells.run (d := (x.1, x.2.1, x.2.2.1)) ⟨lkU_of hx.1, lkU_of hx.2.1, bytes_of hx.2.2.1.2⟩, rfl⟩) hval hW

theorem over : Rows.lockTellsRow.holds Tryz.pinned (OpenSpec.ofChange Rows.lockTellsSpec) :=
  OpenClaim.holds_of_wide 3 Tryz.f3 rfl rfl rfl rfl rfl rfl rfl ⟨rfl, rfl, rfl, rfl, rfl⟩ rfl rfl rfl rfl rfl (by kernel_rfl) Tryz.func3 (by kernel_rfl)
    (of_decide_eq_true (by kernel_rfl)) (by unfold Func.isWrapper; first | (rw [if_pos (by decide +kernel)]; kernel_rfl) | (rw [if_neg (by decide +kernel)]; exact ⟨rfl, rfl⟩))
    (fun os started H enc _ => lifted os started H enc)

theorem proved : Rows.LockTellsSaid := over
end Go.Proofs.YtglpcfdjdabdnaaGreat.lockTells
