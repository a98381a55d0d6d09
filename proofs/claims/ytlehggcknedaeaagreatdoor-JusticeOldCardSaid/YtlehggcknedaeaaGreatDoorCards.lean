/-
  DERIVED. GIVEN WITH THE SEED: THE CARDS: each row of YtlehggcknedaeaaGreatDoorRows.lean that lists a variable, with what it lists TIED to the program's text (the seventh form; the later family's looks); each row that meets fmt, with fmt's text TOLD by the authors' own Lean function (tested against real Go, not proved from fmt's source: count such statements apart). THE CARD IS WHAT COUNTS. Prove the row's statement (the work); the ties are given (YtlehggcknedaeaaGreatDoorTie.lean); close each card by the builder's one call (the guide's Derived/Test/ToyasCard.lean, 'card_holds'). Laid BY PROGRAM, IN A SANDBOX (cutbox-door.mjs). By AI agents, Wed Nov 11 2026. No macro, syntax, notation, axiom, sorry.
-/
import Derived.Test.YtlehggcknedaeaaGreatDoorRows
import GoSem.ClaimSeven
namespace Go.Proofs.YtlehggcknedaeaaGreatDoor
namespace Rows

/-- THE TIED CARD OF 'corsnedlaw24.JusticeOld'. -/
def justiceOldCard : Claim7 := { stood := { row := justiceOldRow, standIns := [], harness := (true, "5847581cb294cc78c2ba0fa103c16b700736a81388bb454f6a82f7b0e2b854ba"), looks := false }, kinds := [], alts := [], laidByText := true, laidKinds := [.data, .data], laidTests := true, laidLooks := .later }
def JusticeOldCardSaid : Prop := Claim7.holds Tryz.pinned (.plain (OpenSpec.ofChange justiceOldSpec)) justiceOldCard

/-- THE SECOND FORM's CARD OF 'corsnedlaw24.JusticeOld'. -/
def justiceOldUptoCard : Claim7 := { stood := { row := justiceOldUptoRow, standIns := [], harness := (true, "5847581cb294cc78c2ba0fa103c16b700736a81388bb454f6a82f7b0e2b854ba"), looks := false }, kinds := [], alts := [], laidByText := true, laidKinds := [.data, .data], laidTests := true, laidLooks := .later }
def JusticeOldUptoCardSaid : Prop := Claim7.holds Tryz.pinned (.plain (OpenSpec.upto justiceOldSpec)) justiceOldUptoCard
end Rows
end Go.Proofs.YtlehggcknedaeaaGreatDoor
