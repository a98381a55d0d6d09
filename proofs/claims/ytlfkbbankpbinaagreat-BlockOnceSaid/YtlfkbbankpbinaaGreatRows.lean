/-
  No cell of these rows narrows 'for every input' (looked for: loops, veiled, ifaces, maps, wideKeys, modest, calm, conditions, laid).
  DERIVED. THE GIVEN ROWS OF THIS SEAT. 2 by the template 'for every input the law returns true; each argument reads behind the call as it read before'; 0 by the template 'total and deterministic' (their statements: YtlfkbbankpbinaaGreatTotals.lean).
  GIVEN WITH THE SEED: the statements are not yours to turn. If you find one false, say at which input.
  Laid BY PROGRAM, IN A SANDBOX (cutbox-rows.mjs): the forced cells as the released guide's own fill.sh prints them over the translation ae960f2d029cffcb… (all of the seat's roots in one cut). By AI agents, Wed Nov 11 2026. No macro, syntax, notation, axiom, sorry.
-/
import Derived.Test.YtlfkbbankpbinaaGreatChecked
import GoSem.Claim
import GoSem.ClaimJoined
import GoSem.ClaimMapViews
import Derived.JoinedTies
import Derived.KernelRfl
namespace Go.Proofs.YtlfkbbankpbinaaGreat
/- THE CELL 'sum', in the pinned program and in every row, IS THE sha256 OF THE DUMP (.gsa) THAT YtlfkbbankpbinaaGreatProg.lean LOADS. Nothing in Lean hashes anything: it is a label: what it is worth is what the hold of that sum in a sandbox is worth. -/
noncomputable def Tryz.pinned : Pinned := { name := "ytlfkbbankpbinaagreat", sum := "ae960f2d029cffcb90afb2fc4888d320354faf4dcf6b807ebf435e8a076f9ecc", checked := Tryz.checked }
namespace Rows
def none {H : Type} : Left H := { results := [], args := [] }

/-- 'corsnedlaw16.BlockOnce': WHATEVER THE INPUT: true; the input reads as it did. -/
def blockOnceSpec : ChangeSpec := { name := "blockOnce", fn := fun _ => fun
  | [d1, d2, d3] => { results := [.lit (.bool true)], args := [d1, d2, d3] }
  | _ => none }
def blockOnceRow : OpenClaim := { program := "ytlfkbbankpbinaagreat", sum := "ae960f2d029cffcb90afb2fc4888d320354faf4dcf6b807ebf435e8a076f9ecc", func := "corsned/corsnedlaw16.BlockOnce", spec := "blockOnce", inPlace := ["internal/bytealg.Compare"], unfollowed := true, recurses := true, named := ["math/bits.divideError", "math/bits.overflowError"], plainKeys := false, apart := false }
def BlockOnceSaid : Prop := blockOnceRow.holds Tryz.pinned (OpenSpec.ofChange blockOnceSpec)

/-- ITS FALSE NEIGHBOUR: 'it returns false'. Refute it at one input. -/
def blockOnceWrong : ChangeSpec := { name := "blockOnce", fn := fun _ => fun
  | [d1, d2, d3] => { results := [.lit (.bool false)], args := [d1, d2, d3] }
  | _ => none }
def BlockOnceWrongFalsely : Prop := blockOnceRow.holds Tryz.pinned (OpenSpec.ofChange blockOnceWrong)

/-- 'corsnedlaw16.BlockTwo': WHATEVER THE INPUT: true; the input reads as it did. -/
def blockTwoSpec : ChangeSpec := { name := "blockTwo", fn := fun _ => fun
  | [d1, d2, d3] => { results := [.lit (.bool true)], args := [d1, d2, d3] }
  | _ => none }
def blockTwoRow : OpenClaim := { program := "ytlfkbbankpbinaagreat", sum := "ae960f2d029cffcb90afb2fc4888d320354faf4dcf6b807ebf435e8a076f9ecc", func := "corsned/corsnedlaw16.BlockTwo", spec := "blockTwo", inPlace := ["internal/bytealg.Compare"], unfollowed := true, recurses := true, named := ["math/bits.divideError", "math/bits.overflowError"], plainKeys := false, apart := false }
def BlockTwoSaid : Prop := blockTwoRow.holds Tryz.pinned (OpenSpec.ofChange blockTwoSpec)

/-- ITS FALSE NEIGHBOUR: 'it returns false'. Refute it at one input. -/
def blockTwoWrong : ChangeSpec := { name := "blockTwo", fn := fun _ => fun
  | [d1, d2, d3] => { results := [.lit (.bool false)], args := [d1, d2, d3] }
  | _ => none }
def BlockTwoWrongFalsely : Prop := blockTwoRow.holds Tryz.pinned (OpenSpec.ofChange blockTwoWrong)

/- THE SECOND FORM. 'bulk': how many values and letters a reading holds, each counted each time it is reached (what is shared counts as often as it is met; a slice's spare places count too). A statement '..UptoSaid' is the law's where the arguments, and the package variables that the reading takes, are together of bulk at most 1048576: NARROWER than '..Said'. Prove '..Said' where nothing that the law and all that it calls make is longer than what came in: it says more and counts as full. Else prove '..UptoSaid'. A law counts once. -/
mutual
def uptoBulk {H : Type} : DataW H → Nat
  | .lit (.string bytes) => bytes.length + 1
  | .lit _ => 1
  | .nil => 1
  | .ptr d => uptoBulk d + 1
  | .slice elems spare => uptoBulkAll elems + uptoBulkAll spare + 1
  | .agg parts => uptoBulkAll parts + 1
  | .iface _ d => uptoBulk d + 1
  | .map entries => uptoBulkEntries entries + 1
  | .held _ => 1
def uptoBulkAll {H : Type} : List (DataW H) → Nat
  | [] => 0
  | d :: r => uptoBulk d + uptoBulkAll r
def uptoBulkEntries {H : Type} : List (Lit × DataW H) → Nat
  | [] => 0
  | x :: r => uptoBulkEntry x + uptoBulkEntries r
def uptoBulkEntry {H : Type} : Lit × DataW H → Nat
  | (.string bytes, d) => bytes.length + uptoBulk d + 1
  | (_, d) => uptoBulk d + 1
 end
def uptoSmall : (H : Type) → List (DataW H) → Bool := fun _ ds => decide (uptoBulkAll ds ≤ 1048576)
def OpenSpec.upto (s : _root_.Go.ChangeSpec) : _root_.Go.OpenSpec := { _root_.Go.OpenSpec.ofChange s with cond := some uptoSmall }

/-- 'corsnedlaw16.BlockOnce', WHERE WHAT IT READS IS OF BULK AT MOST 1048576: true; the input reads as it did. -/
def blockOnceUptoRow : OpenClaim := { program := "ytlfkbbankpbinaagreat", sum := "ae960f2d029cffcb90afb2fc4888d320354faf4dcf6b807ebf435e8a076f9ecc", func := "corsned/corsnedlaw16.BlockOnce", spec := "blockOnce", inPlace := ["internal/bytealg.Compare"], unfollowed := true, recurses := true, named := ["math/bits.divideError", "math/bits.overflowError"], plainKeys := false, apart := false, narrowed := true }
def BlockOnceUptoSaid : Prop := blockOnceUptoRow.holds Tryz.pinned (OpenSpec.upto blockOnceSpec)

/-- 'corsnedlaw16.BlockTwo', WHERE WHAT IT READS IS OF BULK AT MOST 1048576: true; the input reads as it did. -/
def blockTwoUptoRow : OpenClaim := { program := "ytlfkbbankpbinaagreat", sum := "ae960f2d029cffcb90afb2fc4888d320354faf4dcf6b807ebf435e8a076f9ecc", func := "corsned/corsnedlaw16.BlockTwo", spec := "blockTwo", inPlace := ["internal/bytealg.Compare"], unfollowed := true, recurses := true, named := ["math/bits.divideError", "math/bits.overflowError"], plainKeys := false, apart := false, narrowed := true }
def BlockTwoUptoSaid : Prop := blockTwoUptoRow.holds Tryz.pinned (OpenSpec.upto blockTwoSpec)

end Rows
end Go.Proofs.YtlfkbbankpbinaaGreat
