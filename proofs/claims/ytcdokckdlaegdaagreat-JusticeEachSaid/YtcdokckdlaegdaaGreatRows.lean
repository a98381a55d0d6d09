/-
  No cell of these rows narrows 'for every input' (looked for: loops, veiled, ifaces, maps, wideKeys, modest, calm, conditions, laid).
  DERIVED. THE GIVEN ROWS OF THIS SEAT. 4 by the template 'for every input the law returns true; each argument reads behind the call as it read before'; 0 by the template 'total and deterministic' (their statements: YtcdokckdlaegdaaGreatTotals.lean).
  GIVEN WITH THE SEED: the statements are not yours to turn. If you find one false, say at which input.
  Laid BY PROGRAM, IN A SANDBOX (cutbox-rows.mjs): the forced cells as the released guide's own fill.sh prints them over the translation b21c92a21fb4f551… (all of the seat's roots in one cut). By AI agents, Wed Nov 11 2026. No macro, syntax, notation, axiom, sorry.
-/
import Derived.Test.YtcdokckdlaegdaaGreatChecked
import GoSem.Claim
import GoSem.ClaimJoined
import GoSem.ClaimMapViews
import Derived.JoinedTies
import Derived.KernelRfl
namespace Go.Proofs.YtcdokckdlaegdaaGreat
/- THE CELL 'sum', in the pinned program and in every row, IS THE sha256 OF THE DUMP (.gsa) THAT YtcdokckdlaegdaaGreatProg.lean LOADS. Nothing in Lean hashes anything: it is a label: what it is worth is what the hold of that sum in a sandbox is worth. -/
noncomputable def Tryz.pinned : Pinned := { name := "ytcdokckdlaegdaagreat", sum := "b21c92a21fb4f551af5f942d50310f0d3839881272c8dedaa02bea4b348ff9f8", checked := Tryz.checked }
namespace Rows
def none {H : Type} : Left H := { results := [], args := [] }

/-- 'corsnedlaw24.JusticeErrs': WHATEVER THE INPUT: true; the input reads as it did. -/
def justiceErrsSpec : ChangeSpec := { name := "justiceErrs", fn := fun _ => fun
  | [d1, d2, d3, d4] => { results := [.lit (.bool true)], args := [d1, d2, d3, d4] }
  | _ => none }
def justiceErrsRow : OpenClaim := { program := "ytcdokckdlaegdaagreat", sum := "b21c92a21fb4f551af5f942d50310f0d3839881272c8dedaa02bea4b348ff9f8", func := "corsned/corsnedlaw24.JusticeErrs", spec := "justiceErrs", inPlace := ["internal/bytealg.Compare"], unfollowed := true, recurses := true, named := ["math/bits.divideError", "math/bits.overflowError"], plainKeys := false, apart := false }
def JusticeErrsSaid : Prop := justiceErrsRow.holds Tryz.pinned (OpenSpec.ofChange justiceErrsSpec)

/-- ITS FALSE NEIGHBOUR: 'it returns false'. Refute it at one input. -/
def justiceErrsWrong : ChangeSpec := { name := "justiceErrs", fn := fun _ => fun
  | [d1, d2, d3, d4] => { results := [.lit (.bool false)], args := [d1, d2, d3, d4] }
  | _ => none }
def JusticeErrsWrongFalsely : Prop := justiceErrsRow.holds Tryz.pinned (OpenSpec.ofChange justiceErrsWrong)

/-- 'corsnedlaw24.JusticeWhole': WHATEVER THE INPUT: true; the input reads as it did. -/
def justiceWholeSpec : ChangeSpec := { name := "justiceWhole", fn := fun _ => fun
  | [d1, d2, d3] => { results := [.lit (.bool true)], args := [d1, d2, d3] }
  | _ => none }
def justiceWholeRow : OpenClaim := { program := "ytcdokckdlaegdaagreat", sum := "b21c92a21fb4f551af5f942d50310f0d3839881272c8dedaa02bea4b348ff9f8", func := "corsned/corsnedlaw24.JusticeWhole", spec := "justiceWhole", inPlace := ["internal/bytealg.Compare"], unfollowed := true, recurses := true, named := ["math/bits.divideError", "math/bits.overflowError"], plainKeys := false, apart := false }
def JusticeWholeSaid : Prop := justiceWholeRow.holds Tryz.pinned (OpenSpec.ofChange justiceWholeSpec)

/-- ITS FALSE NEIGHBOUR: 'it returns false'. Refute it at one input. -/
def justiceWholeWrong : ChangeSpec := { name := "justiceWhole", fn := fun _ => fun
  | [d1, d2, d3] => { results := [.lit (.bool false)], args := [d1, d2, d3] }
  | _ => none }
def JusticeWholeWrongFalsely : Prop := justiceWholeRow.holds Tryz.pinned (OpenSpec.ofChange justiceWholeWrong)

/-- 'corsnedlaw24.JusticeEach': WHATEVER THE INPUT: true; the input reads as it did. -/
def justiceEachSpec : ChangeSpec := { name := "justiceEach", fn := fun _ => fun
  | [d1, d2, d3, d4] => { results := [.lit (.bool true)], args := [d1, d2, d3, d4] }
  | _ => none }
def justiceEachRow : OpenClaim := { program := "ytcdokckdlaegdaagreat", sum := "b21c92a21fb4f551af5f942d50310f0d3839881272c8dedaa02bea4b348ff9f8", func := "corsned/corsnedlaw24.JusticeEach", spec := "justiceEach", inPlace := ["internal/bytealg.Compare"], unfollowed := true, recurses := true, named := ["math/bits.divideError", "math/bits.overflowError"], plainKeys := false, apart := false }
def JusticeEachSaid : Prop := justiceEachRow.holds Tryz.pinned (OpenSpec.ofChange justiceEachSpec)

/-- ITS FALSE NEIGHBOUR: 'it returns false'. Refute it at one input. -/
def justiceEachWrong : ChangeSpec := { name := "justiceEach", fn := fun _ => fun
  | [d1, d2, d3, d4] => { results := [.lit (.bool false)], args := [d1, d2, d3, d4] }
  | _ => none }
def JusticeEachWrongFalsely : Prop := justiceEachRow.holds Tryz.pinned (OpenSpec.ofChange justiceEachWrong)

/-- 'corsnedlaw24.JusticeComes': WHATEVER THE INPUT: true; the input reads as it did. -/
def justiceComesSpec : ChangeSpec := { name := "justiceComes", fn := fun _ => fun
  | [d1, d2, d3, d4] => { results := [.lit (.bool true)], args := [d1, d2, d3, d4] }
  | _ => none }
def justiceComesRow : OpenClaim := { program := "ytcdokckdlaegdaagreat", sum := "b21c92a21fb4f551af5f942d50310f0d3839881272c8dedaa02bea4b348ff9f8", func := "corsned/corsnedlaw24.JusticeComes", spec := "justiceComes", inPlace := ["internal/bytealg.Compare"], unfollowed := true, recurses := true, named := ["math/bits.divideError", "math/bits.overflowError"], plainKeys := false, apart := false }
def JusticeComesSaid : Prop := justiceComesRow.holds Tryz.pinned (OpenSpec.ofChange justiceComesSpec)

/-- ITS FALSE NEIGHBOUR: 'it returns false'. Refute it at one input. -/
def justiceComesWrong : ChangeSpec := { name := "justiceComes", fn := fun _ => fun
  | [d1, d2, d3, d4] => { results := [.lit (.bool false)], args := [d1, d2, d3, d4] }
  | _ => none }
def JusticeComesWrongFalsely : Prop := justiceComesRow.holds Tryz.pinned (OpenSpec.ofChange justiceComesWrong)

/- THE SECOND FORM. 'bulk': how many values and letters a reading holds, each counted each time it is reached (what is shared counts as often as it is met; a slice's spare places count too). A statement '..UptoSaid' is the law's where the arguments, and the package variables that the reading takes, are together of bulk at most 1048576: NARROWER than '..Said'. Prove '..Said' where nothing that the law and all that it calls make is longer than what came in: it says more and counts as full. Else prove '..UptoSaid'. A law counts once. -/
mutual
def uptoBulk {H : Type} : DataW H → Nat
  | .lit (.string bytes) => bytes.length + 1
  | .lit _ => 1
  | .nil => 1
  | .ptr d => uptoBulk d + 1
  | .slice elems spare => uptoBulkAll elems + uptoBulkAll spare + 1
  | .agg parts => uptoBulkAll parts + 1
  | .iface _ d => uptoBulk d + 1
  | .map entries => uptoBulkEntries entries + 1
  | .held _ => 1
def uptoBulkAll {H : Type} : List (DataW H) → Nat
  | [] => 0
  | d :: r => uptoBulk d + uptoBulkAll r
def uptoBulkEntries {H : Type} : List (Lit × DataW H) → Nat
  | [] => 0
  | x :: r => uptoBulkEntry x + uptoBulkEntries r
def uptoBulkEntry {H : Type} : Lit × DataW H → Nat
  | (.string bytes, d) => bytes.length + uptoBulk d + 1
  | (_, d) => uptoBulk d + 1
 end
def uptoSmall : (H : Type) → List (DataW H) → Bool := fun _ ds => decide (uptoBulkAll ds ≤ 1048576)
def OpenSpec.upto (s : _root_.Go.ChangeSpec) : _root_.Go.OpenSpec := { _root_.Go.OpenSpec.ofChange s with cond := some uptoSmall }

/-- 'corsnedlaw24.JusticeErrs', WHERE WHAT IT READS IS OF BULK AT MOST 1048576: true; the input reads as it did. -/
def justiceErrsUptoRow : OpenClaim := { program := "ytcdokckdlaegdaagreat", sum := "b21c92a21fb4f551af5f942d50310f0d3839881272c8dedaa02bea4b348ff9f8", func := "corsned/corsnedlaw24.JusticeErrs", spec := "justiceErrs", inPlace := ["internal/bytealg.Compare"], unfollowed := true, recurses := true, named := ["math/bits.divideError", "math/bits.overflowError"], plainKeys := false, apart := false, narrowed := true }
def JusticeErrsUptoSaid : Prop := justiceErrsUptoRow.holds Tryz.pinned (OpenSpec.upto justiceErrsSpec)

/-- 'corsnedlaw24.JusticeWhole', WHERE WHAT IT READS IS OF BULK AT MOST 1048576: true; the input reads as it did. -/
def justiceWholeUptoRow : OpenClaim := { program := "ytcdokckdlaegdaagreat", sum := "b21c92a21fb4f551af5f942d50310f0d3839881272c8dedaa02bea4b348ff9f8", func := "corsned/corsnedlaw24.JusticeWhole", spec := "justiceWhole", inPlace := ["internal/bytealg.Compare"], unfollowed := true, recurses := true, named := ["math/bits.divideError", "math/bits.overflowError"], plainKeys := false, apart := false, narrowed := true }
def JusticeWholeUptoSaid : Prop := justiceWholeUptoRow.holds Tryz.pinned (OpenSpec.upto justiceWholeSpec)

/-- 'corsnedlaw24.JusticeEach', WHERE WHAT IT READS IS OF BULK AT MOST 1048576: true; the input reads as it did. -/
def justiceEachUptoRow : OpenClaim := { program := "ytcdokckdlaegdaagreat", sum := "b21c92a21fb4f551af5f942d50310f0d3839881272c8dedaa02bea4b348ff9f8", func := "corsned/corsnedlaw24.JusticeEach", spec := "justiceEach", inPlace := ["internal/bytealg.Compare"], unfollowed := true, recurses := true, named := ["math/bits.divideError", "math/bits.overflowError"], plainKeys := false, apart := false, narrowed := true }
def JusticeEachUptoSaid : Prop := justiceEachUptoRow.holds Tryz.pinned (OpenSpec.upto justiceEachSpec)

/-- 'corsnedlaw24.JusticeComes', WHERE WHAT IT READS IS OF BULK AT MOST 1048576: true; the input reads as it did. -/
def justiceComesUptoRow : OpenClaim := { program := "ytcdokckdlaegdaagreat", sum := "b21c92a21fb4f551af5f942d50310f0d3839881272c8dedaa02bea4b348ff9f8", func := "corsned/corsnedlaw24.JusticeComes", spec := "justiceComes", inPlace := ["internal/bytealg.Compare"], unfollowed := true, recurses := true, named := ["math/bits.divideError", "math/bits.overflowError"], plainKeys := false, apart := false, narrowed := true }
def JusticeComesUptoSaid : Prop := justiceComesUptoRow.holds Tryz.pinned (OpenSpec.upto justiceComesSpec)

end Rows
end Go.Proofs.YtcdokckdlaegdaaGreat
