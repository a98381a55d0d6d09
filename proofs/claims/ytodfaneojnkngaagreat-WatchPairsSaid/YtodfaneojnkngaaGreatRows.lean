/-
  No cell of these rows narrows 'for every input' (looked for: loops, veiled, ifaces, maps, wideKeys, modest, calm, conditions, laid).
  DERIVED. THE GIVEN ROWS OF THIS SEAT. 5 by the template 'for every input the law returns true; each argument reads behind the call as it read before'; 0 by the template 'total and deterministic' (their statements: YtodfaneojnkngaaGreatTotals.lean).
  GIVEN WITH THE SEED: the statements are not yours to turn. If you find one false, say at which input.
  Laid BY PROGRAM, IN A SANDBOX (cutbox-rows.mjs): the forced cells as the released guide's own fill.sh prints them over the translation dda153be5f08b926… (all of the seat's roots in one cut). By AI agents, Wed Nov 11 2026. No macro, syntax, notation, axiom, sorry.
-/
import Derived.Test.YtodfaneojnkngaaGreatChecked
import GoSem.Claim
import GoSem.ClaimJoined
import GoSem.ClaimMapViews
import Derived.JoinedTies
import Derived.KernelRfl
namespace Go.Proofs.YtodfaneojnkngaaGreat
/- THE CELL 'sum', in the pinned program and in every row, IS THE sha256 OF THE DUMP (.gsa) THAT YtodfaneojnkngaaGreatProg.lean LOADS. Nothing in Lean hashes anything: it is a label: what it is worth is what the hold of that sum in a sandbox is worth. -/
noncomputable def Tryz.pinned : Pinned := { name := "ytodfaneojnkngaagreat", sum := "dda153be5f08b926c82a9ab227dc25f000f96cd6771e33bb85097101c08bd053", checked := Tryz.checked }
namespace Rows
def none {H : Type} : Left H := { results := [], args := [] }

/-- 'corsnedlaw18.WatchTells': WHATEVER THE INPUT: true; the input reads as it did. -/
def watchTellsSpec : ChangeSpec := { name := "watchTells", fn := fun _ => fun
  | [d1, d2] => { results := [.lit (.bool true)], args := [d1, d2] }
  | _ => none }
def watchTellsRow : OpenClaim := { program := "ytodfaneojnkngaagreat", sum := "dda153be5f08b926c82a9ab227dc25f000f96cd6771e33bb85097101c08bd053", func := "corsned/corsnedlaw18.WatchTells", spec := "watchTells", inPlace := ["internal/bytealg.Compare"], unfollowed := true, recurses := true, named := ["math/bits.divideError", "math/bits.overflowError"], plainKeys := false, apart := false }
def WatchTellsSaid : Prop := watchTellsRow.holds Tryz.pinned (OpenSpec.ofChange watchTellsSpec)

/-- ITS FALSE NEIGHBOUR: 'it returns false'. Refute it at one input. -/
def watchTellsWrong : ChangeSpec := { name := "watchTells", fn := fun _ => fun
  | [d1, d2] => { results := [.lit (.bool false)], args := [d1, d2] }
  | _ => none }
def WatchTellsWrongFalsely : Prop := watchTellsRow.holds Tryz.pinned (OpenSpec.ofChange watchTellsWrong)

/-- 'corsnedlaw18.WatchFinal': WHATEVER THE INPUT: true; the input reads as it did. -/
def watchFinalSpec : ChangeSpec := { name := "watchFinal", fn := fun _ => fun
  | [d1, d2, d3] => { results := [.lit (.bool true)], args := [d1, d2, d3] }
  | _ => none }
def watchFinalRow : OpenClaim := { program := "ytodfaneojnkngaagreat", sum := "dda153be5f08b926c82a9ab227dc25f000f96cd6771e33bb85097101c08bd053", func := "corsned/corsnedlaw18.WatchFinal", spec := "watchFinal", inPlace := ["internal/bytealg.Compare"], unfollowed := true, recurses := true, named := ["math/bits.divideError", "math/bits.overflowError"], plainKeys := false, apart := false }
def WatchFinalSaid : Prop := watchFinalRow.holds Tryz.pinned (OpenSpec.ofChange watchFinalSpec)

/-- ITS FALSE NEIGHBOUR: 'it returns false'. Refute it at one input. -/
def watchFinalWrong : ChangeSpec := { name := "watchFinal", fn := fun _ => fun
  | [d1, d2, d3] => { results := [.lit (.bool false)], args := [d1, d2, d3] }
  | _ => none }
def WatchFinalWrongFalsely : Prop := watchFinalRow.holds Tryz.pinned (OpenSpec.ofChange watchFinalWrong)

/-- 'corsnedlaw18.WatchNow': WHATEVER THE INPUT: true; the input reads as it did. -/
def watchNowSpec : ChangeSpec := { name := "watchNow", fn := fun _ => fun
  | [d1, d2, d3] => { results := [.lit (.bool true)], args := [d1, d2, d3] }
  | _ => none }
def watchNowRow : OpenClaim := { program := "ytodfaneojnkngaagreat", sum := "dda153be5f08b926c82a9ab227dc25f000f96cd6771e33bb85097101c08bd053", func := "corsned/corsnedlaw18.WatchNow", spec := "watchNow", inPlace := ["internal/bytealg.Compare"], unfollowed := true, recurses := true, named := ["math/bits.divideError", "math/bits.overflowError"], plainKeys := false, apart := false }
def WatchNowSaid : Prop := watchNowRow.holds Tryz.pinned (OpenSpec.ofChange watchNowSpec)

/-- ITS FALSE NEIGHBOUR: 'it returns false'. Refute it at one input. -/
def watchNowWrong : ChangeSpec := { name := "watchNow", fn := fun _ => fun
  | [d1, d2, d3] => { results := [.lit (.bool false)], args := [d1, d2, d3] }
  | _ => none }
def WatchNowWrongFalsely : Prop := watchNowRow.holds Tryz.pinned (OpenSpec.ofChange watchNowWrong)

/-- 'corsnedlaw18.WatchPairs': WHATEVER THE INPUT: true; the input reads as it did. -/
def watchPairsSpec : ChangeSpec := { name := "watchPairs", fn := fun _ => fun
  | [d1, d2, d3] => { results := [.lit (.bool true)], args := [d1, d2, d3] }
  | _ => none }
def watchPairsRow : OpenClaim := { program := "ytodfaneojnkngaagreat", sum := "dda153be5f08b926c82a9ab227dc25f000f96cd6771e33bb85097101c08bd053", func := "corsned/corsnedlaw18.WatchPairs", spec := "watchPairs", inPlace := ["internal/bytealg.Compare"], unfollowed := true, recurses := true, named := ["math/bits.divideError", "math/bits.overflowError"], plainKeys := false, apart := false }
def WatchPairsSaid : Prop := watchPairsRow.holds Tryz.pinned (OpenSpec.ofChange watchPairsSpec)

/-- ITS FALSE NEIGHBOUR: 'it returns false'. Refute it at one input. -/
def watchPairsWrong : ChangeSpec := { name := "watchPairs", fn := fun _ => fun
  | [d1, d2, d3] => { results := [.lit (.bool false)], args := [d1, d2, d3] }
  | _ => none }
def WatchPairsWrongFalsely : Prop := watchPairsRow.holds Tryz.pinned (OpenSpec.ofChange watchPairsWrong)

/-- 'corsnedlaw18.WatchWants': WHATEVER THE INPUT: true; the input reads as it did. -/
def watchWantsSpec : ChangeSpec := { name := "watchWants", fn := fun _ => fun
  | [d1, d2] => { results := [.lit (.bool true)], args := [d1, d2] }
  | _ => none }
def watchWantsRow : OpenClaim := { program := "ytodfaneojnkngaagreat", sum := "dda153be5f08b926c82a9ab227dc25f000f96cd6771e33bb85097101c08bd053", func := "corsned/corsnedlaw18.WatchWants", spec := "watchWants", inPlace := ["internal/bytealg.Compare"], unfollowed := true, recurses := true, named := ["math/bits.divideError", "math/bits.overflowError"], plainKeys := false, apart := false }
def WatchWantsSaid : Prop := watchWantsRow.holds Tryz.pinned (OpenSpec.ofChange watchWantsSpec)

/-- ITS FALSE NEIGHBOUR: 'it returns false'. Refute it at one input. -/
def watchWantsWrong : ChangeSpec := { name := "watchWants", fn := fun _ => fun
  | [d1, d2] => { results := [.lit (.bool false)], args := [d1, d2] }
  | _ => none }
def WatchWantsWrongFalsely : Prop := watchWantsRow.holds Tryz.pinned (OpenSpec.ofChange watchWantsWrong)

/- THE SECOND FORM. 'bulk': how many values and letters a reading holds, each counted each time it is reached (what is shared counts as often as it is met; a slice's spare places count too). A statement '..UptoSaid' is the law's where the arguments, and the package variables that the reading takes, are together of bulk at most 1048576: NARROWER than '..Said'. Prove '..Said' where nothing that the law and all that it calls make is longer than what came in: it says more and counts as full. Else prove '..UptoSaid'. A law counts once. -/
mutual
def uptoBulk {H : Type} : DataW H → Nat
  | .lit (.string bytes) => bytes.length + 1
  | .lit _ => 1
  | .nil => 1
  | .ptr d => uptoBulk d + 1
  | .slice elems spare => uptoBulkAll elems + uptoBulkAll spare + 1
  | .agg parts => uptoBulkAll parts + 1
  | .iface _ d => uptoBulk d + 1
  | .map entries => uptoBulkEntries entries + 1
  | .held _ => 1
def uptoBulkAll {H : Type} : List (DataW H) → Nat
  | [] => 0
  | d :: r => uptoBulk d + uptoBulkAll r
def uptoBulkEntries {H : Type} : List (Lit × DataW H) → Nat
  | [] => 0
  | x :: r => uptoBulkEntry x + uptoBulkEntries r
def uptoBulkEntry {H : Type} : Lit × DataW H → Nat
  | (.string bytes, d) => bytes.length + uptoBulk d + 1
  | (_, d) => uptoBulk d + 1
 end
def uptoSmall : (H : Type) → List (DataW H) → Bool := fun _ ds => decide (uptoBulkAll ds ≤ 1048576)
def OpenSpec.upto (s : _root_.Go.ChangeSpec) : _root_.Go.OpenSpec := { _root_.Go.OpenSpec.ofChange s with cond := some uptoSmall }

/-- 'corsnedlaw18.WatchTells', WHERE WHAT IT READS IS OF BULK AT MOST 1048576: true; the input reads as it did. -/
def watchTellsUptoRow : OpenClaim := { program := "ytodfaneojnkngaagreat", sum := "dda153be5f08b926c82a9ab227dc25f000f96cd6771e33bb85097101c08bd053", func := "corsned/corsnedlaw18.WatchTells", spec := "watchTells", inPlace := ["internal/bytealg.Compare"], unfollowed := true, recurses := true, named := ["math/bits.divideError", "math/bits.overflowError"], plainKeys := false, apart := false, narrowed := true }
def WatchTellsUptoSaid : Prop := watchTellsUptoRow.holds Tryz.pinned (OpenSpec.upto watchTellsSpec)

/-- 'corsnedlaw18.WatchFinal', WHERE WHAT IT READS IS OF BULK AT MOST 1048576: true; the input reads as it did. -/
def watchFinalUptoRow : OpenClaim := { program := "ytodfaneojnkngaagreat", sum := "dda153be5f08b926c82a9ab227dc25f000f96cd6771e33bb85097101c08bd053", func := "corsned/corsnedlaw18.WatchFinal", spec := "watchFinal", inPlace := ["internal/bytealg.Compare"], unfollowed := true, recurses := true, named := ["math/bits.divideError", "math/bits.overflowError"], plainKeys := false, apart := false, narrowed := true }
def WatchFinalUptoSaid : Prop := watchFinalUptoRow.holds Tryz.pinned (OpenSpec.upto watchFinalSpec)

/-- 'corsnedlaw18.WatchNow', WHERE WHAT IT READS IS OF BULK AT MOST 1048576: true; the input reads as it did. -/
def watchNowUptoRow : OpenClaim := { program := "ytodfaneojnkngaagreat", sum := "dda153be5f08b926c82a9ab227dc25f000f96cd6771e33bb85097101c08bd053", func := "corsned/corsnedlaw18.WatchNow", spec := "watchNow", inPlace := ["internal/bytealg.Compare"], unfollowed := true, recurses := true, named := ["math/bits.divideError", "math/bits.overflowError"], plainKeys := false, apart := false, narrowed := true }
def WatchNowUptoSaid : Prop := watchNowUptoRow.holds Tryz.pinned (OpenSpec.upto watchNowSpec)

/-- 'corsnedlaw18.WatchPairs', WHERE WHAT IT READS IS OF BULK AT MOST 1048576: true; the input reads as it did. -/
def watchPairsUptoRow : OpenClaim := { program := "ytodfaneojnkngaagreat", sum := "dda153be5f08b926c82a9ab227dc25f000f96cd6771e33bb85097101c08bd053", func := "corsned/corsnedlaw18.WatchPairs", spec := "watchPairs", inPlace := ["internal/bytealg.Compare"], unfollowed := true, recurses := true, named := ["math/bits.divideError", "math/bits.overflowError"], plainKeys := false, apart := false, narrowed := true }
def WatchPairsUptoSaid : Prop := watchPairsUptoRow.holds Tryz.pinned (OpenSpec.upto watchPairsSpec)

/-- 'corsnedlaw18.WatchWants', WHERE WHAT IT READS IS OF BULK AT MOST 1048576: true; the input reads as it did. -/
def watchWantsUptoRow : OpenClaim := { program := "ytodfaneojnkngaagreat", sum := "dda153be5f08b926c82a9ab227dc25f000f96cd6771e33bb85097101c08bd053", func := "corsned/corsnedlaw18.WatchWants", spec := "watchWants", inPlace := ["internal/bytealg.Compare"], unfollowed := true, recurses := true, named := ["math/bits.divideError", "math/bits.overflowError"], plainKeys := false, apart := false, narrowed := true }
def WatchWantsUptoSaid : Prop := watchWantsUptoRow.holds Tryz.pinned (OpenSpec.upto watchWantsSpec)

end Rows
end Go.Proofs.YtodfaneojnkngaaGreat
