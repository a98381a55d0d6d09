/-
  No cell of these rows narrows 'for every input' (looked for: loops, veiled, ifaces, maps, wideKeys, modest, calm, conditions, laid).
  DERIVED. THE GIVEN ROWS OF THIS SEAT. 10 by the template 'for every input the law returns true; each argument reads behind the call as it read before'; 0 by the template 'total and deterministic' (their statements: YtlpebgkekjfhaaaGreatTotals.lean).
  GIVEN WITH THE SEED: the statements are not yours to turn. If you find one false, say at which input.
  Laid BY PROGRAM, IN A SANDBOX (cutbox-rows.mjs): the forced cells as the released guide's own fill.sh prints them over the translation fda9be259ffe7d9d… (all of the seat's roots in one cut). By AI agents, Wed Nov 11 2026. No macro, syntax, notation, axiom, sorry.
-/
import Derived.Test.YtlpebgkekjfhaaaGreatChecked
import GoSem.Claim
import GoSem.ClaimJoined
import GoSem.ClaimMapViews
import Derived.JoinedTies
import Derived.KernelRfl
namespace Go.Proofs.YtlpebgkekjfhaaaGreat
/- THE CELL 'sum', in the pinned program and in every row, IS THE sha256 OF THE DUMP (.gsa) THAT YtlpebgkekjfhaaaGreatProg.lean LOADS. Nothing in Lean hashes anything: it is a label: what it is worth is what the hold of that sum in a sandbox is worth. -/
noncomputable def Tryz.pinned : Pinned := { name := "ytlpebgkekjfhaaagreat", sum := "fda9be259ffe7d9d2fae46d241beea69e1b04fe8fda59e472ce5a55e399bbf83", checked := Tryz.checked }
namespace Rows
def none {H : Type} : Left H := { results := [], args := [] }

/-- 'corsnedlaw17.ChainWaits': WHATEVER THE INPUT: true; the input reads as it did. -/
def chainWaitsSpec : ChangeSpec := { name := "chainWaits", fn := fun _ => fun
  | [d1, d2, d3] => { results := [.lit (.bool true)], args := [d1, d2, d3] }
  | _ => none }
def chainWaitsRow : OpenClaim := { program := "ytlpebgkekjfhaaagreat", sum := "fda9be259ffe7d9d2fae46d241beea69e1b04fe8fda59e472ce5a55e399bbf83", func := "corsned/corsnedlaw17.ChainWaits", spec := "chainWaits", unfollowed := true, recurses := true, named := ["math/bits.divideError", "math/bits.overflowError"], plainKeys := false, apart := false }
def ChainWaitsSaid : Prop := chainWaitsRow.holds Tryz.pinned (OpenSpec.ofChange chainWaitsSpec)

/-- ITS FALSE NEIGHBOUR: 'it returns false'. Refute it at one input. -/
def chainWaitsWrong : ChangeSpec := { name := "chainWaits", fn := fun _ => fun
  | [d1, d2, d3] => { results := [.lit (.bool false)], args := [d1, d2, d3] }
  | _ => none }
def ChainWaitsWrongFalsely : Prop := chainWaitsRow.holds Tryz.pinned (OpenSpec.ofChange chainWaitsWrong)

/-- 'corsnedlaw14.CoinsKeeps': WHATEVER THE INPUT: true; the input reads as it did. -/
def coinsKeepsSpec : ChangeSpec := { name := "coinsKeeps", fn := fun _ => fun
  | [d1, d2] => { results := [.lit (.bool true)], args := [d1, d2] }
  | _ => none }
def coinsKeepsRow : OpenClaim := { program := "ytlpebgkekjfhaaagreat", sum := "fda9be259ffe7d9d2fae46d241beea69e1b04fe8fda59e472ce5a55e399bbf83", func := "corsned/corsnedlaw14.CoinsKeeps", spec := "coinsKeeps", inPlace := ["internal/bytealg.Compare"], unfollowed := true, recurses := true, named := ["math/bits.divideError", "math/bits.overflowError"], plainKeys := false, apart := false }
def CoinsKeepsSaid : Prop := coinsKeepsRow.holds Tryz.pinned (OpenSpec.ofChange coinsKeepsSpec)

/-- ITS FALSE NEIGHBOUR: 'it returns false'. Refute it at one input. -/
def coinsKeepsWrong : ChangeSpec := { name := "coinsKeeps", fn := fun _ => fun
  | [d1, d2] => { results := [.lit (.bool false)], args := [d1, d2] }
  | _ => none }
def CoinsKeepsWrongFalsely : Prop := coinsKeepsRow.holds Tryz.pinned (OpenSpec.ofChange coinsKeepsWrong)

/-- 'corsnedlaw14.CoinsLater': WHATEVER THE INPUT: true; the input reads as it did. -/
def coinsLaterSpec : ChangeSpec := { name := "coinsLater", fn := fun _ => fun
  | [d1, d2, d3, d4, d5] => { results := [.lit (.bool true)], args := [d1, d2, d3, d4, d5] }
  | _ => none }
def coinsLaterRow : OpenClaim := { program := "ytlpebgkekjfhaaagreat", sum := "fda9be259ffe7d9d2fae46d241beea69e1b04fe8fda59e472ce5a55e399bbf83", func := "corsned/corsnedlaw14.CoinsLater", spec := "coinsLater", inPlace := ["internal/bytealg.Compare"], unfollowed := true, recurses := true, named := ["math/bits.divideError", "math/bits.overflowError"], plainKeys := false, apart := false }
def CoinsLaterSaid : Prop := coinsLaterRow.holds Tryz.pinned (OpenSpec.ofChange coinsLaterSpec)

/-- ITS FALSE NEIGHBOUR: 'it returns false'. Refute it at one input. -/
def coinsLaterWrong : ChangeSpec := { name := "coinsLater", fn := fun _ => fun
  | [d1, d2, d3, d4, d5] => { results := [.lit (.bool false)], args := [d1, d2, d3, d4, d5] }
  | _ => none }
def CoinsLaterWrongFalsely : Prop := coinsLaterRow.holds Tryz.pinned (OpenSpec.ofChange coinsLaterWrong)

/-- 'corsnedlaw14.CoinsTells': WHATEVER THE INPUT: true; the input reads as it did. -/
def coinsTellsSpec : ChangeSpec := { name := "coinsTells", fn := fun _ => fun
  | [d1, d2] => { results := [.lit (.bool true)], args := [d1, d2] }
  | _ => none }
def coinsTellsRow : OpenClaim := { program := "ytlpebgkekjfhaaagreat", sum := "fda9be259ffe7d9d2fae46d241beea69e1b04fe8fda59e472ce5a55e399bbf83", func := "corsned/corsnedlaw14.CoinsTells", spec := "coinsTells", inPlace := ["internal/bytealg.Compare"], unfollowed := true, recurses := true, named := ["math/bits.divideError", "math/bits.overflowError"], plainKeys := false, apart := false }
def CoinsTellsSaid : Prop := coinsTellsRow.holds Tryz.pinned (OpenSpec.ofChange coinsTellsSpec)

/-- ITS FALSE NEIGHBOUR: 'it returns false'. Refute it at one input. -/
def coinsTellsWrong : ChangeSpec := { name := "coinsTells", fn := fun _ => fun
  | [d1, d2] => { results := [.lit (.bool false)], args := [d1, d2] }
  | _ => none }
def CoinsTellsWrongFalsely : Prop := coinsTellsRow.holds Tryz.pinned (OpenSpec.ofChange coinsTellsWrong)

/-- 'corsnedlaw14.CoinsUndo': WHATEVER THE INPUT: true; the input reads as it did. -/
def coinsUndoSpec : ChangeSpec := { name := "coinsUndo", fn := fun _ => fun
  | [d1, d2] => { results := [.lit (.bool true)], args := [d1, d2] }
  | _ => none }
def coinsUndoRow : OpenClaim := { program := "ytlpebgkekjfhaaagreat", sum := "fda9be259ffe7d9d2fae46d241beea69e1b04fe8fda59e472ce5a55e399bbf83", func := "corsned/corsnedlaw14.CoinsUndo", spec := "coinsUndo", inPlace := ["internal/bytealg.Compare"], unfollowed := true, recurses := true, named := ["math/bits.divideError", "math/bits.overflowError"], plainKeys := false, apart := false }
def CoinsUndoSaid : Prop := coinsUndoRow.holds Tryz.pinned (OpenSpec.ofChange coinsUndoSpec)

/-- ITS FALSE NEIGHBOUR: 'it returns false'. Refute it at one input. -/
def coinsUndoWrong : ChangeSpec := { name := "coinsUndo", fn := fun _ => fun
  | [d1, d2] => { results := [.lit (.bool false)], args := [d1, d2] }
  | _ => none }
def CoinsUndoWrongFalsely : Prop := coinsUndoRow.holds Tryz.pinned (OpenSpec.ofChange coinsUndoWrong)

/-- 'corsnedlaw14.CoinsTurns': WHATEVER THE INPUT: true; the input reads as it did. -/
def coinsTurnsSpec : ChangeSpec := { name := "coinsTurns", fn := fun _ => fun
  | [d1, d2, d3, d4] => { results := [.lit (.bool true)], args := [d1, d2, d3, d4] }
  | _ => none }
def coinsTurnsRow : OpenClaim := { program := "ytlpebgkekjfhaaagreat", sum := "fda9be259ffe7d9d2fae46d241beea69e1b04fe8fda59e472ce5a55e399bbf83", func := "corsned/corsnedlaw14.CoinsTurns", spec := "coinsTurns", inPlace := ["internal/bytealg.Compare"], unfollowed := true, recurses := true, named := ["math/bits.divideError", "math/bits.overflowError"], plainKeys := false, apart := false }
def CoinsTurnsSaid : Prop := coinsTurnsRow.holds Tryz.pinned (OpenSpec.ofChange coinsTurnsSpec)

/-- ITS FALSE NEIGHBOUR: 'it returns false'. Refute it at one input. -/
def coinsTurnsWrong : ChangeSpec := { name := "coinsTurns", fn := fun _ => fun
  | [d1, d2, d3, d4] => { results := [.lit (.bool false)], args := [d1, d2, d3, d4] }
  | _ => none }
def CoinsTurnsWrongFalsely : Prop := coinsTurnsRow.holds Tryz.pinned (OpenSpec.ofChange coinsTurnsWrong)

/-- 'corsnedlaw41.BatchPlans': WHATEVER THE INPUT: true; the input reads as it did. -/
def batchPlansSpec : ChangeSpec := { name := "batchPlans", fn := fun _ => fun
  | [d1, d2, d3, d4] => { results := [.lit (.bool true)], args := [d1, d2, d3, d4] }
  | _ => none }
def batchPlansRow : OpenClaim := { program := "ytlpebgkekjfhaaagreat", sum := "fda9be259ffe7d9d2fae46d241beea69e1b04fe8fda59e472ce5a55e399bbf83", func := "corsned/corsnedlaw41.BatchPlans", spec := "batchPlans", inPlace := ["internal/bytealg.Compare"], unfollowed := true, recurses := true, named := ["math/bits.divideError", "math/bits.overflowError"], plainKeys := false, apart := false }
def BatchPlansSaid : Prop := batchPlansRow.holds Tryz.pinned (OpenSpec.ofChange batchPlansSpec)

/-- ITS FALSE NEIGHBOUR: 'it returns false'. Refute it at one input. -/
def batchPlansWrong : ChangeSpec := { name := "batchPlans", fn := fun _ => fun
  | [d1, d2, d3, d4] => { results := [.lit (.bool false)], args := [d1, d2, d3, d4] }
  | _ => none }
def BatchPlansWrongFalsely : Prop := batchPlansRow.holds Tryz.pinned (OpenSpec.ofChange batchPlansWrong)

/-- 'corsnedlaw41.BatchTells': WHATEVER THE INPUT: true; the input reads as it did. -/
def batchTellsSpec : ChangeSpec := { name := "batchTells", fn := fun _ => fun
  | [d1, d2, d3, d4, d5, d6, d7, d8] => { results := [.lit (.bool true)], args := [d1, d2, d3, d4, d5, d6, d7, d8] }
  | _ => none }
def batchTellsRow : OpenClaim := { program := "ytlpebgkekjfhaaagreat", sum := "fda9be259ffe7d9d2fae46d241beea69e1b04fe8fda59e472ce5a55e399bbf83", func := "corsned/corsnedlaw41.BatchTells", spec := "batchTells", inPlace := ["internal/bytealg.Compare"], unfollowed := true, recurses := true, named := ["math/bits.divideError", "math/bits.overflowError"], plainKeys := false, apart := false }
def BatchTellsSaid : Prop := batchTellsRow.holds Tryz.pinned (OpenSpec.ofChange batchTellsSpec)

/-- ITS FALSE NEIGHBOUR: 'it returns false'. Refute it at one input. -/
def batchTellsWrong : ChangeSpec := { name := "batchTells", fn := fun _ => fun
  | [d1, d2, d3, d4, d5, d6, d7, d8] => { results := [.lit (.bool false)], args := [d1, d2, d3, d4, d5, d6, d7, d8] }
  | _ => none }
def BatchTellsWrongFalsely : Prop := batchTellsRow.holds Tryz.pinned (OpenSpec.ofChange batchTellsWrong)

/-- 'corsnedlaw41.BatchParts': WHATEVER THE INPUT: true; the input reads as it did. -/
def batchPartsSpec : ChangeSpec := { name := "batchParts", fn := fun _ => fun
  | [d1, d2, d3, d4] => { results := [.lit (.bool true)], args := [d1, d2, d3, d4] }
  | _ => none }
def batchPartsRow : OpenClaim := { program := "ytlpebgkekjfhaaagreat", sum := "fda9be259ffe7d9d2fae46d241beea69e1b04fe8fda59e472ce5a55e399bbf83", func := "corsned/corsnedlaw41.BatchParts", spec := "batchParts", inPlace := ["internal/bytealg.Compare"], unfollowed := true, recurses := true, named := ["math/bits.divideError", "math/bits.overflowError"], plainKeys := false, apart := false }
def BatchPartsSaid : Prop := batchPartsRow.holds Tryz.pinned (OpenSpec.ofChange batchPartsSpec)

/-- ITS FALSE NEIGHBOUR: 'it returns false'. Refute it at one input. -/
def batchPartsWrong : ChangeSpec := { name := "batchParts", fn := fun _ => fun
  | [d1, d2, d3, d4] => { results := [.lit (.bool false)], args := [d1, d2, d3, d4] }
  | _ => none }
def BatchPartsWrongFalsely : Prop := batchPartsRow.holds Tryz.pinned (OpenSpec.ofChange batchPartsWrong)

/-- 'corsnedlaw41.BatchRises': WHATEVER THE INPUT: true; the input reads as it did. -/
def batchRisesSpec : ChangeSpec := { name := "batchRises", fn := fun _ => fun
  | [d1, d2, d3, d4, d5, d6] => { results := [.lit (.bool true)], args := [d1, d2, d3, d4, d5, d6] }
  | _ => none }
def batchRisesRow : OpenClaim := { program := "ytlpebgkekjfhaaagreat", sum := "fda9be259ffe7d9d2fae46d241beea69e1b04fe8fda59e472ce5a55e399bbf83", func := "corsned/corsnedlaw41.BatchRises", spec := "batchRises", inPlace := ["internal/bytealg.Compare"], unfollowed := true, recurses := true, named := ["math/bits.divideError", "math/bits.overflowError"], plainKeys := false, apart := false }
def BatchRisesSaid : Prop := batchRisesRow.holds Tryz.pinned (OpenSpec.ofChange batchRisesSpec)

/-- ITS FALSE NEIGHBOUR: 'it returns false'. Refute it at one input. -/
def batchRisesWrong : ChangeSpec := { name := "batchRises", fn := fun _ => fun
  | [d1, d2, d3, d4, d5, d6] => { results := [.lit (.bool false)], args := [d1, d2, d3, d4, d5, d6] }
  | _ => none }
def BatchRisesWrongFalsely : Prop := batchRisesRow.holds Tryz.pinned (OpenSpec.ofChange batchRisesWrong)

/- THE SECOND FORM. 'bulk': how many values and letters a reading holds, each counted each time it is reached (what is shared counts as often as it is met; a slice's spare places count too). A statement '..UptoSaid' is the law's where the arguments, and the package variables that the reading takes, are together of bulk at most 1048576: NARROWER than '..Said'. Prove '..Said' where nothing that the law and all that it calls make is longer than what came in: it says more and counts as full. Else prove '..UptoSaid'. A law counts once. -/
mutual
def uptoBulk {H : Type} : DataW H → Nat
  | .lit (.string bytes) => bytes.length + 1
  | .lit _ => 1
  | .nil => 1
  | .ptr d => uptoBulk d + 1
  | .slice elems spare => uptoBulkAll elems + uptoBulkAll spare + 1
  | .agg parts => uptoBulkAll parts + 1
  | .iface _ d => uptoBulk d + 1
  | .map entries => uptoBulkEntries entries + 1
  | .held _ => 1
def uptoBulkAll {H : Type} : List (DataW H) → Nat
  | [] => 0
  | d :: r => uptoBulk d + uptoBulkAll r
def uptoBulkEntries {H : Type} : List (Lit × DataW H) → Nat
  | [] => 0
  | x :: r => uptoBulkEntry x + uptoBulkEntries r
def uptoBulkEntry {H : Type} : Lit × DataW H → Nat
  | (.string bytes, d) => bytes.length + uptoBulk d + 1
  | (_, d) => uptoBulk d + 1
 end
def uptoSmall : (H : Type) → List (DataW H) → Bool := fun _ ds => decide (uptoBulkAll ds ≤ 1048576)
def OpenSpec.upto (s : _root_.Go.ChangeSpec) : _root_.Go.OpenSpec := { _root_.Go.OpenSpec.ofChange s with cond := some uptoSmall }

/-- 'corsnedlaw17.ChainWaits', WHERE WHAT IT READS IS OF BULK AT MOST 1048576: true; the input reads as it did. -/
def chainWaitsUptoRow : OpenClaim := { program := "ytlpebgkekjfhaaagreat", sum := "fda9be259ffe7d9d2fae46d241beea69e1b04fe8fda59e472ce5a55e399bbf83", func := "corsned/corsnedlaw17.ChainWaits", spec := "chainWaits", unfollowed := true, recurses := true, named := ["math/bits.divideError", "math/bits.overflowError"], plainKeys := false, apart := false, narrowed := true }
def ChainWaitsUptoSaid : Prop := chainWaitsUptoRow.holds Tryz.pinned (OpenSpec.upto chainWaitsSpec)

/-- 'corsnedlaw14.CoinsKeeps', WHERE WHAT IT READS IS OF BULK AT MOST 1048576: true; the input reads as it did. -/
def coinsKeepsUptoRow : OpenClaim := { program := "ytlpebgkekjfhaaagreat", sum := "fda9be259ffe7d9d2fae46d241beea69e1b04fe8fda59e472ce5a55e399bbf83", func := "corsned/corsnedlaw14.CoinsKeeps", spec := "coinsKeeps", inPlace := ["internal/bytealg.Compare"], unfollowed := true, recurses := true, named := ["math/bits.divideError", "math/bits.overflowError"], plainKeys := false, apart := false, narrowed := true }
def CoinsKeepsUptoSaid : Prop := coinsKeepsUptoRow.holds Tryz.pinned (OpenSpec.upto coinsKeepsSpec)

/-- 'corsnedlaw14.CoinsLater', WHERE WHAT IT READS IS OF BULK AT MOST 1048576: true; the input reads as it did. -/
def coinsLaterUptoRow : OpenClaim := { program := "ytlpebgkekjfhaaagreat", sum := "fda9be259ffe7d9d2fae46d241beea69e1b04fe8fda59e472ce5a55e399bbf83", func := "corsned/corsnedlaw14.CoinsLater", spec := "coinsLater", inPlace := ["internal/bytealg.Compare"], unfollowed := true, recurses := true, named := ["math/bits.divideError", "math/bits.overflowError"], plainKeys := false, apart := false, narrowed := true }
def CoinsLaterUptoSaid : Prop := coinsLaterUptoRow.holds Tryz.pinned (OpenSpec.upto coinsLaterSpec)

/-- 'corsnedlaw14.CoinsTells', WHERE WHAT IT READS IS OF BULK AT MOST 1048576: true; the input reads as it did. -/
def coinsTellsUptoRow : OpenClaim := { program := "ytlpebgkekjfhaaagreat", sum := "fda9be259ffe7d9d2fae46d241beea69e1b04fe8fda59e472ce5a55e399bbf83", func := "corsned/corsnedlaw14.CoinsTells", spec := "coinsTells", inPlace := ["internal/bytealg.Compare"], unfollowed := true, recurses := true, named := ["math/bits.divideError", "math/bits.overflowError"], plainKeys := false, apart := false, narrowed := true }
def CoinsTellsUptoSaid : Prop := coinsTellsUptoRow.holds Tryz.pinned (OpenSpec.upto coinsTellsSpec)

/-- 'corsnedlaw14.CoinsUndo', WHERE WHAT IT READS IS OF BULK AT MOST 1048576: true; the input reads as it did. -/
def coinsUndoUptoRow : OpenClaim := { program := "ytlpebgkekjfhaaagreat", sum := "fda9be259ffe7d9d2fae46d241beea69e1b04fe8fda59e472ce5a55e399bbf83", func := "corsned/corsnedlaw14.CoinsUndo", spec := "coinsUndo", inPlace := ["internal/bytealg.Compare"], unfollowed := true, recurses := true, named := ["math/bits.divideError", "math/bits.overflowError"], plainKeys := false, apart := false, narrowed := true }
def CoinsUndoUptoSaid : Prop := coinsUndoUptoRow.holds Tryz.pinned (OpenSpec.upto coinsUndoSpec)

/-- 'corsnedlaw14.CoinsTurns', WHERE WHAT IT READS IS OF BULK AT MOST 1048576: true; the input reads as it did. -/
def coinsTurnsUptoRow : OpenClaim := { program := "ytlpebgkekjfhaaagreat", sum := "fda9be259ffe7d9d2fae46d241beea69e1b04fe8fda59e472ce5a55e399bbf83", func := "corsned/corsnedlaw14.CoinsTurns", spec := "coinsTurns", inPlace := ["internal/bytealg.Compare"], unfollowed := true, recurses := true, named := ["math/bits.divideError", "math/bits.overflowError"], plainKeys := false, apart := false, narrowed := true }
def CoinsTurnsUptoSaid : Prop := coinsTurnsUptoRow.holds Tryz.pinned (OpenSpec.upto coinsTurnsSpec)

/-- 'corsnedlaw41.BatchPlans', WHERE WHAT IT READS IS OF BULK AT MOST 1048576: true; the input reads as it did. -/
def batchPlansUptoRow : OpenClaim := { program := "ytlpebgkekjfhaaagreat", sum := "fda9be259ffe7d9d2fae46d241beea69e1b04fe8fda59e472ce5a55e399bbf83", func := "corsned/corsnedlaw41.BatchPlans", spec := "batchPlans", inPlace := ["internal/bytealg.Compare"], unfollowed := true, recurses := true, named := ["math/bits.divideError", "math/bits.overflowError"], plainKeys := false, apart := false, narrowed := true }
def BatchPlansUptoSaid : Prop := batchPlansUptoRow.holds Tryz.pinned (OpenSpec.upto batchPlansSpec)

/-- 'corsnedlaw41.BatchTells', WHERE WHAT IT READS IS OF BULK AT MOST 1048576: true; the input reads as it did. -/
def batchTellsUptoRow : OpenClaim := { program := "ytlpebgkekjfhaaagreat", sum := "fda9be259ffe7d9d2fae46d241beea69e1b04fe8fda59e472ce5a55e399bbf83", func := "corsned/corsnedlaw41.BatchTells", spec := "batchTells", inPlace := ["internal/bytealg.Compare"], unfollowed := true, recurses := true, named := ["math/bits.divideError", "math/bits.overflowError"], plainKeys := false, apart := false, narrowed := true }
def BatchTellsUptoSaid : Prop := batchTellsUptoRow.holds Tryz.pinned (OpenSpec.upto batchTellsSpec)

/-- 'corsnedlaw41.BatchParts', WHERE WHAT IT READS IS OF BULK AT MOST 1048576: true; the input reads as it did. -/
def batchPartsUptoRow : OpenClaim := { program := "ytlpebgkekjfhaaagreat", sum := "fda9be259ffe7d9d2fae46d241beea69e1b04fe8fda59e472ce5a55e399bbf83", func := "corsned/corsnedlaw41.BatchParts", spec := "batchParts", inPlace := ["internal/bytealg.Compare"], unfollowed := true, recurses := true, named := ["math/bits.divideError", "math/bits.overflowError"], plainKeys := false, apart := false, narrowed := true }
def BatchPartsUptoSaid : Prop := batchPartsUptoRow.holds Tryz.pinned (OpenSpec.upto batchPartsSpec)

/-- 'corsnedlaw41.BatchRises', WHERE WHAT IT READS IS OF BULK AT MOST 1048576: true; the input reads as it did. -/
def batchRisesUptoRow : OpenClaim := { program := "ytlpebgkekjfhaaagreat", sum := "fda9be259ffe7d9d2fae46d241beea69e1b04fe8fda59e472ce5a55e399bbf83", func := "corsned/corsnedlaw41.BatchRises", spec := "batchRises", inPlace := ["internal/bytealg.Compare"], unfollowed := true, recurses := true, named := ["math/bits.divideError", "math/bits.overflowError"], plainKeys := false, apart := false, narrowed := true }
def BatchRisesUptoSaid : Prop := batchRisesUptoRow.holds Tryz.pinned (OpenSpec.upto batchRisesSpec)

end Rows
end Go.Proofs.YtlpebgkekjfhaaaGreat
