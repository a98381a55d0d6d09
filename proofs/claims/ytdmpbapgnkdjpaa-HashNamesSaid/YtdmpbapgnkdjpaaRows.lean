/-
  No cell of these rows narrows 'for every input' (looked for: loops, veiled, ifaces, maps, wideKeys, modest, calm, conditions, laid).
  DERIVED. THE GIVEN ROWS OF THIS SEAT. 10 by the template 'for every input the law returns true; each argument reads behind the call as it read before'; 0 by the template 'total and deterministic' (their statements: YtdmpbapgnkdjpaaTotals.lean).
  GIVEN WITH THE SEED: the statements are not yours to turn. If you find one false, say at which input.
  Laid BY PROGRAM, IN A SANDBOX (cutbox-rows.mjs): the forced cells as the released guide's own fill.sh prints them over the translation 8214fb21a9a504ec… (all of the seat's roots in one cut). By AI agents, Wed Nov 11 2026. No macro, syntax, notation, axiom, sorry.
-/
import Derived.Test.YtdmpbapgnkdjpaaChecked
import GoSem.Claim
import GoSem.ClaimJoined
import GoSem.ClaimMapViews
import Derived.JoinedTies
import Derived.KernelRfl
namespace Go.Proofs.Ytdmpbapgnkdjpaa
/- THE CELL 'sum', in the pinned program and in every row, IS THE sha256 OF THE DUMP (.gsa) THAT YtdmpbapgnkdjpaaProg.lean LOADS. Nothing in Lean hashes anything: it is a label: what it is worth is what the hold of that sum in a sandbox is worth. -/
noncomputable def Try.pinned : Pinned := { name := "ytdmpbapgnkdjpaa", sum := "8214fb21a9a504eca7649cf230d5fca5e828e8208a8b2fdfd612a3b6c57d98d1", checked := Try.checked }
namespace Rows
def none {H : Type} : Left H := { results := [], args := [] }

/-- 'corsnedlaw09.SealTells': WHATEVER THE INPUT: true; the input reads as it did. -/
def sealTellsSpec : ChangeSpec := { name := "sealTells", fn := fun _ => fun
  | [d1, d2, d3, d4] => { results := [.lit (.bool true)], args := [d1, d2, d3, d4] }
  | _ => none }
def sealTellsRow : OpenClaim := { program := "ytdmpbapgnkdjpaa", sum := "8214fb21a9a504eca7649cf230d5fca5e828e8208a8b2fdfd612a3b6c57d98d1", func := "corsned/corsnedlaw09.SealTells", spec := "sealTells", unfollowed := true, recurses := true, apart := false }
def SealTellsSaid : Prop := sealTellsRow.holds Try.pinned (OpenSpec.ofChange sealTellsSpec)

/-- ITS FALSE NEIGHBOUR: 'it returns false'. Refute it at one input. -/
def sealTellsWrong : ChangeSpec := { name := "sealTells", fn := fun _ => fun
  | [d1, d2, d3, d4] => { results := [.lit (.bool false)], args := [d1, d2, d3, d4] }
  | _ => none }
def SealTellsWrongFalsely : Prop := sealTellsRow.holds Try.pinned (OpenSpec.ofChange sealTellsWrong)

/-- 'corsnedlaw09.SealBack': WHATEVER THE INPUT: true; the input reads as it did. -/
def sealBackSpec : ChangeSpec := { name := "sealBack", fn := fun _ => fun
  | [d1, d2, d3] => { results := [.lit (.bool true)], args := [d1, d2, d3] }
  | _ => none }
def sealBackRow : OpenClaim := { program := "ytdmpbapgnkdjpaa", sum := "8214fb21a9a504eca7649cf230d5fca5e828e8208a8b2fdfd612a3b6c57d98d1", func := "corsned/corsnedlaw09.SealBack", spec := "sealBack", unfollowed := true, recurses := true, apart := false }
def SealBackSaid : Prop := sealBackRow.holds Try.pinned (OpenSpec.ofChange sealBackSpec)

/-- ITS FALSE NEIGHBOUR: 'it returns false'. Refute it at one input. -/
def sealBackWrong : ChangeSpec := { name := "sealBack", fn := fun _ => fun
  | [d1, d2, d3] => { results := [.lit (.bool false)], args := [d1, d2, d3] }
  | _ => none }
def SealBackWrongFalsely : Prop := sealBackRow.holds Try.pinned (OpenSpec.ofChange sealBackWrong)

/-- 'corsnedlaw09.SealStreams': WHATEVER THE INPUT: true; the input reads as it did. -/
def sealStreamsSpec : ChangeSpec := { name := "sealStreams", fn := fun _ => fun
  | [d1, d2, d3] => { results := [.lit (.bool true)], args := [d1, d2, d3] }
  | _ => none }
def sealStreamsRow : OpenClaim := { program := "ytdmpbapgnkdjpaa", sum := "8214fb21a9a504eca7649cf230d5fca5e828e8208a8b2fdfd612a3b6c57d98d1", func := "corsned/corsnedlaw09.SealStreams", spec := "sealStreams", unfollowed := true, recurses := true, apart := false }
def SealStreamsSaid : Prop := sealStreamsRow.holds Try.pinned (OpenSpec.ofChange sealStreamsSpec)

/-- ITS FALSE NEIGHBOUR: 'it returns false'. Refute it at one input. -/
def sealStreamsWrong : ChangeSpec := { name := "sealStreams", fn := fun _ => fun
  | [d1, d2, d3] => { results := [.lit (.bool false)], args := [d1, d2, d3] }
  | _ => none }
def SealStreamsWrongFalsely : Prop := sealStreamsRow.holds Try.pinned (OpenSpec.ofChange sealStreamsWrong)

/-- 'corsnedlaw09.SealOver': WHATEVER THE INPUT: true; the input reads as it did. -/
def sealOverSpec : ChangeSpec := { name := "sealOver", fn := fun _ => fun
  | [d1, d2, d3] => { results := [.lit (.bool true)], args := [d1, d2, d3] }
  | _ => none }
def sealOverRow : OpenClaim := { program := "ytdmpbapgnkdjpaa", sum := "8214fb21a9a504eca7649cf230d5fca5e828e8208a8b2fdfd612a3b6c57d98d1", func := "corsned/corsnedlaw09.SealOver", spec := "sealOver", unfollowed := true, recurses := true, apart := false }
def SealOverSaid : Prop := sealOverRow.holds Try.pinned (OpenSpec.ofChange sealOverSpec)

/-- ITS FALSE NEIGHBOUR: 'it returns false'. Refute it at one input. -/
def sealOverWrong : ChangeSpec := { name := "sealOver", fn := fun _ => fun
  | [d1, d2, d3] => { results := [.lit (.bool false)], args := [d1, d2, d3] }
  | _ => none }
def SealOverWrongFalsely : Prop := sealOverRow.holds Try.pinned (OpenSpec.ofChange sealOverWrong)

/-- 'corsnedlaw09.SealTagged': WHATEVER THE INPUT: true; the input reads as it did. -/
def sealTaggedSpec : ChangeSpec := { name := "sealTagged", fn := fun _ => fun
  | [d1, d2, d3] => { results := [.lit (.bool true)], args := [d1, d2, d3] }
  | _ => none }
def sealTaggedRow : OpenClaim := { program := "ytdmpbapgnkdjpaa", sum := "8214fb21a9a504eca7649cf230d5fca5e828e8208a8b2fdfd612a3b6c57d98d1", func := "corsned/corsnedlaw09.SealTagged", spec := "sealTagged", unfollowed := true, recurses := true, apart := false }
def SealTaggedSaid : Prop := sealTaggedRow.holds Try.pinned (OpenSpec.ofChange sealTaggedSpec)

/-- ITS FALSE NEIGHBOUR: 'it returns false'. Refute it at one input. -/
def sealTaggedWrong : ChangeSpec := { name := "sealTagged", fn := fun _ => fun
  | [d1, d2, d3] => { results := [.lit (.bool false)], args := [d1, d2, d3] }
  | _ => none }
def SealTaggedWrongFalsely : Prop := sealTaggedRow.holds Try.pinned (OpenSpec.ofChange sealTaggedWrong)

/-- 'corsnedlaw09.SealNew': WHATEVER THE INPUT: true; the input reads as it did. -/
def sealNewSpec : ChangeSpec := { name := "sealNew", fn := fun _ => fun
  | [d1, d2] => { results := [.lit (.bool true)], args := [d1, d2] }
  | _ => none }
def sealNewRow : OpenClaim := { program := "ytdmpbapgnkdjpaa", sum := "8214fb21a9a504eca7649cf230d5fca5e828e8208a8b2fdfd612a3b6c57d98d1", func := "corsned/corsnedlaw09.SealNew", spec := "sealNew", unfollowed := true, recurses := true, apart := false }
def SealNewSaid : Prop := sealNewRow.holds Try.pinned (OpenSpec.ofChange sealNewSpec)

/-- ITS FALSE NEIGHBOUR: 'it returns false'. Refute it at one input. -/
def sealNewWrong : ChangeSpec := { name := "sealNew", fn := fun _ => fun
  | [d1, d2] => { results := [.lit (.bool false)], args := [d1, d2] }
  | _ => none }
def SealNewWrongFalsely : Prop := sealNewRow.holds Try.pinned (OpenSpec.ofChange sealNewWrong)

/-- 'corsnedlaw04.HashTells': WHATEVER THE INPUT: true; the input reads as it did. -/
def hashTellsSpec : ChangeSpec := { name := "hashTells", fn := fun _ => fun
  | [d1, d2, d3] => { results := [.lit (.bool true)], args := [d1, d2, d3] }
  | _ => none }
def hashTellsRow : OpenClaim := { program := "ytdmpbapgnkdjpaa", sum := "8214fb21a9a504eca7649cf230d5fca5e828e8208a8b2fdfd612a3b6c57d98d1", func := "corsned/corsnedlaw04.HashTells", spec := "hashTells", inPlace := ["internal/bytealg.IndexByteString", "internal/abi.NoEscape"], apart := false }
def HashTellsSaid : Prop := hashTellsRow.holds Try.pinned (OpenSpec.ofChange hashTellsSpec)

/-- ITS FALSE NEIGHBOUR: 'it returns false'. Refute it at one input. -/
def hashTellsWrong : ChangeSpec := { name := "hashTells", fn := fun _ => fun
  | [d1, d2, d3] => { results := [.lit (.bool false)], args := [d1, d2, d3] }
  | _ => none }
def HashTellsWrongFalsely : Prop := hashTellsRow.holds Try.pinned (OpenSpec.ofChange hashTellsWrong)

/-- 'corsnedlaw04.HashTags': WHATEVER THE INPUT: true; the input reads as it did. -/
def hashTagsSpec : ChangeSpec := { name := "hashTags", fn := fun _ => fun
  | [d1, d2] => { results := [.lit (.bool true)], args := [d1, d2] }
  | _ => none }
def hashTagsRow : OpenClaim := { program := "ytdmpbapgnkdjpaa", sum := "8214fb21a9a504eca7649cf230d5fca5e828e8208a8b2fdfd612a3b6c57d98d1", func := "corsned/corsnedlaw04.HashTags", spec := "hashTags", inPlace := ["internal/bytealg.IndexByteString", "internal/abi.NoEscape"], apart := false }
def HashTagsSaid : Prop := hashTagsRow.holds Try.pinned (OpenSpec.ofChange hashTagsSpec)

/-- ITS FALSE NEIGHBOUR: 'it returns false'. Refute it at one input. -/
def hashTagsWrong : ChangeSpec := { name := "hashTags", fn := fun _ => fun
  | [d1, d2] => { results := [.lit (.bool false)], args := [d1, d2] }
  | _ => none }
def HashTagsWrongFalsely : Prop := hashTagsRow.holds Try.pinned (OpenSpec.ofChange hashTagsWrong)

/-- 'corsnedlaw04.HashBack': WHATEVER THE INPUT: true; the input reads as it did. -/
def hashBackSpec : ChangeSpec := { name := "hashBack", fn := fun _ => fun
  | [d1, d2] => { results := [.lit (.bool true)], args := [d1, d2] }
  | _ => none }
def hashBackRow : OpenClaim := { program := "ytdmpbapgnkdjpaa", sum := "8214fb21a9a504eca7649cf230d5fca5e828e8208a8b2fdfd612a3b6c57d98d1", func := "corsned/corsnedlaw04.HashBack", spec := "hashBack", inPlace := ["internal/bytealg.IndexByteString", "internal/abi.NoEscape"], apart := false }
def HashBackSaid : Prop := hashBackRow.holds Try.pinned (OpenSpec.ofChange hashBackSpec)

/-- ITS FALSE NEIGHBOUR: 'it returns false'. Refute it at one input. -/
def hashBackWrong : ChangeSpec := { name := "hashBack", fn := fun _ => fun
  | [d1, d2] => { results := [.lit (.bool false)], args := [d1, d2] }
  | _ => none }
def HashBackWrongFalsely : Prop := hashBackRow.holds Try.pinned (OpenSpec.ofChange hashBackWrong)

/-- 'corsnedlaw04.HashNames': WHATEVER THE INPUT: true; the input reads as it did. -/
def hashNamesSpec : ChangeSpec := { name := "hashNames", fn := fun _ => fun
  | [d1, d2, d3] => { results := [.lit (.bool true)], args := [d1, d2, d3] }
  | _ => none }
def hashNamesRow : OpenClaim := { program := "ytdmpbapgnkdjpaa", sum := "8214fb21a9a504eca7649cf230d5fca5e828e8208a8b2fdfd612a3b6c57d98d1", func := "corsned/corsnedlaw04.HashNames", spec := "hashNames", inPlace := ["internal/bytealg.IndexByteString", "internal/abi.NoEscape"], apart := false }
def HashNamesSaid : Prop := hashNamesRow.holds Try.pinned (OpenSpec.ofChange hashNamesSpec)

/-- ITS FALSE NEIGHBOUR: 'it returns false'. Refute it at one input. -/
def hashNamesWrong : ChangeSpec := { name := "hashNames", fn := fun _ => fun
  | [d1, d2, d3] => { results := [.lit (.bool false)], args := [d1, d2, d3] }
  | _ => none }
def HashNamesWrongFalsely : Prop := hashNamesRow.holds Try.pinned (OpenSpec.ofChange hashNamesWrong)

/- THE SECOND FORM. 'bulk': how many values and letters a reading holds, each counted each time it is reached (what is shared counts as often as it is met; a slice's spare places count too). A statement '..UptoSaid' is the law's where the arguments, and the package variables that the reading takes, are together of bulk at most 1048576: NARROWER than '..Said'. Prove '..Said' where nothing that the law and all that it calls make is longer than what came in: it says more and counts as full. Else prove '..UptoSaid'. A law counts once. -/
mutual
def uptoBulk {H : Type} : DataW H → Nat
  | .lit (.string bytes) => bytes.length + 1
  | .lit _ => 1
  | .nil => 1
  | .ptr d => uptoBulk d + 1
  | .slice elems spare => uptoBulkAll elems + uptoBulkAll spare + 1
  | .agg parts => uptoBulkAll parts + 1
  | .iface _ d => uptoBulk d + 1
  | .map entries => uptoBulkEntries entries + 1
  | .held _ => 1
def uptoBulkAll {H : Type} : List (DataW H) → Nat
  | [] => 0
  | d :: r => uptoBulk d + uptoBulkAll r
def uptoBulkEntries {H : Type} : List (Lit × DataW H) → Nat
  | [] => 0
  | x :: r => uptoBulkEntry x + uptoBulkEntries r
def uptoBulkEntry {H : Type} : Lit × DataW H → Nat
  | (.string bytes, d) => bytes.length + uptoBulk d + 1
  | (_, d) => uptoBulk d + 1
 end
def uptoSmall : (H : Type) → List (DataW H) → Bool := fun _ ds => decide (uptoBulkAll ds ≤ 1048576)
def OpenSpec.upto (s : _root_.Go.ChangeSpec) : _root_.Go.OpenSpec := { _root_.Go.OpenSpec.ofChange s with cond := some uptoSmall }

/-- 'corsnedlaw09.SealTells', WHERE WHAT IT READS IS OF BULK AT MOST 1048576: true; the input reads as it did. -/
def sealTellsUptoRow : OpenClaim := { program := "ytdmpbapgnkdjpaa", sum := "8214fb21a9a504eca7649cf230d5fca5e828e8208a8b2fdfd612a3b6c57d98d1", func := "corsned/corsnedlaw09.SealTells", spec := "sealTells", unfollowed := true, recurses := true, apart := false, narrowed := true }
def SealTellsUptoSaid : Prop := sealTellsUptoRow.holds Try.pinned (OpenSpec.upto sealTellsSpec)

/-- 'corsnedlaw09.SealBack', WHERE WHAT IT READS IS OF BULK AT MOST 1048576: true; the input reads as it did. -/
def sealBackUptoRow : OpenClaim := { program := "ytdmpbapgnkdjpaa", sum := "8214fb21a9a504eca7649cf230d5fca5e828e8208a8b2fdfd612a3b6c57d98d1", func := "corsned/corsnedlaw09.SealBack", spec := "sealBack", unfollowed := true, recurses := true, apart := false, narrowed := true }
def SealBackUptoSaid : Prop := sealBackUptoRow.holds Try.pinned (OpenSpec.upto sealBackSpec)

/-- 'corsnedlaw09.SealStreams', WHERE WHAT IT READS IS OF BULK AT MOST 1048576: true; the input reads as it did. -/
def sealStreamsUptoRow : OpenClaim := { program := "ytdmpbapgnkdjpaa", sum := "8214fb21a9a504eca7649cf230d5fca5e828e8208a8b2fdfd612a3b6c57d98d1", func := "corsned/corsnedlaw09.SealStreams", spec := "sealStreams", unfollowed := true, recurses := true, apart := false, narrowed := true }
def SealStreamsUptoSaid : Prop := sealStreamsUptoRow.holds Try.pinned (OpenSpec.upto sealStreamsSpec)

/-- 'corsnedlaw09.SealOver', WHERE WHAT IT READS IS OF BULK AT MOST 1048576: true; the input reads as it did. -/
def sealOverUptoRow : OpenClaim := { program := "ytdmpbapgnkdjpaa", sum := "8214fb21a9a504eca7649cf230d5fca5e828e8208a8b2fdfd612a3b6c57d98d1", func := "corsned/corsnedlaw09.SealOver", spec := "sealOver", unfollowed := true, recurses := true, apart := false, narrowed := true }
def SealOverUptoSaid : Prop := sealOverUptoRow.holds Try.pinned (OpenSpec.upto sealOverSpec)

/-- 'corsnedlaw09.SealTagged', WHERE WHAT IT READS IS OF BULK AT MOST 1048576: true; the input reads as it did. -/
def sealTaggedUptoRow : OpenClaim := { program := "ytdmpbapgnkdjpaa", sum := "8214fb21a9a504eca7649cf230d5fca5e828e8208a8b2fdfd612a3b6c57d98d1", func := "corsned/corsnedlaw09.SealTagged", spec := "sealTagged", unfollowed := true, recurses := true, apart := false, narrowed := true }
def SealTaggedUptoSaid : Prop := sealTaggedUptoRow.holds Try.pinned (OpenSpec.upto sealTaggedSpec)

/-- 'corsnedlaw09.SealNew', WHERE WHAT IT READS IS OF BULK AT MOST 1048576: true; the input reads as it did. -/
def sealNewUptoRow : OpenClaim := { program := "ytdmpbapgnkdjpaa", sum := "8214fb21a9a504eca7649cf230d5fca5e828e8208a8b2fdfd612a3b6c57d98d1", func := "corsned/corsnedlaw09.SealNew", spec := "sealNew", unfollowed := true, recurses := true, apart := false, narrowed := true }
def SealNewUptoSaid : Prop := sealNewUptoRow.holds Try.pinned (OpenSpec.upto sealNewSpec)

/-- 'corsnedlaw04.HashTells', WHERE WHAT IT READS IS OF BULK AT MOST 1048576: true; the input reads as it did. -/
def hashTellsUptoRow : OpenClaim := { program := "ytdmpbapgnkdjpaa", sum := "8214fb21a9a504eca7649cf230d5fca5e828e8208a8b2fdfd612a3b6c57d98d1", func := "corsned/corsnedlaw04.HashTells", spec := "hashTells", inPlace := ["internal/bytealg.IndexByteString", "internal/abi.NoEscape"], apart := false, narrowed := true }
def HashTellsUptoSaid : Prop := hashTellsUptoRow.holds Try.pinned (OpenSpec.upto hashTellsSpec)

/-- 'corsnedlaw04.HashTags', WHERE WHAT IT READS IS OF BULK AT MOST 1048576: true; the input reads as it did. -/
def hashTagsUptoRow : OpenClaim := { program := "ytdmpbapgnkdjpaa", sum := "8214fb21a9a504eca7649cf230d5fca5e828e8208a8b2fdfd612a3b6c57d98d1", func := "corsned/corsnedlaw04.HashTags", spec := "hashTags", inPlace := ["internal/bytealg.IndexByteString", "internal/abi.NoEscape"], apart := false, narrowed := true }
def HashTagsUptoSaid : Prop := hashTagsUptoRow.holds Try.pinned (OpenSpec.upto hashTagsSpec)

/-- 'corsnedlaw04.HashBack', WHERE WHAT IT READS IS OF BULK AT MOST 1048576: true; the input reads as it did. -/
def hashBackUptoRow : OpenClaim := { program := "ytdmpbapgnkdjpaa", sum := "8214fb21a9a504eca7649cf230d5fca5e828e8208a8b2fdfd612a3b6c57d98d1", func := "corsned/corsnedlaw04.HashBack", spec := "hashBack", inPlace := ["internal/bytealg.IndexByteString", "internal/abi.NoEscape"], apart := false, narrowed := true }
def HashBackUptoSaid : Prop := hashBackUptoRow.holds Try.pinned (OpenSpec.upto hashBackSpec)

/-- 'corsnedlaw04.HashNames', WHERE WHAT IT READS IS OF BULK AT MOST 1048576: true; the input reads as it did. -/
def hashNamesUptoRow : OpenClaim := { program := "ytdmpbapgnkdjpaa", sum := "8214fb21a9a504eca7649cf230d5fca5e828e8208a8b2fdfd612a3b6c57d98d1", func := "corsned/corsnedlaw04.HashNames", spec := "hashNames", inPlace := ["internal/bytealg.IndexByteString", "internal/abi.NoEscape"], apart := false, narrowed := true }
def HashNamesUptoSaid : Prop := hashNamesUptoRow.holds Try.pinned (OpenSpec.upto hashNamesSpec)

end Rows
end Go.Proofs.Ytdmpbapgnkdjpaa
