/-
  No cell of these rows narrows 'for every input' (looked for: loops, veiled, ifaces, maps, wideKeys, modest, calm, conditions, laid).
  DERIVED. THE GIVEN ROWS OF THIS SEAT. 6 by the template 'for every input the law returns true; each argument reads behind the call as it read before'; 0 by the template 'total and deterministic' (their statements: YtglpcfdjdabdnaaGreatTotals.lean).
  GIVEN WITH THE SEED: the statements are not yours to turn. If you find one false, say at which input.
  Laid BY PROGRAM, IN A SANDBOX (cutbox-rows.mjs): the forced cells as the released guide's own fill.sh prints them over the translation bb06c5f2e12290b3… (all of the seat's roots in one cut). By AI agents, Wed Nov 11 2026. No macro, syntax, notation, axiom, sorry.
-/
import Derived.Test.YtglpcfdjdabdnaaGreatChecked
import GoSem.Claim
import GoSem.ClaimJoined
import GoSem.ClaimMapViews
import Derived.JoinedTies
import Derived.KernelRfl
namespace Go.Proofs.YtglpcfdjdabdnaaGreat
/- THE CELL 'sum', in the pinned program and in every row, IS THE sha256 OF THE DUMP (.gsa) THAT YtglpcfdjdabdnaaGreatProg.lean LOADS. Nothing in Lean hashes anything: it is a label: what it is worth is what the hold of that sum in a sandbox is worth. -/
noncomputable def Tryz.pinned : Pinned := { name := "ytglpcfdjdabdnaagreat", sum := "bb06c5f2e12290b3b52db17fa3540e248bdf1a3c7926ba51c75f3942964703a4", checked := Tryz.checked }
namespace Rows
def none {H : Type} : Left H := { results := [], args := [] }

/-- 'corsnedlaw12.LockTells': WHATEVER THE INPUT: true; the input reads as it did. -/
def lockTellsSpec : ChangeSpec := { name := "lockTells", fn := fun _ => fun
  | [d1, d2, d3] => { results := [.lit (.bool true)], args := [d1, d2, d3] }
  | _ => none }
def lockTellsRow : OpenClaim := { program := "ytglpcfdjdabdnaagreat", sum := "bb06c5f2e12290b3b52db17fa3540e248bdf1a3c7926ba51c75f3942964703a4", func := "corsned/corsnedlaw12.LockTells", spec := "lockTells", unfollowed := true, recurses := true, named := ["math/bits.divideError", "math/bits.overflowError"], plainKeys := false, apart := false }
def LockTellsSaid : Prop := lockTellsRow.holds Tryz.pinned (OpenSpec.ofChange lockTellsSpec)

/-- ITS FALSE NEIGHBOUR: 'it returns false'. Refute it at one input. -/
def lockTellsWrong : ChangeSpec := { name := "lockTells", fn := fun _ => fun
  | [d1, d2, d3] => { results := [.lit (.bool false)], args := [d1, d2, d3] }
  | _ => none }
def LockTellsWrongFalsely : Prop := lockTellsRow.holds Tryz.pinned (OpenSpec.ofChange lockTellsWrong)

/-- 'corsnedlaw13.TxTells': WHATEVER THE INPUT: true; the input reads as it did. -/
def txTellsSpec : ChangeSpec := { name := "txTells", fn := fun _ => fun
  | [d1, d2, d3, d4, d5, d6, d7] => { results := [.lit (.bool true)], args := [d1, d2, d3, d4, d5, d6, d7] }
  | _ => none }
def txTellsRow : OpenClaim := { program := "ytglpcfdjdabdnaagreat", sum := "bb06c5f2e12290b3b52db17fa3540e248bdf1a3c7926ba51c75f3942964703a4", func := "corsned/corsnedlaw13.TxTells", spec := "txTells", unfollowed := true, recurses := true, named := ["math/bits.divideError", "math/bits.overflowError"], plainKeys := false, apart := false }
def TxTellsSaid : Prop := txTellsRow.holds Tryz.pinned (OpenSpec.ofChange txTellsSpec)

/-- ITS FALSE NEIGHBOUR: 'it returns false'. Refute it at one input. -/
def txTellsWrong : ChangeSpec := { name := "txTells", fn := fun _ => fun
  | [d1, d2, d3, d4, d5, d6, d7] => { results := [.lit (.bool false)], args := [d1, d2, d3, d4, d5, d6, d7] }
  | _ => none }
def TxTellsWrongFalsely : Prop := txTellsRow.holds Tryz.pinned (OpenSpec.ofChange txTellsWrong)

/-- 'corsnedlaw13.TxBack': WHATEVER THE INPUT: true; the input reads as it did. -/
def txBackSpec : ChangeSpec := { name := "txBack", fn := fun _ => fun
  | [d1, d2] => { results := [.lit (.bool true)], args := [d1, d2] }
  | _ => none }
def txBackRow : OpenClaim := { program := "ytglpcfdjdabdnaagreat", sum := "bb06c5f2e12290b3b52db17fa3540e248bdf1a3c7926ba51c75f3942964703a4", func := "corsned/corsnedlaw13.TxBack", spec := "txBack", unfollowed := true, recurses := true, named := ["math/bits.divideError", "math/bits.overflowError"], plainKeys := false, apart := false }
def TxBackSaid : Prop := txBackRow.holds Tryz.pinned (OpenSpec.ofChange txBackSpec)

/-- ITS FALSE NEIGHBOUR: 'it returns false'. Refute it at one input. -/
def txBackWrong : ChangeSpec := { name := "txBack", fn := fun _ => fun
  | [d1, d2] => { results := [.lit (.bool false)], args := [d1, d2] }
  | _ => none }
def TxBackWrongFalsely : Prop := txBackRow.holds Tryz.pinned (OpenSpec.ofChange txBackWrong)

/-- 'corsnedlaw13.TxSigns': WHATEVER THE INPUT: true; the input reads as it did. -/
def txSignsSpec : ChangeSpec := { name := "txSigns", fn := fun _ => fun
  | [d1, d2, d3, d4, d5] => { results := [.lit (.bool true)], args := [d1, d2, d3, d4, d5] }
  | _ => none }
def txSignsRow : OpenClaim := { program := "ytglpcfdjdabdnaagreat", sum := "bb06c5f2e12290b3b52db17fa3540e248bdf1a3c7926ba51c75f3942964703a4", func := "corsned/corsnedlaw13.TxSigns", spec := "txSigns", unfollowed := true, recurses := true, named := ["math/bits.divideError", "math/bits.overflowError"], plainKeys := false, apart := false }
def TxSignsSaid : Prop := txSignsRow.holds Tryz.pinned (OpenSpec.ofChange txSignsSpec)

/-- ITS FALSE NEIGHBOUR: 'it returns false'. Refute it at one input. -/
def txSignsWrong : ChangeSpec := { name := "txSigns", fn := fun _ => fun
  | [d1, d2, d3, d4, d5] => { results := [.lit (.bool false)], args := [d1, d2, d3, d4, d5] }
  | _ => none }
def TxSignsWrongFalsely : Prop := txSignsRow.holds Tryz.pinned (OpenSpec.ofChange txSignsWrong)

/-- 'corsnedlaw13.TxNames': WHATEVER THE INPUT: true; the input reads as it did. -/
def txNamesSpec : ChangeSpec := { name := "txNames", fn := fun _ => fun
  | [d1, d2, d3] => { results := [.lit (.bool true)], args := [d1, d2, d3] }
  | _ => none }
def txNamesRow : OpenClaim := { program := "ytglpcfdjdabdnaagreat", sum := "bb06c5f2e12290b3b52db17fa3540e248bdf1a3c7926ba51c75f3942964703a4", func := "corsned/corsnedlaw13.TxNames", spec := "txNames", unfollowed := true, recurses := true, named := ["math/bits.divideError", "math/bits.overflowError"], plainKeys := false, apart := false }
def TxNamesSaid : Prop := txNamesRow.holds Tryz.pinned (OpenSpec.ofChange txNamesSpec)

/-- ITS FALSE NEIGHBOUR: 'it returns false'. Refute it at one input. -/
def txNamesWrong : ChangeSpec := { name := "txNames", fn := fun _ => fun
  | [d1, d2, d3] => { results := [.lit (.bool false)], args := [d1, d2, d3] }
  | _ => none }
def TxNamesWrongFalsely : Prop := txNamesRow.holds Tryz.pinned (OpenSpec.ofChange txNamesWrong)

/-- 'corsnedlaw13.TxOpens': WHATEVER THE INPUT: true; the input reads as it did. -/
def txOpensSpec : ChangeSpec := { name := "txOpens", fn := fun _ => fun
  | [d1, d2, d3, d4, d5, d6] => { results := [.lit (.bool true)], args := [d1, d2, d3, d4, d5, d6] }
  | _ => none }
def txOpensRow : OpenClaim := { program := "ytglpcfdjdabdnaagreat", sum := "bb06c5f2e12290b3b52db17fa3540e248bdf1a3c7926ba51c75f3942964703a4", func := "corsned/corsnedlaw13.TxOpens", spec := "txOpens", unfollowed := true, recurses := true, named := ["math/bits.divideError", "math/bits.overflowError"], plainKeys := false, apart := false }
def TxOpensSaid : Prop := txOpensRow.holds Tryz.pinned (OpenSpec.ofChange txOpensSpec)

/-- ITS FALSE NEIGHBOUR: 'it returns false'. Refute it at one input. -/
def txOpensWrong : ChangeSpec := { name := "txOpens", fn := fun _ => fun
  | [d1, d2, d3, d4, d5, d6] => { results := [.lit (.bool false)], args := [d1, d2, d3, d4, d5, d6] }
  | _ => none }
def TxOpensWrongFalsely : Prop := txOpensRow.holds Tryz.pinned (OpenSpec.ofChange txOpensWrong)

/- THE SECOND FORM. 'bulk': how many values and letters a reading holds, each counted each time it is reached (what is shared counts as often as it is met; a slice's spare places count too). A statement '..UptoSaid' is the law's where the arguments, and the package variables that the reading takes, are together of bulk at most 1048576: NARROWER than '..Said'. Prove '..Said' where nothing that the law and all that it calls make is longer than what came in: it says more and counts as full. Else prove '..UptoSaid'. A law counts once. -/
mutual
def uptoBulk {H : Type} : DataW H → Nat
  | .lit (.string bytes) => bytes.length + 1
  | .lit _ => 1
  | .nil => 1
  | .ptr d => uptoBulk d + 1
  | .slice elems spare => uptoBulkAll elems + uptoBulkAll spare + 1
  | .agg parts => uptoBulkAll parts + 1
  | .iface _ d => uptoBulk d + 1
  | .map entries => uptoBulkEntries entries + 1
  | .held _ => 1
def uptoBulkAll {H : Type} : List (DataW H) → Nat
  | [] => 0
  | d :: r => uptoBulk d + uptoBulkAll r
def uptoBulkEntries {H : Type} : List (Lit × DataW H) → Nat
  | [] => 0
  | x :: r => uptoBulkEntry x + uptoBulkEntries r
def uptoBulkEntry {H : Type} : Lit × DataW H → Nat
  | (.string bytes, d) => bytes.length + uptoBulk d + 1
  | (_, d) => uptoBulk d + 1
 end
def uptoSmall : (H : Type) → List (DataW H) → Bool := fun _ ds => decide (uptoBulkAll ds ≤ 1048576)
def OpenSpec.upto (s : _root_.Go.ChangeSpec) : _root_.Go.OpenSpec := { _root_.Go.OpenSpec.ofChange s with cond := some uptoSmall }

/-- 'corsnedlaw12.LockTells', WHERE WHAT IT READS IS OF BULK AT MOST 1048576: true; the input reads as it did. -/
def lockTellsUptoRow : OpenClaim := { program := "ytglpcfdjdabdnaagreat", sum := "bb06c5f2e12290b3b52db17fa3540e248bdf1a3c7926ba51c75f3942964703a4", func := "corsned/corsnedlaw12.LockTells", spec := "lockTells", unfollowed := true, recurses := true, named := ["math/bits.divideError", "math/bits.overflowError"], plainKeys := false, apart := false, narrowed := true }
def LockTellsUptoSaid : Prop := lockTellsUptoRow.holds Tryz.pinned (OpenSpec.upto lockTellsSpec)

/-- 'corsnedlaw13.TxTells', WHERE WHAT IT READS IS OF BULK AT MOST 1048576: true; the input reads as it did. -/
def txTellsUptoRow : OpenClaim := { program := "ytglpcfdjdabdnaagreat", sum := "bb06c5f2e12290b3b52db17fa3540e248bdf1a3c7926ba51c75f3942964703a4", func := "corsned/corsnedlaw13.TxTells", spec := "txTells", unfollowed := true, recurses := true, named := ["math/bits.divideError", "math/bits.overflowError"], plainKeys := false, apart := false, narrowed := true }
def TxTellsUptoSaid : Prop := txTellsUptoRow.holds Tryz.pinned (OpenSpec.upto txTellsSpec)

/-- 'corsnedlaw13.TxBack', WHERE WHAT IT READS IS OF BULK AT MOST 1048576: true; the input reads as it did. -/
def txBackUptoRow : OpenClaim := { program := "ytglpcfdjdabdnaagreat", sum := "bb06c5f2e12290b3b52db17fa3540e248bdf1a3c7926ba51c75f3942964703a4", func := "corsned/corsnedlaw13.TxBack", spec := "txBack", unfollowed := true, recurses := true, named := ["math/bits.divideError", "math/bits.overflowError"], plainKeys := false, apart := false, narrowed := true }
def TxBackUptoSaid : Prop := txBackUptoRow.holds Tryz.pinned (OpenSpec.upto txBackSpec)

/-- 'corsnedlaw13.TxSigns', WHERE WHAT IT READS IS OF BULK AT MOST 1048576: true; the input reads as it did. -/
def txSignsUptoRow : OpenClaim := { program := "ytglpcfdjdabdnaagreat", sum := "bb06c5f2e12290b3b52db17fa3540e248bdf1a3c7926ba51c75f3942964703a4", func := "corsned/corsnedlaw13.TxSigns", spec := "txSigns", unfollowed := true, recurses := true, named := ["math/bits.divideError", "math/bits.overflowError"], plainKeys := false, apart := false, narrowed := true }
def TxSignsUptoSaid : Prop := txSignsUptoRow.holds Tryz.pinned (OpenSpec.upto txSignsSpec)

/-- 'corsnedlaw13.TxNames', WHERE WHAT IT READS IS OF BULK AT MOST 1048576: true; the input reads as it did. -/
def txNamesUptoRow : OpenClaim := { program := "ytglpcfdjdabdnaagreat", sum := "bb06c5f2e12290b3b52db17fa3540e248bdf1a3c7926ba51c75f3942964703a4", func := "corsned/corsnedlaw13.TxNames", spec := "txNames", unfollowed := true, recurses := true, named := ["math/bits.divideError", "math/bits.overflowError"], plainKeys := false, apart := false, narrowed := true }
def TxNamesUptoSaid : Prop := txNamesUptoRow.holds Tryz.pinned (OpenSpec.upto txNamesSpec)

/-- 'corsnedlaw13.TxOpens', WHERE WHAT IT READS IS OF BULK AT MOST 1048576: true; the input reads as it did. -/
def txOpensUptoRow : OpenClaim := { program := "ytglpcfdjdabdnaagreat", sum := "bb06c5f2e12290b3b52db17fa3540e248bdf1a3c7926ba51c75f3942964703a4", func := "corsned/corsnedlaw13.TxOpens", spec := "txOpens", unfollowed := true, recurses := true, named := ["math/bits.divideError", "math/bits.overflowError"], plainKeys := false, apart := false, narrowed := true }
def TxOpensUptoSaid : Prop := txOpensUptoRow.holds Tryz.pinned (OpenSpec.upto txOpensSpec)

end Rows
end Go.Proofs.YtglpcfdjdabdnaaGreat
