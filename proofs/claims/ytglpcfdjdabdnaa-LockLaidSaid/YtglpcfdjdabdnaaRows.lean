/-
  No cell of these rows narrows 'for every input' (looked for: loops, veiled, ifaces, maps, wideKeys, modest, calm, conditions, laid).
  DERIVED. THE GIVEN ROWS OF THIS SEAT. 5 by the template 'for every input the law returns true; each argument reads behind the call as it read before'; 0 by the template 'total and deterministic' (their statements: YtglpcfdjdabdnaaTotals.lean).
  GIVEN WITH THE SEED: the statements are not yours to turn. If you find one false, say at which input.
  Laid BY PROGRAM, IN A SANDBOX (cutbox-rows.mjs): the forced cells as the released guide's own fill.sh prints them over the translation 4721cbc1662536e4… (all of the seat's roots in one cut). By AI agents, Wed Nov 11 2026. No macro, syntax, notation, axiom, sorry.
-/
import Derived.Test.YtglpcfdjdabdnaaChecked
import GoSem.Claim
import GoSem.ClaimJoined
import GoSem.ClaimMapViews
import Derived.JoinedTies
import Derived.KernelRfl
namespace Go.Proofs.Ytglpcfdjdabdnaa
/- THE CELL 'sum', in the pinned program and in every row, IS THE sha256 OF THE DUMP (.gsa) THAT YtglpcfdjdabdnaaProg.lean LOADS. Nothing in Lean hashes anything: it is a label: what it is worth is what the hold of that sum in a sandbox is worth. -/
noncomputable def Try.pinned : Pinned := { name := "ytglpcfdjdabdnaa", sum := "4721cbc1662536e4455801acc85fc13a53a3af1e418dc12870b3018bac4d4480", checked := Try.checked }
namespace Rows
def none {H : Type} : Left H := { results := [], args := [] }

/-- 'corsnedlaw12.LockOpens': WHATEVER THE INPUT: true; the input reads as it did. -/
def lockOpensSpec : ChangeSpec := { name := "lockOpens", fn := fun _ => fun
  | [d1, d2, d3, d4, d5] => { results := [.lit (.bool true)], args := [d1, d2, d3, d4, d5] }
  | _ => none }
def lockOpensRow : OpenClaim := { program := "ytglpcfdjdabdnaa", sum := "4721cbc1662536e4455801acc85fc13a53a3af1e418dc12870b3018bac4d4480", func := "corsned/corsnedlaw12.LockOpens", spec := "lockOpens", unfollowed := true, recurses := true, named := ["math/bits.divideError", "math/bits.overflowError"], apart := false }
def LockOpensSaid : Prop := lockOpensRow.holds Try.pinned (OpenSpec.ofChange lockOpensSpec)

/-- ITS FALSE NEIGHBOUR: 'it returns false'. Refute it at one input. -/
def lockOpensWrong : ChangeSpec := { name := "lockOpens", fn := fun _ => fun
  | [d1, d2, d3, d4, d5] => { results := [.lit (.bool false)], args := [d1, d2, d3, d4, d5] }
  | _ => none }
def LockOpensWrongFalsely : Prop := lockOpensRow.holds Try.pinned (OpenSpec.ofChange lockOpensWrong)

/-- 'corsnedlaw12.LockSigned': WHATEVER THE INPUT: true; the input reads as it did. -/
def lockSignedSpec : ChangeSpec := { name := "lockSigned", fn := fun _ => fun
  | [d1, d2, d3, d4, d5, d6, d7] => { results := [.lit (.bool true)], args := [d1, d2, d3, d4, d5, d6, d7] }
  | _ => none }
def lockSignedRow : OpenClaim := { program := "ytglpcfdjdabdnaa", sum := "4721cbc1662536e4455801acc85fc13a53a3af1e418dc12870b3018bac4d4480", func := "corsned/corsnedlaw12.LockSigned", spec := "lockSigned", unfollowed := true, recurses := true, named := ["math/bits.divideError", "math/bits.overflowError"], apart := false }
def LockSignedSaid : Prop := lockSignedRow.holds Try.pinned (OpenSpec.ofChange lockSignedSpec)

/-- ITS FALSE NEIGHBOUR: 'it returns false'. Refute it at one input. -/
def lockSignedWrong : ChangeSpec := { name := "lockSigned", fn := fun _ => fun
  | [d1, d2, d3, d4, d5, d6, d7] => { results := [.lit (.bool false)], args := [d1, d2, d3, d4, d5, d6, d7] }
  | _ => none }
def LockSignedWrongFalsely : Prop := lockSignedRow.holds Try.pinned (OpenSpec.ofChange lockSignedWrong)

/-- 'corsnedlaw12.LockMakes': WHATEVER THE INPUT: true; the input reads as it did. -/
def lockMakesSpec : ChangeSpec := { name := "lockMakes", fn := fun _ => fun
  | [d1, d2, d3, d4, d5, d6] => { results := [.lit (.bool true)], args := [d1, d2, d3, d4, d5, d6] }
  | _ => none }
def lockMakesRow : OpenClaim := { program := "ytglpcfdjdabdnaa", sum := "4721cbc1662536e4455801acc85fc13a53a3af1e418dc12870b3018bac4d4480", func := "corsned/corsnedlaw12.LockMakes", spec := "lockMakes", unfollowed := true, recurses := true, named := ["math/bits.divideError", "math/bits.overflowError"], apart := false }
def LockMakesSaid : Prop := lockMakesRow.holds Try.pinned (OpenSpec.ofChange lockMakesSpec)

/-- ITS FALSE NEIGHBOUR: 'it returns false'. Refute it at one input. -/
def lockMakesWrong : ChangeSpec := { name := "lockMakes", fn := fun _ => fun
  | [d1, d2, d3, d4, d5, d6] => { results := [.lit (.bool false)], args := [d1, d2, d3, d4, d5, d6] }
  | _ => none }
def LockMakesWrongFalsely : Prop := lockMakesRow.holds Try.pinned (OpenSpec.ofChange lockMakesWrong)

/-- 'corsnedlaw12.LockLaid': WHATEVER THE INPUT: true; the input reads as it did. -/
def lockLaidSpec : ChangeSpec := { name := "lockLaid", fn := fun _ => fun
  | [d1, d2, d3] => { results := [.lit (.bool true)], args := [d1, d2, d3] }
  | _ => none }
def lockLaidRow : OpenClaim := { program := "ytglpcfdjdabdnaa", sum := "4721cbc1662536e4455801acc85fc13a53a3af1e418dc12870b3018bac4d4480", func := "corsned/corsnedlaw12.LockLaid", spec := "lockLaid", unfollowed := true, recurses := true, named := ["math/bits.divideError", "math/bits.overflowError"], apart := false }
def LockLaidSaid : Prop := lockLaidRow.holds Try.pinned (OpenSpec.ofChange lockLaidSpec)

/-- ITS FALSE NEIGHBOUR: 'it returns false'. Refute it at one input. -/
def lockLaidWrong : ChangeSpec := { name := "lockLaid", fn := fun _ => fun
  | [d1, d2, d3] => { results := [.lit (.bool false)], args := [d1, d2, d3] }
  | _ => none }
def LockLaidWrongFalsely : Prop := lockLaidRow.holds Try.pinned (OpenSpec.ofChange lockLaidWrong)

/-- 'corsnedlaw12.LockBack': WHATEVER THE INPUT: true; the input reads as it did. -/
def lockBackSpec : ChangeSpec := { name := "lockBack", fn := fun _ => fun
  | [d1, d2] => { results := [.lit (.bool true)], args := [d1, d2] }
  | _ => none }
def lockBackRow : OpenClaim := { program := "ytglpcfdjdabdnaa", sum := "4721cbc1662536e4455801acc85fc13a53a3af1e418dc12870b3018bac4d4480", func := "corsned/corsnedlaw12.LockBack", spec := "lockBack", unfollowed := true, recurses := true, named := ["math/bits.divideError", "math/bits.overflowError"], apart := false }
def LockBackSaid : Prop := lockBackRow.holds Try.pinned (OpenSpec.ofChange lockBackSpec)

/-- ITS FALSE NEIGHBOUR: 'it returns false'. Refute it at one input. -/
def lockBackWrong : ChangeSpec := { name := "lockBack", fn := fun _ => fun
  | [d1, d2] => { results := [.lit (.bool false)], args := [d1, d2] }
  | _ => none }
def LockBackWrongFalsely : Prop := lockBackRow.holds Try.pinned (OpenSpec.ofChange lockBackWrong)

/- THE SECOND FORM. 'bulk': how many values and letters a reading holds, each counted each time it is reached (what is shared counts as often as it is met; a slice's spare places count too). A statement '..UptoSaid' is the law's where the arguments, and the package variables that the reading takes, are together of bulk at most 1048576: NARROWER than '..Said'. Prove '..Said' where nothing that the law and all that it calls make is longer than what came in: it says more and counts as full. Else prove '..UptoSaid'. A law counts once. -/
mutual
def uptoBulk {H : Type} : DataW H → Nat
  | .lit (.string bytes) => bytes.length + 1
  | .lit _ => 1
  | .nil => 1
  | .ptr d => uptoBulk d + 1
  | .slice elems spare => uptoBulkAll elems + uptoBulkAll spare + 1
  | .agg parts => uptoBulkAll parts + 1
  | .iface _ d => uptoBulk d + 1
  | .map entries => uptoBulkEntries entries + 1
  | .held _ => 1
def uptoBulkAll {H : Type} : List (DataW H) → Nat
  | [] => 0
  | d :: r => uptoBulk d + uptoBulkAll r
def uptoBulkEntries {H : Type} : List (Lit × DataW H) → Nat
  | [] => 0
  | x :: r => uptoBulkEntry x + uptoBulkEntries r
def uptoBulkEntry {H : Type} : Lit × DataW H → Nat
  | (.string bytes, d) => bytes.length + uptoBulk d + 1
  | (_, d) => uptoBulk d + 1
 end
def uptoSmall : (H : Type) → List (DataW H) → Bool := fun _ ds => decide (uptoBulkAll ds ≤ 1048576)
def OpenSpec.upto (s : _root_.Go.ChangeSpec) : _root_.Go.OpenSpec := { _root_.Go.OpenSpec.ofChange s with cond := some uptoSmall }

/-- 'corsnedlaw12.LockOpens', WHERE WHAT IT READS IS OF BULK AT MOST 1048576: true; the input reads as it did. -/
def lockOpensUptoRow : OpenClaim := { program := "ytglpcfdjdabdnaa", sum := "4721cbc1662536e4455801acc85fc13a53a3af1e418dc12870b3018bac4d4480", func := "corsned/corsnedlaw12.LockOpens", spec := "lockOpens", unfollowed := true, recurses := true, named := ["math/bits.divideError", "math/bits.overflowError"], apart := false, narrowed := true }
def LockOpensUptoSaid : Prop := lockOpensUptoRow.holds Try.pinned (OpenSpec.upto lockOpensSpec)

/-- 'corsnedlaw12.LockSigned', WHERE WHAT IT READS IS OF BULK AT MOST 1048576: true; the input reads as it did. -/
def lockSignedUptoRow : OpenClaim := { program := "ytglpcfdjdabdnaa", sum := "4721cbc1662536e4455801acc85fc13a53a3af1e418dc12870b3018bac4d4480", func := "corsned/corsnedlaw12.LockSigned", spec := "lockSigned", unfollowed := true, recurses := true, named := ["math/bits.divideError", "math/bits.overflowError"], apart := false, narrowed := true }
def LockSignedUptoSaid : Prop := lockSignedUptoRow.holds Try.pinned (OpenSpec.upto lockSignedSpec)

/-- 'corsnedlaw12.LockMakes', WHERE WHAT IT READS IS OF BULK AT MOST 1048576: true; the input reads as it did. -/
def lockMakesUptoRow : OpenClaim := { program := "ytglpcfdjdabdnaa", sum := "4721cbc1662536e4455801acc85fc13a53a3af1e418dc12870b3018bac4d4480", func := "corsned/corsnedlaw12.LockMakes", spec := "lockMakes", unfollowed := true, recurses := true, named := ["math/bits.divideError", "math/bits.overflowError"], apart := false, narrowed := true }
def LockMakesUptoSaid : Prop := lockMakesUptoRow.holds Try.pinned (OpenSpec.upto lockMakesSpec)

/-- 'corsnedlaw12.LockLaid', WHERE WHAT IT READS IS OF BULK AT MOST 1048576: true; the input reads as it did. -/
def lockLaidUptoRow : OpenClaim := { program := "ytglpcfdjdabdnaa", sum := "4721cbc1662536e4455801acc85fc13a53a3af1e418dc12870b3018bac4d4480", func := "corsned/corsnedlaw12.LockLaid", spec := "lockLaid", unfollowed := true, recurses := true, named := ["math/bits.divideError", "math/bits.overflowError"], apart := false, narrowed := true }
def LockLaidUptoSaid : Prop := lockLaidUptoRow.holds Try.pinned (OpenSpec.upto lockLaidSpec)

/-- 'corsnedlaw12.LockBack', WHERE WHAT IT READS IS OF BULK AT MOST 1048576: true; the input reads as it did. -/
def lockBackUptoRow : OpenClaim := { program := "ytglpcfdjdabdnaa", sum := "4721cbc1662536e4455801acc85fc13a53a3af1e418dc12870b3018bac4d4480", func := "corsned/corsnedlaw12.LockBack", spec := "lockBack", unfollowed := true, recurses := true, named := ["math/bits.divideError", "math/bits.overflowError"], apart := false, narrowed := true }
def LockBackUptoSaid : Prop := lockBackUptoRow.holds Try.pinned (OpenSpec.upto lockBackSpec)

end Rows
end Go.Proofs.Ytglpcfdjdabdnaa
