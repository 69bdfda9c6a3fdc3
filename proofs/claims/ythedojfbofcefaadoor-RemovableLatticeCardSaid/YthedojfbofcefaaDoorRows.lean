/-
  NARROWER THAN 'FOR EVERY INPUT', by the rows' own cells (each row's printed sentence says how): RemovableCandidates: laid · RemovableLimits: laid · RemovableHulls: laid · RemovableHeld: laid · RemovablePeels: laid · RemovableLattice: laid.
  DERIVED. THE GIVEN ROWS OF THIS SEAT. 6 by the template 'for every input the law returns true; each argument reads behind the call as it read before'; 0 by the template 'total and deterministic' (their statements: YthedojfbofcefaaDoorTotals.lean).
  GIVEN WITH THE SEED: the statements are not yours to turn. If you find one false, say at which input.
  Laid BY PROGRAM, IN A SANDBOX (cutbox-rows.mjs): the forced cells as the released guide's own fill.sh prints them over the translation 9b7fd0eac09aa2cb… (all of the seat's roots in one cut). By AI agents, Wed Nov 11 2026. No macro, syntax, notation, axiom, sorry.
-/
import Derived.Test.YthedojfbofcefaaDoorChecked
import GoSem.Claim
import GoSem.ClaimJoined
import GoSem.ClaimMapViews
import Derived.JoinedTies
import Derived.KernelRfl
namespace Go.Proofs.YthedojfbofcefaaDoor
/- THE CELL 'sum', in the pinned program and in every row, IS THE sha256 OF THE DUMP (.gsa) THAT YthedojfbofcefaaDoorProg.lean LOADS. Nothing in Lean hashes anything: it is a label: what it is worth is what the hold of that sum in a sandbox is worth. -/
noncomputable def Tryd.pinned : Pinned := { name := "ythedojfbofcefaadoor", sum := "9b7fd0eac09aa2cb087dfb0b0b1dec1f6d7ba49ead44f65cd4e658b011b83d99", checked := Tryd.checked }
namespace Rows
def none {H : Type} : Left H := { results := [], args := [] }

/- WHAT THE LISTED PACKAGE-LEVEL VARIABLES READ AS WHEN THE CALL BEGINS. Each datum BY PROGRAM (the guide's laid-datum.mjs) off the statement by which the dump's own 'gosem.cut.vars' lays the variable. In a bare row this is a premise. The card (YthedojfbofcefaaDoorCards.lean) ties it to the program's text. -/
def laid_math_bits_deBruijn64tab {H : Type} : DataW H := .agg [.lit (.int .u8 0), .lit (.int .u8 1), .lit (.int .u8 56), .lit (.int .u8 2), .lit (.int .u8 57), .lit (.int .u8 49), .lit (.int .u8 28), .lit (.int .u8 3), .lit (.int .u8 61), .lit (.int .u8 58), .lit (.int .u8 42), .lit (.int .u8 50), .lit (.int .u8 38), .lit (.int .u8 29), .lit (.int .u8 17), .lit (.int .u8 4), .lit (.int .u8 62), .lit (.int .u8 47), .lit (.int .u8 59), .lit (.int .u8 36), .lit (.int .u8 45), .lit (.int .u8 43), .lit (.int .u8 51), .lit (.int .u8 22), .lit (.int .u8 53), .lit (.int .u8 39), .lit (.int .u8 33), .lit (.int .u8 30), .lit (.int .u8 24), .lit (.int .u8 18), .lit (.int .u8 12), .lit (.int .u8 5), .lit (.int .u8 63), .lit (.int .u8 55), .lit (.int .u8 48), .lit (.int .u8 27), .lit (.int .u8 60), .lit (.int .u8 41), .lit (.int .u8 37), .lit (.int .u8 16), .lit (.int .u8 46), .lit (.int .u8 35), .lit (.int .u8 44), .lit (.int .u8 21), .lit (.int .u8 52), .lit (.int .u8 32), .lit (.int .u8 23), .lit (.int .u8 11), .lit (.int .u8 54), .lit (.int .u8 26), .lit (.int .u8 40), .lit (.int .u8 15), .lit (.int .u8 34), .lit (.int .u8 20), .lit (.int .u8 31), .lit (.int .u8 10), .lit (.int .u8 25), .lit (.int .u8 14), .lit (.int .u8 19), .lit (.int .u8 9), .lit (.int .u8 13), .lit (.int .u8 8), .lit (.int .u8 7), .lit (.int .u8 6)]

/-- 'dowellaw24.RemovableCandidates': WHATEVER THE INPUT: true; the input reads as it did. -/
def removableCandidatesSpec : ChangeSpec := { name := "removableCandidates", fn := fun _ => fun
  | [d1, d2, d3] => { results := [.lit (.bool true)], args := [d1, d2, d3] }
  | _ => none }
def removableCandidatesRow : OpenClaim := { program := "ythedojfbofcefaadoor", sum := "9b7fd0eac09aa2cb087dfb0b0b1dec1f6d7ba49ead44f65cd4e658b011b83d99", func := "dowel/dowellaw24.RemovableCandidates", spec := "removableCandidates", unfollowed := true, recurses := true, named := ["math/bits.deBruijn64tab"], apart := false, laid := [("math/bits.deBruijn64tab", laid_math_bits_deBruijn64tab)] }
def RemovableCandidatesSaid : Prop := removableCandidatesRow.holds Tryd.pinned (OpenSpec.ofChange removableCandidatesSpec)

/-- ITS FALSE NEIGHBOUR: 'it returns false'. Refute it at one input. -/
def removableCandidatesWrong : ChangeSpec := { name := "removableCandidates", fn := fun _ => fun
  | [d1, d2, d3] => { results := [.lit (.bool false)], args := [d1, d2, d3] }
  | _ => none }
def RemovableCandidatesWrongFalsely : Prop := removableCandidatesRow.holds Tryd.pinned (OpenSpec.ofChange removableCandidatesWrong)

/-- 'dowellaw24.RemovableLimits': WHATEVER THE INPUT: true; the input reads as it did. -/
def removableLimitsSpec : ChangeSpec := { name := "removableLimits", fn := fun _ => fun
  | [d1, d2] => { results := [.lit (.bool true)], args := [d1, d2] }
  | _ => none }
def removableLimitsRow : OpenClaim := { program := "ythedojfbofcefaadoor", sum := "9b7fd0eac09aa2cb087dfb0b0b1dec1f6d7ba49ead44f65cd4e658b011b83d99", func := "dowel/dowellaw24.RemovableLimits", spec := "removableLimits", unfollowed := true, recurses := true, named := ["math/bits.deBruijn64tab"], apart := false, laid := [("math/bits.deBruijn64tab", laid_math_bits_deBruijn64tab)] }
def RemovableLimitsSaid : Prop := removableLimitsRow.holds Tryd.pinned (OpenSpec.ofChange removableLimitsSpec)

/-- ITS FALSE NEIGHBOUR: 'it returns false'. Refute it at one input. -/
def removableLimitsWrong : ChangeSpec := { name := "removableLimits", fn := fun _ => fun
  | [d1, d2] => { results := [.lit (.bool false)], args := [d1, d2] }
  | _ => none }
def RemovableLimitsWrongFalsely : Prop := removableLimitsRow.holds Tryd.pinned (OpenSpec.ofChange removableLimitsWrong)

/-- 'dowellaw24.RemovableHulls': WHATEVER THE INPUT: true; the input reads as it did. -/
def removableHullsSpec : ChangeSpec := { name := "removableHulls", fn := fun _ => fun
  | [d1, d2] => { results := [.lit (.bool true)], args := [d1, d2] }
  | _ => none }
def removableHullsRow : OpenClaim := { program := "ythedojfbofcefaadoor", sum := "9b7fd0eac09aa2cb087dfb0b0b1dec1f6d7ba49ead44f65cd4e658b011b83d99", func := "dowel/dowellaw24.RemovableHulls", spec := "removableHulls", unfollowed := true, recurses := true, named := ["math/bits.deBruijn64tab"], apart := false, laid := [("math/bits.deBruijn64tab", laid_math_bits_deBruijn64tab)] }
def RemovableHullsSaid : Prop := removableHullsRow.holds Tryd.pinned (OpenSpec.ofChange removableHullsSpec)

/-- ITS FALSE NEIGHBOUR: 'it returns false'. Refute it at one input. -/
def removableHullsWrong : ChangeSpec := { name := "removableHulls", fn := fun _ => fun
  | [d1, d2] => { results := [.lit (.bool false)], args := [d1, d2] }
  | _ => none }
def RemovableHullsWrongFalsely : Prop := removableHullsRow.holds Tryd.pinned (OpenSpec.ofChange removableHullsWrong)

/-- 'dowellaw24.RemovableHeld': WHATEVER THE INPUT: true; the input reads as it did. -/
def removableHeldSpec : ChangeSpec := { name := "removableHeld", fn := fun _ => fun
  | [d1, d2, d3] => { results := [.lit (.bool true)], args := [d1, d2, d3] }
  | _ => none }
def removableHeldRow : OpenClaim := { program := "ythedojfbofcefaadoor", sum := "9b7fd0eac09aa2cb087dfb0b0b1dec1f6d7ba49ead44f65cd4e658b011b83d99", func := "dowel/dowellaw24.RemovableHeld", spec := "removableHeld", unfollowed := true, recurses := true, named := ["math/bits.deBruijn64tab"], apart := false, laid := [("math/bits.deBruijn64tab", laid_math_bits_deBruijn64tab)] }
def RemovableHeldSaid : Prop := removableHeldRow.holds Tryd.pinned (OpenSpec.ofChange removableHeldSpec)

/-- ITS FALSE NEIGHBOUR: 'it returns false'. Refute it at one input. -/
def removableHeldWrong : ChangeSpec := { name := "removableHeld", fn := fun _ => fun
  | [d1, d2, d3] => { results := [.lit (.bool false)], args := [d1, d2, d3] }
  | _ => none }
def RemovableHeldWrongFalsely : Prop := removableHeldRow.holds Tryd.pinned (OpenSpec.ofChange removableHeldWrong)

/-- 'dowellaw24.RemovablePeels': WHATEVER THE INPUT: true; the input reads as it did. -/
def removablePeelsSpec : ChangeSpec := { name := "removablePeels", fn := fun _ => fun
  | [d] => { results := [.lit (.bool true)], args := [d] }
  | _ => none }
def removablePeelsRow : OpenClaim := { program := "ythedojfbofcefaadoor", sum := "9b7fd0eac09aa2cb087dfb0b0b1dec1f6d7ba49ead44f65cd4e658b011b83d99", func := "dowel/dowellaw24.RemovablePeels", spec := "removablePeels", unfollowed := true, recurses := true, named := ["math/bits.deBruijn64tab"], apart := false, laid := [("math/bits.deBruijn64tab", laid_math_bits_deBruijn64tab)] }
def RemovablePeelsSaid : Prop := removablePeelsRow.holds Tryd.pinned (OpenSpec.ofChange removablePeelsSpec)

/-- ITS FALSE NEIGHBOUR: 'it returns false'. Refute it at one input. -/
def removablePeelsWrong : ChangeSpec := { name := "removablePeels", fn := fun _ => fun
  | [d] => { results := [.lit (.bool false)], args := [d] }
  | _ => none }
def RemovablePeelsWrongFalsely : Prop := removablePeelsRow.holds Tryd.pinned (OpenSpec.ofChange removablePeelsWrong)

/-- 'dowellaw24.RemovableLattice': WHATEVER THE INPUT: true; the input reads as it did. -/
def removableLatticeSpec : ChangeSpec := { name := "removableLattice", fn := fun _ => fun
  | [d1, d2] => { results := [.lit (.bool true)], args := [d1, d2] }
  | _ => none }
def removableLatticeRow : OpenClaim := { program := "ythedojfbofcefaadoor", sum := "9b7fd0eac09aa2cb087dfb0b0b1dec1f6d7ba49ead44f65cd4e658b011b83d99", func := "dowel/dowellaw24.RemovableLattice", spec := "removableLattice", unfollowed := true, recurses := true, named := ["math/bits.deBruijn64tab"], apart := false, laid := [("math/bits.deBruijn64tab", laid_math_bits_deBruijn64tab)] }
def RemovableLatticeSaid : Prop := removableLatticeRow.holds Tryd.pinned (OpenSpec.ofChange removableLatticeSpec)

/-- ITS FALSE NEIGHBOUR: 'it returns false'. Refute it at one input. -/
def removableLatticeWrong : ChangeSpec := { name := "removableLattice", fn := fun _ => fun
  | [d1, d2] => { results := [.lit (.bool false)], args := [d1, d2] }
  | _ => none }
def RemovableLatticeWrongFalsely : Prop := removableLatticeRow.holds Tryd.pinned (OpenSpec.ofChange removableLatticeWrong)

/- THE SECOND FORM. 'bulk': how many values and letters a reading holds, each counted each time it is reached (what is shared counts as often as it is met; a slice's spare places count too). A statement '..UptoSaid' is the law's where the arguments, and the package variables that the reading takes, are together of bulk at most 1048576: NARROWER than '..Said'. Prove '..Said' where nothing that the law and all that it calls make is longer than what came in: it says more and counts as full. Else prove '..UptoSaid'. A law counts once. -/
mutual
def uptoBulk {H : Type} : DataW H → Nat
  | .lit (.string bytes) => bytes.length + 1
  | .lit _ => 1
  | .nil => 1
  | .ptr d => uptoBulk d + 1
  | .slice elems spare => uptoBulkAll elems + uptoBulkAll spare + 1
  | .agg parts => uptoBulkAll parts + 1
  | .iface _ d => uptoBulk d + 1
  | .map entries => uptoBulkEntries entries + 1
  | .held _ => 1
def uptoBulkAll {H : Type} : List (DataW H) → Nat
  | [] => 0
  | d :: r => uptoBulk d + uptoBulkAll r
def uptoBulkEntries {H : Type} : List (Lit × DataW H) → Nat
  | [] => 0
  | x :: r => uptoBulkEntry x + uptoBulkEntries r
def uptoBulkEntry {H : Type} : Lit × DataW H → Nat
  | (.string bytes, d) => bytes.length + uptoBulk d + 1
  | (_, d) => uptoBulk d + 1
 end
def uptoSmall : (H : Type) → List (DataW H) → Bool := fun _ ds => decide (uptoBulkAll ds ≤ 1048576)
def OpenSpec.upto (s : _root_.Go.ChangeSpec) : _root_.Go.OpenSpec := { _root_.Go.OpenSpec.ofChange s with cond := some uptoSmall }

/-- 'dowellaw24.RemovableCandidates', WHERE WHAT IT READS IS OF BULK AT MOST 1048576: true; the input reads as it did. -/
def removableCandidatesUptoRow : OpenClaim := { program := "ythedojfbofcefaadoor", sum := "9b7fd0eac09aa2cb087dfb0b0b1dec1f6d7ba49ead44f65cd4e658b011b83d99", func := "dowel/dowellaw24.RemovableCandidates", spec := "removableCandidates", unfollowed := true, recurses := true, named := ["math/bits.deBruijn64tab"], apart := false, laid := [("math/bits.deBruijn64tab", laid_math_bits_deBruijn64tab)], narrowed := true }
def RemovableCandidatesUptoSaid : Prop := removableCandidatesUptoRow.holds Tryd.pinned (OpenSpec.upto removableCandidatesSpec)

/-- 'dowellaw24.RemovableLimits', WHERE WHAT IT READS IS OF BULK AT MOST 1048576: true; the input reads as it did. -/
def removableLimitsUptoRow : OpenClaim := { program := "ythedojfbofcefaadoor", sum := "9b7fd0eac09aa2cb087dfb0b0b1dec1f6d7ba49ead44f65cd4e658b011b83d99", func := "dowel/dowellaw24.RemovableLimits", spec := "removableLimits", unfollowed := true, recurses := true, named := ["math/bits.deBruijn64tab"], apart := false, laid := [("math/bits.deBruijn64tab", laid_math_bits_deBruijn64tab)], narrowed := true }
def RemovableLimitsUptoSaid : Prop := removableLimitsUptoRow.holds Tryd.pinned (OpenSpec.upto removableLimitsSpec)

/-- 'dowellaw24.RemovableHulls', WHERE WHAT IT READS IS OF BULK AT MOST 1048576: true; the input reads as it did. -/
def removableHullsUptoRow : OpenClaim := { program := "ythedojfbofcefaadoor", sum := "9b7fd0eac09aa2cb087dfb0b0b1dec1f6d7ba49ead44f65cd4e658b011b83d99", func := "dowel/dowellaw24.RemovableHulls", spec := "removableHulls", unfollowed := true, recurses := true, named := ["math/bits.deBruijn64tab"], apart := false, laid := [("math/bits.deBruijn64tab", laid_math_bits_deBruijn64tab)], narrowed := true }
def RemovableHullsUptoSaid : Prop := removableHullsUptoRow.holds Tryd.pinned (OpenSpec.upto removableHullsSpec)

/-- 'dowellaw24.RemovableHeld', WHERE WHAT IT READS IS OF BULK AT MOST 1048576: true; the input reads as it did. -/
def removableHeldUptoRow : OpenClaim := { program := "ythedojfbofcefaadoor", sum := "9b7fd0eac09aa2cb087dfb0b0b1dec1f6d7ba49ead44f65cd4e658b011b83d99", func := "dowel/dowellaw24.RemovableHeld", spec := "removableHeld", unfollowed := true, recurses := true, named := ["math/bits.deBruijn64tab"], apart := false, laid := [("math/bits.deBruijn64tab", laid_math_bits_deBruijn64tab)], narrowed := true }
def RemovableHeldUptoSaid : Prop := removableHeldUptoRow.holds Tryd.pinned (OpenSpec.upto removableHeldSpec)

/-- 'dowellaw24.RemovablePeels', WHERE WHAT IT READS IS OF BULK AT MOST 1048576: true; the input reads as it did. -/
def removablePeelsUptoRow : OpenClaim := { program := "ythedojfbofcefaadoor", sum := "9b7fd0eac09aa2cb087dfb0b0b1dec1f6d7ba49ead44f65cd4e658b011b83d99", func := "dowel/dowellaw24.RemovablePeels", spec := "removablePeels", unfollowed := true, recurses := true, named := ["math/bits.deBruijn64tab"], apart := false, laid := [("math/bits.deBruijn64tab", laid_math_bits_deBruijn64tab)], narrowed := true }
def RemovablePeelsUptoSaid : Prop := removablePeelsUptoRow.holds Tryd.pinned (OpenSpec.upto removablePeelsSpec)

/-- 'dowellaw24.RemovableLattice', WHERE WHAT IT READS IS OF BULK AT MOST 1048576: true; the input reads as it did. -/
def removableLatticeUptoRow : OpenClaim := { program := "ythedojfbofcefaadoor", sum := "9b7fd0eac09aa2cb087dfb0b0b1dec1f6d7ba49ead44f65cd4e658b011b83d99", func := "dowel/dowellaw24.RemovableLattice", spec := "removableLattice", unfollowed := true, recurses := true, named := ["math/bits.deBruijn64tab"], apart := false, laid := [("math/bits.deBruijn64tab", laid_math_bits_deBruijn64tab)], narrowed := true }
def RemovableLatticeUptoSaid : Prop := removableLatticeUptoRow.holds Tryd.pinned (OpenSpec.upto removableLatticeSpec)

end Rows
end Go.Proofs.YthedojfbofcefaaDoor
