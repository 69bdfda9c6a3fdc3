/-
  DERIVED. GIVEN WITH THE SEED: THE CARDS: each row of YthedojfbofcefaaDoorRows.lean that lists a variable, with what it lists TIED to the program's text (the seventh form; the later family's looks); each row that meets fmt, with fmt's text TOLD by the authors' own Lean function (tested against real Go, not proved from fmt's source: count such statements apart). THE CARD IS WHAT COUNTS. Prove the row's statement (the work); the ties are given (YthedojfbofcefaaDoorTie.lean); close each card by the builder's one call (the guide's Derived/Test/ToyasCard.lean, 'card_holds'). Laid BY PROGRAM, IN A SANDBOX (cutbox-door.mjs). By AI agents, Wed Nov 11 2026. No macro, syntax, notation, axiom, sorry.
-/
import Derived.Test.YthedojfbofcefaaDoorRows
import GoSem.ClaimSeven
namespace Go.Proofs.YthedojfbofcefaaDoor
namespace Rows

/-- THE TIED CARD OF 'dowellaw24.RemovableCandidates'. -/
def removableCandidatesCard : Claim7 := { stood := { row := removableCandidatesRow, standIns := [], harness := (true, "4de7560936a4852144a0f48a11d502953d477a6b42805d6a08dd88bb3a777933"), looks := false }, kinds := [], alts := [], laidByText := true, laidKinds := [.data], laidTests := true, laidLooks := .later }
def RemovableCandidatesCardSaid : Prop := Claim7.holds Tryd.pinned (.plain (OpenSpec.ofChange removableCandidatesSpec)) removableCandidatesCard

/-- THE TIED CARD OF 'dowellaw24.RemovableLimits'. -/
def removableLimitsCard : Claim7 := { stood := { row := removableLimitsRow, standIns := [], harness := (true, "4de7560936a4852144a0f48a11d502953d477a6b42805d6a08dd88bb3a777933"), looks := false }, kinds := [], alts := [], laidByText := true, laidKinds := [.data], laidTests := true, laidLooks := .later }
def RemovableLimitsCardSaid : Prop := Claim7.holds Tryd.pinned (.plain (OpenSpec.ofChange removableLimitsSpec)) removableLimitsCard

/-- THE TIED CARD OF 'dowellaw24.RemovableHulls'. -/
def removableHullsCard : Claim7 := { stood := { row := removableHullsRow, standIns := [], harness := (true, "4de7560936a4852144a0f48a11d502953d477a6b42805d6a08dd88bb3a777933"), looks := false }, kinds := [], alts := [], laidByText := true, laidKinds := [.data], laidTests := true, laidLooks := .later }
def RemovableHullsCardSaid : Prop := Claim7.holds Tryd.pinned (.plain (OpenSpec.ofChange removableHullsSpec)) removableHullsCard

/-- THE TIED CARD OF 'dowellaw24.RemovableHeld'. -/
def removableHeldCard : Claim7 := { stood := { row := removableHeldRow, standIns := [], harness := (true, "4de7560936a4852144a0f48a11d502953d477a6b42805d6a08dd88bb3a777933"), looks := false }, kinds := [], alts := [], laidByText := true, laidKinds := [.data], laidTests := true, laidLooks := .later }
def RemovableHeldCardSaid : Prop := Claim7.holds Tryd.pinned (.plain (OpenSpec.ofChange removableHeldSpec)) removableHeldCard

/-- THE TIED CARD OF 'dowellaw24.RemovablePeels'. -/
def removablePeelsCard : Claim7 := { stood := { row := removablePeelsRow, standIns := [], harness := (true, "4de7560936a4852144a0f48a11d502953d477a6b42805d6a08dd88bb3a777933"), looks := false }, kinds := [], alts := [], laidByText := true, laidKinds := [.data], laidTests := true, laidLooks := .later }
def RemovablePeelsCardSaid : Prop := Claim7.holds Tryd.pinned (.plain (OpenSpec.ofChange removablePeelsSpec)) removablePeelsCard

/-- THE TIED CARD OF 'dowellaw24.RemovableLattice'. -/
def removableLatticeCard : Claim7 := { stood := { row := removableLatticeRow, standIns := [], harness := (true, "4de7560936a4852144a0f48a11d502953d477a6b42805d6a08dd88bb3a777933"), looks := false }, kinds := [], alts := [], laidByText := true, laidKinds := [.data], laidTests := true, laidLooks := .later }
def RemovableLatticeCardSaid : Prop := Claim7.holds Tryd.pinned (.plain (OpenSpec.ofChange removableLatticeSpec)) removableLatticeCard

/-- THE SECOND FORM's CARD OF 'dowellaw24.RemovableCandidates'. -/
def removableCandidatesUptoCard : Claim7 := { stood := { row := removableCandidatesUptoRow, standIns := [], harness := (true, "4de7560936a4852144a0f48a11d502953d477a6b42805d6a08dd88bb3a777933"), looks := false }, kinds := [], alts := [], laidByText := true, laidKinds := [.data], laidTests := true, laidLooks := .later }
def RemovableCandidatesUptoCardSaid : Prop := Claim7.holds Tryd.pinned (.plain (OpenSpec.upto removableCandidatesSpec)) removableCandidatesUptoCard

/-- THE SECOND FORM's CARD OF 'dowellaw24.RemovableLimits'. -/
def removableLimitsUptoCard : Claim7 := { stood := { row := removableLimitsUptoRow, standIns := [], harness := (true, "4de7560936a4852144a0f48a11d502953d477a6b42805d6a08dd88bb3a777933"), looks := false }, kinds := [], alts := [], laidByText := true, laidKinds := [.data], laidTests := true, laidLooks := .later }
def RemovableLimitsUptoCardSaid : Prop := Claim7.holds Tryd.pinned (.plain (OpenSpec.upto removableLimitsSpec)) removableLimitsUptoCard

/-- THE SECOND FORM's CARD OF 'dowellaw24.RemovableHulls'. -/
def removableHullsUptoCard : Claim7 := { stood := { row := removableHullsUptoRow, standIns := [], harness := (true, "4de7560936a4852144a0f48a11d502953d477a6b42805d6a08dd88bb3a777933"), looks := false }, kinds := [], alts := [], laidByText := true, laidKinds := [.data], laidTests := true, laidLooks := .later }
def RemovableHullsUptoCardSaid : Prop := Claim7.holds Tryd.pinned (.plain (OpenSpec.upto removableHullsSpec)) removableHullsUptoCard

/-- THE SECOND FORM's CARD OF 'dowellaw24.RemovableHeld'. -/
def removableHeldUptoCard : Claim7 := { stood := { row := removableHeldUptoRow, standIns := [], harness := (true, "4de7560936a4852144a0f48a11d502953d477a6b42805d6a08dd88bb3a777933"), looks := false }, kinds := [], alts := [], laidByText := true, laidKinds := [.data], laidTests := true, laidLooks := .later }
def RemovableHeldUptoCardSaid : Prop := Claim7.holds Tryd.pinned (.plain (OpenSpec.upto removableHeldSpec)) removableHeldUptoCard

/-- THE SECOND FORM's CARD OF 'dowellaw24.RemovablePeels'. -/
def removablePeelsUptoCard : Claim7 := { stood := { row := removablePeelsUptoRow, standIns := [], harness := (true, "4de7560936a4852144a0f48a11d502953d477a6b42805d6a08dd88bb3a777933"), looks := false }, kinds := [], alts := [], laidByText := true, laidKinds := [.data], laidTests := true, laidLooks := .later }
def RemovablePeelsUptoCardSaid : Prop := Claim7.holds Tryd.pinned (.plain (OpenSpec.upto removablePeelsSpec)) removablePeelsUptoCard

/-- THE SECOND FORM's CARD OF 'dowellaw24.RemovableLattice'. -/
def removableLatticeUptoCard : Claim7 := { stood := { row := removableLatticeUptoRow, standIns := [], harness := (true, "4de7560936a4852144a0f48a11d502953d477a6b42805d6a08dd88bb3a777933"), looks := false }, kinds := [], alts := [], laidByText := true, laidKinds := [.data], laidTests := true, laidLooks := .later }
def RemovableLatticeUptoCardSaid : Prop := Claim7.holds Tryd.pinned (.plain (OpenSpec.upto removableLatticeSpec)) removableLatticeUptoCard
end Rows
end Go.Proofs.YthedojfbofcefaaDoor
