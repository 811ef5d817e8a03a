/-
  DERIVED. GIVEN WITH THE SEED: THE CARDS: each row of YtglckhljpjcmaaaGreatDoorRows.lean that lists a variable, with what it lists TIED to the program's text (the seventh form; the later family's looks); each row that meets fmt, with fmt's text TOLD by the authors' own Lean function (tested against real Go, not proved from fmt's source: count such statements apart). THE CARD IS WHAT COUNTS. Prove the row's statement (the work); the ties are given (YtglckhljpjcmaaaGreatDoorTie.lean); close each card by the builder's one call (the guide's Derived/Test/ToyasCard.lean, 'card_holds'). Laid BY PROGRAM, IN A SANDBOX (cutbox-door.mjs). By AI agents, Wed Nov 11 2026. No macro, syntax, notation, axiom, sorry.
-/
import Derived.Test.YtglckhljpjcmaaaGreatDoorRows
import GoSem.ClaimSeven
namespace Go.Proofs.YtglckhljpjcmaaaGreatDoor
namespace Rows

/-- THE TIED CARD OF 'variantproxylaw29.UpdateTargets'. -/
def updateTargetsCard : Claim7 := { stood := { row := updateTargetsRow, standIns := [], harness := (true, "7f52153021df16ea306412ce52de36df420d503a453c9fd9b84b0c353943db8a"), looks := false }, kinds := [], alts := [], laidByText := true, laidKinds := [.data, .data, .data, .data, .pinned], laidTests := true, laidLooks := .later }
def UpdateTargetsCardSaid : Prop := Claim7.holds Tryz.pinned (.plain (OpenSpec.ofChange updateTargetsSpec)) updateTargetsCard

/-- THE TIED CARD OF 'variantproxylaw29.UpdateLocal'. -/
def updateLocalCard : Claim7 := { stood := { row := updateLocalRow, standIns := [], harness := (true, "7f52153021df16ea306412ce52de36df420d503a453c9fd9b84b0c353943db8a"), looks := false }, kinds := [], alts := [], laidByText := true, laidKinds := [.data, .data, .data, .data, .pinned], laidTests := true, laidLooks := .later }
def UpdateLocalCardSaid : Prop := Claim7.holds Tryz.pinned (.plain (OpenSpec.ofChange updateLocalSpec)) updateLocalCard

/-- THE SECOND FORM's CARD OF 'variantproxylaw29.UpdateTargets'. -/
def updateTargetsUptoCard : Claim7 := { stood := { row := updateTargetsUptoRow, standIns := [], harness := (true, "7f52153021df16ea306412ce52de36df420d503a453c9fd9b84b0c353943db8a"), looks := false }, kinds := [], alts := [], laidByText := true, laidKinds := [.data, .data, .data, .data, .pinned], laidTests := true, laidLooks := .later }
def UpdateTargetsUptoCardSaid : Prop := Claim7.holds Tryz.pinned (.plain (OpenSpec.upto updateTargetsSpec)) updateTargetsUptoCard

/-- THE SECOND FORM's CARD OF 'variantproxylaw29.UpdateLocal'. -/
def updateLocalUptoCard : Claim7 := { stood := { row := updateLocalUptoRow, standIns := [], harness := (true, "7f52153021df16ea306412ce52de36df420d503a453c9fd9b84b0c353943db8a"), looks := false }, kinds := [], alts := [], laidByText := true, laidKinds := [.data, .data, .data, .data, .pinned], laidTests := true, laidLooks := .later }
def UpdateLocalUptoCardSaid : Prop := Claim7.holds Tryz.pinned (.plain (OpenSpec.upto updateLocalSpec)) updateLocalUptoCard
end Rows
end Go.Proofs.YtglckhljpjcmaaaGreatDoor
