/-
  DERIVED. GIVEN WITH THE SEED: THE CARDS: each row of YtjafkpedocdfjaaGreatDoorRows.lean that lists a variable, with what it lists TIED to the program's text (the seventh form; the later family's looks); each row that meets fmt, with fmt's text TOLD by the authors' own Lean function (tested against real Go, not proved from fmt's source: count such statements apart). THE CARD IS WHAT COUNTS. Prove the row's statement (the work); the ties are given (YtjafkpedocdfjaaGreatDoorTie.lean); close each card by the builder's one call (the guide's Derived/Test/ToyasCard.lean, 'card_holds'). Laid BY PROGRAM, IN A SANDBOX (cutbox-door.mjs). By AI agents, Wed Nov 11 2026. No macro, syntax, notation, axiom, sorry.
-/
import Derived.Test.YtjafkpedocdfjaaGreatDoorRows
import GoSem.ClaimSeven
namespace Go.Proofs.YtjafkpedocdfjaaGreatDoor
namespace Rows

/-- THE TIED CARD OF 'variantproxylaw29.UpdateTargets'. -/
def updateTargetsCard : Claim7 := { stood := { row := updateTargetsRow, standIns := [], harness := (true, "a3138ade43bb2e7016b4ba078f7bb1a64088bd40617ed355664c4383811a5f3a"), looks := false }, kinds := [], alts := [], laidByText := true, laidKinds := [.data, .data, .data, .data, .pinned], laidTests := true, laidLooks := .later }
def UpdateTargetsCardSaid : Prop := Claim7.holds Tryz.pinned (.plain (OpenSpec.ofChange updateTargetsSpec)) updateTargetsCard

/-- THE TIED CARD OF 'variantproxylaw29.UpdateLocal'. -/
def updateLocalCard : Claim7 := { stood := { row := updateLocalRow, standIns := [], harness := (true, "a3138ade43bb2e7016b4ba078f7bb1a64088bd40617ed355664c4383811a5f3a"), looks := false }, kinds := [], alts := [], laidByText := true, laidKinds := [.data, .data, .data, .data, .pinned], laidTests := true, laidLooks := .later }
def UpdateLocalCardSaid : Prop := Claim7.holds Tryz.pinned (.plain (OpenSpec.ofChange updateLocalSpec)) updateLocalCard

/-- THE TIED CARD OF 'variantproxylaw31.ConditionRequests'. -/
def conditionRequestsCard : Claim7 := { stood := { row := conditionRequestsRow, standIns := [], harness := (true, "a3138ade43bb2e7016b4ba078f7bb1a64088bd40617ed355664c4383811a5f3a"), looks := false }, kinds := [], alts := [], laidByText := true, laidKinds := [.data, .data, .data, .data, .pinned], laidTests := true, laidLooks := .later }
def ConditionRequestsCardSaid : Prop := Claim7.holds Tryz.pinned (.plain (OpenSpec.ofChange conditionRequestsSpec)) conditionRequestsCard

/-- THE SECOND FORM's CARD OF 'variantproxylaw29.UpdateTargets'. -/
def updateTargetsUptoCard : Claim7 := { stood := { row := updateTargetsUptoRow, standIns := [], harness := (true, "a3138ade43bb2e7016b4ba078f7bb1a64088bd40617ed355664c4383811a5f3a"), looks := false }, kinds := [], alts := [], laidByText := true, laidKinds := [.data, .data, .data, .data, .pinned], laidTests := true, laidLooks := .later }
def UpdateTargetsUptoCardSaid : Prop := Claim7.holds Tryz.pinned (.plain (OpenSpec.upto updateTargetsSpec)) updateTargetsUptoCard

/-- THE SECOND FORM's CARD OF 'variantproxylaw29.UpdateLocal'. -/
def updateLocalUptoCard : Claim7 := { stood := { row := updateLocalUptoRow, standIns := [], harness := (true, "a3138ade43bb2e7016b4ba078f7bb1a64088bd40617ed355664c4383811a5f3a"), looks := false }, kinds := [], alts := [], laidByText := true, laidKinds := [.data, .data, .data, .data, .pinned], laidTests := true, laidLooks := .later }
def UpdateLocalUptoCardSaid : Prop := Claim7.holds Tryz.pinned (.plain (OpenSpec.upto updateLocalSpec)) updateLocalUptoCard

/-- THE SECOND FORM's CARD OF 'variantproxylaw31.ConditionRequests'. -/
def conditionRequestsUptoCard : Claim7 := { stood := { row := conditionRequestsUptoRow, standIns := [], harness := (true, "a3138ade43bb2e7016b4ba078f7bb1a64088bd40617ed355664c4383811a5f3a"), looks := false }, kinds := [], alts := [], laidByText := true, laidKinds := [.data, .data, .data, .data, .pinned], laidTests := true, laidLooks := .later }
def ConditionRequestsUptoCardSaid : Prop := Claim7.holds Tryz.pinned (.plain (OpenSpec.upto conditionRequestsSpec)) conditionRequestsUptoCard
end Rows
end Go.Proofs.YtjafkpedocdfjaaGreatDoor
