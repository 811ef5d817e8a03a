/-
  DERIVED. GIVEN WITH THE SEED: THE CARDS: each row of YtglckhljpjcmaaaDoorRows.lean that lists a variable, with what it lists TIED to the program's text (the seventh form; the later family's looks); each row that meets fmt, with fmt's text TOLD by the authors' own Lean function (tested against real Go, not proved from fmt's source: count such statements apart). THE CARD IS WHAT COUNTS. Prove the row's statement (the work); the ties are given (YtglckhljpjcmaaaDoorTie.lean); close each card by the builder's one call (the guide's Derived/Test/ToyasCard.lean, 'card_holds'). Laid BY PROGRAM, IN A SANDBOX (cutbox-door.mjs). By AI agents, Wed Nov 11 2026. No macro, syntax, notation, axiom, sorry.
-/
import Derived.Test.YtglckhljpjcmaaaDoorRows
import GoSem.ClaimSeven
namespace Go.Proofs.YtglckhljpjcmaaaDoor
namespace Rows

/-- THE TIED CARD OF 'variantproxylaw29.UpdateKeeps'. -/
def updateKeepsCard : Claim7 := { stood := { row := updateKeepsRow, standIns := [], harness := (true, "05321c9805349e374ba5b3f5848ffb06a1733c43f1914b3b32b6b618b4d4b662"), looks := false }, kinds := [], alts := [], laidByText := true, laidKinds := [.data, .pinned], laidTests := true, laidLooks := .later }
def UpdateKeepsCardSaid : Prop := Claim7.holds Tryd.pinned (.plain (OpenSpec.ofChange updateKeepsSpec)) updateKeepsCard

/-- THE TIED CARD OF 'variantproxylaw29.UpdateRefreshes'. -/
def updateRefreshesCard : Claim7 := { stood := { row := updateRefreshesRow, standIns := [], harness := (true, "05321c9805349e374ba5b3f5848ffb06a1733c43f1914b3b32b6b618b4d4b662"), looks := false }, kinds := [], alts := [], laidByText := true, laidKinds := [.data, .pinned], laidTests := true, laidLooks := .later }
def UpdateRefreshesCardSaid : Prop := Claim7.holds Tryd.pinned (.plain (OpenSpec.ofChange updateRefreshesSpec)) updateRefreshesCard

/-- THE SECOND FORM's CARD OF 'variantproxylaw29.UpdateKeeps'. -/
def updateKeepsUptoCard : Claim7 := { stood := { row := updateKeepsUptoRow, standIns := [], harness := (true, "05321c9805349e374ba5b3f5848ffb06a1733c43f1914b3b32b6b618b4d4b662"), looks := false }, kinds := [], alts := [], laidByText := true, laidKinds := [.data, .pinned], laidTests := true, laidLooks := .later }
def UpdateKeepsUptoCardSaid : Prop := Claim7.holds Tryd.pinned (.plain (OpenSpec.upto updateKeepsSpec)) updateKeepsUptoCard

/-- THE SECOND FORM's CARD OF 'variantproxylaw29.UpdateRefreshes'. -/
def updateRefreshesUptoCard : Claim7 := { stood := { row := updateRefreshesUptoRow, standIns := [], harness := (true, "05321c9805349e374ba5b3f5848ffb06a1733c43f1914b3b32b6b618b4d4b662"), looks := false }, kinds := [], alts := [], laidByText := true, laidKinds := [.data, .pinned], laidTests := true, laidLooks := .later }
def UpdateRefreshesUptoCardSaid : Prop := Claim7.holds Tryd.pinned (.plain (OpenSpec.upto updateRefreshesSpec)) updateRefreshesUptoCard
end Rows
end Go.Proofs.YtglckhljpjcmaaaDoor
