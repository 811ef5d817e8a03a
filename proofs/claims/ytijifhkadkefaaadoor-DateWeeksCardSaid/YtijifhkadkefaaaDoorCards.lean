/-
  DERIVED. GIVEN WITH THE SEED: THE CARDS: each row of YtijifhkadkefaaaDoorRows.lean that lists a variable, with what it lists TIED to the program's text (the seventh form; the later family's looks); each row that meets fmt, with fmt's text TOLD by the authors' own Lean function (tested against real Go, not proved from fmt's source: count such statements apart). THE CARD IS WHAT COUNTS. Prove the row's statement (the work); the ties are given (YtijifhkadkefaaaDoorTie.lean); close each card by the builder's one call (the guide's Derived/Test/ToyasCard.lean, 'card_holds'). Laid BY PROGRAM, IN A SANDBOX (cutbox-door.mjs). By AI agents, Wed Nov 11 2026. No macro, syntax, notation, axiom, sorry.
-/
import Derived.Test.YtijifhkadkefaaaDoorRows
import GoSem.ClaimSeven
namespace Go.Proofs.YtijifhkadkefaaaDoor
namespace Rows

/-- THE TIED CARD OF 'variantproxylaw20.DateFormats'. -/
def dateFormatsCard : Claim7 := { stood := { row := dateFormatsRow, standIns := [], harness := (true, "8bfbd2d699a777a74914c9c1e86529c7801075222ad5135accc8d0d74a2df12e"), looks := false }, kinds := [], alts := [], laidByText := true, laidKinds := [.data, .data, .data], laidTests := true, laidLooks := .later }
def DateFormatsCardSaid : Prop := Claim7.holds Tryd.pinned (.plain (OpenSpec.ofChange dateFormatsSpec)) dateFormatsCard

/-- THE TIED CARD OF 'variantproxylaw20.DateBack'. -/
def dateBackCard : Claim7 := { stood := { row := dateBackRow, standIns := [], harness := (true, "8bfbd2d699a777a74914c9c1e86529c7801075222ad5135accc8d0d74a2df12e"), looks := false }, kinds := [], alts := [], laidByText := true, laidKinds := [.data, .data, .data], laidTests := true, laidLooks := .later }
def DateBackCardSaid : Prop := Claim7.holds Tryd.pinned (.plain (OpenSpec.ofChange dateBackSpec)) dateBackCard

/-- THE TIED CARD OF 'variantproxylaw20.DateWeeks'. -/
def dateWeeksCard : Claim7 := { stood := { row := dateWeeksRow, standIns := [], harness := (true, "8bfbd2d699a777a74914c9c1e86529c7801075222ad5135accc8d0d74a2df12e"), looks := false }, kinds := [], alts := [], laidByText := true, laidKinds := [.data, .data, .data], laidTests := true, laidLooks := .later }
def DateWeeksCardSaid : Prop := Claim7.holds Tryd.pinned (.plain (OpenSpec.ofChange dateWeeksSpec)) dateWeeksCard

/-- THE SECOND FORM's CARD OF 'variantproxylaw20.DateFormats'. -/
def dateFormatsUptoCard : Claim7 := { stood := { row := dateFormatsUptoRow, standIns := [], harness := (true, "8bfbd2d699a777a74914c9c1e86529c7801075222ad5135accc8d0d74a2df12e"), looks := false }, kinds := [], alts := [], laidByText := true, laidKinds := [.data, .data, .data], laidTests := true, laidLooks := .later }
def DateFormatsUptoCardSaid : Prop := Claim7.holds Tryd.pinned (.plain (OpenSpec.upto dateFormatsSpec)) dateFormatsUptoCard

/-- THE SECOND FORM's CARD OF 'variantproxylaw20.DateBack'. -/
def dateBackUptoCard : Claim7 := { stood := { row := dateBackUptoRow, standIns := [], harness := (true, "8bfbd2d699a777a74914c9c1e86529c7801075222ad5135accc8d0d74a2df12e"), looks := false }, kinds := [], alts := [], laidByText := true, laidKinds := [.data, .data, .data], laidTests := true, laidLooks := .later }
def DateBackUptoCardSaid : Prop := Claim7.holds Tryd.pinned (.plain (OpenSpec.upto dateBackSpec)) dateBackUptoCard

/-- THE SECOND FORM's CARD OF 'variantproxylaw20.DateWeeks'. -/
def dateWeeksUptoCard : Claim7 := { stood := { row := dateWeeksUptoRow, standIns := [], harness := (true, "8bfbd2d699a777a74914c9c1e86529c7801075222ad5135accc8d0d74a2df12e"), looks := false }, kinds := [], alts := [], laidByText := true, laidKinds := [.data, .data, .data], laidTests := true, laidLooks := .later }
def DateWeeksUptoCardSaid : Prop := Claim7.holds Tryd.pinned (.plain (OpenSpec.upto dateWeeksSpec)) dateWeeksUptoCard
end Rows
end Go.Proofs.YtijifhkadkefaaaDoor
