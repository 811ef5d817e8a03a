/-
  DERIVED. GIVEN WITH THE SEED: THE CARDS: each row of YtjogahfllmhpcaaDoorRows.lean that lists a variable, with what it lists TIED to the program's text (the seventh form; the later family's looks); each row that meets fmt, with fmt's text TOLD by the authors' own Lean function (tested against real Go, not proved from fmt's source: count such statements apart). THE CARD IS WHAT COUNTS. Prove the row's statement (the work); the ties are given (YtjogahfllmhpcaaDoorTie.lean); close each card by the builder's one call (the guide's Derived/Test/ToyasCard.lean, 'card_holds'). Laid BY PROGRAM, IN A SANDBOX (cutbox-door.mjs). By AI agents, Wed Nov 11 2026. No macro, syntax, notation, axiom, sorry.
-/
import Derived.Test.YtjogahfllmhpcaaDoorRows
import GoSem.ClaimSeven
namespace Go.Proofs.YtjogahfllmhpcaaDoor
namespace Rows

/-- THE TIED CARD OF 'variantproxylaw04.TargetParses'. -/
def targetParsesCard : Claim7 := { stood := { row := targetParsesRow, standIns := [], harness := (true, "cd4a368d48f7438d78126fad3f68236d42b95c3045ff2d6fc36eddad4b8eacf0"), looks := false }, kinds := [], alts := [], laidByText := true, laidKinds := [.data, .data, .data], laidTests := true, laidLooks := .later }
def TargetParsesCardSaid : Prop := Claim7.holds Tryd.pinned (.plain (OpenSpec.ofChange targetParsesSpec)) targetParsesCard

/-- THE TIED CARD OF 'variantproxylaw04.TargetParts'. -/
def targetPartsCard : Claim7 := { stood := { row := targetPartsRow, standIns := [], harness := (true, "cd4a368d48f7438d78126fad3f68236d42b95c3045ff2d6fc36eddad4b8eacf0"), looks := false }, kinds := [], alts := [], laidByText := true, laidKinds := [.data, .data, .data], laidTests := true, laidLooks := .later }
def TargetPartsCardSaid : Prop := Claim7.holds Tryd.pinned (.plain (OpenSpec.ofChange targetPartsSpec)) targetPartsCard

/-- THE TIED CARD OF 'variantproxylaw04.TargetBack'. -/
def targetBackCard : Claim7 := { stood := { row := targetBackRow, standIns := [], harness := (true, "cd4a368d48f7438d78126fad3f68236d42b95c3045ff2d6fc36eddad4b8eacf0"), looks := false }, kinds := [], alts := [], laidByText := true, laidKinds := [.data, .data, .data], laidTests := true, laidLooks := .later }
def TargetBackCardSaid : Prop := Claim7.holds Tryd.pinned (.plain (OpenSpec.ofChange targetBackSpec)) targetBackCard

/-- THE TIED CARD OF 'variantproxylaw04.TargetNormal'. -/
def targetNormalCard : Claim7 := { stood := { row := targetNormalRow, standIns := [], harness := (true, "cd4a368d48f7438d78126fad3f68236d42b95c3045ff2d6fc36eddad4b8eacf0"), looks := false }, kinds := [], alts := [], laidByText := true, laidKinds := [.data, .data, .data], laidTests := true, laidLooks := .later }
def TargetNormalCardSaid : Prop := Claim7.holds Tryd.pinned (.plain (OpenSpec.ofChange targetNormalSpec)) targetNormalCard

/-- THE TIED CARD OF 'variantproxylaw04.TargetDots'. -/
def targetDotsCard : Claim7 := { stood := { row := targetDotsRow, standIns := [], harness := (true, "cd4a368d48f7438d78126fad3f68236d42b95c3045ff2d6fc36eddad4b8eacf0"), looks := false }, kinds := [], alts := [], laidByText := true, laidKinds := [.data, .data, .data], laidTests := true, laidLooks := .later }
def TargetDotsCardSaid : Prop := Claim7.holds Tryd.pinned (.plain (OpenSpec.ofChange targetDotsSpec)) targetDotsCard

/-- THE TIED CARD OF 'variantproxylaw04.TargetForms'. -/
def targetFormsCard : Claim7 := { stood := { row := targetFormsRow, standIns := [], harness := (true, "cd4a368d48f7438d78126fad3f68236d42b95c3045ff2d6fc36eddad4b8eacf0"), looks := false }, kinds := [], alts := [], laidByText := true, laidKinds := [.data, .data, .data], laidTests := true, laidLooks := .later }
def TargetFormsCardSaid : Prop := Claim7.holds Tryd.pinned (.plain (OpenSpec.ofChange targetFormsSpec)) targetFormsCard

/-- THE TIED CARD OF 'variantproxylaw04.TargetKeys'. -/
def targetKeysCard : Claim7 := { stood := { row := targetKeysRow, standIns := [], harness := (true, "cd4a368d48f7438d78126fad3f68236d42b95c3045ff2d6fc36eddad4b8eacf0"), looks := false }, kinds := [], alts := [], laidByText := true, laidKinds := [.data, .data, .data], laidTests := true, laidLooks := .later }
def TargetKeysCardSaid : Prop := Claim7.holds Tryd.pinned (.plain (OpenSpec.ofChange targetKeysSpec)) targetKeysCard

/-- THE SECOND FORM's CARD OF 'variantproxylaw04.TargetParses'. -/
def targetParsesUptoCard : Claim7 := { stood := { row := targetParsesUptoRow, standIns := [], harness := (true, "cd4a368d48f7438d78126fad3f68236d42b95c3045ff2d6fc36eddad4b8eacf0"), looks := false }, kinds := [], alts := [], laidByText := true, laidKinds := [.data, .data, .data], laidTests := true, laidLooks := .later }
def TargetParsesUptoCardSaid : Prop := Claim7.holds Tryd.pinned (.plain (OpenSpec.upto targetParsesSpec)) targetParsesUptoCard

/-- THE SECOND FORM's CARD OF 'variantproxylaw04.TargetParts'. -/
def targetPartsUptoCard : Claim7 := { stood := { row := targetPartsUptoRow, standIns := [], harness := (true, "cd4a368d48f7438d78126fad3f68236d42b95c3045ff2d6fc36eddad4b8eacf0"), looks := false }, kinds := [], alts := [], laidByText := true, laidKinds := [.data, .data, .data], laidTests := true, laidLooks := .later }
def TargetPartsUptoCardSaid : Prop := Claim7.holds Tryd.pinned (.plain (OpenSpec.upto targetPartsSpec)) targetPartsUptoCard

/-- THE SECOND FORM's CARD OF 'variantproxylaw04.TargetBack'. -/
def targetBackUptoCard : Claim7 := { stood := { row := targetBackUptoRow, standIns := [], harness := (true, "cd4a368d48f7438d78126fad3f68236d42b95c3045ff2d6fc36eddad4b8eacf0"), looks := false }, kinds := [], alts := [], laidByText := true, laidKinds := [.data, .data, .data], laidTests := true, laidLooks := .later }
def TargetBackUptoCardSaid : Prop := Claim7.holds Tryd.pinned (.plain (OpenSpec.upto targetBackSpec)) targetBackUptoCard

/-- THE SECOND FORM's CARD OF 'variantproxylaw04.TargetNormal'. -/
def targetNormalUptoCard : Claim7 := { stood := { row := targetNormalUptoRow, standIns := [], harness := (true, "cd4a368d48f7438d78126fad3f68236d42b95c3045ff2d6fc36eddad4b8eacf0"), looks := false }, kinds := [], alts := [], laidByText := true, laidKinds := [.data, .data, .data], laidTests := true, laidLooks := .later }
def TargetNormalUptoCardSaid : Prop := Claim7.holds Tryd.pinned (.plain (OpenSpec.upto targetNormalSpec)) targetNormalUptoCard

/-- THE SECOND FORM's CARD OF 'variantproxylaw04.TargetDots'. -/
def targetDotsUptoCard : Claim7 := { stood := { row := targetDotsUptoRow, standIns := [], harness := (true, "cd4a368d48f7438d78126fad3f68236d42b95c3045ff2d6fc36eddad4b8eacf0"), looks := false }, kinds := [], alts := [], laidByText := true, laidKinds := [.data, .data, .data], laidTests := true, laidLooks := .later }
def TargetDotsUptoCardSaid : Prop := Claim7.holds Tryd.pinned (.plain (OpenSpec.upto targetDotsSpec)) targetDotsUptoCard

/-- THE SECOND FORM's CARD OF 'variantproxylaw04.TargetForms'. -/
def targetFormsUptoCard : Claim7 := { stood := { row := targetFormsUptoRow, standIns := [], harness := (true, "cd4a368d48f7438d78126fad3f68236d42b95c3045ff2d6fc36eddad4b8eacf0"), looks := false }, kinds := [], alts := [], laidByText := true, laidKinds := [.data, .data, .data], laidTests := true, laidLooks := .later }
def TargetFormsUptoCardSaid : Prop := Claim7.holds Tryd.pinned (.plain (OpenSpec.upto targetFormsSpec)) targetFormsUptoCard

/-- THE SECOND FORM's CARD OF 'variantproxylaw04.TargetKeys'. -/
def targetKeysUptoCard : Claim7 := { stood := { row := targetKeysUptoRow, standIns := [], harness := (true, "cd4a368d48f7438d78126fad3f68236d42b95c3045ff2d6fc36eddad4b8eacf0"), looks := false }, kinds := [], alts := [], laidByText := true, laidKinds := [.data, .data, .data], laidTests := true, laidLooks := .later }
def TargetKeysUptoCardSaid : Prop := Claim7.holds Tryd.pinned (.plain (OpenSpec.upto targetKeysSpec)) targetKeysUptoCard
end Rows
end Go.Proofs.YtjogahfllmhpcaaDoor
