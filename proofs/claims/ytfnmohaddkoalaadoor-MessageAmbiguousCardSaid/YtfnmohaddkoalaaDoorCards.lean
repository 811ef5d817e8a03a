/-
  DERIVED. GIVEN WITH THE SEED: THE CARDS: each row of YtfnmohaddkoalaaDoorRows.lean that lists a variable, with what it lists TIED to the program's text (the seventh form; the later family's looks); each row that meets fmt, with fmt's text TOLD by the authors' own Lean function (tested against real Go, not proved from fmt's source: count such statements apart). THE CARD IS WHAT COUNTS. Prove the row's statement (the work); the ties are given (YtfnmohaddkoalaaDoorTie.lean); close each card by the builder's one call (the guide's Derived/Test/ToyasCard.lean, 'card_holds'). Laid BY PROGRAM, IN A SANDBOX (cutbox-door.mjs). By AI agents, Wed Nov 11 2026. No macro, syntax, notation, axiom, sorry.
-/
import Derived.Test.YtfnmohaddkoalaaDoorRows
import GoSem.ClaimSeven
namespace Go.Proofs.YtfnmohaddkoalaaDoor
namespace Rows

/-- THE TIED CARD OF 'variantproxylaw05.ChunkDecodes'. -/
def chunkDecodesCard : Claim7 := { stood := { row := chunkDecodesRow, standIns := [], harness := (true, "67fc0fcde87eaa6481ab8f1f981290aa4746c81062f1cb7e673a9fe52e820c4f"), looks := true }, kinds := [], alts := [], laidByText := true, laidKinds := [.data, .pinned], laidTests := true, laidLooks := .later }
def ChunkDecodesCardSaid : Prop := Claim7.holds Tryd.pinned (.plain (OpenSpec.ofChange chunkDecodesSpec)) chunkDecodesCard

/-- THE TIED CARD OF 'variantproxylaw05.ChunkDetails'. -/
def chunkDetailsCard : Claim7 := { stood := { row := chunkDetailsRow, standIns := [], harness := (true, "67fc0fcde87eaa6481ab8f1f981290aa4746c81062f1cb7e673a9fe52e820c4f"), looks := true }, kinds := [], alts := [], laidByText := true, laidKinds := [.data, .pinned], laidTests := true, laidLooks := .later }
def ChunkDetailsCardSaid : Prop := Claim7.holds Tryd.pinned (.plain (OpenSpec.ofChange chunkDetailsSpec)) chunkDetailsCard

/-- THE TIED CARD OF 'variantproxylaw05.ChunkEncodes'. -/
def chunkEncodesCard : Claim7 := { stood := { row := chunkEncodesRow, standIns := [], harness := (true, "67fc0fcde87eaa6481ab8f1f981290aa4746c81062f1cb7e673a9fe52e820c4f"), looks := true }, kinds := [], alts := [], laidByText := true, laidKinds := [.data, .data, .data, .data, .pinned], laidTests := true, laidLooks := .later }
def ChunkEncodesCardSaid : Prop := Claim7.holds Tryd.pinned (.plain (OpenSpec.ofChange chunkEncodesSpec)) chunkEncodesCard

/-- THE TIED CARD OF 'variantproxylaw05.ChunkBack'. -/
def chunkBackCard : Claim7 := { stood := { row := chunkBackRow, standIns := [], harness := (true, "67fc0fcde87eaa6481ab8f1f981290aa4746c81062f1cb7e673a9fe52e820c4f"), looks := true }, kinds := [], alts := [], laidByText := true, laidKinds := [.data, .data, .data, .data, .pinned], laidTests := true, laidLooks := .later }
def ChunkBackCardSaid : Prop := Claim7.holds Tryd.pinned (.plain (OpenSpec.ofChange chunkBackSpec)) chunkBackCard

/-- THE TIED CARD OF 'variantproxylaw05.ChunkShort'. -/
def chunkShortCard : Claim7 := { stood := { row := chunkShortRow, standIns := [], harness := (true, "67fc0fcde87eaa6481ab8f1f981290aa4746c81062f1cb7e673a9fe52e820c4f"), looks := true }, kinds := [], alts := [], laidByText := true, laidKinds := [.data, .data, .data, .data, .pinned], laidTests := true, laidLooks := .later }
def ChunkShortCardSaid : Prop := Claim7.holds Tryd.pinned (.plain (OpenSpec.ofChange chunkShortSpec)) chunkShortCard

/-- THE TIED CARD OF 'variantproxylaw06.MessageAmbiguous'. -/
def messageAmbiguousCard : Claim7 := { stood := { row := messageAmbiguousRow, standIns := [], harness := (true, "67fc0fcde87eaa6481ab8f1f981290aa4746c81062f1cb7e673a9fe52e820c4f"), looks := true }, kinds := [], alts := [], laidByText := true, laidKinds := [.data, .sentinel, .sentinel, .pinned], laidTests := true, laidLooks := .later }
def MessageAmbiguousCardSaid : Prop := Claim7.holds Tryd.pinned (.plain (OpenSpec.ofChange messageAmbiguousSpec)) messageAmbiguousCard

/-- THE SECOND FORM's CARD OF 'variantproxylaw05.ChunkDecodes'. -/
def chunkDecodesUptoCard : Claim7 := { stood := { row := chunkDecodesUptoRow, standIns := [], harness := (true, "67fc0fcde87eaa6481ab8f1f981290aa4746c81062f1cb7e673a9fe52e820c4f"), looks := true }, kinds := [], alts := [], laidByText := true, laidKinds := [.data, .pinned], laidTests := true, laidLooks := .later }
def ChunkDecodesUptoCardSaid : Prop := Claim7.holds Tryd.pinned (.plain (OpenSpec.upto chunkDecodesSpec)) chunkDecodesUptoCard

/-- THE SECOND FORM's CARD OF 'variantproxylaw05.ChunkDetails'. -/
def chunkDetailsUptoCard : Claim7 := { stood := { row := chunkDetailsUptoRow, standIns := [], harness := (true, "67fc0fcde87eaa6481ab8f1f981290aa4746c81062f1cb7e673a9fe52e820c4f"), looks := true }, kinds := [], alts := [], laidByText := true, laidKinds := [.data, .pinned], laidTests := true, laidLooks := .later }
def ChunkDetailsUptoCardSaid : Prop := Claim7.holds Tryd.pinned (.plain (OpenSpec.upto chunkDetailsSpec)) chunkDetailsUptoCard

/-- THE SECOND FORM's CARD OF 'variantproxylaw05.ChunkEncodes'. -/
def chunkEncodesUptoCard : Claim7 := { stood := { row := chunkEncodesUptoRow, standIns := [], harness := (true, "67fc0fcde87eaa6481ab8f1f981290aa4746c81062f1cb7e673a9fe52e820c4f"), looks := true }, kinds := [], alts := [], laidByText := true, laidKinds := [.data, .data, .data, .data, .pinned], laidTests := true, laidLooks := .later }
def ChunkEncodesUptoCardSaid : Prop := Claim7.holds Tryd.pinned (.plain (OpenSpec.upto chunkEncodesSpec)) chunkEncodesUptoCard

/-- THE SECOND FORM's CARD OF 'variantproxylaw05.ChunkBack'. -/
def chunkBackUptoCard : Claim7 := { stood := { row := chunkBackUptoRow, standIns := [], harness := (true, "67fc0fcde87eaa6481ab8f1f981290aa4746c81062f1cb7e673a9fe52e820c4f"), looks := true }, kinds := [], alts := [], laidByText := true, laidKinds := [.data, .data, .data, .data, .pinned], laidTests := true, laidLooks := .later }
def ChunkBackUptoCardSaid : Prop := Claim7.holds Tryd.pinned (.plain (OpenSpec.upto chunkBackSpec)) chunkBackUptoCard

/-- THE SECOND FORM's CARD OF 'variantproxylaw05.ChunkShort'. -/
def chunkShortUptoCard : Claim7 := { stood := { row := chunkShortUptoRow, standIns := [], harness := (true, "67fc0fcde87eaa6481ab8f1f981290aa4746c81062f1cb7e673a9fe52e820c4f"), looks := true }, kinds := [], alts := [], laidByText := true, laidKinds := [.data, .data, .data, .data, .pinned], laidTests := true, laidLooks := .later }
def ChunkShortUptoCardSaid : Prop := Claim7.holds Tryd.pinned (.plain (OpenSpec.upto chunkShortSpec)) chunkShortUptoCard

/-- THE SECOND FORM's CARD OF 'variantproxylaw06.MessageAmbiguous'. -/
def messageAmbiguousUptoCard : Claim7 := { stood := { row := messageAmbiguousUptoRow, standIns := [], harness := (true, "67fc0fcde87eaa6481ab8f1f981290aa4746c81062f1cb7e673a9fe52e820c4f"), looks := true }, kinds := [], alts := [], laidByText := true, laidKinds := [.data, .sentinel, .sentinel, .pinned], laidTests := true, laidLooks := .later }
def MessageAmbiguousUptoCardSaid : Prop := Claim7.holds Tryd.pinned (.plain (OpenSpec.upto messageAmbiguousSpec)) messageAmbiguousUptoCard
end Rows
end Go.Proofs.YtfnmohaddkoalaaDoor
