/-
  DERIVED. GIVEN WITH THE SEED: THE CARDS: each row of YtfnmohaddkoalaaGreatDoorRows.lean that lists a variable, with what it lists TIED to the program's text (the seventh form; the later family's looks); each row that meets fmt, with fmt's text TOLD by the authors' own Lean function (tested against real Go, not proved from fmt's source: count such statements apart). THE CARD IS WHAT COUNTS. Prove the row's statement (the work); the ties are given (YtfnmohaddkoalaaGreatDoorTie.lean); close each card by the builder's one call (the guide's Derived/Test/ToyasCard.lean, 'card_holds'). Laid BY PROGRAM, IN A SANDBOX (cutbox-door.mjs). By AI agents, Wed Nov 11 2026. No macro, syntax, notation, axiom, sorry.
-/
import Derived.Test.YtfnmohaddkoalaaGreatDoorRows
import GoSem.ClaimSeven
namespace Go.Proofs.YtfnmohaddkoalaaGreatDoor
namespace Rows

/-- THE TIED CARD OF 'variantproxylaw06.MessageChunked'. -/
def messageChunkedCard : Claim7 := { stood := { row := messageChunkedRow, standIns := [], harness := (true, "f126a89e3322c9b59a66b47798399e679a598e7110dc58f9dae91f5aeb0d465b"), looks := true }, kinds := [], alts := [], laidByText := true, laidKinds := [.data, .sentinel, .sentinel, .pinned], laidTests := true, laidLooks := .later }
def MessageChunkedCardSaid : Prop := Claim7.holds Tryz.pinned (.plain (OpenSpec.ofChange messageChunkedSpec)) messageChunkedCard

/-- THE TIED CARD OF 'variantproxylaw06.MessageBack'. -/
def messageBackCard : Claim7 := { stood := { row := messageBackRow, standIns := [], harness := (true, "f126a89e3322c9b59a66b47798399e679a598e7110dc58f9dae91f5aeb0d465b"), looks := true }, kinds := [], alts := [], laidByText := true, laidKinds := [.data, .data, .data, .data, .sentinel, .sentinel, .pinned], laidTests := true, laidLooks := .later }
def MessageBackCardSaid : Prop := Claim7.holds Tryz.pinned (.plain (OpenSpec.ofChange messageBackSpec)) messageBackCard

/-- THE TIED CARD OF 'variantproxylaw06.MessageShort'. -/
def messageShortCard : Claim7 := { stood := { row := messageShortRow, standIns := [], harness := (true, "f126a89e3322c9b59a66b47798399e679a598e7110dc58f9dae91f5aeb0d465b"), looks := true }, kinds := [], alts := [], laidByText := true, laidKinds := [.data, .data, .data, .data, .sentinel, .sentinel, .pinned], laidTests := true, laidLooks := .later }
def MessageShortCardSaid : Prop := Claim7.holds Tryz.pinned (.plain (OpenSpec.ofChange messageShortSpec)) messageShortCard

/-- THE TIED CARD OF 'variantproxylaw06.MessageFormats'. -/
def messageFormatsCard : Claim7 := { stood := { row := messageFormatsRow, standIns := [], harness := (true, "f126a89e3322c9b59a66b47798399e679a598e7110dc58f9dae91f5aeb0d465b"), looks := true }, kinds := [], alts := [], laidByText := true, laidKinds := [.data, .data, .data, .data, .sentinel, .sentinel, .pinned], laidTests := true, laidLooks := .later }
def MessageFormatsCardSaid : Prop := Claim7.holds Tryz.pinned (.plain (OpenSpec.ofChange messageFormatsSpec)) messageFormatsCard

/-- THE TIED CARD OF 'variantproxylaw06.MessageReplies'. -/
def messageRepliesCard : Claim7 := { stood := { row := messageRepliesRow, standIns := [], harness := (true, "f126a89e3322c9b59a66b47798399e679a598e7110dc58f9dae91f5aeb0d465b"), looks := true }, kinds := [], alts := [], laidByText := true, laidKinds := [.data, .data, .data, .data, .sentinel, .sentinel, .pinned], laidTests := true, laidLooks := .later }
def MessageRepliesCardSaid : Prop := Claim7.holds Tryz.pinned (.plain (OpenSpec.ofChange messageRepliesSpec)) messageRepliesCard

/-- THE SECOND FORM's CARD OF 'variantproxylaw06.MessageChunked'. -/
def messageChunkedUptoCard : Claim7 := { stood := { row := messageChunkedUptoRow, standIns := [], harness := (true, "f126a89e3322c9b59a66b47798399e679a598e7110dc58f9dae91f5aeb0d465b"), looks := true }, kinds := [], alts := [], laidByText := true, laidKinds := [.data, .sentinel, .sentinel, .pinned], laidTests := true, laidLooks := .later }
def MessageChunkedUptoCardSaid : Prop := Claim7.holds Tryz.pinned (.plain (OpenSpec.upto messageChunkedSpec)) messageChunkedUptoCard

/-- THE SECOND FORM's CARD OF 'variantproxylaw06.MessageBack'. -/
def messageBackUptoCard : Claim7 := { stood := { row := messageBackUptoRow, standIns := [], harness := (true, "f126a89e3322c9b59a66b47798399e679a598e7110dc58f9dae91f5aeb0d465b"), looks := true }, kinds := [], alts := [], laidByText := true, laidKinds := [.data, .data, .data, .data, .sentinel, .sentinel, .pinned], laidTests := true, laidLooks := .later }
def MessageBackUptoCardSaid : Prop := Claim7.holds Tryz.pinned (.plain (OpenSpec.upto messageBackSpec)) messageBackUptoCard

/-- THE SECOND FORM's CARD OF 'variantproxylaw06.MessageShort'. -/
def messageShortUptoCard : Claim7 := { stood := { row := messageShortUptoRow, standIns := [], harness := (true, "f126a89e3322c9b59a66b47798399e679a598e7110dc58f9dae91f5aeb0d465b"), looks := true }, kinds := [], alts := [], laidByText := true, laidKinds := [.data, .data, .data, .data, .sentinel, .sentinel, .pinned], laidTests := true, laidLooks := .later }
def MessageShortUptoCardSaid : Prop := Claim7.holds Tryz.pinned (.plain (OpenSpec.upto messageShortSpec)) messageShortUptoCard

/-- THE SECOND FORM's CARD OF 'variantproxylaw06.MessageFormats'. -/
def messageFormatsUptoCard : Claim7 := { stood := { row := messageFormatsUptoRow, standIns := [], harness := (true, "f126a89e3322c9b59a66b47798399e679a598e7110dc58f9dae91f5aeb0d465b"), looks := true }, kinds := [], alts := [], laidByText := true, laidKinds := [.data, .data, .data, .data, .sentinel, .sentinel, .pinned], laidTests := true, laidLooks := .later }
def MessageFormatsUptoCardSaid : Prop := Claim7.holds Tryz.pinned (.plain (OpenSpec.upto messageFormatsSpec)) messageFormatsUptoCard

/-- THE SECOND FORM's CARD OF 'variantproxylaw06.MessageReplies'. -/
def messageRepliesUptoCard : Claim7 := { stood := { row := messageRepliesUptoRow, standIns := [], harness := (true, "f126a89e3322c9b59a66b47798399e679a598e7110dc58f9dae91f5aeb0d465b"), looks := true }, kinds := [], alts := [], laidByText := true, laidKinds := [.data, .data, .data, .data, .sentinel, .sentinel, .pinned], laidTests := true, laidLooks := .later }
def MessageRepliesUptoCardSaid : Prop := Claim7.holds Tryz.pinned (.plain (OpenSpec.upto messageRepliesSpec)) messageRepliesUptoCard
end Rows
end Go.Proofs.YtfnmohaddkoalaaGreatDoor
