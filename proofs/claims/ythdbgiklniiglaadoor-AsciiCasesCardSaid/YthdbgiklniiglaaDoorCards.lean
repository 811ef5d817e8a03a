/-
  DERIVED. GIVEN WITH THE SEED: THE CARDS: each row of YthdbgiklniiglaaDoorRows.lean that lists a variable, with what it lists TIED to the program's text (the seventh form; the later family's looks); each row that meets fmt, with fmt's text TOLD by the authors' own Lean function (tested against real Go, not proved from fmt's source: count such statements apart). THE CARD IS WHAT COUNTS. Prove the row's statement (the work); the ties are given (YthdbgiklniiglaaDoorTie.lean); close each card by the builder's one call (the guide's Derived/Test/ToyasCard.lean, 'card_holds'). Laid BY PROGRAM, IN A SANDBOX (cutbox-door.mjs). By AI agents, Wed Nov 11 2026. No macro, syntax, notation, axiom, sorry.
-/
import Derived.Test.YthdbgiklniiglaaDoorRows
import GoSem.ClaimSeven
namespace Go.Proofs.YthdbgiklniiglaaDoor
namespace Rows

/-- THE TIED CARD OF 'variantproxylaw02.StartlineRequests'. -/
def startlineRequestsCard : Claim7 := { stood := { row := startlineRequestsRow, standIns := [], harness := (true, "03cb031aa8c6f815b82f7a20bb8a717468b9246078488c4882f1be575aa21fbd"), looks := true }, kinds := [], alts := [], laidByText := true, laidKinds := [.sentinel, .sentinel], laidTests := true, laidLooks := .later }
def StartlineRequestsCardSaid : Prop := Claim7.holds Tryd.pinned (.plain (OpenSpec.ofChange startlineRequestsSpec)) startlineRequestsCard

/-- THE TIED CARD OF 'variantproxylaw01.AsciiTokens'. -/
def asciiTokensCard : Claim7 := { stood := { row := asciiTokensRow, standIns := [], harness := (true, "03cb031aa8c6f815b82f7a20bb8a717468b9246078488c4882f1be575aa21fbd"), looks := true }, kinds := [], alts := [], laidByText := true, laidKinds := [.data, .data, .data], laidTests := true, laidLooks := .later }
def AsciiTokensCardSaid : Prop := Claim7.holds Tryd.pinned (.plain (OpenSpec.ofChange asciiTokensSpec)) asciiTokensCard

/-- THE TIED CARD OF 'variantproxylaw02.StartlineStatuses'. -/
def startlineStatusesCard : Claim7 := { stood := { row := startlineStatusesRow, standIns := [], harness := (true, "03cb031aa8c6f815b82f7a20bb8a717468b9246078488c4882f1be575aa21fbd"), looks := true }, kinds := [], alts := [], laidByText := true, laidKinds := [.sentinel, .sentinel], laidTests := true, laidLooks := .later }
def StartlineStatusesCardSaid : Prop := Claim7.holds Tryd.pinned (.plain (OpenSpec.ofChange startlineStatusesSpec)) startlineStatusesCard

/-- THE TIED CARD OF 'variantproxylaw02.StartlineLong'. -/
def startlineLongCard : Claim7 := { stood := { row := startlineLongRow, standIns := [], harness := (true, "03cb031aa8c6f815b82f7a20bb8a717468b9246078488c4882f1be575aa21fbd"), looks := true }, kinds := [], alts := [], laidByText := true, laidKinds := [.sentinel, .sentinel], laidTests := true, laidLooks := .later }
def StartlineLongCardSaid : Prop := Claim7.holds Tryd.pinned (.plain (OpenSpec.ofChange startlineLongSpec)) startlineLongCard

/-- THE TIED CARD OF 'variantproxylaw01.AsciiNumbers'. -/
def asciiNumbersCard : Claim7 := { stood := { row := asciiNumbersRow, standIns := [], harness := (true, "03cb031aa8c6f815b82f7a20bb8a717468b9246078488c4882f1be575aa21fbd"), looks := true }, kinds := [], alts := [], laidByText := true, laidKinds := [.data, .data, .data], laidTests := true, laidLooks := .later }
def AsciiNumbersCardSaid : Prop := Claim7.holds Tryd.pinned (.plain (OpenSpec.ofChange asciiNumbersSpec)) asciiNumbersCard

/-- THE TIED CARD OF 'variantproxylaw01.AsciiQuotes'. -/
def asciiQuotesCard : Claim7 := { stood := { row := asciiQuotesRow, standIns := [], harness := (true, "03cb031aa8c6f815b82f7a20bb8a717468b9246078488c4882f1be575aa21fbd"), looks := true }, kinds := [], alts := [], laidByText := true, laidKinds := [.data, .data, .data], laidTests := true, laidLooks := .later }
def AsciiQuotesCardSaid : Prop := Claim7.holds Tryd.pinned (.plain (OpenSpec.ofChange asciiQuotesSpec)) asciiQuotesCard

/-- THE TIED CARD OF 'variantproxylaw01.AsciiQuoted'. -/
def asciiQuotedCard : Claim7 := { stood := { row := asciiQuotedRow, standIns := [], harness := (true, "03cb031aa8c6f815b82f7a20bb8a717468b9246078488c4882f1be575aa21fbd"), looks := true }, kinds := [], alts := [], laidByText := true, laidKinds := [.data, .data, .data], laidTests := true, laidLooks := .later }
def AsciiQuotedCardSaid : Prop := Claim7.holds Tryd.pinned (.plain (OpenSpec.ofChange asciiQuotedSpec)) asciiQuotedCard

/-- THE TIED CARD OF 'variantproxylaw01.AsciiDecimals'. -/
def asciiDecimalsCard : Claim7 := { stood := { row := asciiDecimalsRow, standIns := [], harness := (true, "03cb031aa8c6f815b82f7a20bb8a717468b9246078488c4882f1be575aa21fbd"), looks := true }, kinds := [], alts := [], laidByText := true, laidKinds := [.data, .data, .data], laidTests := true, laidLooks := .later }
def AsciiDecimalsCardSaid : Prop := Claim7.holds Tryd.pinned (.plain (OpenSpec.ofChange asciiDecimalsSpec)) asciiDecimalsCard

/-- THE TIED CARD OF 'variantproxylaw01.AsciiFolds'. -/
def asciiFoldsCard : Claim7 := { stood := { row := asciiFoldsRow, standIns := [], harness := (true, "03cb031aa8c6f815b82f7a20bb8a717468b9246078488c4882f1be575aa21fbd"), looks := true }, kinds := [], alts := [], laidByText := true, laidKinds := [.data, .data, .data], laidTests := true, laidLooks := .later }
def AsciiFoldsCardSaid : Prop := Claim7.holds Tryd.pinned (.plain (OpenSpec.ofChange asciiFoldsSpec)) asciiFoldsCard

/-- THE TIED CARD OF 'variantproxylaw02.StartlineFormats'. -/
def startlineFormatsCard : Claim7 := { stood := { row := startlineFormatsRow, standIns := [], harness := (true, "03cb031aa8c6f815b82f7a20bb8a717468b9246078488c4882f1be575aa21fbd"), looks := true }, kinds := [], alts := [], laidByText := true, laidKinds := [.data, .data, .data, .sentinel, .sentinel], laidTests := true, laidLooks := .later }
def StartlineFormatsCardSaid : Prop := Claim7.holds Tryd.pinned (.plain (OpenSpec.ofChange startlineFormatsSpec)) startlineFormatsCard

/-- THE TIED CARD OF 'variantproxylaw02.StartlineBack'. -/
def startlineBackCard : Claim7 := { stood := { row := startlineBackRow, standIns := [], harness := (true, "03cb031aa8c6f815b82f7a20bb8a717468b9246078488c4882f1be575aa21fbd"), looks := true }, kinds := [], alts := [], laidByText := true, laidKinds := [.data, .data, .data, .sentinel, .sentinel], laidTests := true, laidLooks := .later }
def StartlineBackCardSaid : Prop := Claim7.holds Tryd.pinned (.plain (OpenSpec.ofChange startlineBackSpec)) startlineBackCard

/-- THE TIED CARD OF 'variantproxylaw01.AsciiTrimmed'. -/
def asciiTrimmedCard : Claim7 := { stood := { row := asciiTrimmedRow, standIns := [], harness := (true, "03cb031aa8c6f815b82f7a20bb8a717468b9246078488c4882f1be575aa21fbd"), looks := true }, kinds := [], alts := [], laidByText := true, laidKinds := [.data, .data, .data, .data, .pinned], laidTests := true, laidLooks := .later }
def AsciiTrimmedCardSaid : Prop := Claim7.holds Tryd.pinned (.plain (OpenSpec.ofChange asciiTrimmedSpec)) asciiTrimmedCard

/-- THE TIED CARD OF 'variantproxylaw01.AsciiCases'. -/
def asciiCasesCard : Claim7 := { stood := { row := asciiCasesRow, standIns := [], harness := (true, "03cb031aa8c6f815b82f7a20bb8a717468b9246078488c4882f1be575aa21fbd"), looks := true }, kinds := [], alts := [], laidByText := true, laidKinds := [.data, .data, .data, .data, .pinned], laidTests := true, laidLooks := .later }
def AsciiCasesCardSaid : Prop := Claim7.holds Tryd.pinned (.plain (OpenSpec.ofChange asciiCasesSpec)) asciiCasesCard

/-- THE SECOND FORM's CARD OF 'variantproxylaw02.StartlineRequests'. -/
def startlineRequestsUptoCard : Claim7 := { stood := { row := startlineRequestsUptoRow, standIns := [], harness := (true, "03cb031aa8c6f815b82f7a20bb8a717468b9246078488c4882f1be575aa21fbd"), looks := true }, kinds := [], alts := [], laidByText := true, laidKinds := [.sentinel, .sentinel], laidTests := true, laidLooks := .later }
def StartlineRequestsUptoCardSaid : Prop := Claim7.holds Tryd.pinned (.plain (OpenSpec.upto startlineRequestsSpec)) startlineRequestsUptoCard

/-- THE SECOND FORM's CARD OF 'variantproxylaw01.AsciiTokens'. -/
def asciiTokensUptoCard : Claim7 := { stood := { row := asciiTokensUptoRow, standIns := [], harness := (true, "03cb031aa8c6f815b82f7a20bb8a717468b9246078488c4882f1be575aa21fbd"), looks := true }, kinds := [], alts := [], laidByText := true, laidKinds := [.data, .data, .data], laidTests := true, laidLooks := .later }
def AsciiTokensUptoCardSaid : Prop := Claim7.holds Tryd.pinned (.plain (OpenSpec.upto asciiTokensSpec)) asciiTokensUptoCard

/-- THE SECOND FORM's CARD OF 'variantproxylaw02.StartlineStatuses'. -/
def startlineStatusesUptoCard : Claim7 := { stood := { row := startlineStatusesUptoRow, standIns := [], harness := (true, "03cb031aa8c6f815b82f7a20bb8a717468b9246078488c4882f1be575aa21fbd"), looks := true }, kinds := [], alts := [], laidByText := true, laidKinds := [.sentinel, .sentinel], laidTests := true, laidLooks := .later }
def StartlineStatusesUptoCardSaid : Prop := Claim7.holds Tryd.pinned (.plain (OpenSpec.upto startlineStatusesSpec)) startlineStatusesUptoCard

/-- THE SECOND FORM's CARD OF 'variantproxylaw02.StartlineLong'. -/
def startlineLongUptoCard : Claim7 := { stood := { row := startlineLongUptoRow, standIns := [], harness := (true, "03cb031aa8c6f815b82f7a20bb8a717468b9246078488c4882f1be575aa21fbd"), looks := true }, kinds := [], alts := [], laidByText := true, laidKinds := [.sentinel, .sentinel], laidTests := true, laidLooks := .later }
def StartlineLongUptoCardSaid : Prop := Claim7.holds Tryd.pinned (.plain (OpenSpec.upto startlineLongSpec)) startlineLongUptoCard

/-- THE SECOND FORM's CARD OF 'variantproxylaw01.AsciiNumbers'. -/
def asciiNumbersUptoCard : Claim7 := { stood := { row := asciiNumbersUptoRow, standIns := [], harness := (true, "03cb031aa8c6f815b82f7a20bb8a717468b9246078488c4882f1be575aa21fbd"), looks := true }, kinds := [], alts := [], laidByText := true, laidKinds := [.data, .data, .data], laidTests := true, laidLooks := .later }
def AsciiNumbersUptoCardSaid : Prop := Claim7.holds Tryd.pinned (.plain (OpenSpec.upto asciiNumbersSpec)) asciiNumbersUptoCard

/-- THE SECOND FORM's CARD OF 'variantproxylaw01.AsciiQuotes'. -/
def asciiQuotesUptoCard : Claim7 := { stood := { row := asciiQuotesUptoRow, standIns := [], harness := (true, "03cb031aa8c6f815b82f7a20bb8a717468b9246078488c4882f1be575aa21fbd"), looks := true }, kinds := [], alts := [], laidByText := true, laidKinds := [.data, .data, .data], laidTests := true, laidLooks := .later }
def AsciiQuotesUptoCardSaid : Prop := Claim7.holds Tryd.pinned (.plain (OpenSpec.upto asciiQuotesSpec)) asciiQuotesUptoCard

/-- THE SECOND FORM's CARD OF 'variantproxylaw01.AsciiQuoted'. -/
def asciiQuotedUptoCard : Claim7 := { stood := { row := asciiQuotedUptoRow, standIns := [], harness := (true, "03cb031aa8c6f815b82f7a20bb8a717468b9246078488c4882f1be575aa21fbd"), looks := true }, kinds := [], alts := [], laidByText := true, laidKinds := [.data, .data, .data], laidTests := true, laidLooks := .later }
def AsciiQuotedUptoCardSaid : Prop := Claim7.holds Tryd.pinned (.plain (OpenSpec.upto asciiQuotedSpec)) asciiQuotedUptoCard

/-- THE SECOND FORM's CARD OF 'variantproxylaw01.AsciiDecimals'. -/
def asciiDecimalsUptoCard : Claim7 := { stood := { row := asciiDecimalsUptoRow, standIns := [], harness := (true, "03cb031aa8c6f815b82f7a20bb8a717468b9246078488c4882f1be575aa21fbd"), looks := true }, kinds := [], alts := [], laidByText := true, laidKinds := [.data, .data, .data], laidTests := true, laidLooks := .later }
def AsciiDecimalsUptoCardSaid : Prop := Claim7.holds Tryd.pinned (.plain (OpenSpec.upto asciiDecimalsSpec)) asciiDecimalsUptoCard

/-- THE SECOND FORM's CARD OF 'variantproxylaw01.AsciiFolds'. -/
def asciiFoldsUptoCard : Claim7 := { stood := { row := asciiFoldsUptoRow, standIns := [], harness := (true, "03cb031aa8c6f815b82f7a20bb8a717468b9246078488c4882f1be575aa21fbd"), looks := true }, kinds := [], alts := [], laidByText := true, laidKinds := [.data, .data, .data], laidTests := true, laidLooks := .later }
def AsciiFoldsUptoCardSaid : Prop := Claim7.holds Tryd.pinned (.plain (OpenSpec.upto asciiFoldsSpec)) asciiFoldsUptoCard

/-- THE SECOND FORM's CARD OF 'variantproxylaw02.StartlineFormats'. -/
def startlineFormatsUptoCard : Claim7 := { stood := { row := startlineFormatsUptoRow, standIns := [], harness := (true, "03cb031aa8c6f815b82f7a20bb8a717468b9246078488c4882f1be575aa21fbd"), looks := true }, kinds := [], alts := [], laidByText := true, laidKinds := [.data, .data, .data, .sentinel, .sentinel], laidTests := true, laidLooks := .later }
def StartlineFormatsUptoCardSaid : Prop := Claim7.holds Tryd.pinned (.plain (OpenSpec.upto startlineFormatsSpec)) startlineFormatsUptoCard

/-- THE SECOND FORM's CARD OF 'variantproxylaw02.StartlineBack'. -/
def startlineBackUptoCard : Claim7 := { stood := { row := startlineBackUptoRow, standIns := [], harness := (true, "03cb031aa8c6f815b82f7a20bb8a717468b9246078488c4882f1be575aa21fbd"), looks := true }, kinds := [], alts := [], laidByText := true, laidKinds := [.data, .data, .data, .sentinel, .sentinel], laidTests := true, laidLooks := .later }
def StartlineBackUptoCardSaid : Prop := Claim7.holds Tryd.pinned (.plain (OpenSpec.upto startlineBackSpec)) startlineBackUptoCard

/-- THE SECOND FORM's CARD OF 'variantproxylaw01.AsciiTrimmed'. -/
def asciiTrimmedUptoCard : Claim7 := { stood := { row := asciiTrimmedUptoRow, standIns := [], harness := (true, "03cb031aa8c6f815b82f7a20bb8a717468b9246078488c4882f1be575aa21fbd"), looks := true }, kinds := [], alts := [], laidByText := true, laidKinds := [.data, .data, .data, .data, .pinned], laidTests := true, laidLooks := .later }
def AsciiTrimmedUptoCardSaid : Prop := Claim7.holds Tryd.pinned (.plain (OpenSpec.upto asciiTrimmedSpec)) asciiTrimmedUptoCard

/-- THE SECOND FORM's CARD OF 'variantproxylaw01.AsciiCases'. -/
def asciiCasesUptoCard : Claim7 := { stood := { row := asciiCasesUptoRow, standIns := [], harness := (true, "03cb031aa8c6f815b82f7a20bb8a717468b9246078488c4882f1be575aa21fbd"), looks := true }, kinds := [], alts := [], laidByText := true, laidKinds := [.data, .data, .data, .data, .pinned], laidTests := true, laidLooks := .later }
def AsciiCasesUptoCardSaid : Prop := Claim7.holds Tryd.pinned (.plain (OpenSpec.upto asciiCasesSpec)) asciiCasesUptoCard
end Rows
end Go.Proofs.YthdbgiklniiglaaDoor
