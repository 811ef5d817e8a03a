/-
  DERIVED. GIVEN WITH THE SEED: THE CARDS: each row of YtlcchcbeebakpaaDoorRows.lean that lists a variable, with what it lists TIED to the program's text (the seventh form; the later family's looks); each row that meets fmt, with fmt's text TOLD by the authors' own Lean function (tested against real Go, not proved from fmt's source: count such statements apart). THE CARD IS WHAT COUNTS. Prove the row's statement (the work); the ties are given (YtlcchcbeebakpaaDoorTie.lean); close each card by the builder's one call (the guide's Derived/Test/ToyasCard.lean, 'card_holds'). Laid BY PROGRAM, IN A SANDBOX (cutbox-door.mjs). By AI agents, Wed Nov 11 2026. No macro, syntax, notation, axiom, sorry.
-/
import Derived.Test.YtlcchcbeebakpaaDoorRows
import GoSem.ClaimSeven
namespace Go.Proofs.YtlcchcbeebakpaaDoor
namespace Rows

/-- THE TIED CARD OF 'variantproxylaw25.HopStrips'. -/
def hopStripsCard : Claim7 := { stood := { row := hopStripsRow, standIns := [], harness := (true, "cb7fe1945535069545a0ca7b7c0e0812835e18d7fddaa1e13c0329c6039ba871"), looks := false }, kinds := [], alts := [], laidByText := true, laidKinds := [.data, .data, .data, .data, .pinned], laidTests := true, laidLooks := .later }
def HopStripsCardSaid : Prop := Claim7.holds Tryd.pinned (.plain (OpenSpec.ofChange hopStripsSpec)) hopStripsCard

/-- THE TIED CARD OF 'variantproxylaw25.HopOnce'. -/
def hopOnceCard : Claim7 := { stood := { row := hopOnceRow, standIns := [], harness := (true, "cb7fe1945535069545a0ca7b7c0e0812835e18d7fddaa1e13c0329c6039ba871"), looks := false }, kinds := [], alts := [], laidByText := true, laidKinds := [.data, .data, .data, .data, .pinned], laidTests := true, laidLooks := .later }
def HopOnceCardSaid : Prop := Claim7.holds Tryd.pinned (.plain (OpenSpec.ofChange hopOnceSpec)) hopOnceCard

/-- THE TIED CARD OF 'variantproxylaw25.HopNamed'. -/
def hopNamedCard : Claim7 := { stood := { row := hopNamedRow, standIns := [], harness := (true, "cb7fe1945535069545a0ca7b7c0e0812835e18d7fddaa1e13c0329c6039ba871"), looks := false }, kinds := [], alts := [], laidByText := true, laidKinds := [.data, .data, .data, .data, .pinned], laidTests := true, laidLooks := .later }
def HopNamedCardSaid : Prop := Claim7.holds Tryd.pinned (.plain (OpenSpec.ofChange hopNamedSpec)) hopNamedCard

/-- THE TIED CARD OF 'variantproxylaw29.UpdateKeeps'. -/
def updateKeepsCard : Claim7 := { stood := { row := updateKeepsRow, standIns := [], harness := (true, "cb7fe1945535069545a0ca7b7c0e0812835e18d7fddaa1e13c0329c6039ba871"), looks := false }, kinds := [], alts := [], laidByText := true, laidKinds := [.data, .pinned], laidTests := true, laidLooks := .later }
def UpdateKeepsCardSaid : Prop := Claim7.holds Tryd.pinned (.plain (OpenSpec.ofChange updateKeepsSpec)) updateKeepsCard

/-- THE TIED CARD OF 'variantproxylaw29.UpdateRefreshes'. -/
def updateRefreshesCard : Claim7 := { stood := { row := updateRefreshesRow, standIns := [], harness := (true, "cb7fe1945535069545a0ca7b7c0e0812835e18d7fddaa1e13c0329c6039ba871"), looks := false }, kinds := [], alts := [], laidByText := true, laidKinds := [.data, .pinned], laidTests := true, laidLooks := .later }
def UpdateRefreshesCardSaid : Prop := Claim7.holds Tryd.pinned (.plain (OpenSpec.ofChange updateRefreshesSpec)) updateRefreshesCard

/-- THE TIED CARD OF 'variantproxylaw31.ConditionConfirms'. -/
def conditionConfirmsCard : Claim7 := { stood := { row := conditionConfirmsRow, standIns := [], harness := (true, "cb7fe1945535069545a0ca7b7c0e0812835e18d7fddaa1e13c0329c6039ba871"), looks := false }, kinds := [], alts := [], laidByText := true, laidKinds := [.data, .pinned], laidTests := true, laidLooks := .later }
def ConditionConfirmsCardSaid : Prop := Claim7.holds Tryd.pinned (.plain (OpenSpec.ofChange conditionConfirmsSpec)) conditionConfirmsCard

/-- THE TIED CARD OF 'variantproxylaw31.ConditionAnswers'. -/
def conditionAnswersCard : Claim7 := { stood := { row := conditionAnswersRow, standIns := [], harness := (true, "cb7fe1945535069545a0ca7b7c0e0812835e18d7fddaa1e13c0329c6039ba871"), looks := false }, kinds := [], alts := [], laidByText := true, laidKinds := [.data, .pinned], laidTests := true, laidLooks := .later }
def ConditionAnswersCardSaid : Prop := Claim7.holds Tryd.pinned (.plain (OpenSpec.ofChange conditionAnswersSpec)) conditionAnswersCard

/-- THE TIED CARD OF 'variantproxylaw31.ConditionCleans'. -/
def conditionCleansCard : Claim7 := { stood := { row := conditionCleansRow, standIns := [], harness := (true, "cb7fe1945535069545a0ca7b7c0e0812835e18d7fddaa1e13c0329c6039ba871"), looks := false }, kinds := [], alts := [], laidByText := true, laidKinds := [.data, .data, .data, .data, .pinned], laidTests := true, laidLooks := .later }
def ConditionCleansCardSaid : Prop := Claim7.holds Tryd.pinned (.plain (OpenSpec.ofChange conditionCleansSpec)) conditionCleansCard

/-- THE SECOND FORM's CARD OF 'variantproxylaw25.HopStrips'. -/
def hopStripsUptoCard : Claim7 := { stood := { row := hopStripsUptoRow, standIns := [], harness := (true, "cb7fe1945535069545a0ca7b7c0e0812835e18d7fddaa1e13c0329c6039ba871"), looks := false }, kinds := [], alts := [], laidByText := true, laidKinds := [.data, .data, .data, .data, .pinned], laidTests := true, laidLooks := .later }
def HopStripsUptoCardSaid : Prop := Claim7.holds Tryd.pinned (.plain (OpenSpec.upto hopStripsSpec)) hopStripsUptoCard

/-- THE SECOND FORM's CARD OF 'variantproxylaw25.HopOnce'. -/
def hopOnceUptoCard : Claim7 := { stood := { row := hopOnceUptoRow, standIns := [], harness := (true, "cb7fe1945535069545a0ca7b7c0e0812835e18d7fddaa1e13c0329c6039ba871"), looks := false }, kinds := [], alts := [], laidByText := true, laidKinds := [.data, .data, .data, .data, .pinned], laidTests := true, laidLooks := .later }
def HopOnceUptoCardSaid : Prop := Claim7.holds Tryd.pinned (.plain (OpenSpec.upto hopOnceSpec)) hopOnceUptoCard

/-- THE SECOND FORM's CARD OF 'variantproxylaw25.HopNamed'. -/
def hopNamedUptoCard : Claim7 := { stood := { row := hopNamedUptoRow, standIns := [], harness := (true, "cb7fe1945535069545a0ca7b7c0e0812835e18d7fddaa1e13c0329c6039ba871"), looks := false }, kinds := [], alts := [], laidByText := true, laidKinds := [.data, .data, .data, .data, .pinned], laidTests := true, laidLooks := .later }
def HopNamedUptoCardSaid : Prop := Claim7.holds Tryd.pinned (.plain (OpenSpec.upto hopNamedSpec)) hopNamedUptoCard

/-- THE SECOND FORM's CARD OF 'variantproxylaw29.UpdateKeeps'. -/
def updateKeepsUptoCard : Claim7 := { stood := { row := updateKeepsUptoRow, standIns := [], harness := (true, "cb7fe1945535069545a0ca7b7c0e0812835e18d7fddaa1e13c0329c6039ba871"), looks := false }, kinds := [], alts := [], laidByText := true, laidKinds := [.data, .pinned], laidTests := true, laidLooks := .later }
def UpdateKeepsUptoCardSaid : Prop := Claim7.holds Tryd.pinned (.plain (OpenSpec.upto updateKeepsSpec)) updateKeepsUptoCard

/-- THE SECOND FORM's CARD OF 'variantproxylaw29.UpdateRefreshes'. -/
def updateRefreshesUptoCard : Claim7 := { stood := { row := updateRefreshesUptoRow, standIns := [], harness := (true, "cb7fe1945535069545a0ca7b7c0e0812835e18d7fddaa1e13c0329c6039ba871"), looks := false }, kinds := [], alts := [], laidByText := true, laidKinds := [.data, .pinned], laidTests := true, laidLooks := .later }
def UpdateRefreshesUptoCardSaid : Prop := Claim7.holds Tryd.pinned (.plain (OpenSpec.upto updateRefreshesSpec)) updateRefreshesUptoCard

/-- THE SECOND FORM's CARD OF 'variantproxylaw31.ConditionConfirms'. -/
def conditionConfirmsUptoCard : Claim7 := { stood := { row := conditionConfirmsUptoRow, standIns := [], harness := (true, "cb7fe1945535069545a0ca7b7c0e0812835e18d7fddaa1e13c0329c6039ba871"), looks := false }, kinds := [], alts := [], laidByText := true, laidKinds := [.data, .pinned], laidTests := true, laidLooks := .later }
def ConditionConfirmsUptoCardSaid : Prop := Claim7.holds Tryd.pinned (.plain (OpenSpec.upto conditionConfirmsSpec)) conditionConfirmsUptoCard

/-- THE SECOND FORM's CARD OF 'variantproxylaw31.ConditionAnswers'. -/
def conditionAnswersUptoCard : Claim7 := { stood := { row := conditionAnswersUptoRow, standIns := [], harness := (true, "cb7fe1945535069545a0ca7b7c0e0812835e18d7fddaa1e13c0329c6039ba871"), looks := false }, kinds := [], alts := [], laidByText := true, laidKinds := [.data, .pinned], laidTests := true, laidLooks := .later }
def ConditionAnswersUptoCardSaid : Prop := Claim7.holds Tryd.pinned (.plain (OpenSpec.upto conditionAnswersSpec)) conditionAnswersUptoCard

/-- THE SECOND FORM's CARD OF 'variantproxylaw31.ConditionCleans'. -/
def conditionCleansUptoCard : Claim7 := { stood := { row := conditionCleansUptoRow, standIns := [], harness := (true, "cb7fe1945535069545a0ca7b7c0e0812835e18d7fddaa1e13c0329c6039ba871"), looks := false }, kinds := [], alts := [], laidByText := true, laidKinds := [.data, .data, .data, .data, .pinned], laidTests := true, laidLooks := .later }
def ConditionCleansUptoCardSaid : Prop := Claim7.holds Tryd.pinned (.plain (OpenSpec.upto conditionCleansSpec)) conditionCleansUptoCard
end Rows
end Go.Proofs.YtlcchcbeebakpaaDoor
