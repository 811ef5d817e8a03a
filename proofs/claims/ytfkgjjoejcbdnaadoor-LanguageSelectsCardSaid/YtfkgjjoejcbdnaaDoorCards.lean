/-
  DERIVED. GIVEN WITH THE SEED: THE CARDS: each row of YtfkgjjoejcbdnaaDoorRows.lean that lists a variable, with what it lists TIED to the program's text (the seventh form; the later family's looks); each row that meets fmt, with fmt's text TOLD by the authors' own Lean function (tested against real Go, not proved from fmt's source: count such statements apart). THE CARD IS WHAT COUNTS. Prove the row's statement (the work); the ties are given (YtfkgjjoejcbdnaaDoorTie.lean); close each card by the builder's one call (the guide's Derived/Test/ToyasCard.lean, 'card_holds'). Laid BY PROGRAM, IN A SANDBOX (cutbox-door.mjs). By AI agents, Wed Nov 11 2026. No macro, syntax, notation, axiom, sorry.
-/
import Derived.Test.YtfkgjjoejcbdnaaDoorRows
import GoSem.ClaimSeven
namespace Go.Proofs.YtfkgjjoejcbdnaaDoor
namespace Rows

/-- THE TIED CARD OF 'variantproxylaw11.LanguageTags'. -/
def languageTagsCard : Claim7 := { stood := { row := languageTagsRow, standIns := [], harness := (true, "34579f68307bacfe2f340135141d49e61880232d1e253a374c695de612aa5b2f"), looks := false }, kinds := [], alts := [], laidByText := true, laidKinds := [.data, .pinned], laidTests := true, laidLooks := .later }
def LanguageTagsCardSaid : Prop := Claim7.holds Tryd.pinned (.plain (OpenSpec.ofChange languageTagsSpec)) languageTagsCard

/-- THE TIED CARD OF 'variantproxylaw11.LanguageMatches'. -/
def languageMatchesCard : Claim7 := { stood := { row := languageMatchesRow, standIns := [], harness := (true, "34579f68307bacfe2f340135141d49e61880232d1e253a374c695de612aa5b2f"), looks := false }, kinds := [], alts := [], laidByText := true, laidKinds := [.data, .pinned], laidTests := true, laidLooks := .later }
def LanguageMatchesCardSaid : Prop := Claim7.holds Tryd.pinned (.plain (OpenSpec.ofChange languageMatchesSpec)) languageMatchesCard

/-- THE TIED CARD OF 'variantproxylaw11.LanguageCases'. -/
def languageCasesCard : Claim7 := { stood := { row := languageCasesRow, standIns := [], harness := (true, "34579f68307bacfe2f340135141d49e61880232d1e253a374c695de612aa5b2f"), looks := false }, kinds := [], alts := [], laidByText := true, laidKinds := [.data, .pinned], laidTests := true, laidLooks := .later }
def LanguageCasesCardSaid : Prop := Claim7.holds Tryd.pinned (.plain (OpenSpec.ofChange languageCasesSpec)) languageCasesCard

/-- THE TIED CARD OF 'variantproxylaw11.LanguageFound'. -/
def languageFoundCard : Claim7 := { stood := { row := languageFoundRow, standIns := [], harness := (true, "34579f68307bacfe2f340135141d49e61880232d1e253a374c695de612aa5b2f"), looks := false }, kinds := [], alts := [], laidByText := true, laidKinds := [.data, .pinned], laidTests := true, laidLooks := .later }
def LanguageFoundCardSaid : Prop := Claim7.holds Tryd.pinned (.plain (OpenSpec.ofChange languageFoundSpec)) languageFoundCard

/-- THE TIED CARD OF 'variantproxylaw11.LanguageSelects'. -/
def languageSelectsCard : Claim7 := { stood := { row := languageSelectsRow, standIns := [], harness := (true, "34579f68307bacfe2f340135141d49e61880232d1e253a374c695de612aa5b2f"), looks := false }, kinds := [], alts := [], laidByText := true, laidKinds := [.data, .pinned], laidTests := true, laidLooks := .later }
def LanguageSelectsCardSaid : Prop := Claim7.holds Tryd.pinned (.plain (OpenSpec.ofChange languageSelectsSpec)) languageSelectsCard

/-- THE TIED CARD OF 'variantproxylaw11.LanguageFilters'. -/
def languageFiltersCard : Claim7 := { stood := { row := languageFiltersRow, standIns := [], harness := (true, "34579f68307bacfe2f340135141d49e61880232d1e253a374c695de612aa5b2f"), looks := false }, kinds := [], alts := [], laidByText := true, laidKinds := [.data, .pinned], laidTests := true, laidLooks := .later }
def LanguageFiltersCardSaid : Prop := Claim7.holds Tryd.pinned (.plain (OpenSpec.ofChange languageFiltersSpec)) languageFiltersCard

/-- THE SECOND FORM's CARD OF 'variantproxylaw11.LanguageTags'. -/
def languageTagsUptoCard : Claim7 := { stood := { row := languageTagsUptoRow, standIns := [], harness := (true, "34579f68307bacfe2f340135141d49e61880232d1e253a374c695de612aa5b2f"), looks := false }, kinds := [], alts := [], laidByText := true, laidKinds := [.data, .pinned], laidTests := true, laidLooks := .later }
def LanguageTagsUptoCardSaid : Prop := Claim7.holds Tryd.pinned (.plain (OpenSpec.upto languageTagsSpec)) languageTagsUptoCard

/-- THE SECOND FORM's CARD OF 'variantproxylaw11.LanguageMatches'. -/
def languageMatchesUptoCard : Claim7 := { stood := { row := languageMatchesUptoRow, standIns := [], harness := (true, "34579f68307bacfe2f340135141d49e61880232d1e253a374c695de612aa5b2f"), looks := false }, kinds := [], alts := [], laidByText := true, laidKinds := [.data, .pinned], laidTests := true, laidLooks := .later }
def LanguageMatchesUptoCardSaid : Prop := Claim7.holds Tryd.pinned (.plain (OpenSpec.upto languageMatchesSpec)) languageMatchesUptoCard

/-- THE SECOND FORM's CARD OF 'variantproxylaw11.LanguageCases'. -/
def languageCasesUptoCard : Claim7 := { stood := { row := languageCasesUptoRow, standIns := [], harness := (true, "34579f68307bacfe2f340135141d49e61880232d1e253a374c695de612aa5b2f"), looks := false }, kinds := [], alts := [], laidByText := true, laidKinds := [.data, .pinned], laidTests := true, laidLooks := .later }
def LanguageCasesUptoCardSaid : Prop := Claim7.holds Tryd.pinned (.plain (OpenSpec.upto languageCasesSpec)) languageCasesUptoCard

/-- THE SECOND FORM's CARD OF 'variantproxylaw11.LanguageFound'. -/
def languageFoundUptoCard : Claim7 := { stood := { row := languageFoundUptoRow, standIns := [], harness := (true, "34579f68307bacfe2f340135141d49e61880232d1e253a374c695de612aa5b2f"), looks := false }, kinds := [], alts := [], laidByText := true, laidKinds := [.data, .pinned], laidTests := true, laidLooks := .later }
def LanguageFoundUptoCardSaid : Prop := Claim7.holds Tryd.pinned (.plain (OpenSpec.upto languageFoundSpec)) languageFoundUptoCard

/-- THE SECOND FORM's CARD OF 'variantproxylaw11.LanguageSelects'. -/
def languageSelectsUptoCard : Claim7 := { stood := { row := languageSelectsUptoRow, standIns := [], harness := (true, "34579f68307bacfe2f340135141d49e61880232d1e253a374c695de612aa5b2f"), looks := false }, kinds := [], alts := [], laidByText := true, laidKinds := [.data, .pinned], laidTests := true, laidLooks := .later }
def LanguageSelectsUptoCardSaid : Prop := Claim7.holds Tryd.pinned (.plain (OpenSpec.upto languageSelectsSpec)) languageSelectsUptoCard

/-- THE SECOND FORM's CARD OF 'variantproxylaw11.LanguageFilters'. -/
def languageFiltersUptoCard : Claim7 := { stood := { row := languageFiltersUptoRow, standIns := [], harness := (true, "34579f68307bacfe2f340135141d49e61880232d1e253a374c695de612aa5b2f"), looks := false }, kinds := [], alts := [], laidByText := true, laidKinds := [.data, .pinned], laidTests := true, laidLooks := .later }
def LanguageFiltersUptoCardSaid : Prop := Claim7.holds Tryd.pinned (.plain (OpenSpec.upto languageFiltersSpec)) languageFiltersUptoCard
end Rows
end Go.Proofs.YtfkgjjoejcbdnaaDoor
