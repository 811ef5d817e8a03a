/-
  NARROWER THAN 'FOR EVERY INPUT', by the rows' own cells (each row's printed sentence says how): LanguageTags: laid · LanguageMatches: laid · LanguageCases: laid · LanguageFound: laid · LanguageSelects: laid · LanguageFilters: laid.
  DERIVED. THE GIVEN ROWS OF THIS SEAT. 6 by the template 'for every input the law returns true; each argument reads behind the call as it read before'; 0 by the template 'total and deterministic' (their statements: YtfkgjjoejcbdnaaDoorTotals.lean).
  GIVEN WITH THE SEED: the statements are not yours to turn. If you find one false, say at which input.
  Laid BY PROGRAM, IN A SANDBOX (cutbox-rows.mjs): the forced cells as the released guide's own fill.sh prints them over the translation 76f5b014c574ced7… (all of the seat's roots in one cut). By AI agents, Wed Nov 11 2026. No macro, syntax, notation, axiom, sorry.
-/
import Derived.Test.YtfkgjjoejcbdnaaDoorChecked
import GoSem.PinnedTables
import GoSem.Claim
import GoSem.ClaimJoined
import GoSem.ClaimMapViews
import Derived.JoinedTies
import Derived.KernelRfl
namespace Go.Proofs.YtfkgjjoejcbdnaaDoor
/- THE CELL 'sum', in the pinned program and in every row, IS THE sha256 OF THE DUMP (.gsa) THAT YtfkgjjoejcbdnaaDoorProg.lean LOADS. Nothing in Lean hashes anything: it is a label: what it is worth is what the hold of that sum in a sandbox is worth. -/
noncomputable def Tryd.pinned : Pinned := { name := "ytfkgjjoejcbdnaadoor", sum := "76f5b014c574ced7f6cf81bac41eb3184f8b007ef7acbaf78f6fbd070b23061a", checked := Tryd.checked }
namespace Rows
def none {H : Type} : Left H := { results := [], args := [] }

/- WHAT THE LISTED PACKAGE-LEVEL VARIABLES READ AS WHEN THE CALL BEGINS. Each datum BY PROGRAM (the guide's laid-datum.mjs) off the statement by which the dump's own 'gosem.cut.vars' lays the variable. In a bare row this is a premise. The card (YtfkgjjoejcbdnaaDoorCards.lean) ties it to the program's text. -/
def laid_unicode_utf8_acceptRanges {H : Type} : DataW H := .agg [.agg [.lit (.int .u8 128), .lit (.int .u8 191)], .agg [.lit (.int .u8 160), .lit (.int .u8 191)], .agg [.lit (.int .u8 128), .lit (.int .u8 159)], .agg [.lit (.int .u8 144), .lit (.int .u8 191)], .agg [.lit (.int .u8 128), .lit (.int .u8 143)], .agg [.lit (.int .u8 0), .lit (.int .u8 0)], .agg [.lit (.int .u8 0), .lit (.int .u8 0)], .agg [.lit (.int .u8 0), .lit (.int .u8 0)], .agg [.lit (.int .u8 0), .lit (.int .u8 0)], .agg [.lit (.int .u8 0), .lit (.int .u8 0)], .agg [.lit (.int .u8 0), .lit (.int .u8 0)], .agg [.lit (.int .u8 0), .lit (.int .u8 0)], .agg [.lit (.int .u8 0), .lit (.int .u8 0)], .agg [.lit (.int .u8 0), .lit (.int .u8 0)], .agg [.lit (.int .u8 0), .lit (.int .u8 0)], .agg [.lit (.int .u8 0), .lit (.int .u8 0)]]
/-- One of Go's own tables, pinned by name: the form's constant. -/
def laid_unicode_utf8_first : DataW Unit := Go.Pinned.utf8First

/-- 'variantproxylaw11.LanguageTags': WHATEVER THE INPUT: true; the input reads as it did. -/
def languageTagsSpec : ChangeSpec := { name := "languageTags", fn := fun _ => fun
  | [d] => { results := [.lit (.bool true)], args := [d] }
  | _ => none }
def languageTagsRow : OpenClaim := { program := "ytfkgjjoejcbdnaadoor", sum := "76f5b014c574ced7f6cf81bac41eb3184f8b007ef7acbaf78f6fbd070b23061a", func := "variantproxy/variantproxylaw11.LanguageTags", spec := "languageTags", inPlace := ["internal/bytealg.CountString", "internal/bytealg.IndexByteString", "internal/bytealg.IndexString"], named := ["unicode/utf8.first", "unicode/utf8.acceptRanges", "internal/bytealg.MaxLen"], apart := false, laid := [("unicode/utf8.acceptRanges", laid_unicode_utf8_acceptRanges), ("unicode/utf8.first", laid_unicode_utf8_first)] }
def LanguageTagsSaid : Prop := languageTagsRow.holds Tryd.pinned (OpenSpec.ofChange languageTagsSpec)

/-- ITS FALSE NEIGHBOUR: 'it returns false'. Refute it at one input. -/
def languageTagsWrong : ChangeSpec := { name := "languageTags", fn := fun _ => fun
  | [d] => { results := [.lit (.bool false)], args := [d] }
  | _ => none }
def LanguageTagsWrongFalsely : Prop := languageTagsRow.holds Tryd.pinned (OpenSpec.ofChange languageTagsWrong)

/-- 'variantproxylaw11.LanguageMatches': WHATEVER THE INPUT: true; the input reads as it did. -/
def languageMatchesSpec : ChangeSpec := { name := "languageMatches", fn := fun _ => fun
  | [d1, d2] => { results := [.lit (.bool true)], args := [d1, d2] }
  | _ => none }
def languageMatchesRow : OpenClaim := { program := "ytfkgjjoejcbdnaadoor", sum := "76f5b014c574ced7f6cf81bac41eb3184f8b007ef7acbaf78f6fbd070b23061a", func := "variantproxy/variantproxylaw11.LanguageMatches", spec := "languageMatches", inPlace := ["internal/bytealg.CountString", "internal/bytealg.IndexByteString", "internal/bytealg.IndexString"], named := ["unicode/utf8.first", "unicode/utf8.acceptRanges", "internal/bytealg.MaxLen"], apart := false, laid := [("unicode/utf8.acceptRanges", laid_unicode_utf8_acceptRanges), ("unicode/utf8.first", laid_unicode_utf8_first)] }
def LanguageMatchesSaid : Prop := languageMatchesRow.holds Tryd.pinned (OpenSpec.ofChange languageMatchesSpec)

/-- ITS FALSE NEIGHBOUR: 'it returns false'. Refute it at one input. -/
def languageMatchesWrong : ChangeSpec := { name := "languageMatches", fn := fun _ => fun
  | [d1, d2] => { results := [.lit (.bool false)], args := [d1, d2] }
  | _ => none }
def LanguageMatchesWrongFalsely : Prop := languageMatchesRow.holds Tryd.pinned (OpenSpec.ofChange languageMatchesWrong)

/-- 'variantproxylaw11.LanguageCases': WHATEVER THE INPUT: true; the input reads as it did. -/
def languageCasesSpec : ChangeSpec := { name := "languageCases", fn := fun _ => fun
  | [d1, d2] => { results := [.lit (.bool true)], args := [d1, d2] }
  | _ => none }
def languageCasesRow : OpenClaim := { program := "ytfkgjjoejcbdnaadoor", sum := "76f5b014c574ced7f6cf81bac41eb3184f8b007ef7acbaf78f6fbd070b23061a", func := "variantproxy/variantproxylaw11.LanguageCases", spec := "languageCases", inPlace := ["internal/bytealg.CountString", "internal/bytealg.IndexByteString", "internal/bytealg.IndexString"], named := ["unicode/utf8.first", "unicode/utf8.acceptRanges", "internal/bytealg.MaxLen"], apart := false, laid := [("unicode/utf8.acceptRanges", laid_unicode_utf8_acceptRanges), ("unicode/utf8.first", laid_unicode_utf8_first)] }
def LanguageCasesSaid : Prop := languageCasesRow.holds Tryd.pinned (OpenSpec.ofChange languageCasesSpec)

/-- ITS FALSE NEIGHBOUR: 'it returns false'. Refute it at one input. -/
def languageCasesWrong : ChangeSpec := { name := "languageCases", fn := fun _ => fun
  | [d1, d2] => { results := [.lit (.bool false)], args := [d1, d2] }
  | _ => none }
def LanguageCasesWrongFalsely : Prop := languageCasesRow.holds Tryd.pinned (OpenSpec.ofChange languageCasesWrong)

/-- 'variantproxylaw11.LanguageFound': WHATEVER THE INPUT: true; the input reads as it did. -/
def languageFoundSpec : ChangeSpec := { name := "languageFound", fn := fun _ => fun
  | [d1, d2] => { results := [.lit (.bool true)], args := [d1, d2] }
  | _ => none }
def languageFoundRow : OpenClaim := { program := "ytfkgjjoejcbdnaadoor", sum := "76f5b014c574ced7f6cf81bac41eb3184f8b007ef7acbaf78f6fbd070b23061a", func := "variantproxy/variantproxylaw11.LanguageFound", spec := "languageFound", inPlace := ["internal/bytealg.CountString", "internal/bytealg.IndexByteString", "internal/bytealg.IndexString"], named := ["unicode/utf8.first", "unicode/utf8.acceptRanges", "internal/bytealg.MaxLen"], apart := false, laid := [("unicode/utf8.acceptRanges", laid_unicode_utf8_acceptRanges), ("unicode/utf8.first", laid_unicode_utf8_first)] }
def LanguageFoundSaid : Prop := languageFoundRow.holds Tryd.pinned (OpenSpec.ofChange languageFoundSpec)

/-- ITS FALSE NEIGHBOUR: 'it returns false'. Refute it at one input. -/
def languageFoundWrong : ChangeSpec := { name := "languageFound", fn := fun _ => fun
  | [d1, d2] => { results := [.lit (.bool false)], args := [d1, d2] }
  | _ => none }
def LanguageFoundWrongFalsely : Prop := languageFoundRow.holds Tryd.pinned (OpenSpec.ofChange languageFoundWrong)

/-- 'variantproxylaw11.LanguageSelects': WHATEVER THE INPUT: true; the input reads as it did. -/
def languageSelectsSpec : ChangeSpec := { name := "languageSelects", fn := fun _ => fun
  | [d1, d2, d3] => { results := [.lit (.bool true)], args := [d1, d2, d3] }
  | _ => none }
def languageSelectsRow : OpenClaim := { program := "ytfkgjjoejcbdnaadoor", sum := "76f5b014c574ced7f6cf81bac41eb3184f8b007ef7acbaf78f6fbd070b23061a", func := "variantproxy/variantproxylaw11.LanguageSelects", spec := "languageSelects", inPlace := ["internal/bytealg.CountString", "internal/bytealg.IndexByteString", "internal/bytealg.IndexString"], named := ["unicode/utf8.first", "unicode/utf8.acceptRanges", "internal/bytealg.MaxLen"], apart := false, laid := [("unicode/utf8.acceptRanges", laid_unicode_utf8_acceptRanges), ("unicode/utf8.first", laid_unicode_utf8_first)] }
def LanguageSelectsSaid : Prop := languageSelectsRow.holds Tryd.pinned (OpenSpec.ofChange languageSelectsSpec)

/-- ITS FALSE NEIGHBOUR: 'it returns false'. Refute it at one input. -/
def languageSelectsWrong : ChangeSpec := { name := "languageSelects", fn := fun _ => fun
  | [d1, d2, d3] => { results := [.lit (.bool false)], args := [d1, d2, d3] }
  | _ => none }
def LanguageSelectsWrongFalsely : Prop := languageSelectsRow.holds Tryd.pinned (OpenSpec.ofChange languageSelectsWrong)

/-- 'variantproxylaw11.LanguageFilters': WHATEVER THE INPUT: true; the input reads as it did. -/
def languageFiltersSpec : ChangeSpec := { name := "languageFilters", fn := fun _ => fun
  | [d1, d2] => { results := [.lit (.bool true)], args := [d1, d2] }
  | _ => none }
def languageFiltersRow : OpenClaim := { program := "ytfkgjjoejcbdnaadoor", sum := "76f5b014c574ced7f6cf81bac41eb3184f8b007ef7acbaf78f6fbd070b23061a", func := "variantproxy/variantproxylaw11.LanguageFilters", spec := "languageFilters", inPlace := ["internal/bytealg.CountString", "internal/bytealg.IndexByteString", "internal/bytealg.IndexString"], named := ["unicode/utf8.first", "unicode/utf8.acceptRanges", "internal/bytealg.MaxLen"], apart := false, laid := [("unicode/utf8.acceptRanges", laid_unicode_utf8_acceptRanges), ("unicode/utf8.first", laid_unicode_utf8_first)] }
def LanguageFiltersSaid : Prop := languageFiltersRow.holds Tryd.pinned (OpenSpec.ofChange languageFiltersSpec)

/-- ITS FALSE NEIGHBOUR: 'it returns false'. Refute it at one input. -/
def languageFiltersWrong : ChangeSpec := { name := "languageFilters", fn := fun _ => fun
  | [d1, d2] => { results := [.lit (.bool false)], args := [d1, d2] }
  | _ => none }
def LanguageFiltersWrongFalsely : Prop := languageFiltersRow.holds Tryd.pinned (OpenSpec.ofChange languageFiltersWrong)

/- THE SECOND FORM. 'bulk': how many values and letters a reading holds, each counted each time it is reached (what is shared counts as often as it is met; a slice's spare places count too). A statement '..UptoSaid' is the law's where the arguments, and the package variables that the reading takes, are together of bulk at most 1048576: NARROWER than '..Said'. Prove '..Said' where nothing that the law and all that it calls make is longer than what came in: it says more and counts as full. Else prove '..UptoSaid'. A law counts once. -/
mutual
def uptoBulk {H : Type} : DataW H → Nat
  | .lit (.string bytes) => bytes.length + 1
  | .lit _ => 1
  | .nil => 1
  | .ptr d => uptoBulk d + 1
  | .slice elems spare => uptoBulkAll elems + uptoBulkAll spare + 1
  | .agg parts => uptoBulkAll parts + 1
  | .iface _ d => uptoBulk d + 1
  | .map entries => uptoBulkEntries entries + 1
  | .held _ => 1
def uptoBulkAll {H : Type} : List (DataW H) → Nat
  | [] => 0
  | d :: r => uptoBulk d + uptoBulkAll r
def uptoBulkEntries {H : Type} : List (Lit × DataW H) → Nat
  | [] => 0
  | x :: r => uptoBulkEntry x + uptoBulkEntries r
def uptoBulkEntry {H : Type} : Lit × DataW H → Nat
  | (.string bytes, d) => bytes.length + uptoBulk d + 1
  | (_, d) => uptoBulk d + 1
 end
def uptoSmall : (H : Type) → List (DataW H) → Bool := fun _ ds => decide (uptoBulkAll ds ≤ 1048576)
def OpenSpec.upto (s : _root_.Go.ChangeSpec) : _root_.Go.OpenSpec := { _root_.Go.OpenSpec.ofChange s with cond := some uptoSmall }

/-- 'variantproxylaw11.LanguageTags', WHERE WHAT IT READS IS OF BULK AT MOST 1048576: true; the input reads as it did. -/
def languageTagsUptoRow : OpenClaim := { program := "ytfkgjjoejcbdnaadoor", sum := "76f5b014c574ced7f6cf81bac41eb3184f8b007ef7acbaf78f6fbd070b23061a", func := "variantproxy/variantproxylaw11.LanguageTags", spec := "languageTags", inPlace := ["internal/bytealg.CountString", "internal/bytealg.IndexByteString", "internal/bytealg.IndexString"], named := ["unicode/utf8.first", "unicode/utf8.acceptRanges", "internal/bytealg.MaxLen"], apart := false, laid := [("unicode/utf8.acceptRanges", laid_unicode_utf8_acceptRanges), ("unicode/utf8.first", laid_unicode_utf8_first)], narrowed := true }
def LanguageTagsUptoSaid : Prop := languageTagsUptoRow.holds Tryd.pinned (OpenSpec.upto languageTagsSpec)

/-- 'variantproxylaw11.LanguageMatches', WHERE WHAT IT READS IS OF BULK AT MOST 1048576: true; the input reads as it did. -/
def languageMatchesUptoRow : OpenClaim := { program := "ytfkgjjoejcbdnaadoor", sum := "76f5b014c574ced7f6cf81bac41eb3184f8b007ef7acbaf78f6fbd070b23061a", func := "variantproxy/variantproxylaw11.LanguageMatches", spec := "languageMatches", inPlace := ["internal/bytealg.CountString", "internal/bytealg.IndexByteString", "internal/bytealg.IndexString"], named := ["unicode/utf8.first", "unicode/utf8.acceptRanges", "internal/bytealg.MaxLen"], apart := false, laid := [("unicode/utf8.acceptRanges", laid_unicode_utf8_acceptRanges), ("unicode/utf8.first", laid_unicode_utf8_first)], narrowed := true }
def LanguageMatchesUptoSaid : Prop := languageMatchesUptoRow.holds Tryd.pinned (OpenSpec.upto languageMatchesSpec)

/-- 'variantproxylaw11.LanguageCases', WHERE WHAT IT READS IS OF BULK AT MOST 1048576: true; the input reads as it did. -/
def languageCasesUptoRow : OpenClaim := { program := "ytfkgjjoejcbdnaadoor", sum := "76f5b014c574ced7f6cf81bac41eb3184f8b007ef7acbaf78f6fbd070b23061a", func := "variantproxy/variantproxylaw11.LanguageCases", spec := "languageCases", inPlace := ["internal/bytealg.CountString", "internal/bytealg.IndexByteString", "internal/bytealg.IndexString"], named := ["unicode/utf8.first", "unicode/utf8.acceptRanges", "internal/bytealg.MaxLen"], apart := false, laid := [("unicode/utf8.acceptRanges", laid_unicode_utf8_acceptRanges), ("unicode/utf8.first", laid_unicode_utf8_first)], narrowed := true }
def LanguageCasesUptoSaid : Prop := languageCasesUptoRow.holds Tryd.pinned (OpenSpec.upto languageCasesSpec)

/-- 'variantproxylaw11.LanguageFound', WHERE WHAT IT READS IS OF BULK AT MOST 1048576: true; the input reads as it did. -/
def languageFoundUptoRow : OpenClaim := { program := "ytfkgjjoejcbdnaadoor", sum := "76f5b014c574ced7f6cf81bac41eb3184f8b007ef7acbaf78f6fbd070b23061a", func := "variantproxy/variantproxylaw11.LanguageFound", spec := "languageFound", inPlace := ["internal/bytealg.CountString", "internal/bytealg.IndexByteString", "internal/bytealg.IndexString"], named := ["unicode/utf8.first", "unicode/utf8.acceptRanges", "internal/bytealg.MaxLen"], apart := false, laid := [("unicode/utf8.acceptRanges", laid_unicode_utf8_acceptRanges), ("unicode/utf8.first", laid_unicode_utf8_first)], narrowed := true }
def LanguageFoundUptoSaid : Prop := languageFoundUptoRow.holds Tryd.pinned (OpenSpec.upto languageFoundSpec)

/-- 'variantproxylaw11.LanguageSelects', WHERE WHAT IT READS IS OF BULK AT MOST 1048576: true; the input reads as it did. -/
def languageSelectsUptoRow : OpenClaim := { program := "ytfkgjjoejcbdnaadoor", sum := "76f5b014c574ced7f6cf81bac41eb3184f8b007ef7acbaf78f6fbd070b23061a", func := "variantproxy/variantproxylaw11.LanguageSelects", spec := "languageSelects", inPlace := ["internal/bytealg.CountString", "internal/bytealg.IndexByteString", "internal/bytealg.IndexString"], named := ["unicode/utf8.first", "unicode/utf8.acceptRanges", "internal/bytealg.MaxLen"], apart := false, laid := [("unicode/utf8.acceptRanges", laid_unicode_utf8_acceptRanges), ("unicode/utf8.first", laid_unicode_utf8_first)], narrowed := true }
def LanguageSelectsUptoSaid : Prop := languageSelectsUptoRow.holds Tryd.pinned (OpenSpec.upto languageSelectsSpec)

/-- 'variantproxylaw11.LanguageFilters', WHERE WHAT IT READS IS OF BULK AT MOST 1048576: true; the input reads as it did. -/
def languageFiltersUptoRow : OpenClaim := { program := "ytfkgjjoejcbdnaadoor", sum := "76f5b014c574ced7f6cf81bac41eb3184f8b007ef7acbaf78f6fbd070b23061a", func := "variantproxy/variantproxylaw11.LanguageFilters", spec := "languageFilters", inPlace := ["internal/bytealg.CountString", "internal/bytealg.IndexByteString", "internal/bytealg.IndexString"], named := ["unicode/utf8.first", "unicode/utf8.acceptRanges", "internal/bytealg.MaxLen"], apart := false, laid := [("unicode/utf8.acceptRanges", laid_unicode_utf8_acceptRanges), ("unicode/utf8.first", laid_unicode_utf8_first)], narrowed := true }
def LanguageFiltersUptoSaid : Prop := languageFiltersUptoRow.holds Tryd.pinned (OpenSpec.upto languageFiltersSpec)

end Rows
end Go.Proofs.YtfkgjjoejcbdnaaDoor
