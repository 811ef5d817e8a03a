/-
  NARROWER THAN 'FOR EVERY INPUT', by the rows' own cells (each row's printed sentence says how): HopStrips: laid · HopOnce: laid · HopNamed: laid · UpdateKeeps: laid · UpdateRefreshes: laid · ConditionConfirms: laid · ConditionAnswers: laid · ConditionCleans: laid.
  DERIVED. THE GIVEN ROWS OF THIS SEAT. 8 by the template 'for every input the law returns true; each argument reads behind the call as it read before'; 0 by the template 'total and deterministic' (their statements: YtlcchcbeebakpaaDoorTotals.lean).
  GIVEN WITH THE SEED: the statements are not yours to turn. If you find one false, say at which input.
  Laid BY PROGRAM, IN A SANDBOX (cutbox-rows.mjs): the forced cells as the released guide's own fill.sh prints them over the translation 0ee60ff15a5c4ae0… (all of the seat's roots in one cut). By AI agents, Wed Nov 11 2026. No macro, syntax, notation, axiom, sorry.
-/
import Derived.Test.YtlcchcbeebakpaaDoorChecked
import GoSem.PinnedTables
import GoSem.Claim
import GoSem.ClaimJoined
import GoSem.ClaimMapViews
import Derived.JoinedTies
import Derived.KernelRfl
namespace Go.Proofs.YtlcchcbeebakpaaDoor
/- THE CELL 'sum', in the pinned program and in every row, IS THE sha256 OF THE DUMP (.gsa) THAT YtlcchcbeebakpaaDoorProg.lean LOADS. Nothing in Lean hashes anything: it is a label: what it is worth is what the hold of that sum in a sandbox is worth. -/
noncomputable def Tryd.pinned : Pinned := { name := "ytlcchcbeebakpaadoor", sum := "0ee60ff15a5c4ae0afcafaa3b5c0ff7142cac5a7f029c77e31db861874e30f43", checked := Tryd.checked }
namespace Rows
def none {H : Type} : Left H := { results := [], args := [] }

/- WHAT THE LISTED PACKAGE-LEVEL VARIABLES READ AS WHEN THE CALL BEGINS. Each datum BY PROGRAM (the guide's laid-datum.mjs) off the statement by which the dump's own 'gosem.cut.vars' lays the variable. In a bare row this is a premise. The card (YtlcchcbeebakpaaDoorCards.lean) ties it to the program's text. -/
def laid_math_bits_deBruijn32tab {H : Type} : DataW H := .agg [.lit (.int .u8 0), .lit (.int .u8 1), .lit (.int .u8 28), .lit (.int .u8 2), .lit (.int .u8 29), .lit (.int .u8 14), .lit (.int .u8 24), .lit (.int .u8 3), .lit (.int .u8 30), .lit (.int .u8 22), .lit (.int .u8 20), .lit (.int .u8 15), .lit (.int .u8 25), .lit (.int .u8 17), .lit (.int .u8 4), .lit (.int .u8 8), .lit (.int .u8 31), .lit (.int .u8 27), .lit (.int .u8 13), .lit (.int .u8 23), .lit (.int .u8 21), .lit (.int .u8 19), .lit (.int .u8 16), .lit (.int .u8 7), .lit (.int .u8 26), .lit (.int .u8 12), .lit (.int .u8 18), .lit (.int .u8 6), .lit (.int .u8 11), .lit (.int .u8 5), .lit (.int .u8 10), .lit (.int .u8 9)]
def laid_math_bits_deBruijn64tab {H : Type} : DataW H := .agg [.lit (.int .u8 0), .lit (.int .u8 1), .lit (.int .u8 56), .lit (.int .u8 2), .lit (.int .u8 57), .lit (.int .u8 49), .lit (.int .u8 28), .lit (.int .u8 3), .lit (.int .u8 61), .lit (.int .u8 58), .lit (.int .u8 42), .lit (.int .u8 50), .lit (.int .u8 38), .lit (.int .u8 29), .lit (.int .u8 17), .lit (.int .u8 4), .lit (.int .u8 62), .lit (.int .u8 47), .lit (.int .u8 59), .lit (.int .u8 36), .lit (.int .u8 45), .lit (.int .u8 43), .lit (.int .u8 51), .lit (.int .u8 22), .lit (.int .u8 53), .lit (.int .u8 39), .lit (.int .u8 33), .lit (.int .u8 30), .lit (.int .u8 24), .lit (.int .u8 18), .lit (.int .u8 12), .lit (.int .u8 5), .lit (.int .u8 63), .lit (.int .u8 55), .lit (.int .u8 48), .lit (.int .u8 27), .lit (.int .u8 60), .lit (.int .u8 41), .lit (.int .u8 37), .lit (.int .u8 16), .lit (.int .u8 46), .lit (.int .u8 35), .lit (.int .u8 44), .lit (.int .u8 21), .lit (.int .u8 52), .lit (.int .u8 32), .lit (.int .u8 23), .lit (.int .u8 11), .lit (.int .u8 54), .lit (.int .u8 26), .lit (.int .u8 40), .lit (.int .u8 15), .lit (.int .u8 34), .lit (.int .u8 20), .lit (.int .u8 31), .lit (.int .u8 10), .lit (.int .u8 25), .lit (.int .u8 14), .lit (.int .u8 19), .lit (.int .u8 9), .lit (.int .u8 13), .lit (.int .u8 8), .lit (.int .u8 7), .lit (.int .u8 6)]
def laid_internal_strconv_uint64pow10 {H : Type} : DataW H := .agg [.lit (.int .u64 1), .lit (.int .u64 10), .lit (.int .u64 100), .lit (.int .u64 1000), .lit (.int .u64 10000), .lit (.int .u64 100000), .lit (.int .u64 1000000), .lit (.int .u64 10000000), .lit (.int .u64 100000000), .lit (.int .u64 1000000000), .lit (.int .u64 10000000000), .lit (.int .u64 100000000000), .lit (.int .u64 1000000000000), .lit (.int .u64 10000000000000), .lit (.int .u64 100000000000000), .lit (.int .u64 1000000000000000), .lit (.int .u64 10000000000000000), .lit (.int .u64 100000000000000000), .lit (.int .u64 1000000000000000000), .lit (.int .u64 10000000000000000000)]
def laid_unicode_utf8_acceptRanges {H : Type} : DataW H := .agg [.agg [.lit (.int .u8 128), .lit (.int .u8 191)], .agg [.lit (.int .u8 160), .lit (.int .u8 191)], .agg [.lit (.int .u8 128), .lit (.int .u8 159)], .agg [.lit (.int .u8 144), .lit (.int .u8 191)], .agg [.lit (.int .u8 128), .lit (.int .u8 143)], .agg [.lit (.int .u8 0), .lit (.int .u8 0)], .agg [.lit (.int .u8 0), .lit (.int .u8 0)], .agg [.lit (.int .u8 0), .lit (.int .u8 0)], .agg [.lit (.int .u8 0), .lit (.int .u8 0)], .agg [.lit (.int .u8 0), .lit (.int .u8 0)], .agg [.lit (.int .u8 0), .lit (.int .u8 0)], .agg [.lit (.int .u8 0), .lit (.int .u8 0)], .agg [.lit (.int .u8 0), .lit (.int .u8 0)], .agg [.lit (.int .u8 0), .lit (.int .u8 0)], .agg [.lit (.int .u8 0), .lit (.int .u8 0)], .agg [.lit (.int .u8 0), .lit (.int .u8 0)]]
/-- One of Go's own tables, pinned by name: the form's constant. -/
def laid_unicode_utf8_first : DataW Unit := Go.Pinned.utf8First

/-- 'variantproxylaw25.HopStrips': WHATEVER THE INPUT: true; the input reads as it did. -/
def hopStripsSpec : ChangeSpec := { name := "hopStrips", fn := fun _ => fun
  | [d1, d2, d3] => { results := [.lit (.bool true)], args := [d1, d2, d3] }
  | _ => none }
def hopStripsRow : OpenClaim := { program := "ytlcchcbeebakpaadoor", sum := "0ee60ff15a5c4ae0afcafaa3b5c0ff7142cac5a7f029c77e31db861874e30f43", func := "variantproxy/variantproxylaw25.HopStrips", spec := "hopStrips", inPlace := ["internal/bytealg.IndexByteString", "internal/bytealg.IndexString"], unfollowed := true, recurses := true, named := ["unicode/utf8.first", "unicode/utf8.acceptRanges", "internal/bytealg.MaxLen", "internal/strconv.uint64pow10", "math/bits.deBruijn32tab", "math/bits.deBruijn64tab"], apart := false, laid := [("math/bits.deBruijn32tab", laid_math_bits_deBruijn32tab), ("math/bits.deBruijn64tab", laid_math_bits_deBruijn64tab), ("internal/strconv.uint64pow10", laid_internal_strconv_uint64pow10), ("unicode/utf8.acceptRanges", laid_unicode_utf8_acceptRanges), ("unicode/utf8.first", laid_unicode_utf8_first)] }
def HopStripsSaid : Prop := hopStripsRow.holds Tryd.pinned (OpenSpec.ofChange hopStripsSpec)

/-- ITS FALSE NEIGHBOUR: 'it returns false'. Refute it at one input. -/
def hopStripsWrong : ChangeSpec := { name := "hopStrips", fn := fun _ => fun
  | [d1, d2, d3] => { results := [.lit (.bool false)], args := [d1, d2, d3] }
  | _ => none }
def HopStripsWrongFalsely : Prop := hopStripsRow.holds Tryd.pinned (OpenSpec.ofChange hopStripsWrong)

/-- 'variantproxylaw25.HopOnce': WHATEVER THE INPUT: true; the input reads as it did. -/
def hopOnceSpec : ChangeSpec := { name := "hopOnce", fn := fun _ => fun
  | [d] => { results := [.lit (.bool true)], args := [d] }
  | _ => none }
def hopOnceRow : OpenClaim := { program := "ytlcchcbeebakpaadoor", sum := "0ee60ff15a5c4ae0afcafaa3b5c0ff7142cac5a7f029c77e31db861874e30f43", func := "variantproxy/variantproxylaw25.HopOnce", spec := "hopOnce", inPlace := ["internal/bytealg.IndexByteString", "internal/bytealg.IndexString"], unfollowed := true, recurses := true, named := ["unicode/utf8.first", "unicode/utf8.acceptRanges", "internal/bytealg.MaxLen", "internal/strconv.uint64pow10", "math/bits.deBruijn32tab", "math/bits.deBruijn64tab"], apart := false, laid := [("math/bits.deBruijn32tab", laid_math_bits_deBruijn32tab), ("math/bits.deBruijn64tab", laid_math_bits_deBruijn64tab), ("internal/strconv.uint64pow10", laid_internal_strconv_uint64pow10), ("unicode/utf8.acceptRanges", laid_unicode_utf8_acceptRanges), ("unicode/utf8.first", laid_unicode_utf8_first)] }
def HopOnceSaid : Prop := hopOnceRow.holds Tryd.pinned (OpenSpec.ofChange hopOnceSpec)

/-- ITS FALSE NEIGHBOUR: 'it returns false'. Refute it at one input. -/
def hopOnceWrong : ChangeSpec := { name := "hopOnce", fn := fun _ => fun
  | [d] => { results := [.lit (.bool false)], args := [d] }
  | _ => none }
def HopOnceWrongFalsely : Prop := hopOnceRow.holds Tryd.pinned (OpenSpec.ofChange hopOnceWrong)

/-- 'variantproxylaw25.HopNamed': WHATEVER THE INPUT: true; the input reads as it did. -/
def hopNamedSpec : ChangeSpec := { name := "hopNamed", fn := fun _ => fun
  | [d1, d2, d3] => { results := [.lit (.bool true)], args := [d1, d2, d3] }
  | _ => none }
def hopNamedRow : OpenClaim := { program := "ytlcchcbeebakpaadoor", sum := "0ee60ff15a5c4ae0afcafaa3b5c0ff7142cac5a7f029c77e31db861874e30f43", func := "variantproxy/variantproxylaw25.HopNamed", spec := "hopNamed", inPlace := ["internal/bytealg.IndexByteString", "internal/bytealg.IndexString"], unfollowed := true, recurses := true, named := ["unicode/utf8.first", "unicode/utf8.acceptRanges", "internal/bytealg.MaxLen", "internal/strconv.uint64pow10", "math/bits.deBruijn32tab", "math/bits.deBruijn64tab"], apart := false, laid := [("math/bits.deBruijn32tab", laid_math_bits_deBruijn32tab), ("math/bits.deBruijn64tab", laid_math_bits_deBruijn64tab), ("internal/strconv.uint64pow10", laid_internal_strconv_uint64pow10), ("unicode/utf8.acceptRanges", laid_unicode_utf8_acceptRanges), ("unicode/utf8.first", laid_unicode_utf8_first)] }
def HopNamedSaid : Prop := hopNamedRow.holds Tryd.pinned (OpenSpec.ofChange hopNamedSpec)

/-- ITS FALSE NEIGHBOUR: 'it returns false'. Refute it at one input. -/
def hopNamedWrong : ChangeSpec := { name := "hopNamed", fn := fun _ => fun
  | [d1, d2, d3] => { results := [.lit (.bool false)], args := [d1, d2, d3] }
  | _ => none }
def HopNamedWrongFalsely : Prop := hopNamedRow.holds Tryd.pinned (OpenSpec.ofChange hopNamedWrong)

/-- 'variantproxylaw29.UpdateKeeps': WHATEVER THE INPUT: true; the input reads as it did. -/
def updateKeepsSpec : ChangeSpec := { name := "updateKeeps", fn := fun _ => fun
  | [d1, d2, d3, d4, d5] => { results := [.lit (.bool true)], args := [d1, d2, d3, d4, d5] }
  | _ => none }
def updateKeepsRow : OpenClaim := { program := "ytlcchcbeebakpaadoor", sum := "0ee60ff15a5c4ae0afcafaa3b5c0ff7142cac5a7f029c77e31db861874e30f43", func := "variantproxy/variantproxylaw29.UpdateKeeps", spec := "updateKeeps", inPlace := ["internal/bytealg.IndexByteString", "internal/bytealg.IndexString"], unfollowed := true, recurses := true, named := ["unicode/utf8.first", "unicode/utf8.acceptRanges", "internal/bytealg.MaxLen"], apart := false, laid := [("unicode/utf8.acceptRanges", laid_unicode_utf8_acceptRanges), ("unicode/utf8.first", laid_unicode_utf8_first)] }
def UpdateKeepsSaid : Prop := updateKeepsRow.holds Tryd.pinned (OpenSpec.ofChange updateKeepsSpec)

/-- ITS FALSE NEIGHBOUR: 'it returns false'. Refute it at one input. -/
def updateKeepsWrong : ChangeSpec := { name := "updateKeeps", fn := fun _ => fun
  | [d1, d2, d3, d4, d5] => { results := [.lit (.bool false)], args := [d1, d2, d3, d4, d5] }
  | _ => none }
def UpdateKeepsWrongFalsely : Prop := updateKeepsRow.holds Tryd.pinned (OpenSpec.ofChange updateKeepsWrong)

/-- 'variantproxylaw29.UpdateRefreshes': WHATEVER THE INPUT: true; the input reads as it did. -/
def updateRefreshesSpec : ChangeSpec := { name := "updateRefreshes", fn := fun _ => fun
  | [d1, d2, d3, d4] => { results := [.lit (.bool true)], args := [d1, d2, d3, d4] }
  | _ => none }
def updateRefreshesRow : OpenClaim := { program := "ytlcchcbeebakpaadoor", sum := "0ee60ff15a5c4ae0afcafaa3b5c0ff7142cac5a7f029c77e31db861874e30f43", func := "variantproxy/variantproxylaw29.UpdateRefreshes", spec := "updateRefreshes", inPlace := ["internal/bytealg.IndexByteString", "internal/bytealg.IndexString"], unfollowed := true, recurses := true, named := ["unicode/utf8.first", "unicode/utf8.acceptRanges", "internal/bytealg.MaxLen"], apart := false, laid := [("unicode/utf8.acceptRanges", laid_unicode_utf8_acceptRanges), ("unicode/utf8.first", laid_unicode_utf8_first)] }
def UpdateRefreshesSaid : Prop := updateRefreshesRow.holds Tryd.pinned (OpenSpec.ofChange updateRefreshesSpec)

/-- ITS FALSE NEIGHBOUR: 'it returns false'. Refute it at one input. -/
def updateRefreshesWrong : ChangeSpec := { name := "updateRefreshes", fn := fun _ => fun
  | [d1, d2, d3, d4] => { results := [.lit (.bool false)], args := [d1, d2, d3, d4] }
  | _ => none }
def UpdateRefreshesWrongFalsely : Prop := updateRefreshesRow.holds Tryd.pinned (OpenSpec.ofChange updateRefreshesWrong)

/-- 'variantproxylaw31.ConditionConfirms': WHATEVER THE INPUT: true; the input reads as it did. -/
def conditionConfirmsSpec : ChangeSpec := { name := "conditionConfirms", fn := fun _ => fun
  | [d1, d2] => { results := [.lit (.bool true)], args := [d1, d2] }
  | _ => none }
def conditionConfirmsRow : OpenClaim := { program := "ytlcchcbeebakpaadoor", sum := "0ee60ff15a5c4ae0afcafaa3b5c0ff7142cac5a7f029c77e31db861874e30f43", func := "variantproxy/variantproxylaw31.ConditionConfirms", spec := "conditionConfirms", inPlace := ["internal/bytealg.IndexByteString", "internal/bytealg.IndexString"], unfollowed := true, recurses := true, named := ["unicode/utf8.first", "unicode/utf8.acceptRanges", "internal/bytealg.MaxLen"], apart := false, laid := [("unicode/utf8.acceptRanges", laid_unicode_utf8_acceptRanges), ("unicode/utf8.first", laid_unicode_utf8_first)] }
def ConditionConfirmsSaid : Prop := conditionConfirmsRow.holds Tryd.pinned (OpenSpec.ofChange conditionConfirmsSpec)

/-- ITS FALSE NEIGHBOUR: 'it returns false'. Refute it at one input. -/
def conditionConfirmsWrong : ChangeSpec := { name := "conditionConfirms", fn := fun _ => fun
  | [d1, d2] => { results := [.lit (.bool false)], args := [d1, d2] }
  | _ => none }
def ConditionConfirmsWrongFalsely : Prop := conditionConfirmsRow.holds Tryd.pinned (OpenSpec.ofChange conditionConfirmsWrong)

/-- 'variantproxylaw31.ConditionAnswers': WHATEVER THE INPUT: true; the input reads as it did. -/
def conditionAnswersSpec : ChangeSpec := { name := "conditionAnswers", fn := fun _ => fun
  | [d1, d2] => { results := [.lit (.bool true)], args := [d1, d2] }
  | _ => none }
def conditionAnswersRow : OpenClaim := { program := "ytlcchcbeebakpaadoor", sum := "0ee60ff15a5c4ae0afcafaa3b5c0ff7142cac5a7f029c77e31db861874e30f43", func := "variantproxy/variantproxylaw31.ConditionAnswers", spec := "conditionAnswers", inPlace := ["internal/bytealg.IndexByteString", "internal/bytealg.IndexString"], unfollowed := true, recurses := true, named := ["unicode/utf8.first", "unicode/utf8.acceptRanges", "internal/bytealg.MaxLen"], apart := false, laid := [("unicode/utf8.acceptRanges", laid_unicode_utf8_acceptRanges), ("unicode/utf8.first", laid_unicode_utf8_first)] }
def ConditionAnswersSaid : Prop := conditionAnswersRow.holds Tryd.pinned (OpenSpec.ofChange conditionAnswersSpec)

/-- ITS FALSE NEIGHBOUR: 'it returns false'. Refute it at one input. -/
def conditionAnswersWrong : ChangeSpec := { name := "conditionAnswers", fn := fun _ => fun
  | [d1, d2] => { results := [.lit (.bool false)], args := [d1, d2] }
  | _ => none }
def ConditionAnswersWrongFalsely : Prop := conditionAnswersRow.holds Tryd.pinned (OpenSpec.ofChange conditionAnswersWrong)

/-- 'variantproxylaw31.ConditionCleans': WHATEVER THE INPUT: true; the input reads as it did. -/
def conditionCleansSpec : ChangeSpec := { name := "conditionCleans", fn := fun _ => fun
  | [d1, d2] => { results := [.lit (.bool true)], args := [d1, d2] }
  | _ => none }
def conditionCleansRow : OpenClaim := { program := "ytlcchcbeebakpaadoor", sum := "0ee60ff15a5c4ae0afcafaa3b5c0ff7142cac5a7f029c77e31db861874e30f43", func := "variantproxy/variantproxylaw31.ConditionCleans", spec := "conditionCleans", inPlace := ["internal/bytealg.IndexByteString", "internal/bytealg.IndexString"], unfollowed := true, recurses := true, named := ["unicode/utf8.first", "unicode/utf8.acceptRanges", "internal/bytealg.MaxLen", "internal/strconv.uint64pow10", "math/bits.deBruijn32tab", "math/bits.deBruijn64tab"], apart := false, laid := [("math/bits.deBruijn32tab", laid_math_bits_deBruijn32tab), ("math/bits.deBruijn64tab", laid_math_bits_deBruijn64tab), ("internal/strconv.uint64pow10", laid_internal_strconv_uint64pow10), ("unicode/utf8.acceptRanges", laid_unicode_utf8_acceptRanges), ("unicode/utf8.first", laid_unicode_utf8_first)] }
def ConditionCleansSaid : Prop := conditionCleansRow.holds Tryd.pinned (OpenSpec.ofChange conditionCleansSpec)

/-- ITS FALSE NEIGHBOUR: 'it returns false'. Refute it at one input. -/
def conditionCleansWrong : ChangeSpec := { name := "conditionCleans", fn := fun _ => fun
  | [d1, d2] => { results := [.lit (.bool false)], args := [d1, d2] }
  | _ => none }
def ConditionCleansWrongFalsely : Prop := conditionCleansRow.holds Tryd.pinned (OpenSpec.ofChange conditionCleansWrong)

/- THE SECOND FORM. 'bulk': how many values and letters a reading holds, each counted each time it is reached (what is shared counts as often as it is met; a slice's spare places count too). A statement '..UptoSaid' is the law's where the arguments, and the package variables that the reading takes, are together of bulk at most 1048576: NARROWER than '..Said'. Prove '..Said' where nothing that the law and all that it calls make is longer than what came in: it says more and counts as full. Else prove '..UptoSaid'. A law counts once. -/
mutual
def uptoBulk {H : Type} : DataW H → Nat
  | .lit (.string bytes) => bytes.length + 1
  | .lit _ => 1
  | .nil => 1
  | .ptr d => uptoBulk d + 1
  | .slice elems spare => uptoBulkAll elems + uptoBulkAll spare + 1
  | .agg parts => uptoBulkAll parts + 1
  | .iface _ d => uptoBulk d + 1
  | .map entries => uptoBulkEntries entries + 1
  | .held _ => 1
def uptoBulkAll {H : Type} : List (DataW H) → Nat
  | [] => 0
  | d :: r => uptoBulk d + uptoBulkAll r
def uptoBulkEntries {H : Type} : List (Lit × DataW H) → Nat
  | [] => 0
  | x :: r => uptoBulkEntry x + uptoBulkEntries r
def uptoBulkEntry {H : Type} : Lit × DataW H → Nat
  | (.string bytes, d) => bytes.length + uptoBulk d + 1
  | (_, d) => uptoBulk d + 1
 end
def uptoSmall : (H : Type) → List (DataW H) → Bool := fun _ ds => decide (uptoBulkAll ds ≤ 1048576)
def OpenSpec.upto (s : _root_.Go.ChangeSpec) : _root_.Go.OpenSpec := { _root_.Go.OpenSpec.ofChange s with cond := some uptoSmall }

/-- 'variantproxylaw25.HopStrips', WHERE WHAT IT READS IS OF BULK AT MOST 1048576: true; the input reads as it did. -/
def hopStripsUptoRow : OpenClaim := { program := "ytlcchcbeebakpaadoor", sum := "0ee60ff15a5c4ae0afcafaa3b5c0ff7142cac5a7f029c77e31db861874e30f43", func := "variantproxy/variantproxylaw25.HopStrips", spec := "hopStrips", inPlace := ["internal/bytealg.IndexByteString", "internal/bytealg.IndexString"], unfollowed := true, recurses := true, named := ["unicode/utf8.first", "unicode/utf8.acceptRanges", "internal/bytealg.MaxLen", "internal/strconv.uint64pow10", "math/bits.deBruijn32tab", "math/bits.deBruijn64tab"], apart := false, laid := [("math/bits.deBruijn32tab", laid_math_bits_deBruijn32tab), ("math/bits.deBruijn64tab", laid_math_bits_deBruijn64tab), ("internal/strconv.uint64pow10", laid_internal_strconv_uint64pow10), ("unicode/utf8.acceptRanges", laid_unicode_utf8_acceptRanges), ("unicode/utf8.first", laid_unicode_utf8_first)], narrowed := true }
def HopStripsUptoSaid : Prop := hopStripsUptoRow.holds Tryd.pinned (OpenSpec.upto hopStripsSpec)

/-- 'variantproxylaw25.HopOnce', WHERE WHAT IT READS IS OF BULK AT MOST 1048576: true; the input reads as it did. -/
def hopOnceUptoRow : OpenClaim := { program := "ytlcchcbeebakpaadoor", sum := "0ee60ff15a5c4ae0afcafaa3b5c0ff7142cac5a7f029c77e31db861874e30f43", func := "variantproxy/variantproxylaw25.HopOnce", spec := "hopOnce", inPlace := ["internal/bytealg.IndexByteString", "internal/bytealg.IndexString"], unfollowed := true, recurses := true, named := ["unicode/utf8.first", "unicode/utf8.acceptRanges", "internal/bytealg.MaxLen", "internal/strconv.uint64pow10", "math/bits.deBruijn32tab", "math/bits.deBruijn64tab"], apart := false, laid := [("math/bits.deBruijn32tab", laid_math_bits_deBruijn32tab), ("math/bits.deBruijn64tab", laid_math_bits_deBruijn64tab), ("internal/strconv.uint64pow10", laid_internal_strconv_uint64pow10), ("unicode/utf8.acceptRanges", laid_unicode_utf8_acceptRanges), ("unicode/utf8.first", laid_unicode_utf8_first)], narrowed := true }
def HopOnceUptoSaid : Prop := hopOnceUptoRow.holds Tryd.pinned (OpenSpec.upto hopOnceSpec)

/-- 'variantproxylaw25.HopNamed', WHERE WHAT IT READS IS OF BULK AT MOST 1048576: true; the input reads as it did. -/
def hopNamedUptoRow : OpenClaim := { program := "ytlcchcbeebakpaadoor", sum := "0ee60ff15a5c4ae0afcafaa3b5c0ff7142cac5a7f029c77e31db861874e30f43", func := "variantproxy/variantproxylaw25.HopNamed", spec := "hopNamed", inPlace := ["internal/bytealg.IndexByteString", "internal/bytealg.IndexString"], unfollowed := true, recurses := true, named := ["unicode/utf8.first", "unicode/utf8.acceptRanges", "internal/bytealg.MaxLen", "internal/strconv.uint64pow10", "math/bits.deBruijn32tab", "math/bits.deBruijn64tab"], apart := false, laid := [("math/bits.deBruijn32tab", laid_math_bits_deBruijn32tab), ("math/bits.deBruijn64tab", laid_math_bits_deBruijn64tab), ("internal/strconv.uint64pow10", laid_internal_strconv_uint64pow10), ("unicode/utf8.acceptRanges", laid_unicode_utf8_acceptRanges), ("unicode/utf8.first", laid_unicode_utf8_first)], narrowed := true }
def HopNamedUptoSaid : Prop := hopNamedUptoRow.holds Tryd.pinned (OpenSpec.upto hopNamedSpec)

/-- 'variantproxylaw29.UpdateKeeps', WHERE WHAT IT READS IS OF BULK AT MOST 1048576: true; the input reads as it did. -/
def updateKeepsUptoRow : OpenClaim := { program := "ytlcchcbeebakpaadoor", sum := "0ee60ff15a5c4ae0afcafaa3b5c0ff7142cac5a7f029c77e31db861874e30f43", func := "variantproxy/variantproxylaw29.UpdateKeeps", spec := "updateKeeps", inPlace := ["internal/bytealg.IndexByteString", "internal/bytealg.IndexString"], unfollowed := true, recurses := true, named := ["unicode/utf8.first", "unicode/utf8.acceptRanges", "internal/bytealg.MaxLen"], apart := false, laid := [("unicode/utf8.acceptRanges", laid_unicode_utf8_acceptRanges), ("unicode/utf8.first", laid_unicode_utf8_first)], narrowed := true }
def UpdateKeepsUptoSaid : Prop := updateKeepsUptoRow.holds Tryd.pinned (OpenSpec.upto updateKeepsSpec)

/-- 'variantproxylaw29.UpdateRefreshes', WHERE WHAT IT READS IS OF BULK AT MOST 1048576: true; the input reads as it did. -/
def updateRefreshesUptoRow : OpenClaim := { program := "ytlcchcbeebakpaadoor", sum := "0ee60ff15a5c4ae0afcafaa3b5c0ff7142cac5a7f029c77e31db861874e30f43", func := "variantproxy/variantproxylaw29.UpdateRefreshes", spec := "updateRefreshes", inPlace := ["internal/bytealg.IndexByteString", "internal/bytealg.IndexString"], unfollowed := true, recurses := true, named := ["unicode/utf8.first", "unicode/utf8.acceptRanges", "internal/bytealg.MaxLen"], apart := false, laid := [("unicode/utf8.acceptRanges", laid_unicode_utf8_acceptRanges), ("unicode/utf8.first", laid_unicode_utf8_first)], narrowed := true }
def UpdateRefreshesUptoSaid : Prop := updateRefreshesUptoRow.holds Tryd.pinned (OpenSpec.upto updateRefreshesSpec)

/-- 'variantproxylaw31.ConditionConfirms', WHERE WHAT IT READS IS OF BULK AT MOST 1048576: true; the input reads as it did. -/
def conditionConfirmsUptoRow : OpenClaim := { program := "ytlcchcbeebakpaadoor", sum := "0ee60ff15a5c4ae0afcafaa3b5c0ff7142cac5a7f029c77e31db861874e30f43", func := "variantproxy/variantproxylaw31.ConditionConfirms", spec := "conditionConfirms", inPlace := ["internal/bytealg.IndexByteString", "internal/bytealg.IndexString"], unfollowed := true, recurses := true, named := ["unicode/utf8.first", "unicode/utf8.acceptRanges", "internal/bytealg.MaxLen"], apart := false, laid := [("unicode/utf8.acceptRanges", laid_unicode_utf8_acceptRanges), ("unicode/utf8.first", laid_unicode_utf8_first)], narrowed := true }
def ConditionConfirmsUptoSaid : Prop := conditionConfirmsUptoRow.holds Tryd.pinned (OpenSpec.upto conditionConfirmsSpec)

/-- 'variantproxylaw31.ConditionAnswers', WHERE WHAT IT READS IS OF BULK AT MOST 1048576: true; the input reads as it did. -/
def conditionAnswersUptoRow : OpenClaim := { program := "ytlcchcbeebakpaadoor", sum := "0ee60ff15a5c4ae0afcafaa3b5c0ff7142cac5a7f029c77e31db861874e30f43", func := "variantproxy/variantproxylaw31.ConditionAnswers", spec := "conditionAnswers", inPlace := ["internal/bytealg.IndexByteString", "internal/bytealg.IndexString"], unfollowed := true, recurses := true, named := ["unicode/utf8.first", "unicode/utf8.acceptRanges", "internal/bytealg.MaxLen"], apart := false, laid := [("unicode/utf8.acceptRanges", laid_unicode_utf8_acceptRanges), ("unicode/utf8.first", laid_unicode_utf8_first)], narrowed := true }
def ConditionAnswersUptoSaid : Prop := conditionAnswersUptoRow.holds Tryd.pinned (OpenSpec.upto conditionAnswersSpec)

/-- 'variantproxylaw31.ConditionCleans', WHERE WHAT IT READS IS OF BULK AT MOST 1048576: true; the input reads as it did. -/
def conditionCleansUptoRow : OpenClaim := { program := "ytlcchcbeebakpaadoor", sum := "0ee60ff15a5c4ae0afcafaa3b5c0ff7142cac5a7f029c77e31db861874e30f43", func := "variantproxy/variantproxylaw31.ConditionCleans", spec := "conditionCleans", inPlace := ["internal/bytealg.IndexByteString", "internal/bytealg.IndexString"], unfollowed := true, recurses := true, named := ["unicode/utf8.first", "unicode/utf8.acceptRanges", "internal/bytealg.MaxLen", "internal/strconv.uint64pow10", "math/bits.deBruijn32tab", "math/bits.deBruijn64tab"], apart := false, laid := [("math/bits.deBruijn32tab", laid_math_bits_deBruijn32tab), ("math/bits.deBruijn64tab", laid_math_bits_deBruijn64tab), ("internal/strconv.uint64pow10", laid_internal_strconv_uint64pow10), ("unicode/utf8.acceptRanges", laid_unicode_utf8_acceptRanges), ("unicode/utf8.first", laid_unicode_utf8_first)], narrowed := true }
def ConditionCleansUptoSaid : Prop := conditionCleansUptoRow.holds Tryd.pinned (OpenSpec.upto conditionCleansSpec)

end Rows
end Go.Proofs.YtlcchcbeebakpaaDoor
