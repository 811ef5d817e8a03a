/-
  NARROWER THAN 'FOR EVERY INPUT', by the rows' own cells (each row's printed sentence says how): StartlineRequests: laid · AsciiTokens: laid · StartlineStatuses: laid · StartlineLong: laid · AsciiNumbers: laid · AsciiQuotes: laid · AsciiQuoted: laid · AsciiDecimals: laid · AsciiFolds: laid · StartlineFormats: laid · StartlineBack: laid · AsciiTrimmed: laid · AsciiCases: laid.
  DERIVED. THE GIVEN ROWS OF THIS SEAT. 13 by the template 'for every input the law returns true; each argument reads behind the call as it read before'; 0 by the template 'total and deterministic' (their statements: YthdbgiklniiglaaDoorTotals.lean).
  GIVEN WITH THE SEED: the statements are not yours to turn. If you find one false, say at which input.
  Laid BY PROGRAM, IN A SANDBOX (cutbox-rows.mjs): the forced cells as the released guide's own fill.sh prints them over the translation df0f1455d2fbaeb1… (all of the seat's roots in one cut). By AI agents, Wed Nov 11 2026. No macro, syntax, notation, axiom, sorry.
-/
import Derived.Test.YthdbgiklniiglaaDoorChecked
import GoSem.PinnedTables
import GoSem.Claim
import GoSem.ClaimJoined
import GoSem.ClaimMapViews
import Derived.JoinedTies
import Derived.KernelRfl
namespace Go.Proofs.YthdbgiklniiglaaDoor
/- THE CELL 'sum', in the pinned program and in every row, IS THE sha256 OF THE DUMP (.gsa) THAT YthdbgiklniiglaaDoorProg.lean LOADS. Nothing in Lean hashes anything: it is a label: what it is worth is what the hold of that sum in a sandbox is worth. -/
noncomputable def Tryd.pinned : Pinned := { name := "ythdbgiklniiglaadoor", sum := "df0f1455d2fbaeb16386af0fa80777435fbe93afa2d47e72402e5581060f8031", checked := Tryd.checked }
namespace Rows
def none {H : Type} : Left H := { results := [], args := [] }

/- WHAT THE LISTED PACKAGE-LEVEL VARIABLES READ AS WHEN THE CALL BEGINS. Each datum BY PROGRAM (the guide's laid-datum.mjs) off the statement by which the dump's own 'gosem.cut.vars' lays the variable. In a bare row this is a premise. The card (YthdbgiklniiglaaDoorCards.lean) ties it to the program's text. -/
def laid_variantproxy_startline_errSyntax {H : Type} : DataW H := .iface "*errors.errorString" (.ptr (.agg [.lit (.string [110, 111, 116, 32, 116, 104, 101, 32, 102, 111, 114, 109, 32, 116, 104, 97, 116, 32, 105, 115, 32, 101, 120, 112, 101, 99, 116, 101, 100])]))
def laid_variantproxy_startline_errVersion {H : Type} : DataW H := .iface "*errors.errorString" (.ptr (.agg [.lit (.string [97, 110, 111, 116, 104, 101, 114, 32, 118, 101, 114, 115, 105, 111, 110])]))
def laid_math_bits_deBruijn32tab {H : Type} : DataW H := .agg [.lit (.int .u8 0), .lit (.int .u8 1), .lit (.int .u8 28), .lit (.int .u8 2), .lit (.int .u8 29), .lit (.int .u8 14), .lit (.int .u8 24), .lit (.int .u8 3), .lit (.int .u8 30), .lit (.int .u8 22), .lit (.int .u8 20), .lit (.int .u8 15), .lit (.int .u8 25), .lit (.int .u8 17), .lit (.int .u8 4), .lit (.int .u8 8), .lit (.int .u8 31), .lit (.int .u8 27), .lit (.int .u8 13), .lit (.int .u8 23), .lit (.int .u8 21), .lit (.int .u8 19), .lit (.int .u8 16), .lit (.int .u8 7), .lit (.int .u8 26), .lit (.int .u8 12), .lit (.int .u8 18), .lit (.int .u8 6), .lit (.int .u8 11), .lit (.int .u8 5), .lit (.int .u8 10), .lit (.int .u8 9)]
def laid_math_bits_deBruijn64tab {H : Type} : DataW H := .agg [.lit (.int .u8 0), .lit (.int .u8 1), .lit (.int .u8 56), .lit (.int .u8 2), .lit (.int .u8 57), .lit (.int .u8 49), .lit (.int .u8 28), .lit (.int .u8 3), .lit (.int .u8 61), .lit (.int .u8 58), .lit (.int .u8 42), .lit (.int .u8 50), .lit (.int .u8 38), .lit (.int .u8 29), .lit (.int .u8 17), .lit (.int .u8 4), .lit (.int .u8 62), .lit (.int .u8 47), .lit (.int .u8 59), .lit (.int .u8 36), .lit (.int .u8 45), .lit (.int .u8 43), .lit (.int .u8 51), .lit (.int .u8 22), .lit (.int .u8 53), .lit (.int .u8 39), .lit (.int .u8 33), .lit (.int .u8 30), .lit (.int .u8 24), .lit (.int .u8 18), .lit (.int .u8 12), .lit (.int .u8 5), .lit (.int .u8 63), .lit (.int .u8 55), .lit (.int .u8 48), .lit (.int .u8 27), .lit (.int .u8 60), .lit (.int .u8 41), .lit (.int .u8 37), .lit (.int .u8 16), .lit (.int .u8 46), .lit (.int .u8 35), .lit (.int .u8 44), .lit (.int .u8 21), .lit (.int .u8 52), .lit (.int .u8 32), .lit (.int .u8 23), .lit (.int .u8 11), .lit (.int .u8 54), .lit (.int .u8 26), .lit (.int .u8 40), .lit (.int .u8 15), .lit (.int .u8 34), .lit (.int .u8 20), .lit (.int .u8 31), .lit (.int .u8 10), .lit (.int .u8 25), .lit (.int .u8 14), .lit (.int .u8 19), .lit (.int .u8 9), .lit (.int .u8 13), .lit (.int .u8 8), .lit (.int .u8 7), .lit (.int .u8 6)]
def laid_internal_strconv_uint64pow10 {H : Type} : DataW H := .agg [.lit (.int .u64 1), .lit (.int .u64 10), .lit (.int .u64 100), .lit (.int .u64 1000), .lit (.int .u64 10000), .lit (.int .u64 100000), .lit (.int .u64 1000000), .lit (.int .u64 10000000), .lit (.int .u64 100000000), .lit (.int .u64 1000000000), .lit (.int .u64 10000000000), .lit (.int .u64 100000000000), .lit (.int .u64 1000000000000), .lit (.int .u64 10000000000000), .lit (.int .u64 100000000000000), .lit (.int .u64 1000000000000000), .lit (.int .u64 10000000000000000), .lit (.int .u64 100000000000000000), .lit (.int .u64 1000000000000000000), .lit (.int .u64 10000000000000000000)]
def laid_unicode_utf8_acceptRanges {H : Type} : DataW H := .agg [.agg [.lit (.int .u8 128), .lit (.int .u8 191)], .agg [.lit (.int .u8 160), .lit (.int .u8 191)], .agg [.lit (.int .u8 128), .lit (.int .u8 159)], .agg [.lit (.int .u8 144), .lit (.int .u8 191)], .agg [.lit (.int .u8 128), .lit (.int .u8 143)], .agg [.lit (.int .u8 0), .lit (.int .u8 0)], .agg [.lit (.int .u8 0), .lit (.int .u8 0)], .agg [.lit (.int .u8 0), .lit (.int .u8 0)], .agg [.lit (.int .u8 0), .lit (.int .u8 0)], .agg [.lit (.int .u8 0), .lit (.int .u8 0)], .agg [.lit (.int .u8 0), .lit (.int .u8 0)], .agg [.lit (.int .u8 0), .lit (.int .u8 0)], .agg [.lit (.int .u8 0), .lit (.int .u8 0)], .agg [.lit (.int .u8 0), .lit (.int .u8 0)], .agg [.lit (.int .u8 0), .lit (.int .u8 0)], .agg [.lit (.int .u8 0), .lit (.int .u8 0)]]
/-- One of Go's own tables, pinned by name: the form's constant. -/
def laid_unicode_utf8_first : DataW Unit := Go.Pinned.utf8First

/-- 'variantproxylaw02.StartlineRequests': WHATEVER THE INPUT: true; the input reads as it did. -/
def startlineRequestsSpec : ChangeSpec := { name := "startlineRequests", fn := fun _ => fun
  | [d] => { results := [.lit (.bool true)], args := [d] }
  | _ => none }
def startlineRequestsRow : OpenClaim := { program := "ythdbgiklniiglaadoor", sum := "df0f1455d2fbaeb16386af0fa80777435fbe93afa2d47e72402e5581060f8031", func := "variantproxy/variantproxylaw02.StartlineRequests", spec := "startlineRequests", inPlace := ["internal/bytealg.IndexByteString", "internal/bytealg.IndexString", "internal/reflectlite.TypeOf"], unfollowed := true, recurses := true, named := ["internal/bytealg.MaxLen", "variantproxy/startline.errSyntax", "variantproxy/startline.errVersion"], apart := false, laid := [("variantproxy/startline.errSyntax", laid_variantproxy_startline_errSyntax), ("variantproxy/startline.errVersion", laid_variantproxy_startline_errVersion)] }
def StartlineRequestsSaid : Prop := startlineRequestsRow.holds Tryd.pinned (OpenSpec.ofChange startlineRequestsSpec)

/-- ITS FALSE NEIGHBOUR: 'it returns false'. Refute it at one input. -/
def startlineRequestsWrong : ChangeSpec := { name := "startlineRequests", fn := fun _ => fun
  | [d] => { results := [.lit (.bool false)], args := [d] }
  | _ => none }
def StartlineRequestsWrongFalsely : Prop := startlineRequestsRow.holds Tryd.pinned (OpenSpec.ofChange startlineRequestsWrong)

/-- 'variantproxylaw01.AsciiTokens': WHATEVER THE INPUT: true; the input reads as it did. -/
def asciiTokensSpec : ChangeSpec := { name := "asciiTokens", fn := fun _ => fun
  | [d] => { results := [.lit (.bool true)], args := [d] }
  | _ => none }
def asciiTokensRow : OpenClaim := { program := "ythdbgiklniiglaadoor", sum := "df0f1455d2fbaeb16386af0fa80777435fbe93afa2d47e72402e5581060f8031", func := "variantproxy/variantproxylaw01.AsciiTokens", spec := "asciiTokens", named := ["internal/strconv.uint64pow10", "math/bits.deBruijn32tab", "math/bits.deBruijn64tab"], apart := false, laid := [("math/bits.deBruijn32tab", laid_math_bits_deBruijn32tab), ("math/bits.deBruijn64tab", laid_math_bits_deBruijn64tab), ("internal/strconv.uint64pow10", laid_internal_strconv_uint64pow10)] }
def AsciiTokensSaid : Prop := asciiTokensRow.holds Tryd.pinned (OpenSpec.ofChange asciiTokensSpec)

/-- ITS FALSE NEIGHBOUR: 'it returns false'. Refute it at one input. -/
def asciiTokensWrong : ChangeSpec := { name := "asciiTokens", fn := fun _ => fun
  | [d] => { results := [.lit (.bool false)], args := [d] }
  | _ => none }
def AsciiTokensWrongFalsely : Prop := asciiTokensRow.holds Tryd.pinned (OpenSpec.ofChange asciiTokensWrong)

/-- 'variantproxylaw02.StartlineStatuses': WHATEVER THE INPUT: true; the input reads as it did. -/
def startlineStatusesSpec : ChangeSpec := { name := "startlineStatuses", fn := fun _ => fun
  | [d] => { results := [.lit (.bool true)], args := [d] }
  | _ => none }
def startlineStatusesRow : OpenClaim := { program := "ythdbgiklniiglaadoor", sum := "df0f1455d2fbaeb16386af0fa80777435fbe93afa2d47e72402e5581060f8031", func := "variantproxy/variantproxylaw02.StartlineStatuses", spec := "startlineStatuses", inPlace := ["internal/bytealg.IndexByteString", "internal/bytealg.IndexString", "internal/reflectlite.TypeOf"], unfollowed := true, recurses := true, named := ["internal/bytealg.MaxLen", "variantproxy/startline.errSyntax", "variantproxy/startline.errVersion"], apart := false, laid := [("variantproxy/startline.errSyntax", laid_variantproxy_startline_errSyntax), ("variantproxy/startline.errVersion", laid_variantproxy_startline_errVersion)] }
def StartlineStatusesSaid : Prop := startlineStatusesRow.holds Tryd.pinned (OpenSpec.ofChange startlineStatusesSpec)

/-- ITS FALSE NEIGHBOUR: 'it returns false'. Refute it at one input. -/
def startlineStatusesWrong : ChangeSpec := { name := "startlineStatuses", fn := fun _ => fun
  | [d] => { results := [.lit (.bool false)], args := [d] }
  | _ => none }
def StartlineStatusesWrongFalsely : Prop := startlineStatusesRow.holds Tryd.pinned (OpenSpec.ofChange startlineStatusesWrong)

/-- 'variantproxylaw02.StartlineLong': WHATEVER THE INPUT: true; the input reads as it did. -/
def startlineLongSpec : ChangeSpec := { name := "startlineLong", fn := fun _ => fun
  | [d1, d2] => { results := [.lit (.bool true)], args := [d1, d2] }
  | _ => none }
def startlineLongRow : OpenClaim := { program := "ythdbgiklniiglaadoor", sum := "df0f1455d2fbaeb16386af0fa80777435fbe93afa2d47e72402e5581060f8031", func := "variantproxy/variantproxylaw02.StartlineLong", spec := "startlineLong", inPlace := ["internal/bytealg.IndexByteString", "internal/bytealg.IndexString", "internal/reflectlite.TypeOf"], unfollowed := true, recurses := true, named := ["internal/bytealg.MaxLen", "variantproxy/startline.errSyntax", "variantproxy/startline.errVersion"], apart := false, laid := [("variantproxy/startline.errSyntax", laid_variantproxy_startline_errSyntax), ("variantproxy/startline.errVersion", laid_variantproxy_startline_errVersion)] }
def StartlineLongSaid : Prop := startlineLongRow.holds Tryd.pinned (OpenSpec.ofChange startlineLongSpec)

/-- ITS FALSE NEIGHBOUR: 'it returns false'. Refute it at one input. -/
def startlineLongWrong : ChangeSpec := { name := "startlineLong", fn := fun _ => fun
  | [d1, d2] => { results := [.lit (.bool false)], args := [d1, d2] }
  | _ => none }
def StartlineLongWrongFalsely : Prop := startlineLongRow.holds Tryd.pinned (OpenSpec.ofChange startlineLongWrong)

/-- 'variantproxylaw01.AsciiNumbers': WHATEVER THE INPUT: true; the input reads as it did. -/
def asciiNumbersSpec : ChangeSpec := { name := "asciiNumbers", fn := fun _ => fun
  | [d1, d2] => { results := [.lit (.bool true)], args := [d1, d2] }
  | _ => none }
def asciiNumbersRow : OpenClaim := { program := "ythdbgiklniiglaadoor", sum := "df0f1455d2fbaeb16386af0fa80777435fbe93afa2d47e72402e5581060f8031", func := "variantproxy/variantproxylaw01.AsciiNumbers", spec := "asciiNumbers", named := ["internal/strconv.uint64pow10", "math/bits.deBruijn32tab", "math/bits.deBruijn64tab"], apart := false, laid := [("math/bits.deBruijn32tab", laid_math_bits_deBruijn32tab), ("math/bits.deBruijn64tab", laid_math_bits_deBruijn64tab), ("internal/strconv.uint64pow10", laid_internal_strconv_uint64pow10)] }
def AsciiNumbersSaid : Prop := asciiNumbersRow.holds Tryd.pinned (OpenSpec.ofChange asciiNumbersSpec)

/-- ITS FALSE NEIGHBOUR: 'it returns false'. Refute it at one input. -/
def asciiNumbersWrong : ChangeSpec := { name := "asciiNumbers", fn := fun _ => fun
  | [d1, d2] => { results := [.lit (.bool false)], args := [d1, d2] }
  | _ => none }
def AsciiNumbersWrongFalsely : Prop := asciiNumbersRow.holds Tryd.pinned (OpenSpec.ofChange asciiNumbersWrong)

/-- 'variantproxylaw01.AsciiQuotes': WHATEVER THE INPUT: true; the input reads as it did. -/
def asciiQuotesSpec : ChangeSpec := { name := "asciiQuotes", fn := fun _ => fun
  | [d] => { results := [.lit (.bool true)], args := [d] }
  | _ => none }
def asciiQuotesRow : OpenClaim := { program := "ythdbgiklniiglaadoor", sum := "df0f1455d2fbaeb16386af0fa80777435fbe93afa2d47e72402e5581060f8031", func := "variantproxy/variantproxylaw01.AsciiQuotes", spec := "asciiQuotes", named := ["internal/strconv.uint64pow10", "math/bits.deBruijn32tab", "math/bits.deBruijn64tab"], apart := false, laid := [("math/bits.deBruijn32tab", laid_math_bits_deBruijn32tab), ("math/bits.deBruijn64tab", laid_math_bits_deBruijn64tab), ("internal/strconv.uint64pow10", laid_internal_strconv_uint64pow10)] }
def AsciiQuotesSaid : Prop := asciiQuotesRow.holds Tryd.pinned (OpenSpec.ofChange asciiQuotesSpec)

/-- ITS FALSE NEIGHBOUR: 'it returns false'. Refute it at one input. -/
def asciiQuotesWrong : ChangeSpec := { name := "asciiQuotes", fn := fun _ => fun
  | [d] => { results := [.lit (.bool false)], args := [d] }
  | _ => none }
def AsciiQuotesWrongFalsely : Prop := asciiQuotesRow.holds Tryd.pinned (OpenSpec.ofChange asciiQuotesWrong)

/-- 'variantproxylaw01.AsciiQuoted': WHATEVER THE INPUT: true; the input reads as it did. -/
def asciiQuotedSpec : ChangeSpec := { name := "asciiQuoted", fn := fun _ => fun
  | [d] => { results := [.lit (.bool true)], args := [d] }
  | _ => none }
def asciiQuotedRow : OpenClaim := { program := "ythdbgiklniiglaadoor", sum := "df0f1455d2fbaeb16386af0fa80777435fbe93afa2d47e72402e5581060f8031", func := "variantproxy/variantproxylaw01.AsciiQuoted", spec := "asciiQuoted", named := ["internal/strconv.uint64pow10", "math/bits.deBruijn32tab", "math/bits.deBruijn64tab"], apart := false, laid := [("math/bits.deBruijn32tab", laid_math_bits_deBruijn32tab), ("math/bits.deBruijn64tab", laid_math_bits_deBruijn64tab), ("internal/strconv.uint64pow10", laid_internal_strconv_uint64pow10)] }
def AsciiQuotedSaid : Prop := asciiQuotedRow.holds Tryd.pinned (OpenSpec.ofChange asciiQuotedSpec)

/-- ITS FALSE NEIGHBOUR: 'it returns false'. Refute it at one input. -/
def asciiQuotedWrong : ChangeSpec := { name := "asciiQuoted", fn := fun _ => fun
  | [d] => { results := [.lit (.bool false)], args := [d] }
  | _ => none }
def AsciiQuotedWrongFalsely : Prop := asciiQuotedRow.holds Tryd.pinned (OpenSpec.ofChange asciiQuotedWrong)

/-- 'variantproxylaw01.AsciiDecimals': WHATEVER THE INPUT: true; the input reads as it did. -/
def asciiDecimalsSpec : ChangeSpec := { name := "asciiDecimals", fn := fun _ => fun
  | [d] => { results := [.lit (.bool true)], args := [d] }
  | _ => none }
def asciiDecimalsRow : OpenClaim := { program := "ythdbgiklniiglaadoor", sum := "df0f1455d2fbaeb16386af0fa80777435fbe93afa2d47e72402e5581060f8031", func := "variantproxy/variantproxylaw01.AsciiDecimals", spec := "asciiDecimals", named := ["internal/strconv.uint64pow10", "math/bits.deBruijn32tab", "math/bits.deBruijn64tab"], apart := false, laid := [("math/bits.deBruijn32tab", laid_math_bits_deBruijn32tab), ("math/bits.deBruijn64tab", laid_math_bits_deBruijn64tab), ("internal/strconv.uint64pow10", laid_internal_strconv_uint64pow10)] }
def AsciiDecimalsSaid : Prop := asciiDecimalsRow.holds Tryd.pinned (OpenSpec.ofChange asciiDecimalsSpec)

/-- ITS FALSE NEIGHBOUR: 'it returns false'. Refute it at one input. -/
def asciiDecimalsWrong : ChangeSpec := { name := "asciiDecimals", fn := fun _ => fun
  | [d] => { results := [.lit (.bool false)], args := [d] }
  | _ => none }
def AsciiDecimalsWrongFalsely : Prop := asciiDecimalsRow.holds Tryd.pinned (OpenSpec.ofChange asciiDecimalsWrong)

/-- 'variantproxylaw01.AsciiFolds': WHATEVER THE INPUT: true; the input reads as it did. -/
def asciiFoldsSpec : ChangeSpec := { name := "asciiFolds", fn := fun _ => fun
  | [d1, d2, d3] => { results := [.lit (.bool true)], args := [d1, d2, d3] }
  | _ => none }
def asciiFoldsRow : OpenClaim := { program := "ythdbgiklniiglaadoor", sum := "df0f1455d2fbaeb16386af0fa80777435fbe93afa2d47e72402e5581060f8031", func := "variantproxy/variantproxylaw01.AsciiFolds", spec := "asciiFolds", named := ["internal/strconv.uint64pow10", "math/bits.deBruijn32tab", "math/bits.deBruijn64tab"], apart := false, laid := [("math/bits.deBruijn32tab", laid_math_bits_deBruijn32tab), ("math/bits.deBruijn64tab", laid_math_bits_deBruijn64tab), ("internal/strconv.uint64pow10", laid_internal_strconv_uint64pow10)] }
def AsciiFoldsSaid : Prop := asciiFoldsRow.holds Tryd.pinned (OpenSpec.ofChange asciiFoldsSpec)

/-- ITS FALSE NEIGHBOUR: 'it returns false'. Refute it at one input. -/
def asciiFoldsWrong : ChangeSpec := { name := "asciiFolds", fn := fun _ => fun
  | [d1, d2, d3] => { results := [.lit (.bool false)], args := [d1, d2, d3] }
  | _ => none }
def AsciiFoldsWrongFalsely : Prop := asciiFoldsRow.holds Tryd.pinned (OpenSpec.ofChange asciiFoldsWrong)

/-- 'variantproxylaw02.StartlineFormats': WHATEVER THE INPUT: true; the input reads as it did. -/
def startlineFormatsSpec : ChangeSpec := { name := "startlineFormats", fn := fun _ => fun
  | [d1, d2, d3, d4, d5] => { results := [.lit (.bool true)], args := [d1, d2, d3, d4, d5] }
  | _ => none }
def startlineFormatsRow : OpenClaim := { program := "ythdbgiklniiglaadoor", sum := "df0f1455d2fbaeb16386af0fa80777435fbe93afa2d47e72402e5581060f8031", func := "variantproxy/variantproxylaw02.StartlineFormats", spec := "startlineFormats", inPlace := ["internal/bytealg.IndexByteString", "internal/bytealg.IndexString", "internal/reflectlite.TypeOf"], unfollowed := true, recurses := true, named := ["internal/strconv.uint64pow10", "math/bits.deBruijn32tab", "math/bits.deBruijn64tab", "internal/bytealg.MaxLen", "variantproxy/startline.errSyntax", "variantproxy/startline.errVersion"], apart := false, laid := [("math/bits.deBruijn32tab", laid_math_bits_deBruijn32tab), ("math/bits.deBruijn64tab", laid_math_bits_deBruijn64tab), ("internal/strconv.uint64pow10", laid_internal_strconv_uint64pow10), ("variantproxy/startline.errSyntax", laid_variantproxy_startline_errSyntax), ("variantproxy/startline.errVersion", laid_variantproxy_startline_errVersion)] }
def StartlineFormatsSaid : Prop := startlineFormatsRow.holds Tryd.pinned (OpenSpec.ofChange startlineFormatsSpec)

/-- ITS FALSE NEIGHBOUR: 'it returns false'. Refute it at one input. -/
def startlineFormatsWrong : ChangeSpec := { name := "startlineFormats", fn := fun _ => fun
  | [d1, d2, d3, d4, d5] => { results := [.lit (.bool false)], args := [d1, d2, d3, d4, d5] }
  | _ => none }
def StartlineFormatsWrongFalsely : Prop := startlineFormatsRow.holds Tryd.pinned (OpenSpec.ofChange startlineFormatsWrong)

/-- 'variantproxylaw02.StartlineBack': WHATEVER THE INPUT: true; the input reads as it did. -/
def startlineBackSpec : ChangeSpec := { name := "startlineBack", fn := fun _ => fun
  | [d] => { results := [.lit (.bool true)], args := [d] }
  | _ => none }
def startlineBackRow : OpenClaim := { program := "ythdbgiklniiglaadoor", sum := "df0f1455d2fbaeb16386af0fa80777435fbe93afa2d47e72402e5581060f8031", func := "variantproxy/variantproxylaw02.StartlineBack", spec := "startlineBack", inPlace := ["internal/bytealg.IndexByteString", "internal/bytealg.IndexString", "internal/reflectlite.TypeOf"], unfollowed := true, recurses := true, named := ["internal/bytealg.MaxLen", "variantproxy/startline.errSyntax", "variantproxy/startline.errVersion", "internal/strconv.uint64pow10", "math/bits.deBruijn32tab", "math/bits.deBruijn64tab"], apart := false, laid := [("math/bits.deBruijn32tab", laid_math_bits_deBruijn32tab), ("math/bits.deBruijn64tab", laid_math_bits_deBruijn64tab), ("internal/strconv.uint64pow10", laid_internal_strconv_uint64pow10), ("variantproxy/startline.errSyntax", laid_variantproxy_startline_errSyntax), ("variantproxy/startline.errVersion", laid_variantproxy_startline_errVersion)] }
def StartlineBackSaid : Prop := startlineBackRow.holds Tryd.pinned (OpenSpec.ofChange startlineBackSpec)

/-- ITS FALSE NEIGHBOUR: 'it returns false'. Refute it at one input. -/
def startlineBackWrong : ChangeSpec := { name := "startlineBack", fn := fun _ => fun
  | [d] => { results := [.lit (.bool false)], args := [d] }
  | _ => none }
def StartlineBackWrongFalsely : Prop := startlineBackRow.holds Tryd.pinned (OpenSpec.ofChange startlineBackWrong)

/-- 'variantproxylaw01.AsciiTrimmed': WHATEVER THE INPUT: true; the input reads as it did. -/
def asciiTrimmedSpec : ChangeSpec := { name := "asciiTrimmed", fn := fun _ => fun
  | [d1, d2, d3] => { results := [.lit (.bool true)], args := [d1, d2, d3] }
  | _ => none }
def asciiTrimmedRow : OpenClaim := { program := "ythdbgiklniiglaadoor", sum := "df0f1455d2fbaeb16386af0fa80777435fbe93afa2d47e72402e5581060f8031", func := "variantproxy/variantproxylaw01.AsciiTrimmed", spec := "asciiTrimmed", inPlace := ["internal/bytealg.IndexByteString", "internal/bytealg.IndexString"], named := ["unicode/utf8.first", "unicode/utf8.acceptRanges", "internal/strconv.uint64pow10", "math/bits.deBruijn32tab", "math/bits.deBruijn64tab", "internal/bytealg.MaxLen"], apart := false, laid := [("math/bits.deBruijn32tab", laid_math_bits_deBruijn32tab), ("math/bits.deBruijn64tab", laid_math_bits_deBruijn64tab), ("internal/strconv.uint64pow10", laid_internal_strconv_uint64pow10), ("unicode/utf8.acceptRanges", laid_unicode_utf8_acceptRanges), ("unicode/utf8.first", laid_unicode_utf8_first)] }
def AsciiTrimmedSaid : Prop := asciiTrimmedRow.holds Tryd.pinned (OpenSpec.ofChange asciiTrimmedSpec)

/-- ITS FALSE NEIGHBOUR: 'it returns false'. Refute it at one input. -/
def asciiTrimmedWrong : ChangeSpec := { name := "asciiTrimmed", fn := fun _ => fun
  | [d1, d2, d3] => { results := [.lit (.bool false)], args := [d1, d2, d3] }
  | _ => none }
def AsciiTrimmedWrongFalsely : Prop := asciiTrimmedRow.holds Tryd.pinned (OpenSpec.ofChange asciiTrimmedWrong)

/-- 'variantproxylaw01.AsciiCases': WHATEVER THE INPUT: true; the input reads as it did. -/
def asciiCasesSpec : ChangeSpec := { name := "asciiCases", fn := fun _ => fun
  | [d1, d2] => { results := [.lit (.bool true)], args := [d1, d2] }
  | _ => none }
def asciiCasesRow : OpenClaim := { program := "ythdbgiklniiglaadoor", sum := "df0f1455d2fbaeb16386af0fa80777435fbe93afa2d47e72402e5581060f8031", func := "variantproxy/variantproxylaw01.AsciiCases", spec := "asciiCases", inPlace := ["internal/bytealg.IndexByteString", "internal/bytealg.IndexString"], named := ["unicode/utf8.first", "unicode/utf8.acceptRanges", "internal/strconv.uint64pow10", "math/bits.deBruijn32tab", "math/bits.deBruijn64tab", "internal/bytealg.MaxLen"], apart := false, laid := [("math/bits.deBruijn32tab", laid_math_bits_deBruijn32tab), ("math/bits.deBruijn64tab", laid_math_bits_deBruijn64tab), ("internal/strconv.uint64pow10", laid_internal_strconv_uint64pow10), ("unicode/utf8.acceptRanges", laid_unicode_utf8_acceptRanges), ("unicode/utf8.first", laid_unicode_utf8_first)] }
def AsciiCasesSaid : Prop := asciiCasesRow.holds Tryd.pinned (OpenSpec.ofChange asciiCasesSpec)

/-- ITS FALSE NEIGHBOUR: 'it returns false'. Refute it at one input. -/
def asciiCasesWrong : ChangeSpec := { name := "asciiCases", fn := fun _ => fun
  | [d1, d2] => { results := [.lit (.bool false)], args := [d1, d2] }
  | _ => none }
def AsciiCasesWrongFalsely : Prop := asciiCasesRow.holds Tryd.pinned (OpenSpec.ofChange asciiCasesWrong)

/- THE SECOND FORM. 'bulk': how many values and letters a reading holds, each counted each time it is reached (what is shared counts as often as it is met; a slice's spare places count too). A statement '..UptoSaid' is the law's where the arguments, and the package variables that the reading takes, are together of bulk at most 1048576: NARROWER than '..Said'. Prove '..Said' where nothing that the law and all that it calls make is longer than what came in: it says more and counts as full. Else prove '..UptoSaid'. A law counts once. -/
mutual
def uptoBulk {H : Type} : DataW H → Nat
  | .lit (.string bytes) => bytes.length + 1
  | .lit _ => 1
  | .nil => 1
  | .ptr d => uptoBulk d + 1
  | .slice elems spare => uptoBulkAll elems + uptoBulkAll spare + 1
  | .agg parts => uptoBulkAll parts + 1
  | .iface _ d => uptoBulk d + 1
  | .map entries => uptoBulkEntries entries + 1
  | .held _ => 1
def uptoBulkAll {H : Type} : List (DataW H) → Nat
  | [] => 0
  | d :: r => uptoBulk d + uptoBulkAll r
def uptoBulkEntries {H : Type} : List (Lit × DataW H) → Nat
  | [] => 0
  | x :: r => uptoBulkEntry x + uptoBulkEntries r
def uptoBulkEntry {H : Type} : Lit × DataW H → Nat
  | (.string bytes, d) => bytes.length + uptoBulk d + 1
  | (_, d) => uptoBulk d + 1
 end
def uptoSmall : (H : Type) → List (DataW H) → Bool := fun _ ds => decide (uptoBulkAll ds ≤ 1048576)
def OpenSpec.upto (s : _root_.Go.ChangeSpec) : _root_.Go.OpenSpec := { _root_.Go.OpenSpec.ofChange s with cond := some uptoSmall }

/-- 'variantproxylaw02.StartlineRequests', WHERE WHAT IT READS IS OF BULK AT MOST 1048576: true; the input reads as it did. -/
def startlineRequestsUptoRow : OpenClaim := { program := "ythdbgiklniiglaadoor", sum := "df0f1455d2fbaeb16386af0fa80777435fbe93afa2d47e72402e5581060f8031", func := "variantproxy/variantproxylaw02.StartlineRequests", spec := "startlineRequests", inPlace := ["internal/bytealg.IndexByteString", "internal/bytealg.IndexString", "internal/reflectlite.TypeOf"], unfollowed := true, recurses := true, named := ["internal/bytealg.MaxLen", "variantproxy/startline.errSyntax", "variantproxy/startline.errVersion"], apart := false, laid := [("variantproxy/startline.errSyntax", laid_variantproxy_startline_errSyntax), ("variantproxy/startline.errVersion", laid_variantproxy_startline_errVersion)], narrowed := true }
def StartlineRequestsUptoSaid : Prop := startlineRequestsUptoRow.holds Tryd.pinned (OpenSpec.upto startlineRequestsSpec)

/-- 'variantproxylaw01.AsciiTokens', WHERE WHAT IT READS IS OF BULK AT MOST 1048576: true; the input reads as it did. -/
def asciiTokensUptoRow : OpenClaim := { program := "ythdbgiklniiglaadoor", sum := "df0f1455d2fbaeb16386af0fa80777435fbe93afa2d47e72402e5581060f8031", func := "variantproxy/variantproxylaw01.AsciiTokens", spec := "asciiTokens", named := ["internal/strconv.uint64pow10", "math/bits.deBruijn32tab", "math/bits.deBruijn64tab"], apart := false, laid := [("math/bits.deBruijn32tab", laid_math_bits_deBruijn32tab), ("math/bits.deBruijn64tab", laid_math_bits_deBruijn64tab), ("internal/strconv.uint64pow10", laid_internal_strconv_uint64pow10)], narrowed := true }
def AsciiTokensUptoSaid : Prop := asciiTokensUptoRow.holds Tryd.pinned (OpenSpec.upto asciiTokensSpec)

/-- 'variantproxylaw02.StartlineStatuses', WHERE WHAT IT READS IS OF BULK AT MOST 1048576: true; the input reads as it did. -/
def startlineStatusesUptoRow : OpenClaim := { program := "ythdbgiklniiglaadoor", sum := "df0f1455d2fbaeb16386af0fa80777435fbe93afa2d47e72402e5581060f8031", func := "variantproxy/variantproxylaw02.StartlineStatuses", spec := "startlineStatuses", inPlace := ["internal/bytealg.IndexByteString", "internal/bytealg.IndexString", "internal/reflectlite.TypeOf"], unfollowed := true, recurses := true, named := ["internal/bytealg.MaxLen", "variantproxy/startline.errSyntax", "variantproxy/startline.errVersion"], apart := false, laid := [("variantproxy/startline.errSyntax", laid_variantproxy_startline_errSyntax), ("variantproxy/startline.errVersion", laid_variantproxy_startline_errVersion)], narrowed := true }
def StartlineStatusesUptoSaid : Prop := startlineStatusesUptoRow.holds Tryd.pinned (OpenSpec.upto startlineStatusesSpec)

/-- 'variantproxylaw02.StartlineLong', WHERE WHAT IT READS IS OF BULK AT MOST 1048576: true; the input reads as it did. -/
def startlineLongUptoRow : OpenClaim := { program := "ythdbgiklniiglaadoor", sum := "df0f1455d2fbaeb16386af0fa80777435fbe93afa2d47e72402e5581060f8031", func := "variantproxy/variantproxylaw02.StartlineLong", spec := "startlineLong", inPlace := ["internal/bytealg.IndexByteString", "internal/bytealg.IndexString", "internal/reflectlite.TypeOf"], unfollowed := true, recurses := true, named := ["internal/bytealg.MaxLen", "variantproxy/startline.errSyntax", "variantproxy/startline.errVersion"], apart := false, laid := [("variantproxy/startline.errSyntax", laid_variantproxy_startline_errSyntax), ("variantproxy/startline.errVersion", laid_variantproxy_startline_errVersion)], narrowed := true }
def StartlineLongUptoSaid : Prop := startlineLongUptoRow.holds Tryd.pinned (OpenSpec.upto startlineLongSpec)

/-- 'variantproxylaw01.AsciiNumbers', WHERE WHAT IT READS IS OF BULK AT MOST 1048576: true; the input reads as it did. -/
def asciiNumbersUptoRow : OpenClaim := { program := "ythdbgiklniiglaadoor", sum := "df0f1455d2fbaeb16386af0fa80777435fbe93afa2d47e72402e5581060f8031", func := "variantproxy/variantproxylaw01.AsciiNumbers", spec := "asciiNumbers", named := ["internal/strconv.uint64pow10", "math/bits.deBruijn32tab", "math/bits.deBruijn64tab"], apart := false, laid := [("math/bits.deBruijn32tab", laid_math_bits_deBruijn32tab), ("math/bits.deBruijn64tab", laid_math_bits_deBruijn64tab), ("internal/strconv.uint64pow10", laid_internal_strconv_uint64pow10)], narrowed := true }
def AsciiNumbersUptoSaid : Prop := asciiNumbersUptoRow.holds Tryd.pinned (OpenSpec.upto asciiNumbersSpec)

/-- 'variantproxylaw01.AsciiQuotes', WHERE WHAT IT READS IS OF BULK AT MOST 1048576: true; the input reads as it did. -/
def asciiQuotesUptoRow : OpenClaim := { program := "ythdbgiklniiglaadoor", sum := "df0f1455d2fbaeb16386af0fa80777435fbe93afa2d47e72402e5581060f8031", func := "variantproxy/variantproxylaw01.AsciiQuotes", spec := "asciiQuotes", named := ["internal/strconv.uint64pow10", "math/bits.deBruijn32tab", "math/bits.deBruijn64tab"], apart := false, laid := [("math/bits.deBruijn32tab", laid_math_bits_deBruijn32tab), ("math/bits.deBruijn64tab", laid_math_bits_deBruijn64tab), ("internal/strconv.uint64pow10", laid_internal_strconv_uint64pow10)], narrowed := true }
def AsciiQuotesUptoSaid : Prop := asciiQuotesUptoRow.holds Tryd.pinned (OpenSpec.upto asciiQuotesSpec)

/-- 'variantproxylaw01.AsciiQuoted', WHERE WHAT IT READS IS OF BULK AT MOST 1048576: true; the input reads as it did. -/
def asciiQuotedUptoRow : OpenClaim := { program := "ythdbgiklniiglaadoor", sum := "df0f1455d2fbaeb16386af0fa80777435fbe93afa2d47e72402e5581060f8031", func := "variantproxy/variantproxylaw01.AsciiQuoted", spec := "asciiQuoted", named := ["internal/strconv.uint64pow10", "math/bits.deBruijn32tab", "math/bits.deBruijn64tab"], apart := false, laid := [("math/bits.deBruijn32tab", laid_math_bits_deBruijn32tab), ("math/bits.deBruijn64tab", laid_math_bits_deBruijn64tab), ("internal/strconv.uint64pow10", laid_internal_strconv_uint64pow10)], narrowed := true }
def AsciiQuotedUptoSaid : Prop := asciiQuotedUptoRow.holds Tryd.pinned (OpenSpec.upto asciiQuotedSpec)

/-- 'variantproxylaw01.AsciiDecimals', WHERE WHAT IT READS IS OF BULK AT MOST 1048576: true; the input reads as it did. -/
def asciiDecimalsUptoRow : OpenClaim := { program := "ythdbgiklniiglaadoor", sum := "df0f1455d2fbaeb16386af0fa80777435fbe93afa2d47e72402e5581060f8031", func := "variantproxy/variantproxylaw01.AsciiDecimals", spec := "asciiDecimals", named := ["internal/strconv.uint64pow10", "math/bits.deBruijn32tab", "math/bits.deBruijn64tab"], apart := false, laid := [("math/bits.deBruijn32tab", laid_math_bits_deBruijn32tab), ("math/bits.deBruijn64tab", laid_math_bits_deBruijn64tab), ("internal/strconv.uint64pow10", laid_internal_strconv_uint64pow10)], narrowed := true }
def AsciiDecimalsUptoSaid : Prop := asciiDecimalsUptoRow.holds Tryd.pinned (OpenSpec.upto asciiDecimalsSpec)

/-- 'variantproxylaw01.AsciiFolds', WHERE WHAT IT READS IS OF BULK AT MOST 1048576: true; the input reads as it did. -/
def asciiFoldsUptoRow : OpenClaim := { program := "ythdbgiklniiglaadoor", sum := "df0f1455d2fbaeb16386af0fa80777435fbe93afa2d47e72402e5581060f8031", func := "variantproxy/variantproxylaw01.AsciiFolds", spec := "asciiFolds", named := ["internal/strconv.uint64pow10", "math/bits.deBruijn32tab", "math/bits.deBruijn64tab"], apart := false, laid := [("math/bits.deBruijn32tab", laid_math_bits_deBruijn32tab), ("math/bits.deBruijn64tab", laid_math_bits_deBruijn64tab), ("internal/strconv.uint64pow10", laid_internal_strconv_uint64pow10)], narrowed := true }
def AsciiFoldsUptoSaid : Prop := asciiFoldsUptoRow.holds Tryd.pinned (OpenSpec.upto asciiFoldsSpec)

/-- 'variantproxylaw02.StartlineFormats', WHERE WHAT IT READS IS OF BULK AT MOST 1048576: true; the input reads as it did. -/
def startlineFormatsUptoRow : OpenClaim := { program := "ythdbgiklniiglaadoor", sum := "df0f1455d2fbaeb16386af0fa80777435fbe93afa2d47e72402e5581060f8031", func := "variantproxy/variantproxylaw02.StartlineFormats", spec := "startlineFormats", inPlace := ["internal/bytealg.IndexByteString", "internal/bytealg.IndexString", "internal/reflectlite.TypeOf"], unfollowed := true, recurses := true, named := ["internal/strconv.uint64pow10", "math/bits.deBruijn32tab", "math/bits.deBruijn64tab", "internal/bytealg.MaxLen", "variantproxy/startline.errSyntax", "variantproxy/startline.errVersion"], apart := false, laid := [("math/bits.deBruijn32tab", laid_math_bits_deBruijn32tab), ("math/bits.deBruijn64tab", laid_math_bits_deBruijn64tab), ("internal/strconv.uint64pow10", laid_internal_strconv_uint64pow10), ("variantproxy/startline.errSyntax", laid_variantproxy_startline_errSyntax), ("variantproxy/startline.errVersion", laid_variantproxy_startline_errVersion)], narrowed := true }
def StartlineFormatsUptoSaid : Prop := startlineFormatsUptoRow.holds Tryd.pinned (OpenSpec.upto startlineFormatsSpec)

/-- 'variantproxylaw02.StartlineBack', WHERE WHAT IT READS IS OF BULK AT MOST 1048576: true; the input reads as it did. -/
def startlineBackUptoRow : OpenClaim := { program := "ythdbgiklniiglaadoor", sum := "df0f1455d2fbaeb16386af0fa80777435fbe93afa2d47e72402e5581060f8031", func := "variantproxy/variantproxylaw02.StartlineBack", spec := "startlineBack", inPlace := ["internal/bytealg.IndexByteString", "internal/bytealg.IndexString", "internal/reflectlite.TypeOf"], unfollowed := true, recurses := true, named := ["internal/bytealg.MaxLen", "variantproxy/startline.errSyntax", "variantproxy/startline.errVersion", "internal/strconv.uint64pow10", "math/bits.deBruijn32tab", "math/bits.deBruijn64tab"], apart := false, laid := [("math/bits.deBruijn32tab", laid_math_bits_deBruijn32tab), ("math/bits.deBruijn64tab", laid_math_bits_deBruijn64tab), ("internal/strconv.uint64pow10", laid_internal_strconv_uint64pow10), ("variantproxy/startline.errSyntax", laid_variantproxy_startline_errSyntax), ("variantproxy/startline.errVersion", laid_variantproxy_startline_errVersion)], narrowed := true }
def StartlineBackUptoSaid : Prop := startlineBackUptoRow.holds Tryd.pinned (OpenSpec.upto startlineBackSpec)

/-- 'variantproxylaw01.AsciiTrimmed', WHERE WHAT IT READS IS OF BULK AT MOST 1048576: true; the input reads as it did. -/
def asciiTrimmedUptoRow : OpenClaim := { program := "ythdbgiklniiglaadoor", sum := "df0f1455d2fbaeb16386af0fa80777435fbe93afa2d47e72402e5581060f8031", func := "variantproxy/variantproxylaw01.AsciiTrimmed", spec := "asciiTrimmed", inPlace := ["internal/bytealg.IndexByteString", "internal/bytealg.IndexString"], named := ["unicode/utf8.first", "unicode/utf8.acceptRanges", "internal/strconv.uint64pow10", "math/bits.deBruijn32tab", "math/bits.deBruijn64tab", "internal/bytealg.MaxLen"], apart := false, laid := [("math/bits.deBruijn32tab", laid_math_bits_deBruijn32tab), ("math/bits.deBruijn64tab", laid_math_bits_deBruijn64tab), ("internal/strconv.uint64pow10", laid_internal_strconv_uint64pow10), ("unicode/utf8.acceptRanges", laid_unicode_utf8_acceptRanges), ("unicode/utf8.first", laid_unicode_utf8_first)], narrowed := true }
def AsciiTrimmedUptoSaid : Prop := asciiTrimmedUptoRow.holds Tryd.pinned (OpenSpec.upto asciiTrimmedSpec)

/-- 'variantproxylaw01.AsciiCases', WHERE WHAT IT READS IS OF BULK AT MOST 1048576: true; the input reads as it did. -/
def asciiCasesUptoRow : OpenClaim := { program := "ythdbgiklniiglaadoor", sum := "df0f1455d2fbaeb16386af0fa80777435fbe93afa2d47e72402e5581060f8031", func := "variantproxy/variantproxylaw01.AsciiCases", spec := "asciiCases", inPlace := ["internal/bytealg.IndexByteString", "internal/bytealg.IndexString"], named := ["unicode/utf8.first", "unicode/utf8.acceptRanges", "internal/strconv.uint64pow10", "math/bits.deBruijn32tab", "math/bits.deBruijn64tab", "internal/bytealg.MaxLen"], apart := false, laid := [("math/bits.deBruijn32tab", laid_math_bits_deBruijn32tab), ("math/bits.deBruijn64tab", laid_math_bits_deBruijn64tab), ("internal/strconv.uint64pow10", laid_internal_strconv_uint64pow10), ("unicode/utf8.acceptRanges", laid_unicode_utf8_acceptRanges), ("unicode/utf8.first", laid_unicode_utf8_first)], narrowed := true }
def AsciiCasesUptoSaid : Prop := asciiCasesUptoRow.holds Tryd.pinned (OpenSpec.upto asciiCasesSpec)

end Rows
end Go.Proofs.YthdbgiklniiglaaDoor
