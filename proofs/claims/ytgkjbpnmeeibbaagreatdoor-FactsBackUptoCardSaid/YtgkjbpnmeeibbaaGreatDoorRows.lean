/-
  NARROWER THAN 'FOR EVERY INPUT', by the rows' own cells (each row's printed sentence says how): FactsReads: loops, laid · FactsMoves: loops, laid · FactsFirst: loops, laid · FactsLines: laid · FactsApart: laid · FactsTells: loops, laid · FactsBack: loops, laid.
  DERIVED. THE GIVEN ROWS OF THIS SEAT. 7 by the template 'for every input the law returns true; each argument reads behind the call as it read before'; 0 by the template 'total and deterministic' (their statements: YtgkjbpnmeeibbaaGreatDoorTotals.lean).
  GIVEN WITH THE SEED: the statements are not yours to turn. If you find one false, say at which input.
  Laid BY PROGRAM, IN A SANDBOX (cutbox-rows.mjs): the forced cells as the released guide's own fill.sh prints them over the translation 89e9c3e2a088d88c… (all of the seat's roots in one cut). By AI agents, Wed Nov 11 2026. No macro, syntax, notation, axiom, sorry.
-/
import Derived.Test.YtgkjbpnmeeibbaaGreatDoorChecked
import GoSem.PinnedTables
import GoSem.Claim
import GoSem.ClaimJoined
import GoSem.ClaimMapViews
import Derived.JoinedTies
import Derived.KernelRfl
namespace Go.Proofs.YtgkjbpnmeeibbaaGreatDoor
/- THE CELL 'sum', in the pinned program and in every row, IS THE sha256 OF THE DUMP (.gsa) THAT YtgkjbpnmeeibbaaGreatDoorProg.lean LOADS. Nothing in Lean hashes anything: it is a label: what it is worth is what the hold of that sum in a sandbox is worth. -/
noncomputable def Tryz.pinned : Pinned := { name := "ytgkjbpnmeeibbaagreatdoor", sum := "89e9c3e2a088d88c21f3cef71e085ce205f138e7a060e1c7fb5b611bc4ee99a6", checked := Tryz.checked }
namespace Rows
def none {H : Type} : Left H := { results := [], args := [] }

/- WHAT THE LISTED PACKAGE-LEVEL VARIABLES READ AS WHEN THE CALL BEGINS. Each datum BY PROGRAM (the guide's laid-datum.mjs) off the statement by which the dump's own 'gosem.cut.vars' lays the variable. In a bare row this is a premise. The card (YtgkjbpnmeeibbaaGreatDoorCards.lean) ties it to the program's text. -/
def laid_math_bits_deBruijn32tab {H : Type} : DataW H := .agg [.lit (.int .u8 0), .lit (.int .u8 1), .lit (.int .u8 28), .lit (.int .u8 2), .lit (.int .u8 29), .lit (.int .u8 14), .lit (.int .u8 24), .lit (.int .u8 3), .lit (.int .u8 30), .lit (.int .u8 22), .lit (.int .u8 20), .lit (.int .u8 15), .lit (.int .u8 25), .lit (.int .u8 17), .lit (.int .u8 4), .lit (.int .u8 8), .lit (.int .u8 31), .lit (.int .u8 27), .lit (.int .u8 13), .lit (.int .u8 23), .lit (.int .u8 21), .lit (.int .u8 19), .lit (.int .u8 16), .lit (.int .u8 7), .lit (.int .u8 26), .lit (.int .u8 12), .lit (.int .u8 18), .lit (.int .u8 6), .lit (.int .u8 11), .lit (.int .u8 5), .lit (.int .u8 10), .lit (.int .u8 9)]
def laid_math_bits_deBruijn64tab {H : Type} : DataW H := .agg [.lit (.int .u8 0), .lit (.int .u8 1), .lit (.int .u8 56), .lit (.int .u8 2), .lit (.int .u8 57), .lit (.int .u8 49), .lit (.int .u8 28), .lit (.int .u8 3), .lit (.int .u8 61), .lit (.int .u8 58), .lit (.int .u8 42), .lit (.int .u8 50), .lit (.int .u8 38), .lit (.int .u8 29), .lit (.int .u8 17), .lit (.int .u8 4), .lit (.int .u8 62), .lit (.int .u8 47), .lit (.int .u8 59), .lit (.int .u8 36), .lit (.int .u8 45), .lit (.int .u8 43), .lit (.int .u8 51), .lit (.int .u8 22), .lit (.int .u8 53), .lit (.int .u8 39), .lit (.int .u8 33), .lit (.int .u8 30), .lit (.int .u8 24), .lit (.int .u8 18), .lit (.int .u8 12), .lit (.int .u8 5), .lit (.int .u8 63), .lit (.int .u8 55), .lit (.int .u8 48), .lit (.int .u8 27), .lit (.int .u8 60), .lit (.int .u8 41), .lit (.int .u8 37), .lit (.int .u8 16), .lit (.int .u8 46), .lit (.int .u8 35), .lit (.int .u8 44), .lit (.int .u8 21), .lit (.int .u8 52), .lit (.int .u8 32), .lit (.int .u8 23), .lit (.int .u8 11), .lit (.int .u8 54), .lit (.int .u8 26), .lit (.int .u8 40), .lit (.int .u8 15), .lit (.int .u8 34), .lit (.int .u8 20), .lit (.int .u8 31), .lit (.int .u8 10), .lit (.int .u8 25), .lit (.int .u8 14), .lit (.int .u8 19), .lit (.int .u8 9), .lit (.int .u8 13), .lit (.int .u8 8), .lit (.int .u8 7), .lit (.int .u8 6)]
def laid_internal_strconv_uint64pow10 {H : Type} : DataW H := .agg [.lit (.int .u64 1), .lit (.int .u64 10), .lit (.int .u64 100), .lit (.int .u64 1000), .lit (.int .u64 10000), .lit (.int .u64 100000), .lit (.int .u64 1000000), .lit (.int .u64 10000000), .lit (.int .u64 100000000), .lit (.int .u64 1000000000), .lit (.int .u64 10000000000), .lit (.int .u64 100000000000), .lit (.int .u64 1000000000000), .lit (.int .u64 10000000000000), .lit (.int .u64 100000000000000), .lit (.int .u64 1000000000000000), .lit (.int .u64 10000000000000000), .lit (.int .u64 100000000000000000), .lit (.int .u64 1000000000000000000), .lit (.int .u64 10000000000000000000)]
def laid_unicode_utf8_acceptRanges {H : Type} : DataW H := .agg [.agg [.lit (.int .u8 128), .lit (.int .u8 191)], .agg [.lit (.int .u8 160), .lit (.int .u8 191)], .agg [.lit (.int .u8 128), .lit (.int .u8 159)], .agg [.lit (.int .u8 144), .lit (.int .u8 191)], .agg [.lit (.int .u8 128), .lit (.int .u8 143)], .agg [.lit (.int .u8 0), .lit (.int .u8 0)], .agg [.lit (.int .u8 0), .lit (.int .u8 0)], .agg [.lit (.int .u8 0), .lit (.int .u8 0)], .agg [.lit (.int .u8 0), .lit (.int .u8 0)], .agg [.lit (.int .u8 0), .lit (.int .u8 0)], .agg [.lit (.int .u8 0), .lit (.int .u8 0)], .agg [.lit (.int .u8 0), .lit (.int .u8 0)], .agg [.lit (.int .u8 0), .lit (.int .u8 0)], .agg [.lit (.int .u8 0), .lit (.int .u8 0)], .agg [.lit (.int .u8 0), .lit (.int .u8 0)], .agg [.lit (.int .u8 0), .lit (.int .u8 0)]]
def laid_errors_errorType {H : Type} : DataW H := .iface "internal/reflectlite.rtype" (.agg [.ptr (.lit (.string [101, 114, 114, 111, 114]))])
def laid_strconv_ErrRange {H : Type} : DataW H := .iface "*errors.errorString" (.ptr (.agg [.lit (.string [118, 97, 108, 117, 101, 32, 111, 117, 116, 32, 111, 102, 32, 114, 97, 110, 103, 101])]))
def laid_strconv_ErrSyntax {H : Type} : DataW H := .iface "*errors.errorString" (.ptr (.agg [.lit (.string [105, 110, 118, 97, 108, 105, 100, 32, 115, 121, 110, 116, 97, 120])]))
def laid_sorites_text_errForm {H : Type} : DataW H := .iface "*errors.errorString" (.ptr (.agg [.lit (.string [110, 111, 32, 102, 111, 114, 109])]))
def laid_sorites_dtree_errTree {H : Type} : DataW H := .iface "*errors.errorString" (.ptr (.agg [.lit (.string [110, 111, 32, 116, 114, 101, 101])]))
/-- One of Go's own tables, pinned by name: the form's constant. -/
def laid_unicode_utf8_first : DataW Unit := Go.Pinned.utf8First

/-- 'soriteslaw10.FactsReads': WHATEVER THE INPUT: true; the input reads as it did. -/
def factsReadsSpec : ChangeSpec := { name := "factsReads", fn := fun _ => fun
  | [d1, d2] => { results := [.lit (.bool true)], args := [d1, d2] }
  | _ => none }
def factsReadsRow : OpenClaim := { program := "ytgkjbpnmeeibbaagreatdoor", sum := "89e9c3e2a088d88c21f3cef71e085ce205f138e7a060e1c7fb5b611bc4ee99a6", func := "sorites/soriteslaw10.FactsReads", spec := "factsReads", inPlace := ["internal/reflectlite.TypeOf", "internal/bytealg.IndexByteString", "internal/bytealg.IndexString", "internal/bytealg.CountString", "internal/abi.NoEscape", "internal/reflectlite.ValueOf", "(internal/reflectlite.Value).Type", "(internal/reflectlite.Value).IsNil", "(internal/reflectlite.Value).Elem", "(internal/reflectlite.Value).Set"], unfollowed := true, recurses := true, named := ["sorites/dtree.errTree", "internal/bytealg.MaxLen", "unicode/utf8.first", "unicode/utf8.acceptRanges", "strconv.ErrSyntax", "strconv.ErrRange", "internal/strconv.uint64pow10", "math/bits.deBruijn32tab", "math/bits.deBruijn64tab", "sorites/text.errForm", "errors.errorType"], loops := true, apart := false, laid := [("math/bits.deBruijn32tab", laid_math_bits_deBruijn32tab), ("math/bits.deBruijn64tab", laid_math_bits_deBruijn64tab), ("internal/strconv.uint64pow10", laid_internal_strconv_uint64pow10), ("unicode/utf8.acceptRanges", laid_unicode_utf8_acceptRanges), ("errors.errorType", laid_errors_errorType), ("strconv.ErrRange", laid_strconv_ErrRange), ("strconv.ErrSyntax", laid_strconv_ErrSyntax), ("sorites/text.errForm", laid_sorites_text_errForm), ("sorites/dtree.errTree", laid_sorites_dtree_errTree), ("unicode/utf8.first", laid_unicode_utf8_first)] }
def FactsReadsSaid : Prop := factsReadsRow.holds Tryz.pinned (OpenSpec.ofChange factsReadsSpec)

/-- ITS FALSE NEIGHBOUR: 'it returns false'. Refute it at one input. -/
def factsReadsWrong : ChangeSpec := { name := "factsReads", fn := fun _ => fun
  | [d1, d2] => { results := [.lit (.bool false)], args := [d1, d2] }
  | _ => none }
def FactsReadsWrongFalsely : Prop := factsReadsRow.holds Tryz.pinned (OpenSpec.ofChange factsReadsWrong)

/-- 'soriteslaw10.FactsMoves': WHATEVER THE INPUT: true; the input reads as it did. -/
def factsMovesSpec : ChangeSpec := { name := "factsMoves", fn := fun _ => fun
  | [d1, d2, d3] => { results := [.lit (.bool true)], args := [d1, d2, d3] }
  | _ => none }
def factsMovesRow : OpenClaim := { program := "ytgkjbpnmeeibbaagreatdoor", sum := "89e9c3e2a088d88c21f3cef71e085ce205f138e7a060e1c7fb5b611bc4ee99a6", func := "sorites/soriteslaw10.FactsMoves", spec := "factsMoves", inPlace := ["internal/reflectlite.TypeOf", "internal/bytealg.IndexByteString", "internal/bytealg.IndexString", "internal/bytealg.CountString", "internal/abi.NoEscape", "internal/reflectlite.ValueOf", "(internal/reflectlite.Value).Type", "(internal/reflectlite.Value).IsNil", "(internal/reflectlite.Value).Elem", "(internal/reflectlite.Value).Set"], unfollowed := true, recurses := true, named := ["sorites/dtree.errTree", "internal/bytealg.MaxLen", "unicode/utf8.first", "unicode/utf8.acceptRanges", "strconv.ErrSyntax", "strconv.ErrRange", "internal/strconv.uint64pow10", "math/bits.deBruijn32tab", "math/bits.deBruijn64tab", "sorites/text.errForm", "errors.errorType"], loops := true, apart := false, laid := [("math/bits.deBruijn32tab", laid_math_bits_deBruijn32tab), ("math/bits.deBruijn64tab", laid_math_bits_deBruijn64tab), ("internal/strconv.uint64pow10", laid_internal_strconv_uint64pow10), ("unicode/utf8.acceptRanges", laid_unicode_utf8_acceptRanges), ("errors.errorType", laid_errors_errorType), ("strconv.ErrRange", laid_strconv_ErrRange), ("strconv.ErrSyntax", laid_strconv_ErrSyntax), ("sorites/text.errForm", laid_sorites_text_errForm), ("sorites/dtree.errTree", laid_sorites_dtree_errTree), ("unicode/utf8.first", laid_unicode_utf8_first)] }
def FactsMovesSaid : Prop := factsMovesRow.holds Tryz.pinned (OpenSpec.ofChange factsMovesSpec)

/-- ITS FALSE NEIGHBOUR: 'it returns false'. Refute it at one input. -/
def factsMovesWrong : ChangeSpec := { name := "factsMoves", fn := fun _ => fun
  | [d1, d2, d3] => { results := [.lit (.bool false)], args := [d1, d2, d3] }
  | _ => none }
def FactsMovesWrongFalsely : Prop := factsMovesRow.holds Tryz.pinned (OpenSpec.ofChange factsMovesWrong)

/-- 'soriteslaw10.FactsFirst': WHATEVER THE INPUT: true; the input reads as it did. -/
def factsFirstSpec : ChangeSpec := { name := "factsFirst", fn := fun _ => fun
  | [d1, d2, d3] => { results := [.lit (.bool true)], args := [d1, d2, d3] }
  | _ => none }
def factsFirstRow : OpenClaim := { program := "ytgkjbpnmeeibbaagreatdoor", sum := "89e9c3e2a088d88c21f3cef71e085ce205f138e7a060e1c7fb5b611bc4ee99a6", func := "sorites/soriteslaw10.FactsFirst", spec := "factsFirst", inPlace := ["internal/reflectlite.TypeOf", "internal/bytealg.IndexByteString", "internal/bytealg.IndexString", "internal/bytealg.CountString", "internal/abi.NoEscape", "internal/reflectlite.ValueOf", "(internal/reflectlite.Value).Type", "(internal/reflectlite.Value).IsNil", "(internal/reflectlite.Value).Elem", "(internal/reflectlite.Value).Set"], unfollowed := true, recurses := true, named := ["sorites/dtree.errTree", "internal/bytealg.MaxLen", "unicode/utf8.first", "unicode/utf8.acceptRanges", "strconv.ErrSyntax", "strconv.ErrRange", "internal/strconv.uint64pow10", "math/bits.deBruijn32tab", "math/bits.deBruijn64tab", "sorites/text.errForm", "errors.errorType"], loops := true, apart := false, laid := [("math/bits.deBruijn32tab", laid_math_bits_deBruijn32tab), ("math/bits.deBruijn64tab", laid_math_bits_deBruijn64tab), ("internal/strconv.uint64pow10", laid_internal_strconv_uint64pow10), ("unicode/utf8.acceptRanges", laid_unicode_utf8_acceptRanges), ("errors.errorType", laid_errors_errorType), ("strconv.ErrRange", laid_strconv_ErrRange), ("strconv.ErrSyntax", laid_strconv_ErrSyntax), ("sorites/text.errForm", laid_sorites_text_errForm), ("sorites/dtree.errTree", laid_sorites_dtree_errTree), ("unicode/utf8.first", laid_unicode_utf8_first)] }
def FactsFirstSaid : Prop := factsFirstRow.holds Tryz.pinned (OpenSpec.ofChange factsFirstSpec)

/-- ITS FALSE NEIGHBOUR: 'it returns false'. Refute it at one input. -/
def factsFirstWrong : ChangeSpec := { name := "factsFirst", fn := fun _ => fun
  | [d1, d2, d3] => { results := [.lit (.bool false)], args := [d1, d2, d3] }
  | _ => none }
def FactsFirstWrongFalsely : Prop := factsFirstRow.holds Tryz.pinned (OpenSpec.ofChange factsFirstWrong)

/-- 'soriteslaw10.FactsLines': WHATEVER THE INPUT: true; the input reads as it did. -/
def factsLinesSpec : ChangeSpec := { name := "factsLines", fn := fun _ => fun
  | [d1, d2] => { results := [.lit (.bool true)], args := [d1, d2] }
  | _ => none }
def factsLinesRow : OpenClaim := { program := "ytgkjbpnmeeibbaagreatdoor", sum := "89e9c3e2a088d88c21f3cef71e085ce205f138e7a060e1c7fb5b611bc4ee99a6", func := "sorites/soriteslaw10.FactsLines", spec := "factsLines", inPlace := ["internal/reflectlite.TypeOf", "internal/bytealg.IndexByteString", "internal/bytealg.IndexString", "internal/bytealg.CountString", "internal/abi.NoEscape", "internal/reflectlite.ValueOf", "(internal/reflectlite.Value).Type", "(internal/reflectlite.Value).IsNil", "(internal/reflectlite.Value).Elem", "(internal/reflectlite.Value).Set"], unfollowed := true, recurses := true, named := ["sorites/dtree.errTree", "internal/bytealg.MaxLen", "unicode/utf8.first", "unicode/utf8.acceptRanges", "strconv.ErrSyntax", "strconv.ErrRange", "internal/strconv.uint64pow10", "math/bits.deBruijn32tab", "math/bits.deBruijn64tab", "sorites/text.errForm", "errors.errorType"], apart := false, laid := [("math/bits.deBruijn32tab", laid_math_bits_deBruijn32tab), ("math/bits.deBruijn64tab", laid_math_bits_deBruijn64tab), ("internal/strconv.uint64pow10", laid_internal_strconv_uint64pow10), ("unicode/utf8.acceptRanges", laid_unicode_utf8_acceptRanges), ("errors.errorType", laid_errors_errorType), ("strconv.ErrRange", laid_strconv_ErrRange), ("strconv.ErrSyntax", laid_strconv_ErrSyntax), ("sorites/text.errForm", laid_sorites_text_errForm), ("sorites/dtree.errTree", laid_sorites_dtree_errTree), ("unicode/utf8.first", laid_unicode_utf8_first)] }
def FactsLinesSaid : Prop := factsLinesRow.holds Tryz.pinned (OpenSpec.ofChange factsLinesSpec)

/-- ITS FALSE NEIGHBOUR: 'it returns false'. Refute it at one input. -/
def factsLinesWrong : ChangeSpec := { name := "factsLines", fn := fun _ => fun
  | [d1, d2] => { results := [.lit (.bool false)], args := [d1, d2] }
  | _ => none }
def FactsLinesWrongFalsely : Prop := factsLinesRow.holds Tryz.pinned (OpenSpec.ofChange factsLinesWrong)

/-- 'soriteslaw10.FactsApart': WHATEVER THE INPUT: true; the input reads as it did. -/
def factsApartSpec : ChangeSpec := { name := "factsApart", fn := fun _ => fun
  | [d1, d2, d3, d4] => { results := [.lit (.bool true)], args := [d1, d2, d3, d4] }
  | _ => none }
def factsApartRow : OpenClaim := { program := "ytgkjbpnmeeibbaagreatdoor", sum := "89e9c3e2a088d88c21f3cef71e085ce205f138e7a060e1c7fb5b611bc4ee99a6", func := "sorites/soriteslaw10.FactsApart", spec := "factsApart", inPlace := ["internal/reflectlite.TypeOf", "internal/bytealg.IndexByteString", "internal/bytealg.IndexString", "internal/bytealg.CountString", "internal/abi.NoEscape", "internal/reflectlite.ValueOf", "(internal/reflectlite.Value).Type", "(internal/reflectlite.Value).IsNil", "(internal/reflectlite.Value).Elem", "(internal/reflectlite.Value).Set"], unfollowed := true, recurses := true, named := ["sorites/dtree.errTree", "internal/bytealg.MaxLen", "unicode/utf8.first", "unicode/utf8.acceptRanges", "strconv.ErrSyntax", "strconv.ErrRange", "internal/strconv.uint64pow10", "math/bits.deBruijn32tab", "math/bits.deBruijn64tab", "sorites/text.errForm", "errors.errorType"], apart := false, laid := [("math/bits.deBruijn32tab", laid_math_bits_deBruijn32tab), ("math/bits.deBruijn64tab", laid_math_bits_deBruijn64tab), ("internal/strconv.uint64pow10", laid_internal_strconv_uint64pow10), ("unicode/utf8.acceptRanges", laid_unicode_utf8_acceptRanges), ("errors.errorType", laid_errors_errorType), ("strconv.ErrRange", laid_strconv_ErrRange), ("strconv.ErrSyntax", laid_strconv_ErrSyntax), ("sorites/text.errForm", laid_sorites_text_errForm), ("sorites/dtree.errTree", laid_sorites_dtree_errTree), ("unicode/utf8.first", laid_unicode_utf8_first)] }
def FactsApartSaid : Prop := factsApartRow.holds Tryz.pinned (OpenSpec.ofChange factsApartSpec)

/-- ITS FALSE NEIGHBOUR: 'it returns false'. Refute it at one input. -/
def factsApartWrong : ChangeSpec := { name := "factsApart", fn := fun _ => fun
  | [d1, d2, d3, d4] => { results := [.lit (.bool false)], args := [d1, d2, d3, d4] }
  | _ => none }
def FactsApartWrongFalsely : Prop := factsApartRow.holds Tryz.pinned (OpenSpec.ofChange factsApartWrong)

/-- 'soriteslaw10.FactsTells': WHATEVER THE INPUT: true; the input reads as it did. -/
def factsTellsSpec : ChangeSpec := { name := "factsTells", fn := fun _ => fun
  | [d1, d2] => { results := [.lit (.bool true)], args := [d1, d2] }
  | _ => none }
def factsTellsRow : OpenClaim := { program := "ytgkjbpnmeeibbaagreatdoor", sum := "89e9c3e2a088d88c21f3cef71e085ce205f138e7a060e1c7fb5b611bc4ee99a6", func := "sorites/soriteslaw10.FactsTells", spec := "factsTells", inPlace := ["internal/reflectlite.TypeOf", "internal/bytealg.IndexByteString", "internal/bytealg.IndexString", "internal/bytealg.CountString", "internal/abi.NoEscape", "internal/reflectlite.ValueOf", "(internal/reflectlite.Value).Type", "(internal/reflectlite.Value).IsNil", "(internal/reflectlite.Value).Elem", "(internal/reflectlite.Value).Set"], unfollowed := true, recurses := true, named := ["sorites/dtree.errTree", "internal/bytealg.MaxLen", "unicode/utf8.first", "unicode/utf8.acceptRanges", "strconv.ErrSyntax", "strconv.ErrRange", "internal/strconv.uint64pow10", "math/bits.deBruijn32tab", "math/bits.deBruijn64tab", "sorites/text.errForm", "errors.errorType"], loops := true, apart := false, laid := [("math/bits.deBruijn32tab", laid_math_bits_deBruijn32tab), ("math/bits.deBruijn64tab", laid_math_bits_deBruijn64tab), ("internal/strconv.uint64pow10", laid_internal_strconv_uint64pow10), ("unicode/utf8.acceptRanges", laid_unicode_utf8_acceptRanges), ("errors.errorType", laid_errors_errorType), ("strconv.ErrRange", laid_strconv_ErrRange), ("strconv.ErrSyntax", laid_strconv_ErrSyntax), ("sorites/text.errForm", laid_sorites_text_errForm), ("sorites/dtree.errTree", laid_sorites_dtree_errTree), ("unicode/utf8.first", laid_unicode_utf8_first)] }
def FactsTellsSaid : Prop := factsTellsRow.holds Tryz.pinned (OpenSpec.ofChange factsTellsSpec)

/-- ITS FALSE NEIGHBOUR: 'it returns false'. Refute it at one input. -/
def factsTellsWrong : ChangeSpec := { name := "factsTells", fn := fun _ => fun
  | [d1, d2] => { results := [.lit (.bool false)], args := [d1, d2] }
  | _ => none }
def FactsTellsWrongFalsely : Prop := factsTellsRow.holds Tryz.pinned (OpenSpec.ofChange factsTellsWrong)

/-- 'soriteslaw10.FactsBack': WHATEVER THE INPUT: true; the input reads as it did. -/
def factsBackSpec : ChangeSpec := { name := "factsBack", fn := fun _ => fun
  | [d1, d2] => { results := [.lit (.bool true)], args := [d1, d2] }
  | _ => none }
def factsBackRow : OpenClaim := { program := "ytgkjbpnmeeibbaagreatdoor", sum := "89e9c3e2a088d88c21f3cef71e085ce205f138e7a060e1c7fb5b611bc4ee99a6", func := "sorites/soriteslaw10.FactsBack", spec := "factsBack", inPlace := ["internal/reflectlite.TypeOf", "internal/bytealg.IndexByteString", "internal/bytealg.IndexString", "internal/bytealg.CountString", "internal/abi.NoEscape", "internal/reflectlite.ValueOf", "(internal/reflectlite.Value).Type", "(internal/reflectlite.Value).IsNil", "(internal/reflectlite.Value).Elem", "(internal/reflectlite.Value).Set"], unfollowed := true, recurses := true, named := ["sorites/dtree.errTree", "internal/bytealg.MaxLen", "unicode/utf8.first", "unicode/utf8.acceptRanges", "strconv.ErrSyntax", "strconv.ErrRange", "internal/strconv.uint64pow10", "math/bits.deBruijn32tab", "math/bits.deBruijn64tab", "sorites/text.errForm", "errors.errorType"], loops := true, apart := false, laid := [("math/bits.deBruijn32tab", laid_math_bits_deBruijn32tab), ("math/bits.deBruijn64tab", laid_math_bits_deBruijn64tab), ("internal/strconv.uint64pow10", laid_internal_strconv_uint64pow10), ("unicode/utf8.acceptRanges", laid_unicode_utf8_acceptRanges), ("errors.errorType", laid_errors_errorType), ("strconv.ErrRange", laid_strconv_ErrRange), ("strconv.ErrSyntax", laid_strconv_ErrSyntax), ("sorites/text.errForm", laid_sorites_text_errForm), ("sorites/dtree.errTree", laid_sorites_dtree_errTree), ("unicode/utf8.first", laid_unicode_utf8_first)] }
def FactsBackSaid : Prop := factsBackRow.holds Tryz.pinned (OpenSpec.ofChange factsBackSpec)

/-- ITS FALSE NEIGHBOUR: 'it returns false'. Refute it at one input. -/
def factsBackWrong : ChangeSpec := { name := "factsBack", fn := fun _ => fun
  | [d1, d2] => { results := [.lit (.bool false)], args := [d1, d2] }
  | _ => none }
def FactsBackWrongFalsely : Prop := factsBackRow.holds Tryz.pinned (OpenSpec.ofChange factsBackWrong)

/- THE SECOND FORM. 'bulk': how many values and letters a reading holds, each counted each time it is reached (what is shared counts as often as it is met; a slice's spare places count too). A statement '..UptoSaid' is the law's where the arguments, and the package variables that the reading takes, are together of bulk at most 1048576: NARROWER than '..Said'. Prove '..Said' where nothing that the law and all that it calls make is longer than what came in: it says more and counts as full. Else prove '..UptoSaid'. A law counts once. -/
mutual
def uptoBulk {H : Type} : DataW H → Nat
  | .lit (.string bytes) => bytes.length + 1
  | .lit _ => 1
  | .nil => 1
  | .ptr d => uptoBulk d + 1
  | .slice elems spare => uptoBulkAll elems + uptoBulkAll spare + 1
  | .agg parts => uptoBulkAll parts + 1
  | .iface _ d => uptoBulk d + 1
  | .map entries => uptoBulkEntries entries + 1
  | .held _ => 1
def uptoBulkAll {H : Type} : List (DataW H) → Nat
  | [] => 0
  | d :: r => uptoBulk d + uptoBulkAll r
def uptoBulkEntries {H : Type} : List (Lit × DataW H) → Nat
  | [] => 0
  | x :: r => uptoBulkEntry x + uptoBulkEntries r
def uptoBulkEntry {H : Type} : Lit × DataW H → Nat
  | (.string bytes, d) => bytes.length + uptoBulk d + 1
  | (_, d) => uptoBulk d + 1
 end
def uptoSmall : (H : Type) → List (DataW H) → Bool := fun _ ds => decide (uptoBulkAll ds ≤ 1048576)
def OpenSpec.upto (s : _root_.Go.ChangeSpec) : _root_.Go.OpenSpec := { _root_.Go.OpenSpec.ofChange s with cond := some uptoSmall }

/-- 'soriteslaw10.FactsReads', WHERE WHAT IT READS IS OF BULK AT MOST 1048576: true; the input reads as it did. -/
def factsReadsUptoRow : OpenClaim := { program := "ytgkjbpnmeeibbaagreatdoor", sum := "89e9c3e2a088d88c21f3cef71e085ce205f138e7a060e1c7fb5b611bc4ee99a6", func := "sorites/soriteslaw10.FactsReads", spec := "factsReads", inPlace := ["internal/reflectlite.TypeOf", "internal/bytealg.IndexByteString", "internal/bytealg.IndexString", "internal/bytealg.CountString", "internal/abi.NoEscape", "internal/reflectlite.ValueOf", "(internal/reflectlite.Value).Type", "(internal/reflectlite.Value).IsNil", "(internal/reflectlite.Value).Elem", "(internal/reflectlite.Value).Set"], unfollowed := true, recurses := true, named := ["sorites/dtree.errTree", "internal/bytealg.MaxLen", "unicode/utf8.first", "unicode/utf8.acceptRanges", "strconv.ErrSyntax", "strconv.ErrRange", "internal/strconv.uint64pow10", "math/bits.deBruijn32tab", "math/bits.deBruijn64tab", "sorites/text.errForm", "errors.errorType"], loops := true, apart := false, laid := [("math/bits.deBruijn32tab", laid_math_bits_deBruijn32tab), ("math/bits.deBruijn64tab", laid_math_bits_deBruijn64tab), ("internal/strconv.uint64pow10", laid_internal_strconv_uint64pow10), ("unicode/utf8.acceptRanges", laid_unicode_utf8_acceptRanges), ("errors.errorType", laid_errors_errorType), ("strconv.ErrRange", laid_strconv_ErrRange), ("strconv.ErrSyntax", laid_strconv_ErrSyntax), ("sorites/text.errForm", laid_sorites_text_errForm), ("sorites/dtree.errTree", laid_sorites_dtree_errTree), ("unicode/utf8.first", laid_unicode_utf8_first)], narrowed := true }
def FactsReadsUptoSaid : Prop := factsReadsUptoRow.holds Tryz.pinned (OpenSpec.upto factsReadsSpec)

/-- 'soriteslaw10.FactsMoves', WHERE WHAT IT READS IS OF BULK AT MOST 1048576: true; the input reads as it did. -/
def factsMovesUptoRow : OpenClaim := { program := "ytgkjbpnmeeibbaagreatdoor", sum := "89e9c3e2a088d88c21f3cef71e085ce205f138e7a060e1c7fb5b611bc4ee99a6", func := "sorites/soriteslaw10.FactsMoves", spec := "factsMoves", inPlace := ["internal/reflectlite.TypeOf", "internal/bytealg.IndexByteString", "internal/bytealg.IndexString", "internal/bytealg.CountString", "internal/abi.NoEscape", "internal/reflectlite.ValueOf", "(internal/reflectlite.Value).Type", "(internal/reflectlite.Value).IsNil", "(internal/reflectlite.Value).Elem", "(internal/reflectlite.Value).Set"], unfollowed := true, recurses := true, named := ["sorites/dtree.errTree", "internal/bytealg.MaxLen", "unicode/utf8.first", "unicode/utf8.acceptRanges", "strconv.ErrSyntax", "strconv.ErrRange", "internal/strconv.uint64pow10", "math/bits.deBruijn32tab", "math/bits.deBruijn64tab", "sorites/text.errForm", "errors.errorType"], loops := true, apart := false, laid := [("math/bits.deBruijn32tab", laid_math_bits_deBruijn32tab), ("math/bits.deBruijn64tab", laid_math_bits_deBruijn64tab), ("internal/strconv.uint64pow10", laid_internal_strconv_uint64pow10), ("unicode/utf8.acceptRanges", laid_unicode_utf8_acceptRanges), ("errors.errorType", laid_errors_errorType), ("strconv.ErrRange", laid_strconv_ErrRange), ("strconv.ErrSyntax", laid_strconv_ErrSyntax), ("sorites/text.errForm", laid_sorites_text_errForm), ("sorites/dtree.errTree", laid_sorites_dtree_errTree), ("unicode/utf8.first", laid_unicode_utf8_first)], narrowed := true }
def FactsMovesUptoSaid : Prop := factsMovesUptoRow.holds Tryz.pinned (OpenSpec.upto factsMovesSpec)

/-- 'soriteslaw10.FactsFirst', WHERE WHAT IT READS IS OF BULK AT MOST 1048576: true; the input reads as it did. -/
def factsFirstUptoRow : OpenClaim := { program := "ytgkjbpnmeeibbaagreatdoor", sum := "89e9c3e2a088d88c21f3cef71e085ce205f138e7a060e1c7fb5b611bc4ee99a6", func := "sorites/soriteslaw10.FactsFirst", spec := "factsFirst", inPlace := ["internal/reflectlite.TypeOf", "internal/bytealg.IndexByteString", "internal/bytealg.IndexString", "internal/bytealg.CountString", "internal/abi.NoEscape", "internal/reflectlite.ValueOf", "(internal/reflectlite.Value).Type", "(internal/reflectlite.Value).IsNil", "(internal/reflectlite.Value).Elem", "(internal/reflectlite.Value).Set"], unfollowed := true, recurses := true, named := ["sorites/dtree.errTree", "internal/bytealg.MaxLen", "unicode/utf8.first", "unicode/utf8.acceptRanges", "strconv.ErrSyntax", "strconv.ErrRange", "internal/strconv.uint64pow10", "math/bits.deBruijn32tab", "math/bits.deBruijn64tab", "sorites/text.errForm", "errors.errorType"], loops := true, apart := false, laid := [("math/bits.deBruijn32tab", laid_math_bits_deBruijn32tab), ("math/bits.deBruijn64tab", laid_math_bits_deBruijn64tab), ("internal/strconv.uint64pow10", laid_internal_strconv_uint64pow10), ("unicode/utf8.acceptRanges", laid_unicode_utf8_acceptRanges), ("errors.errorType", laid_errors_errorType), ("strconv.ErrRange", laid_strconv_ErrRange), ("strconv.ErrSyntax", laid_strconv_ErrSyntax), ("sorites/text.errForm", laid_sorites_text_errForm), ("sorites/dtree.errTree", laid_sorites_dtree_errTree), ("unicode/utf8.first", laid_unicode_utf8_first)], narrowed := true }
def FactsFirstUptoSaid : Prop := factsFirstUptoRow.holds Tryz.pinned (OpenSpec.upto factsFirstSpec)

/-- 'soriteslaw10.FactsLines', WHERE WHAT IT READS IS OF BULK AT MOST 1048576: true; the input reads as it did. -/
def factsLinesUptoRow : OpenClaim := { program := "ytgkjbpnmeeibbaagreatdoor", sum := "89e9c3e2a088d88c21f3cef71e085ce205f138e7a060e1c7fb5b611bc4ee99a6", func := "sorites/soriteslaw10.FactsLines", spec := "factsLines", inPlace := ["internal/reflectlite.TypeOf", "internal/bytealg.IndexByteString", "internal/bytealg.IndexString", "internal/bytealg.CountString", "internal/abi.NoEscape", "internal/reflectlite.ValueOf", "(internal/reflectlite.Value).Type", "(internal/reflectlite.Value).IsNil", "(internal/reflectlite.Value).Elem", "(internal/reflectlite.Value).Set"], unfollowed := true, recurses := true, named := ["sorites/dtree.errTree", "internal/bytealg.MaxLen", "unicode/utf8.first", "unicode/utf8.acceptRanges", "strconv.ErrSyntax", "strconv.ErrRange", "internal/strconv.uint64pow10", "math/bits.deBruijn32tab", "math/bits.deBruijn64tab", "sorites/text.errForm", "errors.errorType"], apart := false, laid := [("math/bits.deBruijn32tab", laid_math_bits_deBruijn32tab), ("math/bits.deBruijn64tab", laid_math_bits_deBruijn64tab), ("internal/strconv.uint64pow10", laid_internal_strconv_uint64pow10), ("unicode/utf8.acceptRanges", laid_unicode_utf8_acceptRanges), ("errors.errorType", laid_errors_errorType), ("strconv.ErrRange", laid_strconv_ErrRange), ("strconv.ErrSyntax", laid_strconv_ErrSyntax), ("sorites/text.errForm", laid_sorites_text_errForm), ("sorites/dtree.errTree", laid_sorites_dtree_errTree), ("unicode/utf8.first", laid_unicode_utf8_first)], narrowed := true }
def FactsLinesUptoSaid : Prop := factsLinesUptoRow.holds Tryz.pinned (OpenSpec.upto factsLinesSpec)

/-- 'soriteslaw10.FactsApart', WHERE WHAT IT READS IS OF BULK AT MOST 1048576: true; the input reads as it did. -/
def factsApartUptoRow : OpenClaim := { program := "ytgkjbpnmeeibbaagreatdoor", sum := "89e9c3e2a088d88c21f3cef71e085ce205f138e7a060e1c7fb5b611bc4ee99a6", func := "sorites/soriteslaw10.FactsApart", spec := "factsApart", inPlace := ["internal/reflectlite.TypeOf", "internal/bytealg.IndexByteString", "internal/bytealg.IndexString", "internal/bytealg.CountString", "internal/abi.NoEscape", "internal/reflectlite.ValueOf", "(internal/reflectlite.Value).Type", "(internal/reflectlite.Value).IsNil", "(internal/reflectlite.Value).Elem", "(internal/reflectlite.Value).Set"], unfollowed := true, recurses := true, named := ["sorites/dtree.errTree", "internal/bytealg.MaxLen", "unicode/utf8.first", "unicode/utf8.acceptRanges", "strconv.ErrSyntax", "strconv.ErrRange", "internal/strconv.uint64pow10", "math/bits.deBruijn32tab", "math/bits.deBruijn64tab", "sorites/text.errForm", "errors.errorType"], apart := false, laid := [("math/bits.deBruijn32tab", laid_math_bits_deBruijn32tab), ("math/bits.deBruijn64tab", laid_math_bits_deBruijn64tab), ("internal/strconv.uint64pow10", laid_internal_strconv_uint64pow10), ("unicode/utf8.acceptRanges", laid_unicode_utf8_acceptRanges), ("errors.errorType", laid_errors_errorType), ("strconv.ErrRange", laid_strconv_ErrRange), ("strconv.ErrSyntax", laid_strconv_ErrSyntax), ("sorites/text.errForm", laid_sorites_text_errForm), ("sorites/dtree.errTree", laid_sorites_dtree_errTree), ("unicode/utf8.first", laid_unicode_utf8_first)], narrowed := true }
def FactsApartUptoSaid : Prop := factsApartUptoRow.holds Tryz.pinned (OpenSpec.upto factsApartSpec)

/-- 'soriteslaw10.FactsTells', WHERE WHAT IT READS IS OF BULK AT MOST 1048576: true; the input reads as it did. -/
def factsTellsUptoRow : OpenClaim := { program := "ytgkjbpnmeeibbaagreatdoor", sum := "89e9c3e2a088d88c21f3cef71e085ce205f138e7a060e1c7fb5b611bc4ee99a6", func := "sorites/soriteslaw10.FactsTells", spec := "factsTells", inPlace := ["internal/reflectlite.TypeOf", "internal/bytealg.IndexByteString", "internal/bytealg.IndexString", "internal/bytealg.CountString", "internal/abi.NoEscape", "internal/reflectlite.ValueOf", "(internal/reflectlite.Value).Type", "(internal/reflectlite.Value).IsNil", "(internal/reflectlite.Value).Elem", "(internal/reflectlite.Value).Set"], unfollowed := true, recurses := true, named := ["sorites/dtree.errTree", "internal/bytealg.MaxLen", "unicode/utf8.first", "unicode/utf8.acceptRanges", "strconv.ErrSyntax", "strconv.ErrRange", "internal/strconv.uint64pow10", "math/bits.deBruijn32tab", "math/bits.deBruijn64tab", "sorites/text.errForm", "errors.errorType"], loops := true, apart := false, laid := [("math/bits.deBruijn32tab", laid_math_bits_deBruijn32tab), ("math/bits.deBruijn64tab", laid_math_bits_deBruijn64tab), ("internal/strconv.uint64pow10", laid_internal_strconv_uint64pow10), ("unicode/utf8.acceptRanges", laid_unicode_utf8_acceptRanges), ("errors.errorType", laid_errors_errorType), ("strconv.ErrRange", laid_strconv_ErrRange), ("strconv.ErrSyntax", laid_strconv_ErrSyntax), ("sorites/text.errForm", laid_sorites_text_errForm), ("sorites/dtree.errTree", laid_sorites_dtree_errTree), ("unicode/utf8.first", laid_unicode_utf8_first)], narrowed := true }
def FactsTellsUptoSaid : Prop := factsTellsUptoRow.holds Tryz.pinned (OpenSpec.upto factsTellsSpec)

/-- 'soriteslaw10.FactsBack', WHERE WHAT IT READS IS OF BULK AT MOST 1048576: true; the input reads as it did. -/
def factsBackUptoRow : OpenClaim := { program := "ytgkjbpnmeeibbaagreatdoor", sum := "89e9c3e2a088d88c21f3cef71e085ce205f138e7a060e1c7fb5b611bc4ee99a6", func := "sorites/soriteslaw10.FactsBack", spec := "factsBack", inPlace := ["internal/reflectlite.TypeOf", "internal/bytealg.IndexByteString", "internal/bytealg.IndexString", "internal/bytealg.CountString", "internal/abi.NoEscape", "internal/reflectlite.ValueOf", "(internal/reflectlite.Value).Type", "(internal/reflectlite.Value).IsNil", "(internal/reflectlite.Value).Elem", "(internal/reflectlite.Value).Set"], unfollowed := true, recurses := true, named := ["sorites/dtree.errTree", "internal/bytealg.MaxLen", "unicode/utf8.first", "unicode/utf8.acceptRanges", "strconv.ErrSyntax", "strconv.ErrRange", "internal/strconv.uint64pow10", "math/bits.deBruijn32tab", "math/bits.deBruijn64tab", "sorites/text.errForm", "errors.errorType"], loops := true, apart := false, laid := [("math/bits.deBruijn32tab", laid_math_bits_deBruijn32tab), ("math/bits.deBruijn64tab", laid_math_bits_deBruijn64tab), ("internal/strconv.uint64pow10", laid_internal_strconv_uint64pow10), ("unicode/utf8.acceptRanges", laid_unicode_utf8_acceptRanges), ("errors.errorType", laid_errors_errorType), ("strconv.ErrRange", laid_strconv_ErrRange), ("strconv.ErrSyntax", laid_strconv_ErrSyntax), ("sorites/text.errForm", laid_sorites_text_errForm), ("sorites/dtree.errTree", laid_sorites_dtree_errTree), ("unicode/utf8.first", laid_unicode_utf8_first)], narrowed := true }
def FactsBackUptoSaid : Prop := factsBackUptoRow.holds Tryz.pinned (OpenSpec.upto factsBackSpec)

end Rows
end Go.Proofs.YtgkjbpnmeeibbaaGreatDoor
