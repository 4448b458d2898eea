/-
  NARROWER THAN 'FOR EVERY INPUT', by the rows' own cells (each row's printed sentence says how): DtreeRight: loops, laid · DtreeRules: loops, laid · DtreeParts: loops, laid · DtreeSames: loops, laid · DtreeApart: loops, laid · DtreeLines: loops, laid.
  DERIVED. THE GIVEN ROWS OF THIS SEAT. 6 by the template 'for every input the law returns true; each argument reads behind the call as it read before'; 0 by the template 'total and deterministic' (their statements: YtljdbkieofhblaaDoorTotals.lean).
  GIVEN WITH THE SEED: the statements are not yours to turn. If you find one false, say at which input.
  Laid BY PROGRAM, IN A SANDBOX (cutbox-rows.mjs): the forced cells as the released guide's own fill.sh prints them over the translation d33a40752619ef99… (all of the seat's roots in one cut). By AI agents, Wed Nov 11 2026. No macro, syntax, notation, axiom, sorry.
-/
import Derived.Test.YtljdbkieofhblaaDoorChecked
import GoSem.Claim
import GoSem.ClaimJoined
import GoSem.ClaimMapViews
import Derived.JoinedTies
import Derived.KernelRfl
namespace Go.Proofs.YtljdbkieofhblaaDoor
/- THE CELL 'sum', in the pinned program and in every row, IS THE sha256 OF THE DUMP (.gsa) THAT YtljdbkieofhblaaDoorProg.lean LOADS. Nothing in Lean hashes anything: it is a label: what it is worth is what the hold of that sum in a sandbox is worth. -/
noncomputable def Tryd.pinned : Pinned := { name := "ytljdbkieofhblaadoor", sum := "d33a40752619ef99765b1a3e76f38212f417b882595265aad6d988b97cf1e6fb", checked := Tryd.checked }
namespace Rows
def none {H : Type} : Left H := { results := [], args := [] }

/- WHAT THE LISTED PACKAGE-LEVEL VARIABLES READ AS WHEN THE CALL BEGINS. Each datum BY PROGRAM (the guide's laid-datum.mjs) off the statement by which the dump's own 'gosem.cut.vars' lays the variable. In a bare row this is a premise. The card (YtljdbkieofhblaaDoorCards.lean) ties it to the program's text. -/
def laid_math_bits_deBruijn32tab {H : Type} : DataW H := .agg [.lit (.int .u8 0), .lit (.int .u8 1), .lit (.int .u8 28), .lit (.int .u8 2), .lit (.int .u8 29), .lit (.int .u8 14), .lit (.int .u8 24), .lit (.int .u8 3), .lit (.int .u8 30), .lit (.int .u8 22), .lit (.int .u8 20), .lit (.int .u8 15), .lit (.int .u8 25), .lit (.int .u8 17), .lit (.int .u8 4), .lit (.int .u8 8), .lit (.int .u8 31), .lit (.int .u8 27), .lit (.int .u8 13), .lit (.int .u8 23), .lit (.int .u8 21), .lit (.int .u8 19), .lit (.int .u8 16), .lit (.int .u8 7), .lit (.int .u8 26), .lit (.int .u8 12), .lit (.int .u8 18), .lit (.int .u8 6), .lit (.int .u8 11), .lit (.int .u8 5), .lit (.int .u8 10), .lit (.int .u8 9)]
def laid_math_bits_deBruijn64tab {H : Type} : DataW H := .agg [.lit (.int .u8 0), .lit (.int .u8 1), .lit (.int .u8 56), .lit (.int .u8 2), .lit (.int .u8 57), .lit (.int .u8 49), .lit (.int .u8 28), .lit (.int .u8 3), .lit (.int .u8 61), .lit (.int .u8 58), .lit (.int .u8 42), .lit (.int .u8 50), .lit (.int .u8 38), .lit (.int .u8 29), .lit (.int .u8 17), .lit (.int .u8 4), .lit (.int .u8 62), .lit (.int .u8 47), .lit (.int .u8 59), .lit (.int .u8 36), .lit (.int .u8 45), .lit (.int .u8 43), .lit (.int .u8 51), .lit (.int .u8 22), .lit (.int .u8 53), .lit (.int .u8 39), .lit (.int .u8 33), .lit (.int .u8 30), .lit (.int .u8 24), .lit (.int .u8 18), .lit (.int .u8 12), .lit (.int .u8 5), .lit (.int .u8 63), .lit (.int .u8 55), .lit (.int .u8 48), .lit (.int .u8 27), .lit (.int .u8 60), .lit (.int .u8 41), .lit (.int .u8 37), .lit (.int .u8 16), .lit (.int .u8 46), .lit (.int .u8 35), .lit (.int .u8 44), .lit (.int .u8 21), .lit (.int .u8 52), .lit (.int .u8 32), .lit (.int .u8 23), .lit (.int .u8 11), .lit (.int .u8 54), .lit (.int .u8 26), .lit (.int .u8 40), .lit (.int .u8 15), .lit (.int .u8 34), .lit (.int .u8 20), .lit (.int .u8 31), .lit (.int .u8 10), .lit (.int .u8 25), .lit (.int .u8 14), .lit (.int .u8 19), .lit (.int .u8 9), .lit (.int .u8 13), .lit (.int .u8 8), .lit (.int .u8 7), .lit (.int .u8 6)]
def laid_internal_strconv_uint64pow10 {H : Type} : DataW H := .agg [.lit (.int .u64 1), .lit (.int .u64 10), .lit (.int .u64 100), .lit (.int .u64 1000), .lit (.int .u64 10000), .lit (.int .u64 100000), .lit (.int .u64 1000000), .lit (.int .u64 10000000), .lit (.int .u64 100000000), .lit (.int .u64 1000000000), .lit (.int .u64 10000000000), .lit (.int .u64 100000000000), .lit (.int .u64 1000000000000), .lit (.int .u64 10000000000000), .lit (.int .u64 100000000000000), .lit (.int .u64 1000000000000000), .lit (.int .u64 10000000000000000), .lit (.int .u64 100000000000000000), .lit (.int .u64 1000000000000000000), .lit (.int .u64 10000000000000000000)]
def laid_sorites_dtree_errTree {H : Type} : DataW H := .iface "*errors.errorString" (.ptr (.agg [.lit (.string [110, 111, 32, 116, 114, 101, 101])]))

/-- 'soriteslaw03.DtreeRight': WHATEVER THE INPUT: true; the input reads as it did. -/
def dtreeRightSpec : ChangeSpec := { name := "dtreeRight", fn := fun _ => fun
  | [d] => { results := [.lit (.bool true)], args := [d] }
  | _ => none }
def dtreeRightRow : OpenClaim := { program := "ytljdbkieofhblaadoor", sum := "d33a40752619ef99765b1a3e76f38212f417b882595265aad6d988b97cf1e6fb", func := "sorites/soriteslaw03.DtreeRight", spec := "dtreeRight", inPlace := ["internal/reflectlite.TypeOf", "internal/abi.NoEscape", "internal/bytealg.MakeNoZero"], unfollowed := true, recurses := true, named := ["sorites/dtree.errTree", "internal/strconv.uint64pow10", "math/bits.deBruijn32tab", "math/bits.deBruijn64tab"], loops := true, apart := false, laid := [("math/bits.deBruijn32tab", laid_math_bits_deBruijn32tab), ("math/bits.deBruijn64tab", laid_math_bits_deBruijn64tab), ("internal/strconv.uint64pow10", laid_internal_strconv_uint64pow10), ("sorites/dtree.errTree", laid_sorites_dtree_errTree)] }
def DtreeRightSaid : Prop := dtreeRightRow.holds Tryd.pinned (OpenSpec.ofChange dtreeRightSpec)

/-- ITS FALSE NEIGHBOUR: 'it returns false'. Refute it at one input. -/
def dtreeRightWrong : ChangeSpec := { name := "dtreeRight", fn := fun _ => fun
  | [d] => { results := [.lit (.bool false)], args := [d] }
  | _ => none }
def DtreeRightWrongFalsely : Prop := dtreeRightRow.holds Tryd.pinned (OpenSpec.ofChange dtreeRightWrong)

/-- 'soriteslaw03.DtreeRules': WHATEVER THE INPUT: true; the input reads as it did. -/
def dtreeRulesSpec : ChangeSpec := { name := "dtreeRules", fn := fun _ => fun
  | [d] => { results := [.lit (.bool true)], args := [d] }
  | _ => none }
def dtreeRulesRow : OpenClaim := { program := "ytljdbkieofhblaadoor", sum := "d33a40752619ef99765b1a3e76f38212f417b882595265aad6d988b97cf1e6fb", func := "sorites/soriteslaw03.DtreeRules", spec := "dtreeRules", inPlace := ["internal/reflectlite.TypeOf", "internal/abi.NoEscape", "internal/bytealg.MakeNoZero"], unfollowed := true, recurses := true, named := ["sorites/dtree.errTree", "internal/strconv.uint64pow10", "math/bits.deBruijn32tab", "math/bits.deBruijn64tab"], loops := true, apart := false, laid := [("math/bits.deBruijn32tab", laid_math_bits_deBruijn32tab), ("math/bits.deBruijn64tab", laid_math_bits_deBruijn64tab), ("internal/strconv.uint64pow10", laid_internal_strconv_uint64pow10), ("sorites/dtree.errTree", laid_sorites_dtree_errTree)] }
def DtreeRulesSaid : Prop := dtreeRulesRow.holds Tryd.pinned (OpenSpec.ofChange dtreeRulesSpec)

/-- ITS FALSE NEIGHBOUR: 'it returns false'. Refute it at one input. -/
def dtreeRulesWrong : ChangeSpec := { name := "dtreeRules", fn := fun _ => fun
  | [d] => { results := [.lit (.bool false)], args := [d] }
  | _ => none }
def DtreeRulesWrongFalsely : Prop := dtreeRulesRow.holds Tryd.pinned (OpenSpec.ofChange dtreeRulesWrong)

/-- 'soriteslaw03.DtreeParts': WHATEVER THE INPUT: true; the input reads as it did. -/
def dtreePartsSpec : ChangeSpec := { name := "dtreeParts", fn := fun _ => fun
  | [d] => { results := [.lit (.bool true)], args := [d] }
  | _ => none }
def dtreePartsRow : OpenClaim := { program := "ytljdbkieofhblaadoor", sum := "d33a40752619ef99765b1a3e76f38212f417b882595265aad6d988b97cf1e6fb", func := "sorites/soriteslaw03.DtreeParts", spec := "dtreeParts", inPlace := ["internal/reflectlite.TypeOf", "internal/abi.NoEscape", "internal/bytealg.MakeNoZero"], unfollowed := true, recurses := true, named := ["sorites/dtree.errTree", "internal/strconv.uint64pow10", "math/bits.deBruijn32tab", "math/bits.deBruijn64tab"], loops := true, apart := false, laid := [("math/bits.deBruijn32tab", laid_math_bits_deBruijn32tab), ("math/bits.deBruijn64tab", laid_math_bits_deBruijn64tab), ("internal/strconv.uint64pow10", laid_internal_strconv_uint64pow10), ("sorites/dtree.errTree", laid_sorites_dtree_errTree)] }
def DtreePartsSaid : Prop := dtreePartsRow.holds Tryd.pinned (OpenSpec.ofChange dtreePartsSpec)

/-- ITS FALSE NEIGHBOUR: 'it returns false'. Refute it at one input. -/
def dtreePartsWrong : ChangeSpec := { name := "dtreeParts", fn := fun _ => fun
  | [d] => { results := [.lit (.bool false)], args := [d] }
  | _ => none }
def DtreePartsWrongFalsely : Prop := dtreePartsRow.holds Tryd.pinned (OpenSpec.ofChange dtreePartsWrong)

/-- 'soriteslaw03.DtreeSames': WHATEVER THE INPUT: true; the input reads as it did. -/
def dtreeSamesSpec : ChangeSpec := { name := "dtreeSames", fn := fun _ => fun
  | [d1, d2] => { results := [.lit (.bool true)], args := [d1, d2] }
  | _ => none }
def dtreeSamesRow : OpenClaim := { program := "ytljdbkieofhblaadoor", sum := "d33a40752619ef99765b1a3e76f38212f417b882595265aad6d988b97cf1e6fb", func := "sorites/soriteslaw03.DtreeSames", spec := "dtreeSames", inPlace := ["internal/reflectlite.TypeOf", "internal/abi.NoEscape", "internal/bytealg.MakeNoZero"], unfollowed := true, recurses := true, named := ["sorites/dtree.errTree", "internal/strconv.uint64pow10", "math/bits.deBruijn32tab", "math/bits.deBruijn64tab"], loops := true, apart := false, laid := [("math/bits.deBruijn32tab", laid_math_bits_deBruijn32tab), ("math/bits.deBruijn64tab", laid_math_bits_deBruijn64tab), ("internal/strconv.uint64pow10", laid_internal_strconv_uint64pow10), ("sorites/dtree.errTree", laid_sorites_dtree_errTree)] }
def DtreeSamesSaid : Prop := dtreeSamesRow.holds Tryd.pinned (OpenSpec.ofChange dtreeSamesSpec)

/-- ITS FALSE NEIGHBOUR: 'it returns false'. Refute it at one input. -/
def dtreeSamesWrong : ChangeSpec := { name := "dtreeSames", fn := fun _ => fun
  | [d1, d2] => { results := [.lit (.bool false)], args := [d1, d2] }
  | _ => none }
def DtreeSamesWrongFalsely : Prop := dtreeSamesRow.holds Tryd.pinned (OpenSpec.ofChange dtreeSamesWrong)

/-- 'soriteslaw03.DtreeApart': WHATEVER THE INPUT: true; the input reads as it did. -/
def dtreeApartSpec : ChangeSpec := { name := "dtreeApart", fn := fun _ => fun
  | [d1, d2] => { results := [.lit (.bool true)], args := [d1, d2] }
  | _ => none }
def dtreeApartRow : OpenClaim := { program := "ytljdbkieofhblaadoor", sum := "d33a40752619ef99765b1a3e76f38212f417b882595265aad6d988b97cf1e6fb", func := "sorites/soriteslaw03.DtreeApart", spec := "dtreeApart", inPlace := ["internal/reflectlite.TypeOf", "internal/abi.NoEscape", "internal/bytealg.MakeNoZero"], unfollowed := true, recurses := true, named := ["sorites/dtree.errTree", "internal/strconv.uint64pow10", "math/bits.deBruijn32tab", "math/bits.deBruijn64tab"], loops := true, apart := false, laid := [("math/bits.deBruijn32tab", laid_math_bits_deBruijn32tab), ("math/bits.deBruijn64tab", laid_math_bits_deBruijn64tab), ("internal/strconv.uint64pow10", laid_internal_strconv_uint64pow10), ("sorites/dtree.errTree", laid_sorites_dtree_errTree)] }
def DtreeApartSaid : Prop := dtreeApartRow.holds Tryd.pinned (OpenSpec.ofChange dtreeApartSpec)

/-- ITS FALSE NEIGHBOUR: 'it returns false'. Refute it at one input. -/
def dtreeApartWrong : ChangeSpec := { name := "dtreeApart", fn := fun _ => fun
  | [d1, d2] => { results := [.lit (.bool false)], args := [d1, d2] }
  | _ => none }
def DtreeApartWrongFalsely : Prop := dtreeApartRow.holds Tryd.pinned (OpenSpec.ofChange dtreeApartWrong)

/-- 'soriteslaw03.DtreeLines': WHATEVER THE INPUT: true; the input reads as it did. -/
def dtreeLinesSpec : ChangeSpec := { name := "dtreeLines", fn := fun _ => fun
  | [d1, d2] => { results := [.lit (.bool true)], args := [d1, d2] }
  | _ => none }
def dtreeLinesRow : OpenClaim := { program := "ytljdbkieofhblaadoor", sum := "d33a40752619ef99765b1a3e76f38212f417b882595265aad6d988b97cf1e6fb", func := "sorites/soriteslaw03.DtreeLines", spec := "dtreeLines", inPlace := ["internal/reflectlite.TypeOf", "internal/abi.NoEscape", "internal/bytealg.MakeNoZero"], unfollowed := true, recurses := true, named := ["sorites/dtree.errTree", "internal/strconv.uint64pow10", "math/bits.deBruijn32tab", "math/bits.deBruijn64tab"], loops := true, apart := false, laid := [("math/bits.deBruijn32tab", laid_math_bits_deBruijn32tab), ("math/bits.deBruijn64tab", laid_math_bits_deBruijn64tab), ("internal/strconv.uint64pow10", laid_internal_strconv_uint64pow10), ("sorites/dtree.errTree", laid_sorites_dtree_errTree)] }
def DtreeLinesSaid : Prop := dtreeLinesRow.holds Tryd.pinned (OpenSpec.ofChange dtreeLinesSpec)

/-- ITS FALSE NEIGHBOUR: 'it returns false'. Refute it at one input. -/
def dtreeLinesWrong : ChangeSpec := { name := "dtreeLines", fn := fun _ => fun
  | [d1, d2] => { results := [.lit (.bool false)], args := [d1, d2] }
  | _ => none }
def DtreeLinesWrongFalsely : Prop := dtreeLinesRow.holds Tryd.pinned (OpenSpec.ofChange dtreeLinesWrong)

/- THE SECOND FORM. 'bulk': how many values and letters a reading holds, each counted each time it is reached (what is shared counts as often as it is met; a slice's spare places count too). A statement '..UptoSaid' is the law's where the arguments, and the package variables that the reading takes, are together of bulk at most 1048576: NARROWER than '..Said'. Prove '..Said' where nothing that the law and all that it calls make is longer than what came in: it says more and counts as full. Else prove '..UptoSaid'. A law counts once. -/
mutual
def uptoBulk {H : Type} : DataW H → Nat
  | .lit (.string bytes) => bytes.length + 1
  | .lit _ => 1
  | .nil => 1
  | .ptr d => uptoBulk d + 1
  | .slice elems spare => uptoBulkAll elems + uptoBulkAll spare + 1
  | .agg parts => uptoBulkAll parts + 1
  | .iface _ d => uptoBulk d + 1
  | .map entries => uptoBulkEntries entries + 1
  | .held _ => 1
def uptoBulkAll {H : Type} : List (DataW H) → Nat
  | [] => 0
  | d :: r => uptoBulk d + uptoBulkAll r
def uptoBulkEntries {H : Type} : List (Lit × DataW H) → Nat
  | [] => 0
  | x :: r => uptoBulkEntry x + uptoBulkEntries r
def uptoBulkEntry {H : Type} : Lit × DataW H → Nat
  | (.string bytes, d) => bytes.length + uptoBulk d + 1
  | (_, d) => uptoBulk d + 1
 end
def uptoSmall : (H : Type) → List (DataW H) → Bool := fun _ ds => decide (uptoBulkAll ds ≤ 1048576)
def OpenSpec.upto (s : _root_.Go.ChangeSpec) : _root_.Go.OpenSpec := { _root_.Go.OpenSpec.ofChange s with cond := some uptoSmall }

/-- 'soriteslaw03.DtreeRight', WHERE WHAT IT READS IS OF BULK AT MOST 1048576: true; the input reads as it did. -/
def dtreeRightUptoRow : OpenClaim := { program := "ytljdbkieofhblaadoor", sum := "d33a40752619ef99765b1a3e76f38212f417b882595265aad6d988b97cf1e6fb", func := "sorites/soriteslaw03.DtreeRight", spec := "dtreeRight", inPlace := ["internal/reflectlite.TypeOf", "internal/abi.NoEscape", "internal/bytealg.MakeNoZero"], unfollowed := true, recurses := true, named := ["sorites/dtree.errTree", "internal/strconv.uint64pow10", "math/bits.deBruijn32tab", "math/bits.deBruijn64tab"], loops := true, apart := false, laid := [("math/bits.deBruijn32tab", laid_math_bits_deBruijn32tab), ("math/bits.deBruijn64tab", laid_math_bits_deBruijn64tab), ("internal/strconv.uint64pow10", laid_internal_strconv_uint64pow10), ("sorites/dtree.errTree", laid_sorites_dtree_errTree)], narrowed := true }
def DtreeRightUptoSaid : Prop := dtreeRightUptoRow.holds Tryd.pinned (OpenSpec.upto dtreeRightSpec)

/-- 'soriteslaw03.DtreeRules', WHERE WHAT IT READS IS OF BULK AT MOST 1048576: true; the input reads as it did. -/
def dtreeRulesUptoRow : OpenClaim := { program := "ytljdbkieofhblaadoor", sum := "d33a40752619ef99765b1a3e76f38212f417b882595265aad6d988b97cf1e6fb", func := "sorites/soriteslaw03.DtreeRules", spec := "dtreeRules", inPlace := ["internal/reflectlite.TypeOf", "internal/abi.NoEscape", "internal/bytealg.MakeNoZero"], unfollowed := true, recurses := true, named := ["sorites/dtree.errTree", "internal/strconv.uint64pow10", "math/bits.deBruijn32tab", "math/bits.deBruijn64tab"], loops := true, apart := false, laid := [("math/bits.deBruijn32tab", laid_math_bits_deBruijn32tab), ("math/bits.deBruijn64tab", laid_math_bits_deBruijn64tab), ("internal/strconv.uint64pow10", laid_internal_strconv_uint64pow10), ("sorites/dtree.errTree", laid_sorites_dtree_errTree)], narrowed := true }
def DtreeRulesUptoSaid : Prop := dtreeRulesUptoRow.holds Tryd.pinned (OpenSpec.upto dtreeRulesSpec)

/-- 'soriteslaw03.DtreeParts', WHERE WHAT IT READS IS OF BULK AT MOST 1048576: true; the input reads as it did. -/
def dtreePartsUptoRow : OpenClaim := { program := "ytljdbkieofhblaadoor", sum := "d33a40752619ef99765b1a3e76f38212f417b882595265aad6d988b97cf1e6fb", func := "sorites/soriteslaw03.DtreeParts", spec := "dtreeParts", inPlace := ["internal/reflectlite.TypeOf", "internal/abi.NoEscape", "internal/bytealg.MakeNoZero"], unfollowed := true, recurses := true, named := ["sorites/dtree.errTree", "internal/strconv.uint64pow10", "math/bits.deBruijn32tab", "math/bits.deBruijn64tab"], loops := true, apart := false, laid := [("math/bits.deBruijn32tab", laid_math_bits_deBruijn32tab), ("math/bits.deBruijn64tab", laid_math_bits_deBruijn64tab), ("internal/strconv.uint64pow10", laid_internal_strconv_uint64pow10), ("sorites/dtree.errTree", laid_sorites_dtree_errTree)], narrowed := true }
def DtreePartsUptoSaid : Prop := dtreePartsUptoRow.holds Tryd.pinned (OpenSpec.upto dtreePartsSpec)

/-- 'soriteslaw03.DtreeSames', WHERE WHAT IT READS IS OF BULK AT MOST 1048576: true; the input reads as it did. -/
def dtreeSamesUptoRow : OpenClaim := { program := "ytljdbkieofhblaadoor", sum := "d33a40752619ef99765b1a3e76f38212f417b882595265aad6d988b97cf1e6fb", func := "sorites/soriteslaw03.DtreeSames", spec := "dtreeSames", inPlace := ["internal/reflectlite.TypeOf", "internal/abi.NoEscape", "internal/bytealg.MakeNoZero"], unfollowed := true, recurses := true, named := ["sorites/dtree.errTree", "internal/strconv.uint64pow10", "math/bits.deBruijn32tab", "math/bits.deBruijn64tab"], loops := true, apart := false, laid := [("math/bits.deBruijn32tab", laid_math_bits_deBruijn32tab), ("math/bits.deBruijn64tab", laid_math_bits_deBruijn64tab), ("internal/strconv.uint64pow10", laid_internal_strconv_uint64pow10), ("sorites/dtree.errTree", laid_sorites_dtree_errTree)], narrowed := true }
def DtreeSamesUptoSaid : Prop := dtreeSamesUptoRow.holds Tryd.pinned (OpenSpec.upto dtreeSamesSpec)

/-- 'soriteslaw03.DtreeApart', WHERE WHAT IT READS IS OF BULK AT MOST 1048576: true; the input reads as it did. -/
def dtreeApartUptoRow : OpenClaim := { program := "ytljdbkieofhblaadoor", sum := "d33a40752619ef99765b1a3e76f38212f417b882595265aad6d988b97cf1e6fb", func := "sorites/soriteslaw03.DtreeApart", spec := "dtreeApart", inPlace := ["internal/reflectlite.TypeOf", "internal/abi.NoEscape", "internal/bytealg.MakeNoZero"], unfollowed := true, recurses := true, named := ["sorites/dtree.errTree", "internal/strconv.uint64pow10", "math/bits.deBruijn32tab", "math/bits.deBruijn64tab"], loops := true, apart := false, laid := [("math/bits.deBruijn32tab", laid_math_bits_deBruijn32tab), ("math/bits.deBruijn64tab", laid_math_bits_deBruijn64tab), ("internal/strconv.uint64pow10", laid_internal_strconv_uint64pow10), ("sorites/dtree.errTree", laid_sorites_dtree_errTree)], narrowed := true }
def DtreeApartUptoSaid : Prop := dtreeApartUptoRow.holds Tryd.pinned (OpenSpec.upto dtreeApartSpec)

/-- 'soriteslaw03.DtreeLines', WHERE WHAT IT READS IS OF BULK AT MOST 1048576: true; the input reads as it did. -/
def dtreeLinesUptoRow : OpenClaim := { program := "ytljdbkieofhblaadoor", sum := "d33a40752619ef99765b1a3e76f38212f417b882595265aad6d988b97cf1e6fb", func := "sorites/soriteslaw03.DtreeLines", spec := "dtreeLines", inPlace := ["internal/reflectlite.TypeOf", "internal/abi.NoEscape", "internal/bytealg.MakeNoZero"], unfollowed := true, recurses := true, named := ["sorites/dtree.errTree", "internal/strconv.uint64pow10", "math/bits.deBruijn32tab", "math/bits.deBruijn64tab"], loops := true, apart := false, laid := [("math/bits.deBruijn32tab", laid_math_bits_deBruijn32tab), ("math/bits.deBruijn64tab", laid_math_bits_deBruijn64tab), ("internal/strconv.uint64pow10", laid_internal_strconv_uint64pow10), ("sorites/dtree.errTree", laid_sorites_dtree_errTree)], narrowed := true }
def DtreeLinesUptoSaid : Prop := dtreeLinesUptoRow.holds Tryd.pinned (OpenSpec.upto dtreeLinesSpec)

end Rows
end Go.Proofs.YtljdbkieofhblaaDoor
