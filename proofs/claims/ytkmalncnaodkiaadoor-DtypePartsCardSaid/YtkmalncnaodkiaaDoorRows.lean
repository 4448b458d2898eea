/-
  NARROWER THAN 'FOR EVERY INPUT', by the rows' own cells (each row's printed sentence says how): DtypeVars: loops, laid · DtypeTypes: loops, laid · DtypeMoves: loops, laid · DtypeLess: loops, laid · DtypeChecks: loops, laid · DtypeParts: loops, laid.
  DERIVED. THE GIVEN ROWS OF THIS SEAT. 6 by the template 'for every input the law returns true; each argument reads behind the call as it read before'; 0 by the template 'total and deterministic' (their statements: YtkmalncnaodkiaaDoorTotals.lean).
  GIVEN WITH THE SEED: the statements are not yours to turn. If you find one false, say at which input.
  Laid BY PROGRAM, IN A SANDBOX (cutbox-rows.mjs): the forced cells as the released guide's own fill.sh prints them over the translation 4995659b4917683e… (all of the seat's roots in one cut). By AI agents, Wed Nov 11 2026. No macro, syntax, notation, axiom, sorry.
-/
import Derived.Test.YtkmalncnaodkiaaDoorChecked
import GoSem.Claim
import GoSem.ClaimJoined
import GoSem.ClaimMapViews
import Derived.JoinedTies
import Derived.KernelRfl
namespace Go.Proofs.YtkmalncnaodkiaaDoor
/- THE CELL 'sum', in the pinned program and in every row, IS THE sha256 OF THE DUMP (.gsa) THAT YtkmalncnaodkiaaDoorProg.lean LOADS. Nothing in Lean hashes anything: it is a label: what it is worth is what the hold of that sum in a sandbox is worth. -/
noncomputable def Tryd.pinned : Pinned := { name := "ytkmalncnaodkiaadoor", sum := "4995659b4917683eff8991b8ddbbfe5a0892f14e6cf66c8f603bdf5d3192599b", checked := Tryd.checked }
namespace Rows
def none {H : Type} : Left H := { results := [], args := [] }

/- WHAT THE LISTED PACKAGE-LEVEL VARIABLES READ AS WHEN THE CALL BEGINS. Each datum BY PROGRAM (the guide's laid-datum.mjs) off the statement by which the dump's own 'gosem.cut.vars' lays the variable. In a bare row this is a premise. The card (YtkmalncnaodkiaaDoorCards.lean) ties it to the program's text. -/
def laid_sorites_dtree_errTree {H : Type} : DataW H := .iface "*errors.errorString" (.ptr (.agg [.lit (.string [110, 111, 32, 116, 114, 101, 101])]))
def laid_sorites_dtype_errNoRel {H : Type} : DataW H := .iface "*errors.errorString" (.ptr (.agg [.lit (.string [110, 111, 32, 114, 101, 108, 97, 116, 105, 111, 110])]))
def laid_sorites_dtype_errArity {H : Type} : DataW H := .iface "*errors.errorString" (.ptr (.agg [.lit (.string [97, 110, 111, 116, 104, 101, 114, 32, 110, 117, 109, 98, 101, 114, 32, 111, 102, 32, 99, 111, 108, 117, 109, 110, 115])]))
def laid_sorites_dtype_errType {H : Type} : DataW H := .iface "*errors.errorString" (.ptr (.agg [.lit (.string [97, 110, 111, 116, 104, 101, 114, 32, 116, 121, 112, 101])]))

/-- 'soriteslaw05.DtypeVars': WHATEVER THE INPUT: true; the input reads as it did. -/
def dtypeVarsSpec : ChangeSpec := { name := "dtypeVars", fn := fun _ => fun
  | [d1, d2, d3] => { results := [.lit (.bool true)], args := [d1, d2, d3] }
  | _ => none }
def dtypeVarsRow : OpenClaim := { program := "ytkmalncnaodkiaadoor", sum := "4995659b4917683eff8991b8ddbbfe5a0892f14e6cf66c8f603bdf5d3192599b", func := "sorites/soriteslaw05.DtypeVars", spec := "dtypeVars", inPlace := ["internal/reflectlite.TypeOf"], unfollowed := true, recurses := true, named := ["sorites/dtree.errTree", "sorites/dtype.errType", "sorites/dtype.errNoRel", "sorites/dtype.errArity"], loops := true, apart := false, laid := [("sorites/dtree.errTree", laid_sorites_dtree_errTree), ("sorites/dtype.errNoRel", laid_sorites_dtype_errNoRel), ("sorites/dtype.errArity", laid_sorites_dtype_errArity), ("sorites/dtype.errType", laid_sorites_dtype_errType)] }
def DtypeVarsSaid : Prop := dtypeVarsRow.holds Tryd.pinned (OpenSpec.ofChange dtypeVarsSpec)

/-- ITS FALSE NEIGHBOUR: 'it returns false'. Refute it at one input. -/
def dtypeVarsWrong : ChangeSpec := { name := "dtypeVars", fn := fun _ => fun
  | [d1, d2, d3] => { results := [.lit (.bool false)], args := [d1, d2, d3] }
  | _ => none }
def DtypeVarsWrongFalsely : Prop := dtypeVarsRow.holds Tryd.pinned (OpenSpec.ofChange dtypeVarsWrong)

/-- 'soriteslaw05.DtypeTypes': WHATEVER THE INPUT: true; the input reads as it did. -/
def dtypeTypesSpec : ChangeSpec := { name := "dtypeTypes", fn := fun _ => fun
  | [d1, d2] => { results := [.lit (.bool true)], args := [d1, d2] }
  | _ => none }
def dtypeTypesRow : OpenClaim := { program := "ytkmalncnaodkiaadoor", sum := "4995659b4917683eff8991b8ddbbfe5a0892f14e6cf66c8f603bdf5d3192599b", func := "sorites/soriteslaw05.DtypeTypes", spec := "dtypeTypes", inPlace := ["internal/reflectlite.TypeOf"], unfollowed := true, recurses := true, named := ["sorites/dtree.errTree", "sorites/dtype.errType", "sorites/dtype.errNoRel", "sorites/dtype.errArity"], loops := true, apart := false, laid := [("sorites/dtree.errTree", laid_sorites_dtree_errTree), ("sorites/dtype.errNoRel", laid_sorites_dtype_errNoRel), ("sorites/dtype.errArity", laid_sorites_dtype_errArity), ("sorites/dtype.errType", laid_sorites_dtype_errType)] }
def DtypeTypesSaid : Prop := dtypeTypesRow.holds Tryd.pinned (OpenSpec.ofChange dtypeTypesSpec)

/-- ITS FALSE NEIGHBOUR: 'it returns false'. Refute it at one input. -/
def dtypeTypesWrong : ChangeSpec := { name := "dtypeTypes", fn := fun _ => fun
  | [d1, d2] => { results := [.lit (.bool false)], args := [d1, d2] }
  | _ => none }
def DtypeTypesWrongFalsely : Prop := dtypeTypesRow.holds Tryd.pinned (OpenSpec.ofChange dtypeTypesWrong)

/-- 'soriteslaw05.DtypeMoves': WHATEVER THE INPUT: true; the input reads as it did. -/
def dtypeMovesSpec : ChangeSpec := { name := "dtypeMoves", fn := fun _ => fun
  | [d1, d2, d3, d4] => { results := [.lit (.bool true)], args := [d1, d2, d3, d4] }
  | _ => none }
def dtypeMovesRow : OpenClaim := { program := "ytkmalncnaodkiaadoor", sum := "4995659b4917683eff8991b8ddbbfe5a0892f14e6cf66c8f603bdf5d3192599b", func := "sorites/soriteslaw05.DtypeMoves", spec := "dtypeMoves", inPlace := ["internal/reflectlite.TypeOf"], unfollowed := true, recurses := true, named := ["sorites/dtree.errTree", "sorites/dtype.errType", "sorites/dtype.errNoRel", "sorites/dtype.errArity"], loops := true, apart := false, laid := [("sorites/dtree.errTree", laid_sorites_dtree_errTree), ("sorites/dtype.errNoRel", laid_sorites_dtype_errNoRel), ("sorites/dtype.errArity", laid_sorites_dtype_errArity), ("sorites/dtype.errType", laid_sorites_dtype_errType)] }
def DtypeMovesSaid : Prop := dtypeMovesRow.holds Tryd.pinned (OpenSpec.ofChange dtypeMovesSpec)

/-- ITS FALSE NEIGHBOUR: 'it returns false'. Refute it at one input. -/
def dtypeMovesWrong : ChangeSpec := { name := "dtypeMoves", fn := fun _ => fun
  | [d1, d2, d3, d4] => { results := [.lit (.bool false)], args := [d1, d2, d3, d4] }
  | _ => none }
def DtypeMovesWrongFalsely : Prop := dtypeMovesRow.holds Tryd.pinned (OpenSpec.ofChange dtypeMovesWrong)

/-- 'soriteslaw05.DtypeLess': WHATEVER THE INPUT: true; the input reads as it did. -/
def dtypeLessSpec : ChangeSpec := { name := "dtypeLess", fn := fun _ => fun
  | [d1, d2, d3] => { results := [.lit (.bool true)], args := [d1, d2, d3] }
  | _ => none }
def dtypeLessRow : OpenClaim := { program := "ytkmalncnaodkiaadoor", sum := "4995659b4917683eff8991b8ddbbfe5a0892f14e6cf66c8f603bdf5d3192599b", func := "sorites/soriteslaw05.DtypeLess", spec := "dtypeLess", inPlace := ["internal/reflectlite.TypeOf"], unfollowed := true, recurses := true, named := ["sorites/dtree.errTree", "sorites/dtype.errType", "sorites/dtype.errNoRel", "sorites/dtype.errArity"], loops := true, apart := false, laid := [("sorites/dtree.errTree", laid_sorites_dtree_errTree), ("sorites/dtype.errNoRel", laid_sorites_dtype_errNoRel), ("sorites/dtype.errArity", laid_sorites_dtype_errArity), ("sorites/dtype.errType", laid_sorites_dtype_errType)] }
def DtypeLessSaid : Prop := dtypeLessRow.holds Tryd.pinned (OpenSpec.ofChange dtypeLessSpec)

/-- ITS FALSE NEIGHBOUR: 'it returns false'. Refute it at one input. -/
def dtypeLessWrong : ChangeSpec := { name := "dtypeLess", fn := fun _ => fun
  | [d1, d2, d3] => { results := [.lit (.bool false)], args := [d1, d2, d3] }
  | _ => none }
def DtypeLessWrongFalsely : Prop := dtypeLessRow.holds Tryd.pinned (OpenSpec.ofChange dtypeLessWrong)

/-- 'soriteslaw05.DtypeChecks': WHATEVER THE INPUT: true; the input reads as it did. -/
def dtypeChecksSpec : ChangeSpec := { name := "dtypeChecks", fn := fun _ => fun
  | [d] => { results := [.lit (.bool true)], args := [d] }
  | _ => none }
def dtypeChecksRow : OpenClaim := { program := "ytkmalncnaodkiaadoor", sum := "4995659b4917683eff8991b8ddbbfe5a0892f14e6cf66c8f603bdf5d3192599b", func := "sorites/soriteslaw05.DtypeChecks", spec := "dtypeChecks", inPlace := ["internal/reflectlite.TypeOf"], unfollowed := true, recurses := true, named := ["sorites/dtree.errTree", "sorites/dtype.errType", "sorites/dtype.errNoRel", "sorites/dtype.errArity"], loops := true, apart := false, laid := [("sorites/dtree.errTree", laid_sorites_dtree_errTree), ("sorites/dtype.errNoRel", laid_sorites_dtype_errNoRel), ("sorites/dtype.errArity", laid_sorites_dtype_errArity), ("sorites/dtype.errType", laid_sorites_dtype_errType)] }
def DtypeChecksSaid : Prop := dtypeChecksRow.holds Tryd.pinned (OpenSpec.ofChange dtypeChecksSpec)

/-- ITS FALSE NEIGHBOUR: 'it returns false'. Refute it at one input. -/
def dtypeChecksWrong : ChangeSpec := { name := "dtypeChecks", fn := fun _ => fun
  | [d] => { results := [.lit (.bool false)], args := [d] }
  | _ => none }
def DtypeChecksWrongFalsely : Prop := dtypeChecksRow.holds Tryd.pinned (OpenSpec.ofChange dtypeChecksWrong)

/-- 'soriteslaw05.DtypeParts': WHATEVER THE INPUT: true; the input reads as it did. -/
def dtypePartsSpec : ChangeSpec := { name := "dtypeParts", fn := fun _ => fun
  | [d1, d2] => { results := [.lit (.bool true)], args := [d1, d2] }
  | _ => none }
def dtypePartsRow : OpenClaim := { program := "ytkmalncnaodkiaadoor", sum := "4995659b4917683eff8991b8ddbbfe5a0892f14e6cf66c8f603bdf5d3192599b", func := "sorites/soriteslaw05.DtypeParts", spec := "dtypeParts", inPlace := ["internal/reflectlite.TypeOf"], unfollowed := true, recurses := true, named := ["sorites/dtree.errTree", "sorites/dtype.errType", "sorites/dtype.errNoRel", "sorites/dtype.errArity"], loops := true, apart := false, laid := [("sorites/dtree.errTree", laid_sorites_dtree_errTree), ("sorites/dtype.errNoRel", laid_sorites_dtype_errNoRel), ("sorites/dtype.errArity", laid_sorites_dtype_errArity), ("sorites/dtype.errType", laid_sorites_dtype_errType)] }
def DtypePartsSaid : Prop := dtypePartsRow.holds Tryd.pinned (OpenSpec.ofChange dtypePartsSpec)

/-- ITS FALSE NEIGHBOUR: 'it returns false'. Refute it at one input. -/
def dtypePartsWrong : ChangeSpec := { name := "dtypeParts", fn := fun _ => fun
  | [d1, d2] => { results := [.lit (.bool false)], args := [d1, d2] }
  | _ => none }
def DtypePartsWrongFalsely : Prop := dtypePartsRow.holds Tryd.pinned (OpenSpec.ofChange dtypePartsWrong)

/- THE SECOND FORM. 'bulk': how many values and letters a reading holds, each counted each time it is reached (what is shared counts as often as it is met; a slice's spare places count too). A statement '..UptoSaid' is the law's where the arguments, and the package variables that the reading takes, are together of bulk at most 1048576: NARROWER than '..Said'. Prove '..Said' where nothing that the law and all that it calls make is longer than what came in: it says more and counts as full. Else prove '..UptoSaid'. A law counts once. -/
mutual
def uptoBulk {H : Type} : DataW H → Nat
  | .lit (.string bytes) => bytes.length + 1
  | .lit _ => 1
  | .nil => 1
  | .ptr d => uptoBulk d + 1
  | .slice elems spare => uptoBulkAll elems + uptoBulkAll spare + 1
  | .agg parts => uptoBulkAll parts + 1
  | .iface _ d => uptoBulk d + 1
  | .map entries => uptoBulkEntries entries + 1
  | .held _ => 1
def uptoBulkAll {H : Type} : List (DataW H) → Nat
  | [] => 0
  | d :: r => uptoBulk d + uptoBulkAll r
def uptoBulkEntries {H : Type} : List (Lit × DataW H) → Nat
  | [] => 0
  | x :: r => uptoBulkEntry x + uptoBulkEntries r
def uptoBulkEntry {H : Type} : Lit × DataW H → Nat
  | (.string bytes, d) => bytes.length + uptoBulk d + 1
  | (_, d) => uptoBulk d + 1
 end
def uptoSmall : (H : Type) → List (DataW H) → Bool := fun _ ds => decide (uptoBulkAll ds ≤ 1048576)
def OpenSpec.upto (s : _root_.Go.ChangeSpec) : _root_.Go.OpenSpec := { _root_.Go.OpenSpec.ofChange s with cond := some uptoSmall }

/-- 'soriteslaw05.DtypeVars', WHERE WHAT IT READS IS OF BULK AT MOST 1048576: true; the input reads as it did. -/
def dtypeVarsUptoRow : OpenClaim := { program := "ytkmalncnaodkiaadoor", sum := "4995659b4917683eff8991b8ddbbfe5a0892f14e6cf66c8f603bdf5d3192599b", func := "sorites/soriteslaw05.DtypeVars", spec := "dtypeVars", inPlace := ["internal/reflectlite.TypeOf"], unfollowed := true, recurses := true, named := ["sorites/dtree.errTree", "sorites/dtype.errType", "sorites/dtype.errNoRel", "sorites/dtype.errArity"], loops := true, apart := false, laid := [("sorites/dtree.errTree", laid_sorites_dtree_errTree), ("sorites/dtype.errNoRel", laid_sorites_dtype_errNoRel), ("sorites/dtype.errArity", laid_sorites_dtype_errArity), ("sorites/dtype.errType", laid_sorites_dtype_errType)], narrowed := true }
def DtypeVarsUptoSaid : Prop := dtypeVarsUptoRow.holds Tryd.pinned (OpenSpec.upto dtypeVarsSpec)

/-- 'soriteslaw05.DtypeTypes', WHERE WHAT IT READS IS OF BULK AT MOST 1048576: true; the input reads as it did. -/
def dtypeTypesUptoRow : OpenClaim := { program := "ytkmalncnaodkiaadoor", sum := "4995659b4917683eff8991b8ddbbfe5a0892f14e6cf66c8f603bdf5d3192599b", func := "sorites/soriteslaw05.DtypeTypes", spec := "dtypeTypes", inPlace := ["internal/reflectlite.TypeOf"], unfollowed := true, recurses := true, named := ["sorites/dtree.errTree", "sorites/dtype.errType", "sorites/dtype.errNoRel", "sorites/dtype.errArity"], loops := true, apart := false, laid := [("sorites/dtree.errTree", laid_sorites_dtree_errTree), ("sorites/dtype.errNoRel", laid_sorites_dtype_errNoRel), ("sorites/dtype.errArity", laid_sorites_dtype_errArity), ("sorites/dtype.errType", laid_sorites_dtype_errType)], narrowed := true }
def DtypeTypesUptoSaid : Prop := dtypeTypesUptoRow.holds Tryd.pinned (OpenSpec.upto dtypeTypesSpec)

/-- 'soriteslaw05.DtypeMoves', WHERE WHAT IT READS IS OF BULK AT MOST 1048576: true; the input reads as it did. -/
def dtypeMovesUptoRow : OpenClaim := { program := "ytkmalncnaodkiaadoor", sum := "4995659b4917683eff8991b8ddbbfe5a0892f14e6cf66c8f603bdf5d3192599b", func := "sorites/soriteslaw05.DtypeMoves", spec := "dtypeMoves", inPlace := ["internal/reflectlite.TypeOf"], unfollowed := true, recurses := true, named := ["sorites/dtree.errTree", "sorites/dtype.errType", "sorites/dtype.errNoRel", "sorites/dtype.errArity"], loops := true, apart := false, laid := [("sorites/dtree.errTree", laid_sorites_dtree_errTree), ("sorites/dtype.errNoRel", laid_sorites_dtype_errNoRel), ("sorites/dtype.errArity", laid_sorites_dtype_errArity), ("sorites/dtype.errType", laid_sorites_dtype_errType)], narrowed := true }
def DtypeMovesUptoSaid : Prop := dtypeMovesUptoRow.holds Tryd.pinned (OpenSpec.upto dtypeMovesSpec)

/-- 'soriteslaw05.DtypeLess', WHERE WHAT IT READS IS OF BULK AT MOST 1048576: true; the input reads as it did. -/
def dtypeLessUptoRow : OpenClaim := { program := "ytkmalncnaodkiaadoor", sum := "4995659b4917683eff8991b8ddbbfe5a0892f14e6cf66c8f603bdf5d3192599b", func := "sorites/soriteslaw05.DtypeLess", spec := "dtypeLess", inPlace := ["internal/reflectlite.TypeOf"], unfollowed := true, recurses := true, named := ["sorites/dtree.errTree", "sorites/dtype.errType", "sorites/dtype.errNoRel", "sorites/dtype.errArity"], loops := true, apart := false, laid := [("sorites/dtree.errTree", laid_sorites_dtree_errTree), ("sorites/dtype.errNoRel", laid_sorites_dtype_errNoRel), ("sorites/dtype.errArity", laid_sorites_dtype_errArity), ("sorites/dtype.errType", laid_sorites_dtype_errType)], narrowed := true }
def DtypeLessUptoSaid : Prop := dtypeLessUptoRow.holds Tryd.pinned (OpenSpec.upto dtypeLessSpec)

/-- 'soriteslaw05.DtypeChecks', WHERE WHAT IT READS IS OF BULK AT MOST 1048576: true; the input reads as it did. -/
def dtypeChecksUptoRow : OpenClaim := { program := "ytkmalncnaodkiaadoor", sum := "4995659b4917683eff8991b8ddbbfe5a0892f14e6cf66c8f603bdf5d3192599b", func := "sorites/soriteslaw05.DtypeChecks", spec := "dtypeChecks", inPlace := ["internal/reflectlite.TypeOf"], unfollowed := true, recurses := true, named := ["sorites/dtree.errTree", "sorites/dtype.errType", "sorites/dtype.errNoRel", "sorites/dtype.errArity"], loops := true, apart := false, laid := [("sorites/dtree.errTree", laid_sorites_dtree_errTree), ("sorites/dtype.errNoRel", laid_sorites_dtype_errNoRel), ("sorites/dtype.errArity", laid_sorites_dtype_errArity), ("sorites/dtype.errType", laid_sorites_dtype_errType)], narrowed := true }
def DtypeChecksUptoSaid : Prop := dtypeChecksUptoRow.holds Tryd.pinned (OpenSpec.upto dtypeChecksSpec)

/-- 'soriteslaw05.DtypeParts', WHERE WHAT IT READS IS OF BULK AT MOST 1048576: true; the input reads as it did. -/
def dtypePartsUptoRow : OpenClaim := { program := "ytkmalncnaodkiaadoor", sum := "4995659b4917683eff8991b8ddbbfe5a0892f14e6cf66c8f603bdf5d3192599b", func := "sorites/soriteslaw05.DtypeParts", spec := "dtypeParts", inPlace := ["internal/reflectlite.TypeOf"], unfollowed := true, recurses := true, named := ["sorites/dtree.errTree", "sorites/dtype.errType", "sorites/dtype.errNoRel", "sorites/dtype.errArity"], loops := true, apart := false, laid := [("sorites/dtree.errTree", laid_sorites_dtree_errTree), ("sorites/dtype.errNoRel", laid_sorites_dtype_errNoRel), ("sorites/dtype.errArity", laid_sorites_dtype_errArity), ("sorites/dtype.errType", laid_sorites_dtype_errType)], narrowed := true }
def DtypePartsUptoSaid : Prop := dtypePartsUptoRow.holds Tryd.pinned (OpenSpec.upto dtypePartsSpec)

end Rows
end Go.Proofs.YtkmalncnaodkiaaDoor
