/-
  DERIVED. GIVEN WITH THE SEED: THE CARDS: each row of YtkmalncnaodkiaaDoorRows.lean that lists a variable, with what it lists TIED to the program's text (the seventh form; the later family's looks); each row that meets fmt, with fmt's text TOLD by the authors' own Lean function (tested against real Go, not proved from fmt's source: count such statements apart). THE CARD IS WHAT COUNTS. Prove the row's statement (the work); the ties are given (YtkmalncnaodkiaaDoorTie.lean); close each card by the builder's one call (the guide's Derived/Test/ToyasCard.lean, 'card_holds'). Laid BY PROGRAM, IN A SANDBOX (cutbox-door.mjs). By AI agents, Wed Nov 11 2026. No macro, syntax, notation, axiom, sorry.
-/
import Derived.Test.YtkmalncnaodkiaaDoorRows
import GoSem.ClaimSeven
namespace Go.Proofs.YtkmalncnaodkiaaDoor
namespace Rows

/-- THE TIED CARD OF 'soriteslaw05.DtypeVars'. -/
def dtypeVarsCard : Claim7 := { stood := { row := dtypeVarsRow, standIns := [], harness := (true, "f38af0c6a5bd2046032f3f1956769c5a632408a8ff534df0ac6c6e1a0939f61a"), looks := true }, kinds := [], alts := [], laidByText := true, laidKinds := [.sentinel, .sentinel, .sentinel, .sentinel], laidTests := true, laidLooks := .later }
def DtypeVarsCardSaid : Prop := Claim7.holds Tryd.pinned (.plain (OpenSpec.ofChange dtypeVarsSpec)) dtypeVarsCard

/-- THE TIED CARD OF 'soriteslaw05.DtypeTypes'. -/
def dtypeTypesCard : Claim7 := { stood := { row := dtypeTypesRow, standIns := [], harness := (true, "f38af0c6a5bd2046032f3f1956769c5a632408a8ff534df0ac6c6e1a0939f61a"), looks := true }, kinds := [], alts := [], laidByText := true, laidKinds := [.sentinel, .sentinel, .sentinel, .sentinel], laidTests := true, laidLooks := .later }
def DtypeTypesCardSaid : Prop := Claim7.holds Tryd.pinned (.plain (OpenSpec.ofChange dtypeTypesSpec)) dtypeTypesCard

/-- THE TIED CARD OF 'soriteslaw05.DtypeMoves'. -/
def dtypeMovesCard : Claim7 := { stood := { row := dtypeMovesRow, standIns := [], harness := (true, "f38af0c6a5bd2046032f3f1956769c5a632408a8ff534df0ac6c6e1a0939f61a"), looks := true }, kinds := [], alts := [], laidByText := true, laidKinds := [.sentinel, .sentinel, .sentinel, .sentinel], laidTests := true, laidLooks := .later }
def DtypeMovesCardSaid : Prop := Claim7.holds Tryd.pinned (.plain (OpenSpec.ofChange dtypeMovesSpec)) dtypeMovesCard

/-- THE TIED CARD OF 'soriteslaw05.DtypeLess'. -/
def dtypeLessCard : Claim7 := { stood := { row := dtypeLessRow, standIns := [], harness := (true, "f38af0c6a5bd2046032f3f1956769c5a632408a8ff534df0ac6c6e1a0939f61a"), looks := true }, kinds := [], alts := [], laidByText := true, laidKinds := [.sentinel, .sentinel, .sentinel, .sentinel], laidTests := true, laidLooks := .later }
def DtypeLessCardSaid : Prop := Claim7.holds Tryd.pinned (.plain (OpenSpec.ofChange dtypeLessSpec)) dtypeLessCard

/-- THE TIED CARD OF 'soriteslaw05.DtypeChecks'. -/
def dtypeChecksCard : Claim7 := { stood := { row := dtypeChecksRow, standIns := [], harness := (true, "f38af0c6a5bd2046032f3f1956769c5a632408a8ff534df0ac6c6e1a0939f61a"), looks := true }, kinds := [], alts := [], laidByText := true, laidKinds := [.sentinel, .sentinel, .sentinel, .sentinel], laidTests := true, laidLooks := .later }
def DtypeChecksCardSaid : Prop := Claim7.holds Tryd.pinned (.plain (OpenSpec.ofChange dtypeChecksSpec)) dtypeChecksCard

/-- THE TIED CARD OF 'soriteslaw05.DtypeParts'. -/
def dtypePartsCard : Claim7 := { stood := { row := dtypePartsRow, standIns := [], harness := (true, "f38af0c6a5bd2046032f3f1956769c5a632408a8ff534df0ac6c6e1a0939f61a"), looks := true }, kinds := [], alts := [], laidByText := true, laidKinds := [.sentinel, .sentinel, .sentinel, .sentinel], laidTests := true, laidLooks := .later }
def DtypePartsCardSaid : Prop := Claim7.holds Tryd.pinned (.plain (OpenSpec.ofChange dtypePartsSpec)) dtypePartsCard

/-- THE SECOND FORM's CARD OF 'soriteslaw05.DtypeVars'. -/
def dtypeVarsUptoCard : Claim7 := { stood := { row := dtypeVarsUptoRow, standIns := [], harness := (true, "f38af0c6a5bd2046032f3f1956769c5a632408a8ff534df0ac6c6e1a0939f61a"), looks := true }, kinds := [], alts := [], laidByText := true, laidKinds := [.sentinel, .sentinel, .sentinel, .sentinel], laidTests := true, laidLooks := .later }
def DtypeVarsUptoCardSaid : Prop := Claim7.holds Tryd.pinned (.plain (OpenSpec.upto dtypeVarsSpec)) dtypeVarsUptoCard

/-- THE SECOND FORM's CARD OF 'soriteslaw05.DtypeTypes'. -/
def dtypeTypesUptoCard : Claim7 := { stood := { row := dtypeTypesUptoRow, standIns := [], harness := (true, "f38af0c6a5bd2046032f3f1956769c5a632408a8ff534df0ac6c6e1a0939f61a"), looks := true }, kinds := [], alts := [], laidByText := true, laidKinds := [.sentinel, .sentinel, .sentinel, .sentinel], laidTests := true, laidLooks := .later }
def DtypeTypesUptoCardSaid : Prop := Claim7.holds Tryd.pinned (.plain (OpenSpec.upto dtypeTypesSpec)) dtypeTypesUptoCard

/-- THE SECOND FORM's CARD OF 'soriteslaw05.DtypeMoves'. -/
def dtypeMovesUptoCard : Claim7 := { stood := { row := dtypeMovesUptoRow, standIns := [], harness := (true, "f38af0c6a5bd2046032f3f1956769c5a632408a8ff534df0ac6c6e1a0939f61a"), looks := true }, kinds := [], alts := [], laidByText := true, laidKinds := [.sentinel, .sentinel, .sentinel, .sentinel], laidTests := true, laidLooks := .later }
def DtypeMovesUptoCardSaid : Prop := Claim7.holds Tryd.pinned (.plain (OpenSpec.upto dtypeMovesSpec)) dtypeMovesUptoCard

/-- THE SECOND FORM's CARD OF 'soriteslaw05.DtypeLess'. -/
def dtypeLessUptoCard : Claim7 := { stood := { row := dtypeLessUptoRow, standIns := [], harness := (true, "f38af0c6a5bd2046032f3f1956769c5a632408a8ff534df0ac6c6e1a0939f61a"), looks := true }, kinds := [], alts := [], laidByText := true, laidKinds := [.sentinel, .sentinel, .sentinel, .sentinel], laidTests := true, laidLooks := .later }
def DtypeLessUptoCardSaid : Prop := Claim7.holds Tryd.pinned (.plain (OpenSpec.upto dtypeLessSpec)) dtypeLessUptoCard

/-- THE SECOND FORM's CARD OF 'soriteslaw05.DtypeChecks'. -/
def dtypeChecksUptoCard : Claim7 := { stood := { row := dtypeChecksUptoRow, standIns := [], harness := (true, "f38af0c6a5bd2046032f3f1956769c5a632408a8ff534df0ac6c6e1a0939f61a"), looks := true }, kinds := [], alts := [], laidByText := true, laidKinds := [.sentinel, .sentinel, .sentinel, .sentinel], laidTests := true, laidLooks := .later }
def DtypeChecksUptoCardSaid : Prop := Claim7.holds Tryd.pinned (.plain (OpenSpec.upto dtypeChecksSpec)) dtypeChecksUptoCard

/-- THE SECOND FORM's CARD OF 'soriteslaw05.DtypeParts'. -/
def dtypePartsUptoCard : Claim7 := { stood := { row := dtypePartsUptoRow, standIns := [], harness := (true, "f38af0c6a5bd2046032f3f1956769c5a632408a8ff534df0ac6c6e1a0939f61a"), looks := true }, kinds := [], alts := [], laidByText := true, laidKinds := [.sentinel, .sentinel, .sentinel, .sentinel], laidTests := true, laidLooks := .later }
def DtypePartsUptoCardSaid : Prop := Claim7.holds Tryd.pinned (.plain (OpenSpec.upto dtypePartsSpec)) dtypePartsUptoCard
end Rows
end Go.Proofs.YtkmalncnaodkiaaDoor
