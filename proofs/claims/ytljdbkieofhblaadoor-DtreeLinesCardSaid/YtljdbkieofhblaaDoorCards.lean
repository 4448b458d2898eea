/-
  DERIVED. GIVEN WITH THE SEED: THE CARDS: each row of YtljdbkieofhblaaDoorRows.lean that lists a variable, with what it lists TIED to the program's text (the seventh form; the later family's looks); each row that meets fmt, with fmt's text TOLD by the authors' own Lean function (tested against real Go, not proved from fmt's source: count such statements apart). THE CARD IS WHAT COUNTS. Prove the row's statement (the work); the ties are given (YtljdbkieofhblaaDoorTie.lean); close each card by the builder's one call (the guide's Derived/Test/ToyasCard.lean, 'card_holds'). Laid BY PROGRAM, IN A SANDBOX (cutbox-door.mjs). By AI agents, Wed Nov 11 2026. No macro, syntax, notation, axiom, sorry.
-/
import Derived.Test.YtljdbkieofhblaaDoorRows
import GoSem.ClaimSeven
namespace Go.Proofs.YtljdbkieofhblaaDoor
namespace Rows

/-- THE TIED CARD OF 'soriteslaw03.DtreeRight'. -/
def dtreeRightCard : Claim7 := { stood := { row := dtreeRightRow, standIns := [], harness := (true, "c6fd438aa6d368e2641080b09a62f2d38d801b859d99fcbd96a39bff0db9ed1e"), looks := true }, kinds := [], alts := [], laidByText := true, laidKinds := [.data, .data, .data, .sentinel], laidTests := true, laidLooks := .later }
def DtreeRightCardSaid : Prop := Claim7.holds Tryd.pinned (.plain (OpenSpec.ofChange dtreeRightSpec)) dtreeRightCard

/-- THE TIED CARD OF 'soriteslaw03.DtreeRules'. -/
def dtreeRulesCard : Claim7 := { stood := { row := dtreeRulesRow, standIns := [], harness := (true, "c6fd438aa6d368e2641080b09a62f2d38d801b859d99fcbd96a39bff0db9ed1e"), looks := true }, kinds := [], alts := [], laidByText := true, laidKinds := [.data, .data, .data, .sentinel], laidTests := true, laidLooks := .later }
def DtreeRulesCardSaid : Prop := Claim7.holds Tryd.pinned (.plain (OpenSpec.ofChange dtreeRulesSpec)) dtreeRulesCard

/-- THE TIED CARD OF 'soriteslaw03.DtreeParts'. -/
def dtreePartsCard : Claim7 := { stood := { row := dtreePartsRow, standIns := [], harness := (true, "c6fd438aa6d368e2641080b09a62f2d38d801b859d99fcbd96a39bff0db9ed1e"), looks := true }, kinds := [], alts := [], laidByText := true, laidKinds := [.data, .data, .data, .sentinel], laidTests := true, laidLooks := .later }
def DtreePartsCardSaid : Prop := Claim7.holds Tryd.pinned (.plain (OpenSpec.ofChange dtreePartsSpec)) dtreePartsCard

/-- THE TIED CARD OF 'soriteslaw03.DtreeSames'. -/
def dtreeSamesCard : Claim7 := { stood := { row := dtreeSamesRow, standIns := [], harness := (true, "c6fd438aa6d368e2641080b09a62f2d38d801b859d99fcbd96a39bff0db9ed1e"), looks := true }, kinds := [], alts := [], laidByText := true, laidKinds := [.data, .data, .data, .sentinel], laidTests := true, laidLooks := .later }
def DtreeSamesCardSaid : Prop := Claim7.holds Tryd.pinned (.plain (OpenSpec.ofChange dtreeSamesSpec)) dtreeSamesCard

/-- THE TIED CARD OF 'soriteslaw03.DtreeApart'. -/
def dtreeApartCard : Claim7 := { stood := { row := dtreeApartRow, standIns := [], harness := (true, "c6fd438aa6d368e2641080b09a62f2d38d801b859d99fcbd96a39bff0db9ed1e"), looks := true }, kinds := [], alts := [], laidByText := true, laidKinds := [.data, .data, .data, .sentinel], laidTests := true, laidLooks := .later }
def DtreeApartCardSaid : Prop := Claim7.holds Tryd.pinned (.plain (OpenSpec.ofChange dtreeApartSpec)) dtreeApartCard

/-- THE TIED CARD OF 'soriteslaw03.DtreeLines'. -/
def dtreeLinesCard : Claim7 := { stood := { row := dtreeLinesRow, standIns := [], harness := (true, "c6fd438aa6d368e2641080b09a62f2d38d801b859d99fcbd96a39bff0db9ed1e"), looks := true }, kinds := [], alts := [], laidByText := true, laidKinds := [.data, .data, .data, .sentinel], laidTests := true, laidLooks := .later }
def DtreeLinesCardSaid : Prop := Claim7.holds Tryd.pinned (.plain (OpenSpec.ofChange dtreeLinesSpec)) dtreeLinesCard

/-- THE SECOND FORM's CARD OF 'soriteslaw03.DtreeRight'. -/
def dtreeRightUptoCard : Claim7 := { stood := { row := dtreeRightUptoRow, standIns := [], harness := (true, "c6fd438aa6d368e2641080b09a62f2d38d801b859d99fcbd96a39bff0db9ed1e"), looks := true }, kinds := [], alts := [], laidByText := true, laidKinds := [.data, .data, .data, .sentinel], laidTests := true, laidLooks := .later }
def DtreeRightUptoCardSaid : Prop := Claim7.holds Tryd.pinned (.plain (OpenSpec.upto dtreeRightSpec)) dtreeRightUptoCard

/-- THE SECOND FORM's CARD OF 'soriteslaw03.DtreeRules'. -/
def dtreeRulesUptoCard : Claim7 := { stood := { row := dtreeRulesUptoRow, standIns := [], harness := (true, "c6fd438aa6d368e2641080b09a62f2d38d801b859d99fcbd96a39bff0db9ed1e"), looks := true }, kinds := [], alts := [], laidByText := true, laidKinds := [.data, .data, .data, .sentinel], laidTests := true, laidLooks := .later }
def DtreeRulesUptoCardSaid : Prop := Claim7.holds Tryd.pinned (.plain (OpenSpec.upto dtreeRulesSpec)) dtreeRulesUptoCard

/-- THE SECOND FORM's CARD OF 'soriteslaw03.DtreeParts'. -/
def dtreePartsUptoCard : Claim7 := { stood := { row := dtreePartsUptoRow, standIns := [], harness := (true, "c6fd438aa6d368e2641080b09a62f2d38d801b859d99fcbd96a39bff0db9ed1e"), looks := true }, kinds := [], alts := [], laidByText := true, laidKinds := [.data, .data, .data, .sentinel], laidTests := true, laidLooks := .later }
def DtreePartsUptoCardSaid : Prop := Claim7.holds Tryd.pinned (.plain (OpenSpec.upto dtreePartsSpec)) dtreePartsUptoCard

/-- THE SECOND FORM's CARD OF 'soriteslaw03.DtreeSames'. -/
def dtreeSamesUptoCard : Claim7 := { stood := { row := dtreeSamesUptoRow, standIns := [], harness := (true, "c6fd438aa6d368e2641080b09a62f2d38d801b859d99fcbd96a39bff0db9ed1e"), looks := true }, kinds := [], alts := [], laidByText := true, laidKinds := [.data, .data, .data, .sentinel], laidTests := true, laidLooks := .later }
def DtreeSamesUptoCardSaid : Prop := Claim7.holds Tryd.pinned (.plain (OpenSpec.upto dtreeSamesSpec)) dtreeSamesUptoCard

/-- THE SECOND FORM's CARD OF 'soriteslaw03.DtreeApart'. -/
def dtreeApartUptoCard : Claim7 := { stood := { row := dtreeApartUptoRow, standIns := [], harness := (true, "c6fd438aa6d368e2641080b09a62f2d38d801b859d99fcbd96a39bff0db9ed1e"), looks := true }, kinds := [], alts := [], laidByText := true, laidKinds := [.data, .data, .data, .sentinel], laidTests := true, laidLooks := .later }
def DtreeApartUptoCardSaid : Prop := Claim7.holds Tryd.pinned (.plain (OpenSpec.upto dtreeApartSpec)) dtreeApartUptoCard

/-- THE SECOND FORM's CARD OF 'soriteslaw03.DtreeLines'. -/
def dtreeLinesUptoCard : Claim7 := { stood := { row := dtreeLinesUptoRow, standIns := [], harness := (true, "c6fd438aa6d368e2641080b09a62f2d38d801b859d99fcbd96a39bff0db9ed1e"), looks := true }, kinds := [], alts := [], laidByText := true, laidKinds := [.data, .data, .data, .sentinel], laidTests := true, laidLooks := .later }
def DtreeLinesUptoCardSaid : Prop := Claim7.holds Tryd.pinned (.plain (OpenSpec.upto dtreeLinesSpec)) dtreeLinesUptoCard
end Rows
end Go.Proofs.YtljdbkieofhblaaDoor
