/-
  DERIVED. GIVEN WITH THE SEED: THE CARDS: each row of YtnkmjbjpmocnbaaDoorRows.lean that lists a variable, with what it lists TIED to the program's text (the seventh form; the later family's looks); each row that meets fmt, with fmt's text TOLD by the authors' own Lean function (tested against real Go, not proved from fmt's source: count such statements apart). THE CARD IS WHAT COUNTS. Prove the row's statement (the work); the ties are given (YtnkmjbjpmocnbaaDoorTie.lean); close each card by the builder's one call (the guide's Derived/Test/ToyasCard.lean, 'card_holds'). Laid BY PROGRAM, IN A SANDBOX (cutbox-door.mjs). By AI agents, Wed Nov 11 2026. No macro, syntax, notation, axiom, sorry.
-/
import Derived.Test.YtnkmjbjpmocnbaaDoorRows
import GoSem.ClaimSeven
namespace Go.Proofs.YtnkmjbjpmocnbaaDoor
namespace Rows

/-- THE TIED CARD OF 'soriteslaw15.GotreeNames'. -/
def gotreeNamesCard : Claim7 := { stood := { row := gotreeNamesRow, standIns := [], harness := (true, "954ca266b5c63ecbc4c269a658d96b9d40306638c4fc963ef17d5a552e24fa53"), looks := false }, kinds := [], alts := [], laidByText := true, laidKinds := [.data, .data, .data, .data, .listed, .data, .pinned], laidTests := true, laidLooks := .later }
def GotreeNamesCardSaid : Prop := Claim7.holds Tryd.pinned (.plain (OpenSpec.ofChange gotreeNamesSpec)) gotreeNamesCard

/-- THE TIED CARD OF 'soriteslaw15.GotreeExprs'. -/
def gotreeExprsCard : Claim7 := { stood := { row := gotreeExprsRow, standIns := [], harness := (true, "954ca266b5c63ecbc4c269a658d96b9d40306638c4fc963ef17d5a552e24fa53"), looks := false }, kinds := [], alts := [], laidByText := true, laidKinds := [.data, .data, .data, .data, .listed, .data, .pinned], laidTests := true, laidLooks := .later }
def GotreeExprsCardSaid : Prop := Claim7.holds Tryd.pinned (.plain (OpenSpec.ofChange gotreeExprsSpec)) gotreeExprsCard

/-- THE TIED CARD OF 'soriteslaw15.GotreeSames'. -/
def gotreeSamesCard : Claim7 := { stood := { row := gotreeSamesRow, standIns := [], harness := (true, "954ca266b5c63ecbc4c269a658d96b9d40306638c4fc963ef17d5a552e24fa53"), looks := false }, kinds := [], alts := [], laidByText := true, laidKinds := [.data, .data, .data, .data, .listed, .data, .pinned], laidTests := true, laidLooks := .later }
def GotreeSamesCardSaid : Prop := Claim7.holds Tryd.pinned (.plain (OpenSpec.ofChange gotreeSamesSpec)) gotreeSamesCard

/-- THE TIED CARD OF 'soriteslaw15.GotreeParts'. -/
def gotreePartsCard : Claim7 := { stood := { row := gotreePartsRow, standIns := [], harness := (true, "954ca266b5c63ecbc4c269a658d96b9d40306638c4fc963ef17d5a552e24fa53"), looks := false }, kinds := [], alts := [], laidByText := true, laidKinds := [.data, .data, .data, .data, .listed, .data, .pinned], laidTests := true, laidLooks := .later }
def GotreePartsCardSaid : Prop := Claim7.holds Tryd.pinned (.plain (OpenSpec.ofChange gotreePartsSpec)) gotreePartsCard

/-- THE TIED CARD OF 'soriteslaw15.GotreeApart'. -/
def gotreeApartCard : Claim7 := { stood := { row := gotreeApartRow, standIns := [], harness := (true, "954ca266b5c63ecbc4c269a658d96b9d40306638c4fc963ef17d5a552e24fa53"), looks := false }, kinds := [], alts := [], laidByText := true, laidKinds := [.data, .data, .data, .data, .listed, .data, .pinned], laidTests := true, laidLooks := .later }
def GotreeApartCardSaid : Prop := Claim7.holds Tryd.pinned (.plain (OpenSpec.ofChange gotreeApartSpec)) gotreeApartCard

/-- THE SECOND FORM's CARD OF 'soriteslaw15.GotreeNames'. -/
def gotreeNamesUptoCard : Claim7 := { stood := { row := gotreeNamesUptoRow, standIns := [], harness := (true, "954ca266b5c63ecbc4c269a658d96b9d40306638c4fc963ef17d5a552e24fa53"), looks := false }, kinds := [], alts := [], laidByText := true, laidKinds := [.data, .data, .data, .data, .listed, .data, .pinned], laidTests := true, laidLooks := .later }
def GotreeNamesUptoCardSaid : Prop := Claim7.holds Tryd.pinned (.plain (OpenSpec.upto gotreeNamesSpec)) gotreeNamesUptoCard

/-- THE SECOND FORM's CARD OF 'soriteslaw15.GotreeExprs'. -/
def gotreeExprsUptoCard : Claim7 := { stood := { row := gotreeExprsUptoRow, standIns := [], harness := (true, "954ca266b5c63ecbc4c269a658d96b9d40306638c4fc963ef17d5a552e24fa53"), looks := false }, kinds := [], alts := [], laidByText := true, laidKinds := [.data, .data, .data, .data, .listed, .data, .pinned], laidTests := true, laidLooks := .later }
def GotreeExprsUptoCardSaid : Prop := Claim7.holds Tryd.pinned (.plain (OpenSpec.upto gotreeExprsSpec)) gotreeExprsUptoCard

/-- THE SECOND FORM's CARD OF 'soriteslaw15.GotreeSames'. -/
def gotreeSamesUptoCard : Claim7 := { stood := { row := gotreeSamesUptoRow, standIns := [], harness := (true, "954ca266b5c63ecbc4c269a658d96b9d40306638c4fc963ef17d5a552e24fa53"), looks := false }, kinds := [], alts := [], laidByText := true, laidKinds := [.data, .data, .data, .data, .listed, .data, .pinned], laidTests := true, laidLooks := .later }
def GotreeSamesUptoCardSaid : Prop := Claim7.holds Tryd.pinned (.plain (OpenSpec.upto gotreeSamesSpec)) gotreeSamesUptoCard

/-- THE SECOND FORM's CARD OF 'soriteslaw15.GotreeParts'. -/
def gotreePartsUptoCard : Claim7 := { stood := { row := gotreePartsUptoRow, standIns := [], harness := (true, "954ca266b5c63ecbc4c269a658d96b9d40306638c4fc963ef17d5a552e24fa53"), looks := false }, kinds := [], alts := [], laidByText := true, laidKinds := [.data, .data, .data, .data, .listed, .data, .pinned], laidTests := true, laidLooks := .later }
def GotreePartsUptoCardSaid : Prop := Claim7.holds Tryd.pinned (.plain (OpenSpec.upto gotreePartsSpec)) gotreePartsUptoCard

/-- THE SECOND FORM's CARD OF 'soriteslaw15.GotreeApart'. -/
def gotreeApartUptoCard : Claim7 := { stood := { row := gotreeApartUptoRow, standIns := [], harness := (true, "954ca266b5c63ecbc4c269a658d96b9d40306638c4fc963ef17d5a552e24fa53"), looks := false }, kinds := [], alts := [], laidByText := true, laidKinds := [.data, .data, .data, .data, .listed, .data, .pinned], laidTests := true, laidLooks := .later }
def GotreeApartUptoCardSaid : Prop := Claim7.holds Tryd.pinned (.plain (OpenSpec.upto gotreeApartSpec)) gotreeApartUptoCard
end Rows
end Go.Proofs.YtnkmjbjpmocnbaaDoor
