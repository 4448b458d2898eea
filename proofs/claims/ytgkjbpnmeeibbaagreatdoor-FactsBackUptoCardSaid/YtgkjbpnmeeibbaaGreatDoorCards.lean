/-
  DERIVED. GIVEN WITH THE SEED: THE CARDS: each row of YtgkjbpnmeeibbaaGreatDoorRows.lean that lists a variable, with what it lists TIED to the program's text (the seventh form; the later family's looks); each row that meets fmt, with fmt's text TOLD by the authors' own Lean function (tested against real Go, not proved from fmt's source: count such statements apart). THE CARD IS WHAT COUNTS. Prove the row's statement (the work); the ties are given (YtgkjbpnmeeibbaaGreatDoorTie.lean); close each card by the builder's one call (the guide's Derived/Test/ToyasCard.lean, 'card_holds'). Laid BY PROGRAM, IN A SANDBOX (cutbox-door.mjs). By AI agents, Wed Nov 11 2026. No macro, syntax, notation, axiom, sorry.
-/
import Derived.Test.YtgkjbpnmeeibbaaGreatDoorRows
import GoSem.ClaimSeven
namespace Go.Proofs.YtgkjbpnmeeibbaaGreatDoor
namespace Rows

/-- THE TIED CARD OF 'soriteslaw10.FactsReads'. -/
def factsReadsCard : Claim7 := { stood := { row := factsReadsRow, standIns := [], harness := (true, "79fadafdeb94d4fb67280763705a892b1badc81ba72d94660fbe8b17726d2bb9"), looks := true }, kinds := [], alts := [], laidByText := true, laidKinds := [.data, .data, .data, .data, .handle, .sentinel, .sentinel, .sentinel, .sentinel, .pinned], laidTests := true, laidLooks := .later }
def FactsReadsCardSaid : Prop := Claim7.holds Tryz.pinned (.plain (OpenSpec.ofChange factsReadsSpec)) factsReadsCard

/-- THE TIED CARD OF 'soriteslaw10.FactsMoves'. -/
def factsMovesCard : Claim7 := { stood := { row := factsMovesRow, standIns := [], harness := (true, "79fadafdeb94d4fb67280763705a892b1badc81ba72d94660fbe8b17726d2bb9"), looks := true }, kinds := [], alts := [], laidByText := true, laidKinds := [.data, .data, .data, .data, .handle, .sentinel, .sentinel, .sentinel, .sentinel, .pinned], laidTests := true, laidLooks := .later }
def FactsMovesCardSaid : Prop := Claim7.holds Tryz.pinned (.plain (OpenSpec.ofChange factsMovesSpec)) factsMovesCard

/-- THE TIED CARD OF 'soriteslaw10.FactsFirst'. -/
def factsFirstCard : Claim7 := { stood := { row := factsFirstRow, standIns := [], harness := (true, "79fadafdeb94d4fb67280763705a892b1badc81ba72d94660fbe8b17726d2bb9"), looks := true }, kinds := [], alts := [], laidByText := true, laidKinds := [.data, .data, .data, .data, .handle, .sentinel, .sentinel, .sentinel, .sentinel, .pinned], laidTests := true, laidLooks := .later }
def FactsFirstCardSaid : Prop := Claim7.holds Tryz.pinned (.plain (OpenSpec.ofChange factsFirstSpec)) factsFirstCard

/-- THE TIED CARD OF 'soriteslaw10.FactsLines'. -/
def factsLinesCard : Claim7 := { stood := { row := factsLinesRow, standIns := [], harness := (true, "79fadafdeb94d4fb67280763705a892b1badc81ba72d94660fbe8b17726d2bb9"), looks := true }, kinds := [], alts := [], laidByText := true, laidKinds := [.data, .data, .data, .data, .handle, .sentinel, .sentinel, .sentinel, .sentinel, .pinned], laidTests := true, laidLooks := .later }
def FactsLinesCardSaid : Prop := Claim7.holds Tryz.pinned (.plain (OpenSpec.ofChange factsLinesSpec)) factsLinesCard

/-- THE TIED CARD OF 'soriteslaw10.FactsApart'. -/
def factsApartCard : Claim7 := { stood := { row := factsApartRow, standIns := [], harness := (true, "79fadafdeb94d4fb67280763705a892b1badc81ba72d94660fbe8b17726d2bb9"), looks := true }, kinds := [], alts := [], laidByText := true, laidKinds := [.data, .data, .data, .data, .handle, .sentinel, .sentinel, .sentinel, .sentinel, .pinned], laidTests := true, laidLooks := .later }
def FactsApartCardSaid : Prop := Claim7.holds Tryz.pinned (.plain (OpenSpec.ofChange factsApartSpec)) factsApartCard

/-- THE TIED CARD OF 'soriteslaw10.FactsTells'. -/
def factsTellsCard : Claim7 := { stood := { row := factsTellsRow, standIns := [], harness := (true, "79fadafdeb94d4fb67280763705a892b1badc81ba72d94660fbe8b17726d2bb9"), looks := true }, kinds := [], alts := [], laidByText := true, laidKinds := [.data, .data, .data, .data, .handle, .sentinel, .sentinel, .sentinel, .sentinel, .pinned], laidTests := true, laidLooks := .later }
def FactsTellsCardSaid : Prop := Claim7.holds Tryz.pinned (.plain (OpenSpec.ofChange factsTellsSpec)) factsTellsCard

/-- THE TIED CARD OF 'soriteslaw10.FactsBack'. -/
def factsBackCard : Claim7 := { stood := { row := factsBackRow, standIns := [], harness := (true, "79fadafdeb94d4fb67280763705a892b1badc81ba72d94660fbe8b17726d2bb9"), looks := true }, kinds := [], alts := [], laidByText := true, laidKinds := [.data, .data, .data, .data, .handle, .sentinel, .sentinel, .sentinel, .sentinel, .pinned], laidTests := true, laidLooks := .later }
def FactsBackCardSaid : Prop := Claim7.holds Tryz.pinned (.plain (OpenSpec.ofChange factsBackSpec)) factsBackCard

/-- THE SECOND FORM's CARD OF 'soriteslaw10.FactsReads'. -/
def factsReadsUptoCard : Claim7 := { stood := { row := factsReadsUptoRow, standIns := [], harness := (true, "79fadafdeb94d4fb67280763705a892b1badc81ba72d94660fbe8b17726d2bb9"), looks := true }, kinds := [], alts := [], laidByText := true, laidKinds := [.data, .data, .data, .data, .handle, .sentinel, .sentinel, .sentinel, .sentinel, .pinned], laidTests := true, laidLooks := .later }
def FactsReadsUptoCardSaid : Prop := Claim7.holds Tryz.pinned (.plain (OpenSpec.upto factsReadsSpec)) factsReadsUptoCard

/-- THE SECOND FORM's CARD OF 'soriteslaw10.FactsMoves'. -/
def factsMovesUptoCard : Claim7 := { stood := { row := factsMovesUptoRow, standIns := [], harness := (true, "79fadafdeb94d4fb67280763705a892b1badc81ba72d94660fbe8b17726d2bb9"), looks := true }, kinds := [], alts := [], laidByText := true, laidKinds := [.data, .data, .data, .data, .handle, .sentinel, .sentinel, .sentinel, .sentinel, .pinned], laidTests := true, laidLooks := .later }
def FactsMovesUptoCardSaid : Prop := Claim7.holds Tryz.pinned (.plain (OpenSpec.upto factsMovesSpec)) factsMovesUptoCard

/-- THE SECOND FORM's CARD OF 'soriteslaw10.FactsFirst'. -/
def factsFirstUptoCard : Claim7 := { stood := { row := factsFirstUptoRow, standIns := [], harness := (true, "79fadafdeb94d4fb67280763705a892b1badc81ba72d94660fbe8b17726d2bb9"), looks := true }, kinds := [], alts := [], laidByText := true, laidKinds := [.data, .data, .data, .data, .handle, .sentinel, .sentinel, .sentinel, .sentinel, .pinned], laidTests := true, laidLooks := .later }
def FactsFirstUptoCardSaid : Prop := Claim7.holds Tryz.pinned (.plain (OpenSpec.upto factsFirstSpec)) factsFirstUptoCard

/-- THE SECOND FORM's CARD OF 'soriteslaw10.FactsLines'. -/
def factsLinesUptoCard : Claim7 := { stood := { row := factsLinesUptoRow, standIns := [], harness := (true, "79fadafdeb94d4fb67280763705a892b1badc81ba72d94660fbe8b17726d2bb9"), looks := true }, kinds := [], alts := [], laidByText := true, laidKinds := [.data, .data, .data, .data, .handle, .sentinel, .sentinel, .sentinel, .sentinel, .pinned], laidTests := true, laidLooks := .later }
def FactsLinesUptoCardSaid : Prop := Claim7.holds Tryz.pinned (.plain (OpenSpec.upto factsLinesSpec)) factsLinesUptoCard

/-- THE SECOND FORM's CARD OF 'soriteslaw10.FactsApart'. -/
def factsApartUptoCard : Claim7 := { stood := { row := factsApartUptoRow, standIns := [], harness := (true, "79fadafdeb94d4fb67280763705a892b1badc81ba72d94660fbe8b17726d2bb9"), looks := true }, kinds := [], alts := [], laidByText := true, laidKinds := [.data, .data, .data, .data, .handle, .sentinel, .sentinel, .sentinel, .sentinel, .pinned], laidTests := true, laidLooks := .later }
def FactsApartUptoCardSaid : Prop := Claim7.holds Tryz.pinned (.plain (OpenSpec.upto factsApartSpec)) factsApartUptoCard

/-- THE SECOND FORM's CARD OF 'soriteslaw10.FactsTells'. -/
def factsTellsUptoCard : Claim7 := { stood := { row := factsTellsUptoRow, standIns := [], harness := (true, "79fadafdeb94d4fb67280763705a892b1badc81ba72d94660fbe8b17726d2bb9"), looks := true }, kinds := [], alts := [], laidByText := true, laidKinds := [.data, .data, .data, .data, .handle, .sentinel, .sentinel, .sentinel, .sentinel, .pinned], laidTests := true, laidLooks := .later }
def FactsTellsUptoCardSaid : Prop := Claim7.holds Tryz.pinned (.plain (OpenSpec.upto factsTellsSpec)) factsTellsUptoCard

/-- THE SECOND FORM's CARD OF 'soriteslaw10.FactsBack'. -/
def factsBackUptoCard : Claim7 := { stood := { row := factsBackUptoRow, standIns := [], harness := (true, "79fadafdeb94d4fb67280763705a892b1badc81ba72d94660fbe8b17726d2bb9"), looks := true }, kinds := [], alts := [], laidByText := true, laidKinds := [.data, .data, .data, .data, .handle, .sentinel, .sentinel, .sentinel, .sentinel, .pinned], laidTests := true, laidLooks := .later }
def FactsBackUptoCardSaid : Prop := Claim7.holds Tryz.pinned (.plain (OpenSpec.upto factsBackSpec)) factsBackUptoCard
end Rows
end Go.Proofs.YtgkjbpnmeeibbaaGreatDoor
