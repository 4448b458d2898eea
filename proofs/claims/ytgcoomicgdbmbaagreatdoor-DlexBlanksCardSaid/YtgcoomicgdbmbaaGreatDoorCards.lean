/-
  DERIVED. GIVEN WITH THE SEED: THE CARDS: each row of YtgcoomicgdbmbaaGreatDoorRows.lean that lists a variable, with what it lists TIED to the program's text (the seventh form; the later family's looks); each row that meets fmt, with fmt's text TOLD by the authors' own Lean function (tested against real Go, not proved from fmt's source: count such statements apart). THE CARD IS WHAT COUNTS. Prove the row's statement (the work); the ties are given (YtgcoomicgdbmbaaGreatDoorTie.lean); close each card by the builder's one call (the guide's Derived/Test/ToyasCard.lean, 'card_holds'). Laid BY PROGRAM, IN A SANDBOX (cutbox-door.mjs). By AI agents, Wed Nov 11 2026. No macro, syntax, notation, axiom, sorry.
-/
import Derived.Test.YtgcoomicgdbmbaaGreatDoorRows
import GoSem.ClaimSeven
namespace Go.Proofs.YtgcoomicgdbmbaaGreatDoor
namespace Rows

/-- THE TIED CARD OF 'soriteslaw02.DlexLexes'. -/
def dlexLexesCard : Claim7 := { stood := { row := dlexLexesRow, standIns := [], harness := (true, "ea98ea6caa39d50385b4abb34fb6c61f23fa27d4f724042ecd8db9ef743259b7"), looks := true }, kinds := [], alts := [], laidByText := true, laidKinds := [.data, .data, .data, .handle, .sentinel, .sentinel, .sentinel], laidTests := true, laidLooks := .later }
def DlexLexesCardSaid : Prop := Claim7.holds Tryz.pinned (.plain (OpenSpec.ofChange dlexLexesSpec)) dlexLexesCard

/-- THE TIED CARD OF 'soriteslaw02.DlexLong'. -/
def dlexLongCard : Claim7 := { stood := { row := dlexLongRow, standIns := [], harness := (true, "ea98ea6caa39d50385b4abb34fb6c61f23fa27d4f724042ecd8db9ef743259b7"), looks := true }, kinds := [], alts := [], laidByText := true, laidKinds := [.data, .data, .data, .handle, .sentinel, .sentinel, .sentinel], laidTests := true, laidLooks := .later }
def DlexLongCardSaid : Prop := Claim7.holds Tryz.pinned (.plain (OpenSpec.ofChange dlexLongSpec)) dlexLongCard

/-- THE TIED CARD OF 'soriteslaw02.DlexBlanks'. -/
def dlexBlanksCard : Claim7 := { stood := { row := dlexBlanksRow, standIns := [], harness := (true, "ea98ea6caa39d50385b4abb34fb6c61f23fa27d4f724042ecd8db9ef743259b7"), looks := true }, kinds := [], alts := [], laidByText := true, laidKinds := [.data, .data, .data, .handle, .sentinel, .sentinel, .sentinel], laidTests := true, laidLooks := .later }
def DlexBlanksCardSaid : Prop := Claim7.holds Tryz.pinned (.plain (OpenSpec.ofChange dlexBlanksSpec)) dlexBlanksCard

/-- THE TIED CARD OF 'soriteslaw02.DlexLines'. -/
def dlexLinesCard : Claim7 := { stood := { row := dlexLinesRow, standIns := [], harness := (true, "ea98ea6caa39d50385b4abb34fb6c61f23fa27d4f724042ecd8db9ef743259b7"), looks := true }, kinds := [], alts := [], laidByText := true, laidKinds := [.data, .data, .data, .handle, .sentinel, .sentinel, .sentinel], laidTests := true, laidLooks := .later }
def DlexLinesCardSaid : Prop := Claim7.holds Tryz.pinned (.plain (OpenSpec.ofChange dlexLinesSpec)) dlexLinesCard

/-- THE TIED CARD OF 'soriteslaw02.DlexShows'. -/
def dlexShowsCard : Claim7 := { stood := { row := dlexShowsRow, standIns := [], harness := (true, "ea98ea6caa39d50385b4abb34fb6c61f23fa27d4f724042ecd8db9ef743259b7"), looks := true }, kinds := [], alts := [], laidByText := true, laidKinds := [.data, .data, .data, .handle, .sentinel, .sentinel, .sentinel], laidTests := true, laidLooks := .later }
def DlexShowsCardSaid : Prop := Claim7.holds Tryz.pinned (.plain (OpenSpec.ofChange dlexShowsSpec)) dlexShowsCard

/-- THE TIED CARD OF 'soriteslaw02.DlexBack'. -/
def dlexBackCard : Claim7 := { stood := { row := dlexBackRow, standIns := [], harness := (true, "ea98ea6caa39d50385b4abb34fb6c61f23fa27d4f724042ecd8db9ef743259b7"), looks := true }, kinds := [], alts := [], laidByText := true, laidKinds := [.data, .data, .data, .handle, .sentinel, .sentinel, .sentinel], laidTests := true, laidLooks := .later }
def DlexBackCardSaid : Prop := Claim7.holds Tryz.pinned (.plain (OpenSpec.ofChange dlexBackSpec)) dlexBackCard

/-- THE SECOND FORM's CARD OF 'soriteslaw02.DlexLexes'. -/
def dlexLexesUptoCard : Claim7 := { stood := { row := dlexLexesUptoRow, standIns := [], harness := (true, "ea98ea6caa39d50385b4abb34fb6c61f23fa27d4f724042ecd8db9ef743259b7"), looks := true }, kinds := [], alts := [], laidByText := true, laidKinds := [.data, .data, .data, .handle, .sentinel, .sentinel, .sentinel], laidTests := true, laidLooks := .later }
def DlexLexesUptoCardSaid : Prop := Claim7.holds Tryz.pinned (.plain (OpenSpec.upto dlexLexesSpec)) dlexLexesUptoCard

/-- THE SECOND FORM's CARD OF 'soriteslaw02.DlexLong'. -/
def dlexLongUptoCard : Claim7 := { stood := { row := dlexLongUptoRow, standIns := [], harness := (true, "ea98ea6caa39d50385b4abb34fb6c61f23fa27d4f724042ecd8db9ef743259b7"), looks := true }, kinds := [], alts := [], laidByText := true, laidKinds := [.data, .data, .data, .handle, .sentinel, .sentinel, .sentinel], laidTests := true, laidLooks := .later }
def DlexLongUptoCardSaid : Prop := Claim7.holds Tryz.pinned (.plain (OpenSpec.upto dlexLongSpec)) dlexLongUptoCard

/-- THE SECOND FORM's CARD OF 'soriteslaw02.DlexBlanks'. -/
def dlexBlanksUptoCard : Claim7 := { stood := { row := dlexBlanksUptoRow, standIns := [], harness := (true, "ea98ea6caa39d50385b4abb34fb6c61f23fa27d4f724042ecd8db9ef743259b7"), looks := true }, kinds := [], alts := [], laidByText := true, laidKinds := [.data, .data, .data, .handle, .sentinel, .sentinel, .sentinel], laidTests := true, laidLooks := .later }
def DlexBlanksUptoCardSaid : Prop := Claim7.holds Tryz.pinned (.plain (OpenSpec.upto dlexBlanksSpec)) dlexBlanksUptoCard

/-- THE SECOND FORM's CARD OF 'soriteslaw02.DlexLines'. -/
def dlexLinesUptoCard : Claim7 := { stood := { row := dlexLinesUptoRow, standIns := [], harness := (true, "ea98ea6caa39d50385b4abb34fb6c61f23fa27d4f724042ecd8db9ef743259b7"), looks := true }, kinds := [], alts := [], laidByText := true, laidKinds := [.data, .data, .data, .handle, .sentinel, .sentinel, .sentinel], laidTests := true, laidLooks := .later }
def DlexLinesUptoCardSaid : Prop := Claim7.holds Tryz.pinned (.plain (OpenSpec.upto dlexLinesSpec)) dlexLinesUptoCard

/-- THE SECOND FORM's CARD OF 'soriteslaw02.DlexShows'. -/
def dlexShowsUptoCard : Claim7 := { stood := { row := dlexShowsUptoRow, standIns := [], harness := (true, "ea98ea6caa39d50385b4abb34fb6c61f23fa27d4f724042ecd8db9ef743259b7"), looks := true }, kinds := [], alts := [], laidByText := true, laidKinds := [.data, .data, .data, .handle, .sentinel, .sentinel, .sentinel], laidTests := true, laidLooks := .later }
def DlexShowsUptoCardSaid : Prop := Claim7.holds Tryz.pinned (.plain (OpenSpec.upto dlexShowsSpec)) dlexShowsUptoCard

/-- THE SECOND FORM's CARD OF 'soriteslaw02.DlexBack'. -/
def dlexBackUptoCard : Claim7 := { stood := { row := dlexBackUptoRow, standIns := [], harness := (true, "ea98ea6caa39d50385b4abb34fb6c61f23fa27d4f724042ecd8db9ef743259b7"), looks := true }, kinds := [], alts := [], laidByText := true, laidKinds := [.data, .data, .data, .handle, .sentinel, .sentinel, .sentinel], laidTests := true, laidLooks := .later }
def DlexBackUptoCardSaid : Prop := Claim7.holds Tryz.pinned (.plain (OpenSpec.upto dlexBackSpec)) dlexBackUptoCard
end Rows
end Go.Proofs.YtgcoomicgdbmbaaGreatDoor
