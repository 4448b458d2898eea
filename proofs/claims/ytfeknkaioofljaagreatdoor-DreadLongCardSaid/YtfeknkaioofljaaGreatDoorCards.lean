/-
  DERIVED. GIVEN WITH THE SEED: THE CARDS: each row of YtfeknkaioofljaaGreatDoorRows.lean that lists a variable, with what it lists TIED to the program's text (the seventh form; the later family's looks); each row that meets fmt, with fmt's text TOLD by the authors' own Lean function (tested against real Go, not proved from fmt's source: count such statements apart). THE CARD IS WHAT COUNTS. Prove the row's statement (the work); the ties are given (YtfeknkaioofljaaGreatDoorTie.lean); close each card by the builder's one call (the guide's Derived/Test/ToyasCard.lean, 'card_holds'). Laid BY PROGRAM, IN A SANDBOX (cutbox-door.mjs). By AI agents, Wed Nov 11 2026. No macro, syntax, notation, axiom, sorry.
-/
import Derived.Test.YtfeknkaioofljaaGreatDoorRows
import GoSem.ClaimSeven
namespace Go.Proofs.YtfeknkaioofljaaGreatDoor
namespace Rows

/-- THE TIED CARD OF 'soriteslaw04.DreadLong'. -/
def dreadLongCard : Claim7 := { stood := { row := dreadLongRow, standIns := [], harness := (true, "a33c9bb771bd437d45fc8199fcffa17fb3b5ca23021dd453debe0a59e9e9fc1a"), looks := true }, kinds := [], alts := [], laidByText := true, laidKinds := [.data, .data, .data, .handle, .sentinel, .sentinel, .sentinel, .sentinel], laidTests := true, laidLooks := .later }
def DreadLongCardSaid : Prop := Claim7.holds Tryz.pinned (.plain (OpenSpec.ofChange dreadLongSpec)) dreadLongCard

/-- THE TIED CARD OF 'soriteslaw04.DreadBack'. -/
def dreadBackCard : Claim7 := { stood := { row := dreadBackRow, standIns := [], harness := (true, "a33c9bb771bd437d45fc8199fcffa17fb3b5ca23021dd453debe0a59e9e9fc1a"), looks := true }, kinds := [], alts := [], laidByText := true, laidKinds := [.data, .data, .data, .handle, .sentinel, .sentinel, .sentinel, .sentinel], laidTests := true, laidLooks := .later }
def DreadBackCardSaid : Prop := Claim7.holds Tryz.pinned (.plain (OpenSpec.ofChange dreadBackSpec)) dreadBackCard

/-- THE TIED CARD OF 'soriteslaw04.DreadRight'. -/
def dreadRightCard : Claim7 := { stood := { row := dreadRightRow, standIns := [], harness := (true, "a33c9bb771bd437d45fc8199fcffa17fb3b5ca23021dd453debe0a59e9e9fc1a"), looks := true }, kinds := [], alts := [], laidByText := true, laidKinds := [.data, .data, .data, .handle, .sentinel, .sentinel, .sentinel, .sentinel], laidTests := true, laidLooks := .later }
def DreadRightCardSaid : Prop := Claim7.holds Tryz.pinned (.plain (OpenSpec.ofChange dreadRightSpec)) dreadRightCard

/-- THE TIED CARD OF 'soriteslaw04.DreadParts'. -/
def dreadPartsCard : Claim7 := { stood := { row := dreadPartsRow, standIns := [], harness := (true, "a33c9bb771bd437d45fc8199fcffa17fb3b5ca23021dd453debe0a59e9e9fc1a"), looks := true }, kinds := [], alts := [], laidByText := true, laidKinds := [.data, .data, .data, .handle, .sentinel, .sentinel, .sentinel, .sentinel], laidTests := true, laidLooks := .later }
def DreadPartsCardSaid : Prop := Claim7.holds Tryz.pinned (.plain (OpenSpec.ofChange dreadPartsSpec)) dreadPartsCard

/-- THE SECOND FORM's CARD OF 'soriteslaw04.DreadLong'. -/
def dreadLongUptoCard : Claim7 := { stood := { row := dreadLongUptoRow, standIns := [], harness := (true, "a33c9bb771bd437d45fc8199fcffa17fb3b5ca23021dd453debe0a59e9e9fc1a"), looks := true }, kinds := [], alts := [], laidByText := true, laidKinds := [.data, .data, .data, .handle, .sentinel, .sentinel, .sentinel, .sentinel], laidTests := true, laidLooks := .later }
def DreadLongUptoCardSaid : Prop := Claim7.holds Tryz.pinned (.plain (OpenSpec.upto dreadLongSpec)) dreadLongUptoCard

/-- THE SECOND FORM's CARD OF 'soriteslaw04.DreadBack'. -/
def dreadBackUptoCard : Claim7 := { stood := { row := dreadBackUptoRow, standIns := [], harness := (true, "a33c9bb771bd437d45fc8199fcffa17fb3b5ca23021dd453debe0a59e9e9fc1a"), looks := true }, kinds := [], alts := [], laidByText := true, laidKinds := [.data, .data, .data, .handle, .sentinel, .sentinel, .sentinel, .sentinel], laidTests := true, laidLooks := .later }
def DreadBackUptoCardSaid : Prop := Claim7.holds Tryz.pinned (.plain (OpenSpec.upto dreadBackSpec)) dreadBackUptoCard

/-- THE SECOND FORM's CARD OF 'soriteslaw04.DreadRight'. -/
def dreadRightUptoCard : Claim7 := { stood := { row := dreadRightUptoRow, standIns := [], harness := (true, "a33c9bb771bd437d45fc8199fcffa17fb3b5ca23021dd453debe0a59e9e9fc1a"), looks := true }, kinds := [], alts := [], laidByText := true, laidKinds := [.data, .data, .data, .handle, .sentinel, .sentinel, .sentinel, .sentinel], laidTests := true, laidLooks := .later }
def DreadRightUptoCardSaid : Prop := Claim7.holds Tryz.pinned (.plain (OpenSpec.upto dreadRightSpec)) dreadRightUptoCard

/-- THE SECOND FORM's CARD OF 'soriteslaw04.DreadParts'. -/
def dreadPartsUptoCard : Claim7 := { stood := { row := dreadPartsUptoRow, standIns := [], harness := (true, "a33c9bb771bd437d45fc8199fcffa17fb3b5ca23021dd453debe0a59e9e9fc1a"), looks := true }, kinds := [], alts := [], laidByText := true, laidKinds := [.data, .data, .data, .handle, .sentinel, .sentinel, .sentinel, .sentinel], laidTests := true, laidLooks := .later }
def DreadPartsUptoCardSaid : Prop := Claim7.holds Tryz.pinned (.plain (OpenSpec.upto dreadPartsSpec)) dreadPartsUptoCard
end Rows
end Go.Proofs.YtfeknkaioofljaaGreatDoor
