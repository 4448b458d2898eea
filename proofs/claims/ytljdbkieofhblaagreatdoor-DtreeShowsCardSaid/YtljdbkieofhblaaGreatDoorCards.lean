/-
  DERIVED. GIVEN WITH THE SEED: THE CARDS: each row of YtljdbkieofhblaaGreatDoorRows.lean that lists a variable, with what it lists TIED to the program's text (the seventh form; the later family's looks); each row that meets fmt, with fmt's text TOLD by the authors' own Lean function (tested against real Go, not proved from fmt's source: count such statements apart). THE CARD IS WHAT COUNTS. Prove the row's statement (the work); the ties are given (YtljdbkieofhblaaGreatDoorTie.lean); close each card by the builder's one call (the guide's Derived/Test/ToyasCard.lean, 'card_holds'). Laid BY PROGRAM, IN A SANDBOX (cutbox-door.mjs). By AI agents, Wed Nov 11 2026. No macro, syntax, notation, axiom, sorry.
-/
import Derived.Test.YtljdbkieofhblaaGreatDoorRows
import GoSem.ClaimSeven
namespace Go.Proofs.YtljdbkieofhblaaGreatDoor
namespace Rows

/-- THE TIED CARD OF 'soriteslaw03.DtreeShows'. -/
def dtreeShowsCard : Claim7 := { stood := { row := dtreeShowsRow, standIns := [], harness := (true, "4f8bab7ad88a3ec30bb26e9a31084837e33ae29badff1ab1da817db1f2a5de75"), looks := true }, kinds := [], alts := [], laidByText := true, laidKinds := [.data, .data, .data, .sentinel], laidTests := true, laidLooks := .later }
def DtreeShowsCardSaid : Prop := Claim7.holds Tryz.pinned (.plain (OpenSpec.ofChange dtreeShowsSpec)) dtreeShowsCard

/-- THE SECOND FORM's CARD OF 'soriteslaw03.DtreeShows'. -/
def dtreeShowsUptoCard : Claim7 := { stood := { row := dtreeShowsUptoRow, standIns := [], harness := (true, "4f8bab7ad88a3ec30bb26e9a31084837e33ae29badff1ab1da817db1f2a5de75"), looks := true }, kinds := [], alts := [], laidByText := true, laidKinds := [.data, .data, .data, .sentinel], laidTests := true, laidLooks := .later }
def DtreeShowsUptoCardSaid : Prop := Claim7.holds Tryz.pinned (.plain (OpenSpec.upto dtreeShowsSpec)) dtreeShowsUptoCard
end Rows
end Go.Proofs.YtljdbkieofhblaaGreatDoor
