/-
  DERIVED. GIVEN WITH THE SEED: THE CARDS: each row of YtlhphfhplhcnfaaDoorRows.lean that lists a variable, with what it lists TIED to the program's text (the seventh form; the later family's looks); each row that meets fmt, with fmt's text TOLD by the authors' own Lean function (tested against real Go, not proved from fmt's source: count such statements apart). THE CARD IS WHAT COUNTS. Prove the row's statement (the work); the ties are given (YtlhphfhplhcnfaaDoorTie.lean); close each card by the builder's one call (the guide's Derived/Test/ToyasCard.lean, 'card_holds'). Laid BY PROGRAM, IN A SANDBOX (cutbox-door.mjs). By AI agents, Wed Nov 11 2026. No macro, syntax, notation, axiom, sorry.
-/
import Derived.Test.YtlhphfhplhcnfaaDoorRows
import GoSem.ClaimSeven
namespace Go.Proofs.YtlhphfhplhcnfaaDoor
namespace Rows

/-- THE TIED CARD OF 'soriteslaw01.TextNums'. -/
def textNumsCard : Claim7 := { stood := { row := textNumsRow, standIns := [], harness := (true, "72ed4241a49e4a94731a5b99ab5e9a1f33c6a96c8a4cb062fc335c5647fc8180"), looks := true }, kinds := [], alts := [], laidByText := true, laidKinds := [.data, .data, .data, .sentinel, .sentinel], laidTests := true, laidLooks := .later }
def TextNumsCardSaid : Prop := Claim7.holds Tryd.pinned (.plain (OpenSpec.ofChange textNumsSpec)) textNumsCard

/-- THE TIED CARD OF 'soriteslaw01.TextApart'. -/
def textApartCard : Claim7 := { stood := { row := textApartRow, standIns := [], harness := (true, "72ed4241a49e4a94731a5b99ab5e9a1f33c6a96c8a4cb062fc335c5647fc8180"), looks := true }, kinds := [], alts := [], laidByText := true, laidKinds := [.data, .data, .data, .sentinel, .sentinel], laidTests := true, laidLooks := .later }
def TextApartCardSaid : Prop := Claim7.holds Tryd.pinned (.plain (OpenSpec.ofChange textApartSpec)) textApartCard

/-- THE TIED CARD OF 'soriteslaw01.TextJoins'. -/
def textJoinsCard : Claim7 := { stood := { row := textJoinsRow, standIns := [], harness := (true, "72ed4241a49e4a94731a5b99ab5e9a1f33c6a96c8a4cb062fc335c5647fc8180"), looks := true }, kinds := [], alts := [], laidByText := true, laidKinds := [.data, .data, .data, .sentinel, .sentinel], laidTests := true, laidLooks := .later }
def TextJoinsCardSaid : Prop := Claim7.holds Tryd.pinned (.plain (OpenSpec.ofChange textJoinsSpec)) textJoinsCard

/-- THE TIED CARD OF 'soriteslaw01.TextNames'. -/
def textNamesCard : Claim7 := { stood := { row := textNamesRow, standIns := [], harness := (true, "72ed4241a49e4a94731a5b99ab5e9a1f33c6a96c8a4cb062fc335c5647fc8180"), looks := true }, kinds := [], alts := [], laidByText := true, laidKinds := [.data, .data, .data, .sentinel, .sentinel], laidTests := true, laidLooks := .later }
def TextNamesCardSaid : Prop := Claim7.holds Tryd.pinned (.plain (OpenSpec.ofChange textNamesSpec)) textNamesCard

/-- THE TIED CARD OF 'soriteslaw01.TextSyms'. -/
def textSymsCard : Claim7 := { stood := { row := textSymsRow, standIns := [], harness := (true, "72ed4241a49e4a94731a5b99ab5e9a1f33c6a96c8a4cb062fc335c5647fc8180"), looks := true }, kinds := [], alts := [], laidByText := true, laidKinds := [.data, .data, .data, .sentinel, .sentinel, .sentinel], laidTests := true, laidLooks := .later }
def TextSymsCardSaid : Prop := Claim7.holds Tryd.pinned (.plain (OpenSpec.ofChange textSymsSpec)) textSymsCard

/-- THE TIED CARD OF 'soriteslaw01.TextBack'. -/
def textBackCard : Claim7 := { stood := { row := textBackRow, standIns := [], harness := (true, "72ed4241a49e4a94731a5b99ab5e9a1f33c6a96c8a4cb062fc335c5647fc8180"), looks := true }, kinds := [], alts := [], laidByText := true, laidKinds := [.data, .data, .data, .sentinel, .sentinel, .sentinel], laidTests := true, laidLooks := .later }
def TextBackCardSaid : Prop := Claim7.holds Tryd.pinned (.plain (OpenSpec.ofChange textBackSpec)) textBackCard

/-- THE SECOND FORM's CARD OF 'soriteslaw01.TextNums'. -/
def textNumsUptoCard : Claim7 := { stood := { row := textNumsUptoRow, standIns := [], harness := (true, "72ed4241a49e4a94731a5b99ab5e9a1f33c6a96c8a4cb062fc335c5647fc8180"), looks := true }, kinds := [], alts := [], laidByText := true, laidKinds := [.data, .data, .data, .sentinel, .sentinel], laidTests := true, laidLooks := .later }
def TextNumsUptoCardSaid : Prop := Claim7.holds Tryd.pinned (.plain (OpenSpec.upto textNumsSpec)) textNumsUptoCard

/-- THE SECOND FORM's CARD OF 'soriteslaw01.TextApart'. -/
def textApartUptoCard : Claim7 := { stood := { row := textApartUptoRow, standIns := [], harness := (true, "72ed4241a49e4a94731a5b99ab5e9a1f33c6a96c8a4cb062fc335c5647fc8180"), looks := true }, kinds := [], alts := [], laidByText := true, laidKinds := [.data, .data, .data, .sentinel, .sentinel], laidTests := true, laidLooks := .later }
def TextApartUptoCardSaid : Prop := Claim7.holds Tryd.pinned (.plain (OpenSpec.upto textApartSpec)) textApartUptoCard

/-- THE SECOND FORM's CARD OF 'soriteslaw01.TextJoins'. -/
def textJoinsUptoCard : Claim7 := { stood := { row := textJoinsUptoRow, standIns := [], harness := (true, "72ed4241a49e4a94731a5b99ab5e9a1f33c6a96c8a4cb062fc335c5647fc8180"), looks := true }, kinds := [], alts := [], laidByText := true, laidKinds := [.data, .data, .data, .sentinel, .sentinel], laidTests := true, laidLooks := .later }
def TextJoinsUptoCardSaid : Prop := Claim7.holds Tryd.pinned (.plain (OpenSpec.upto textJoinsSpec)) textJoinsUptoCard

/-- THE SECOND FORM's CARD OF 'soriteslaw01.TextNames'. -/
def textNamesUptoCard : Claim7 := { stood := { row := textNamesUptoRow, standIns := [], harness := (true, "72ed4241a49e4a94731a5b99ab5e9a1f33c6a96c8a4cb062fc335c5647fc8180"), looks := true }, kinds := [], alts := [], laidByText := true, laidKinds := [.data, .data, .data, .sentinel, .sentinel], laidTests := true, laidLooks := .later }
def TextNamesUptoCardSaid : Prop := Claim7.holds Tryd.pinned (.plain (OpenSpec.upto textNamesSpec)) textNamesUptoCard

/-- THE SECOND FORM's CARD OF 'soriteslaw01.TextSyms'. -/
def textSymsUptoCard : Claim7 := { stood := { row := textSymsUptoRow, standIns := [], harness := (true, "72ed4241a49e4a94731a5b99ab5e9a1f33c6a96c8a4cb062fc335c5647fc8180"), looks := true }, kinds := [], alts := [], laidByText := true, laidKinds := [.data, .data, .data, .sentinel, .sentinel, .sentinel], laidTests := true, laidLooks := .later }
def TextSymsUptoCardSaid : Prop := Claim7.holds Tryd.pinned (.plain (OpenSpec.upto textSymsSpec)) textSymsUptoCard

/-- THE SECOND FORM's CARD OF 'soriteslaw01.TextBack'. -/
def textBackUptoCard : Claim7 := { stood := { row := textBackUptoRow, standIns := [], harness := (true, "72ed4241a49e4a94731a5b99ab5e9a1f33c6a96c8a4cb062fc335c5647fc8180"), looks := true }, kinds := [], alts := [], laidByText := true, laidKinds := [.data, .data, .data, .sentinel, .sentinel, .sentinel], laidTests := true, laidLooks := .later }
def TextBackUptoCardSaid : Prop := Claim7.holds Tryd.pinned (.plain (OpenSpec.upto textBackSpec)) textBackUptoCard
end Rows
end Go.Proofs.YtlhphfhplhcnfaaDoor
