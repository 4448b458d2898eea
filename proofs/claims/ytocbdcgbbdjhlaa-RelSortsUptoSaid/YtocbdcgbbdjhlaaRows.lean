/-
  No cell of these rows narrows 'for every input' (looked for: loops, veiled, ifaces, maps, wideKeys, modest, calm, conditions, laid).
  DERIVED. THE GIVEN ROWS OF THIS SEAT. 7 by the template 'for every input the law returns true; each argument reads behind the call as it read before'; 0 by the template 'total and deterministic' (their statements: YtocbdcgbbdjhlaaTotals.lean).
  GIVEN WITH THE SEED: the statements are not yours to turn. If you find one false, say at which input.
  Laid BY PROGRAM, IN A SANDBOX (cutbox-rows.mjs): the forced cells as the released guide's own fill.sh prints them over the translation 0704e08aece89bf5… (all of the seat's roots in one cut). By AI agents, Wed Nov 11 2026. No macro, syntax, notation, axiom, sorry.
-/
import Derived.Test.YtocbdcgbbdjhlaaChecked
import GoSem.Claim
import GoSem.ClaimJoined
import GoSem.ClaimMapViews
import Derived.JoinedTies
import Derived.KernelRfl
namespace Go.Proofs.Ytocbdcgbbdjhlaa
/- THE CELL 'sum', in the pinned program and in every row, IS THE sha256 OF THE DUMP (.gsa) THAT YtocbdcgbbdjhlaaProg.lean LOADS. Nothing in Lean hashes anything: it is a label: what it is worth is what the hold of that sum in a sandbox is worth. -/
noncomputable def Try.pinned : Pinned := { name := "ytocbdcgbbdjhlaa", sum := "0704e08aece89bf51f3c896a4ef72d2ef9dcd1767144ff9629366807804eaaf6", checked := Try.checked }
namespace Rows
def none {H : Type} : Left H := { results := [], args := [] }

/-- 'soriteslaw08.RelOrders': WHATEVER THE INPUT: true; the input reads as it did. -/
def relOrdersSpec : ChangeSpec := { name := "relOrders", fn := fun _ => fun
  | [d1, d2, d3] => { results := [.lit (.bool true)], args := [d1, d2, d3] }
  | _ => none }
def relOrdersRow : OpenClaim := { program := "ytocbdcgbbdjhlaa", sum := "0704e08aece89bf51f3c896a4ef72d2ef9dcd1767144ff9629366807804eaaf6", func := "sorites/soriteslaw08.RelOrders", spec := "relOrders", unfollowed := true, recurses := true, apart := false }
def RelOrdersSaid : Prop := relOrdersRow.holds Try.pinned (OpenSpec.ofChange relOrdersSpec)

/-- ITS FALSE NEIGHBOUR: 'it returns false'. Refute it at one input. -/
def relOrdersWrong : ChangeSpec := { name := "relOrders", fn := fun _ => fun
  | [d1, d2, d3] => { results := [.lit (.bool false)], args := [d1, d2, d3] }
  | _ => none }
def RelOrdersWrongFalsely : Prop := relOrdersRow.holds Try.pinned (OpenSpec.ofChange relOrdersWrong)

/-- 'soriteslaw08.RelCompares': WHATEVER THE INPUT: true; the input reads as it did. -/
def relComparesSpec : ChangeSpec := { name := "relCompares", fn := fun _ => fun
  | [d1, d2, d3] => { results := [.lit (.bool true)], args := [d1, d2, d3] }
  | _ => none }
def relComparesRow : OpenClaim := { program := "ytocbdcgbbdjhlaa", sum := "0704e08aece89bf51f3c896a4ef72d2ef9dcd1767144ff9629366807804eaaf6", func := "sorites/soriteslaw08.RelCompares", spec := "relCompares", unfollowed := true, recurses := true, apart := false }
def RelComparesSaid : Prop := relComparesRow.holds Try.pinned (OpenSpec.ofChange relComparesSpec)

/-- ITS FALSE NEIGHBOUR: 'it returns false'. Refute it at one input. -/
def relComparesWrong : ChangeSpec := { name := "relCompares", fn := fun _ => fun
  | [d1, d2, d3] => { results := [.lit (.bool false)], args := [d1, d2, d3] }
  | _ => none }
def RelComparesWrongFalsely : Prop := relComparesRow.holds Try.pinned (OpenSpec.ofChange relComparesWrong)

/-- 'soriteslaw08.RelMatches': WHATEVER THE INPUT: true; the input reads as it did. -/
def relMatchesSpec : ChangeSpec := { name := "relMatches", fn := fun _ => fun
  | [d1, d2, d3] => { results := [.lit (.bool true)], args := [d1, d2, d3] }
  | _ => none }
def relMatchesRow : OpenClaim := { program := "ytocbdcgbbdjhlaa", sum := "0704e08aece89bf51f3c896a4ef72d2ef9dcd1767144ff9629366807804eaaf6", func := "sorites/soriteslaw08.RelMatches", spec := "relMatches", unfollowed := true, recurses := true, apart := false }
def RelMatchesSaid : Prop := relMatchesRow.holds Try.pinned (OpenSpec.ofChange relMatchesSpec)

/-- ITS FALSE NEIGHBOUR: 'it returns false'. Refute it at one input. -/
def relMatchesWrong : ChangeSpec := { name := "relMatches", fn := fun _ => fun
  | [d1, d2, d3] => { results := [.lit (.bool false)], args := [d1, d2, d3] }
  | _ => none }
def RelMatchesWrongFalsely : Prop := relMatchesRow.holds Try.pinned (OpenSpec.ofChange relMatchesWrong)

/-- 'soriteslaw08.RelParts': WHATEVER THE INPUT: true; the input reads as it did. -/
def relPartsSpec : ChangeSpec := { name := "relParts", fn := fun _ => fun
  | [d1, d2, d3, d4, d5] => { results := [.lit (.bool true)], args := [d1, d2, d3, d4, d5] }
  | _ => none }
def relPartsRow : OpenClaim := { program := "ytocbdcgbbdjhlaa", sum := "0704e08aece89bf51f3c896a4ef72d2ef9dcd1767144ff9629366807804eaaf6", func := "sorites/soriteslaw08.RelParts", spec := "relParts", unfollowed := true, recurses := true, apart := false }
def RelPartsSaid : Prop := relPartsRow.holds Try.pinned (OpenSpec.ofChange relPartsSpec)

/-- ITS FALSE NEIGHBOUR: 'it returns false'. Refute it at one input. -/
def relPartsWrong : ChangeSpec := { name := "relParts", fn := fun _ => fun
  | [d1, d2, d3, d4, d5] => { results := [.lit (.bool false)], args := [d1, d2, d3, d4, d5] }
  | _ => none }
def RelPartsWrongFalsely : Prop := relPartsRow.holds Try.pinned (OpenSpec.ofChange relPartsWrong)

/-- 'soriteslaw08.RelSets': WHATEVER THE INPUT: true; the input reads as it did. -/
def relSetsSpec : ChangeSpec := { name := "relSets", fn := fun _ => fun
  | [d1, d2] => { results := [.lit (.bool true)], args := [d1, d2] }
  | _ => none }
def relSetsRow : OpenClaim := { program := "ytocbdcgbbdjhlaa", sum := "0704e08aece89bf51f3c896a4ef72d2ef9dcd1767144ff9629366807804eaaf6", func := "sorites/soriteslaw08.RelSets", spec := "relSets", unfollowed := true, recurses := true, apart := false }
def RelSetsSaid : Prop := relSetsRow.holds Try.pinned (OpenSpec.ofChange relSetsSpec)

/-- ITS FALSE NEIGHBOUR: 'it returns false'. Refute it at one input. -/
def relSetsWrong : ChangeSpec := { name := "relSets", fn := fun _ => fun
  | [d1, d2] => { results := [.lit (.bool false)], args := [d1, d2] }
  | _ => none }
def RelSetsWrongFalsely : Prop := relSetsRow.holds Try.pinned (OpenSpec.ofChange relSetsWrong)

/-- 'soriteslaw08.RelLaws': WHATEVER THE INPUT: true; the input reads as it did. -/
def relLawsSpec : ChangeSpec := { name := "relLaws", fn := fun _ => fun
  | [d1, d2] => { results := [.lit (.bool true)], args := [d1, d2] }
  | _ => none }
def relLawsRow : OpenClaim := { program := "ytocbdcgbbdjhlaa", sum := "0704e08aece89bf51f3c896a4ef72d2ef9dcd1767144ff9629366807804eaaf6", func := "sorites/soriteslaw08.RelLaws", spec := "relLaws", unfollowed := true, recurses := true, apart := false }
def RelLawsSaid : Prop := relLawsRow.holds Try.pinned (OpenSpec.ofChange relLawsSpec)

/-- ITS FALSE NEIGHBOUR: 'it returns false'. Refute it at one input. -/
def relLawsWrong : ChangeSpec := { name := "relLaws", fn := fun _ => fun
  | [d1, d2] => { results := [.lit (.bool false)], args := [d1, d2] }
  | _ => none }
def RelLawsWrongFalsely : Prop := relLawsRow.holds Try.pinned (OpenSpec.ofChange relLawsWrong)

/-- 'soriteslaw08.RelSorts': WHATEVER THE INPUT: true; the input reads as it did. -/
def relSortsSpec : ChangeSpec := { name := "relSorts", fn := fun _ => fun
  | [d1, d2] => { results := [.lit (.bool true)], args := [d1, d2] }
  | _ => none }
def relSortsRow : OpenClaim := { program := "ytocbdcgbbdjhlaa", sum := "0704e08aece89bf51f3c896a4ef72d2ef9dcd1767144ff9629366807804eaaf6", func := "sorites/soriteslaw08.RelSorts", spec := "relSorts", inPlace := ["slices.overlaps[[]sorites/api.Val]"], unfollowed := true, recurses := true, apart := false }
def RelSortsSaid : Prop := relSortsRow.holds Try.pinned (OpenSpec.ofChange relSortsSpec)

/-- ITS FALSE NEIGHBOUR: 'it returns false'. Refute it at one input. -/
def relSortsWrong : ChangeSpec := { name := "relSorts", fn := fun _ => fun
  | [d1, d2] => { results := [.lit (.bool false)], args := [d1, d2] }
  | _ => none }
def RelSortsWrongFalsely : Prop := relSortsRow.holds Try.pinned (OpenSpec.ofChange relSortsWrong)

/- THE SECOND FORM. 'bulk': how many values and letters a reading holds, each counted each time it is reached (what is shared counts as often as it is met; a slice's spare places count too). A statement '..UptoSaid' is the law's where the arguments, and the package variables that the reading takes, are together of bulk at most 1048576: NARROWER than '..Said'. Prove '..Said' where nothing that the law and all that it calls make is longer than what came in: it says more and counts as full. Else prove '..UptoSaid'. A law counts once. -/
mutual
def uptoBulk {H : Type} : DataW H → Nat
  | .lit (.string bytes) => bytes.length + 1
  | .lit _ => 1
  | .nil => 1
  | .ptr d => uptoBulk d + 1
  | .slice elems spare => uptoBulkAll elems + uptoBulkAll spare + 1
  | .agg parts => uptoBulkAll parts + 1
  | .iface _ d => uptoBulk d + 1
  | .map entries => uptoBulkEntries entries + 1
  | .held _ => 1
def uptoBulkAll {H : Type} : List (DataW H) → Nat
  | [] => 0
  | d :: r => uptoBulk d + uptoBulkAll r
def uptoBulkEntries {H : Type} : List (Lit × DataW H) → Nat
  | [] => 0
  | x :: r => uptoBulkEntry x + uptoBulkEntries r
def uptoBulkEntry {H : Type} : Lit × DataW H → Nat
  | (.string bytes, d) => bytes.length + uptoBulk d + 1
  | (_, d) => uptoBulk d + 1
 end
def uptoSmall : (H : Type) → List (DataW H) → Bool := fun _ ds => decide (uptoBulkAll ds ≤ 1048576)
def OpenSpec.upto (s : _root_.Go.ChangeSpec) : _root_.Go.OpenSpec := { _root_.Go.OpenSpec.ofChange s with cond := some uptoSmall }

/-- 'soriteslaw08.RelOrders', WHERE WHAT IT READS IS OF BULK AT MOST 1048576: true; the input reads as it did. -/
def relOrdersUptoRow : OpenClaim := { program := "ytocbdcgbbdjhlaa", sum := "0704e08aece89bf51f3c896a4ef72d2ef9dcd1767144ff9629366807804eaaf6", func := "sorites/soriteslaw08.RelOrders", spec := "relOrders", unfollowed := true, recurses := true, apart := false, narrowed := true }
def RelOrdersUptoSaid : Prop := relOrdersUptoRow.holds Try.pinned (OpenSpec.upto relOrdersSpec)

/-- 'soriteslaw08.RelCompares', WHERE WHAT IT READS IS OF BULK AT MOST 1048576: true; the input reads as it did. -/
def relComparesUptoRow : OpenClaim := { program := "ytocbdcgbbdjhlaa", sum := "0704e08aece89bf51f3c896a4ef72d2ef9dcd1767144ff9629366807804eaaf6", func := "sorites/soriteslaw08.RelCompares", spec := "relCompares", unfollowed := true, recurses := true, apart := false, narrowed := true }
def RelComparesUptoSaid : Prop := relComparesUptoRow.holds Try.pinned (OpenSpec.upto relComparesSpec)

/-- 'soriteslaw08.RelMatches', WHERE WHAT IT READS IS OF BULK AT MOST 1048576: true; the input reads as it did. -/
def relMatchesUptoRow : OpenClaim := { program := "ytocbdcgbbdjhlaa", sum := "0704e08aece89bf51f3c896a4ef72d2ef9dcd1767144ff9629366807804eaaf6", func := "sorites/soriteslaw08.RelMatches", spec := "relMatches", unfollowed := true, recurses := true, apart := false, narrowed := true }
def RelMatchesUptoSaid : Prop := relMatchesUptoRow.holds Try.pinned (OpenSpec.upto relMatchesSpec)

/-- 'soriteslaw08.RelParts', WHERE WHAT IT READS IS OF BULK AT MOST 1048576: true; the input reads as it did. -/
def relPartsUptoRow : OpenClaim := { program := "ytocbdcgbbdjhlaa", sum := "0704e08aece89bf51f3c896a4ef72d2ef9dcd1767144ff9629366807804eaaf6", func := "sorites/soriteslaw08.RelParts", spec := "relParts", unfollowed := true, recurses := true, apart := false, narrowed := true }
def RelPartsUptoSaid : Prop := relPartsUptoRow.holds Try.pinned (OpenSpec.upto relPartsSpec)

/-- 'soriteslaw08.RelSets', WHERE WHAT IT READS IS OF BULK AT MOST 1048576: true; the input reads as it did. -/
def relSetsUptoRow : OpenClaim := { program := "ytocbdcgbbdjhlaa", sum := "0704e08aece89bf51f3c896a4ef72d2ef9dcd1767144ff9629366807804eaaf6", func := "sorites/soriteslaw08.RelSets", spec := "relSets", unfollowed := true, recurses := true, apart := false, narrowed := true }
def RelSetsUptoSaid : Prop := relSetsUptoRow.holds Try.pinned (OpenSpec.upto relSetsSpec)

/-- 'soriteslaw08.RelLaws', WHERE WHAT IT READS IS OF BULK AT MOST 1048576: true; the input reads as it did. -/
def relLawsUptoRow : OpenClaim := { program := "ytocbdcgbbdjhlaa", sum := "0704e08aece89bf51f3c896a4ef72d2ef9dcd1767144ff9629366807804eaaf6", func := "sorites/soriteslaw08.RelLaws", spec := "relLaws", unfollowed := true, recurses := true, apart := false, narrowed := true }
def RelLawsUptoSaid : Prop := relLawsUptoRow.holds Try.pinned (OpenSpec.upto relLawsSpec)

/-- 'soriteslaw08.RelSorts', WHERE WHAT IT READS IS OF BULK AT MOST 1048576: true; the input reads as it did. -/
def relSortsUptoRow : OpenClaim := { program := "ytocbdcgbbdjhlaa", sum := "0704e08aece89bf51f3c896a4ef72d2ef9dcd1767144ff9629366807804eaaf6", func := "sorites/soriteslaw08.RelSorts", spec := "relSorts", inPlace := ["slices.overlaps[[]sorites/api.Val]"], unfollowed := true, recurses := true, apart := false, narrowed := true }
def RelSortsUptoSaid : Prop := relSortsUptoRow.holds Try.pinned (OpenSpec.upto relSortsSpec)

end Rows
end Go.Proofs.Ytocbdcgbbdjhlaa
