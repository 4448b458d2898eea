/-
  What every statement of this seat asks beside the law's own function. Own work.
-/
import Derived.Test.YtgkjbpnmeeibbaaGreatDoorTab
import Derived.Test.YtgkjbpnmeeibbaaGreatDoorRows
import Derived.ProofKit
set_option linter.all false
namespace Go.Proofs.YtgkjbpnmeeibbaaGreatDoor
open Go.Aw Go.ChangeShapes Go.WideShapes Go.ChangeAt Go.RowKit

mutual
theorem bulk_eq {H : Type} : ∀ d : DataW H, Rows.uptoBulk d = bulk d
  | .lit (.string _) => rfl
  | .lit (.bool _) => rfl
  | .lit (.int _ _) => rfl
  | .lit (.float _ _) => rfl
  | .lit .nil => rfl
  | .nil => rfl
  | .ptr d => by simp only [Rows.uptoBulk, bulk]; rw [bulk_eq d]
  | .slice es sp => by simp only [Rows.uptoBulk, bulk]; rw [bulkAll_eq es, bulkAll_eq sp]
  | .agg ps => by simp only [Rows.uptoBulk, bulk]; rw [bulkAll_eq ps]
  | .iface _ d => by simp only [Rows.uptoBulk, bulk]; rw [bulk_eq d]
  | .map es => by simp only [Rows.uptoBulk, bulk]; rw [bulkEntries_eq es]
  | .held _ => rfl
theorem bulkAll_eq {H : Type} : ∀ ds : List (DataW H), Rows.uptoBulkAll ds = bulkAll ds
  | [] => rfl
  | d :: r => by simp only [Rows.uptoBulkAll, bulkAll]; rw [bulk_eq d, bulkAll_eq r]
theorem bulkEntries_eq {H : Type} : ∀ ds : List (Lit × DataW H), Rows.uptoBulkEntries ds = bulkEntries ds
  | [] => rfl
  | d :: r => by simp only [Rows.uptoBulkEntries, bulkEntries]; rw [bulkEntry_eq d, bulkEntries_eq r]
theorem bulkEntry_eq {H : Type} : ∀ d : Lit × DataW H, Rows.uptoBulkEntry d = bulkEntry d
  | (.string _, d) => by simp only [Rows.uptoBulkEntry, bulkEntry]; rw [bulk_eq d]
  | (.bool _, d) => by simp only [Rows.uptoBulkEntry, bulkEntry]; rw [bulk_eq d]
  | (.int _ _, d) => by simp only [Rows.uptoBulkEntry, bulkEntry]; rw [bulk_eq d]
  | (.float _ _, d) => by simp only [Rows.uptoBulkEntry, bulkEntry]; rw [bulk_eq d]
  | (.nil, d) => by simp only [Rows.uptoBulkEntry, bulkEntry]; rw [bulk_eq d]
end
theorem small_bulk {H : Type} {ds gs : List (DataW H)} (h : Rows.uptoSmall H (ds ++ gs) = true) (hg : gs = []) : bulkAll ds ≤ 1048576 := by
  subst hg
  rw [List.append_nil] at h
  rw [← bulkAll_eq]
  exact of_decide_eq_true h
theorem own : ownKnob Tryz.prog.godebug = none := by kernel_rfl
theorem laid : laidOutB Tryz.prog = true := by kernel_rfl
theorem rowed : mapsRowed Tryz.prog = true := by kernel_rfl
theorem full : ((List.range Tryz.prog.types.size).all fun t => match Tryz.prog.underlying t with | some (.slice e) => decide (0 < Tryz.prog.cellsOf e) | _ => true) = true := by kernel_rfl
end Go.Proofs.YtgkjbpnmeeibbaaGreatDoor
