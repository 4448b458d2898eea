/-
  RelCompares: how rows are held against each other, and whether they rise, for any two rows and any rows. Own work.
-/
import Derived.Test.YtocbdcgbbdjhlaaR9
import Derived.Test.YtocbdcgbbdjhlaaO1
namespace Go.Proofs.Ytocbdcgbbdjhlaa
open Go.Aw Go.ChangeShapes Go.WideShapes Go.ChangeAt Go.RowKit

theorem relCompares_fn (H : Type) (ds : List (DataW H)) (h : ds.length = Try.f4.params.toList.length) : Rows.relComparesSpec.fn H ds = { results := [.lit (.bool true)], args := ds } := by
  have h : ds.length = 3 := h
  match ds, h with
  | [_, _, _], _ => rfl
set_option maxRecDepth 100000 in
theorem relCompares_lifted (os : Os) (started : os.Started) (H : Type) (enc : TypeId × Value → H) :
    ReturnsInHanded {} Try.checked os 4 .any (Rows.relComparesSpec.pre6 enc Try.prog Try.f4 Rows.relComparesRow.domain false) (Rows.relComparesSpec.post enc Try.prog Try.f4 false true false false) := by
  refine returnsInHanded_of_change (C := Try.checked) own started (by kernel_rfl) Try.func4
    (ChangeSpec.witness6 (enc := enc) (C := Try.checked) (s := Rows.relComparesSpec) false ⟨#[], #[.slice none 0 0, .slice none 0 0, .slice none 0 0], []⟩ 8 (by kernel_rfl) (by kernel_rfl) (by kernel_rfl) (by kernel_rfl)) ?_
  intro W base args ds gs before hval hW _ _
  exact law_contract 4 rfl Try.underlying4 laid rowed full (by kernel_rfl) rfl (s := Rows.relComparesSpec) (relCompares_fn) (opensArgs_cons opens_row (opensArgs_cons opens_row (opensArgs_cons opens_rows opensArgs_nil))) (B := fun _ => True) (fun x _ => relCompares_ok x.1 x.2.1 x.2.2.1 .no .no .no []) hval hW (fun _ _ => trivial)
theorem relCompares_holds : Rows.RelComparesSaid :=
  OpenClaim.holds_of_wide 4 Try.f4 rfl rfl rfl rfl rfl rfl rfl ⟨rfl, rfl, rfl, rfl, rfl⟩ rfl rfl rfl rfl rfl (by kernel_rfl) Try.func4 (by kernel_rfl) (of_decide_eq_true (by kernel_rfl)) (by unfold Func.isWrapper; first | (rw [if_pos (by decide +kernel)]; kernel_rfl) | (rw [if_neg (by decide +kernel)]; exact ⟨rfl, rfl⟩)) (fun os started H enc _ => relCompares_lifted os started H enc)
#print axioms relCompares_holds
end Go.Proofs.Ytocbdcgbbdjhlaa

