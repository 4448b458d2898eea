/-
  RelOrders: less is so one way alone, and over a third one, for any three rows. Own work.
-/
import Derived.Test.YtocbdcgbbdjhlaaR10
import Derived.Test.YtocbdcgbbdjhlaaO1
namespace Go.Proofs.Ytocbdcgbbdjhlaa
open Go.Aw Go.ChangeShapes Go.WideShapes Go.ChangeAt Go.RowKit

theorem relOrders_fn (H : Type) (ds : List (DataW H)) (h : ds.length = Try.f3.params.toList.length) : Rows.relOrdersSpec.fn H ds = { results := [.lit (.bool true)], args := ds } := by
  have h : ds.length = 3 := h
  match ds, h with
  | [_, _, _], _ => rfl
set_option maxRecDepth 100000 in
theorem relOrders_lifted (os : Os) (started : os.Started) (H : Type) (enc : TypeId × Value → H) :
    ReturnsInHanded {} Try.checked os 3 .any (Rows.relOrdersSpec.pre6 enc Try.prog Try.f3 Rows.relOrdersRow.domain false) (Rows.relOrdersSpec.post enc Try.prog Try.f3 false true false false) := by
  refine returnsInHanded_of_change (C := Try.checked) own started (by kernel_rfl) Try.func3
    (ChangeSpec.witness6 (enc := enc) (C := Try.checked) (s := Rows.relOrdersSpec) false ⟨#[], #[.slice none 0 0, .slice none 0 0, .slice none 0 0], []⟩ 8 (by kernel_rfl) (by kernel_rfl) (by kernel_rfl) (by kernel_rfl)) ?_
  intro W base args ds gs before hval hW _ _
  exact law_contract 4 rfl Try.underlying4 laid rowed full (by kernel_rfl) rfl (s := Rows.relOrdersSpec) (relOrders_fn) (opensArgs_cons opens_row (opensArgs_cons opens_row (opensArgs_cons opens_row opensArgs_nil))) (B := fun _ => True) (fun x _ => relOrders_ok x.1 x.2.1 x.2.2.1 .no .no .no []) hval hW (fun _ _ => trivial)
theorem relOrders_holds : Rows.RelOrdersSaid :=
  OpenClaim.holds_of_wide 3 Try.f3 rfl rfl rfl rfl rfl rfl rfl ⟨rfl, rfl, rfl, rfl, rfl⟩ rfl rfl rfl rfl rfl (by kernel_rfl) Try.func3 (by kernel_rfl) (of_decide_eq_true (by kernel_rfl)) (by unfold Func.isWrapper; first | (rw [if_pos (by decide +kernel)]; kernel_rfl) | (rw [if_neg (by decide +kernel)]; exact ⟨rfl, rfl⟩)) (fun os started H enc _ => relOrders_lifted os started H enc)
#print axioms relOrders_holds
end Go.Proofs.Ytocbdcgbbdjhlaa

