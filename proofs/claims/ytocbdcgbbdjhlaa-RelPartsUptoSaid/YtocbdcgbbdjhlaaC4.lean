/-
  RelParts: what is matched by two columns is matched by one, and then by the other one, and without columns all rows are, for any rows of bulk at most 1048576, columns and values. Own work.
-/
import Derived.Test.YtocbdcgbbdjhlaaR13
import Derived.Test.YtocbdcgbbdjhlaaO1
namespace Go.Proofs.Ytocbdcgbbdjhlaa
open Go.Aw Go.ChangeShapes Go.WideShapes Go.ChangeAt Go.RowKit

theorem relParts_fn (H : Type) (ds : List (DataW H)) (h : ds.length = Try.f6.params.toList.length) : Rows.relPartsSpec.fn H ds = { results := [.lit (.bool true)], args := ds } := by
  have h : ds.length = 5 := h
  match ds, h with
  | [_, _, _, _, _], _ => rfl
set_option maxRecDepth 100000 in
theorem relParts_lifted (os : Os) (started : os.Started) (H : Type) (enc : TypeId × Value → H) (F : Stop.Interp) :
    ReturnsInHanded {} Try.checked os 6 .any ((Rows.OpenSpec.upto Rows.relPartsSpec).pre6 enc Try.prog Try.f6 Rows.relPartsUptoRow.domain false) (((Rows.OpenSpec.upto Rows.relPartsSpec).at F).post enc Try.prog Try.f6 false true false false) := by
  refine returnsInHanded_of_cond (C := Try.checked) (s := (Rows.OpenSpec.upto Rows.relPartsSpec)) (k := Rows.uptoSmall) rfl own started (by kernel_rfl) Try.func6
    (OpenSpec.witness (enc := enc) (C := Try.checked) (s := (Rows.OpenSpec.upto Rows.relPartsSpec)) (k := Rows.uptoSmall) rfl false ⟨#[], #[.slice none 0 0, .int .i64 0, .int .i64 0, .agg #[.bool false, .int .i64 0, .string (.mk #[])], .agg #[.bool false, .int .i64 0, .string (.mk #[])]], []⟩ 8 (by kernel_rfl) (by kernel_rfl) (by kernel_rfl)
      (x := ([.nil, .lit (.int .i64 0), .lit (.int .i64 0), .agg [.lit (.bool false), .lit (.int .i64 0), .lit (.string [])], .agg [.lit (.bool false), .lit (.int .i64 0), .lit (.string [])]], [], [])) (by kernel_rfl) rfl (by kernel_rfl)) ?_
  intro W base args ds gs before hval hW _ hk _
  have hg : gs = [] := by obtain ⟨p, q, _, hV, _⟩ := hW; exact (trodVars_none hV).1
  exact law_contract 4 rfl Try.underlying4 laid rowed full (by kernel_rfl) rfl (s := Rows.relPartsSpec) (relParts_fn) (opensArgs_cons opens_rows (opensArgs_cons (opens_int (k := .i64) Try.underlying3) (opensArgs_cons (opens_int (k := .i64) Try.underlying3) (opensArgs_cons opens_val (opensArgs_cons opens_val opensArgs_nil))))) (B := fun n => n ≤ 1048576) (fun x hx => relParts_ok x.1 x.2.1 x.2.2.1 x.2.2.2.1 x.2.2.2.2.1 .no [] (fun r hr => by have := szL_mem hr; have h2 : szL x.1 + _ ≤ 1048576 := hx; omega)) hval hW (fun n hn => Nat.le_trans hn (small_bulk hk hg))
theorem relParts_holds : Rows.RelPartsUptoSaid :=
  OpenClaim.holds_of_cond 6 Try.f6 rfl rfl rfl rfl rfl rfl rfl ⟨rfl, rfl, rfl, rfl, rfl⟩ rfl rfl rfl rfl rfl (by kernel_rfl) Try.func6 (by kernel_rfl) (of_decide_eq_true (by kernel_rfl)) (by unfold Func.isWrapper; first | (rw [if_pos (by decide +kernel)]; kernel_rfl) | (rw [if_neg (by decide +kernel)]; exact ⟨rfl, rfl⟩)) (fun os started H enc _ F => relParts_lifted os started H enc F)
#print axioms relParts_holds
end Go.Proofs.Ytocbdcgbbdjhlaa

