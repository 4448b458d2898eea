/-
  RelLaws: what rises is sorted as it is, and what both, one alone and whether a row is there have to do with each other, for any two lists of rows of bulk at most 1048576. Own work.
-/
import Derived.Test.YtocbdcgbbdjhlaaR25
import Derived.Test.YtocbdcgbbdjhlaaO1
namespace Go.Proofs.Ytocbdcgbbdjhlaa
open Go.Aw Go.ChangeShapes Go.WideShapes Go.ChangeAt Go.RowKit

theorem relLaws_fn (H : Type) (ds : List (DataW H)) (h : ds.length = Try.f8.params.toList.length) : Rows.relLawsSpec.fn H ds = { results := [.lit (.bool true)], args := ds } := by
  have h : ds.length = 2 := h
  match ds, h with
  | [_, _], _ => rfl
set_option maxRecDepth 100000 in
theorem relLaws_lifted (os : Os) (started : os.Started) (H : Type) (enc : TypeId × Value → H) (F : Stop.Interp) :
    ReturnsInHanded {} Try.checked os 8 .any ((Rows.OpenSpec.upto Rows.relLawsSpec).pre6 enc Try.prog Try.f8 Rows.relLawsUptoRow.domain false) (((Rows.OpenSpec.upto Rows.relLawsSpec).at F).post enc Try.prog Try.f8 false true false false) := by
  refine returnsInHanded_of_cond (C := Try.checked) (s := (Rows.OpenSpec.upto Rows.relLawsSpec)) (k := Rows.uptoSmall) rfl own started (by kernel_rfl) Try.func8
    (OpenSpec.witness (enc := enc) (C := Try.checked) (s := (Rows.OpenSpec.upto Rows.relLawsSpec)) (k := Rows.uptoSmall) rfl false ⟨#[], #[.slice none 0 0, .slice none 0 0], []⟩ 8 (by kernel_rfl) (by kernel_rfl) (by kernel_rfl)
      (x := ([.nil, .nil], [], [])) (by kernel_rfl) rfl (by kernel_rfl)) ?_
  intro W base args ds gs before hval hW _ hk _
  have hg : gs = [] := by obtain ⟨p, q, _, hV, _⟩ := hW; exact (trodVars_none hV).1
  exact law_contract 4 rfl Try.underlying4 laid rowed full (by kernel_rfl) rfl (s := Rows.relLawsSpec) (relLaws_fn) (opensArgs_cons opens_rows (opensArgs_cons opens_rows opensArgs_nil)) (B := fun n => n ≤ 1048576) (fun x hx => relLaws_ok x.1 x.2.1 .no .no [] (fun r hr => by have := szL_mem hr; have h2 : szL x.1 + (szL x.2.1 + 0) ≤ 1048576 := hx; omega) (fun r hr => by have := szL_mem hr; have h2 : szL x.1 + (szL x.2.1 + 0) ≤ 1048576 := hx; omega)) hval hW (fun n hn => Nat.le_trans hn (small_bulk hk hg))
theorem relLaws_holds : Rows.RelLawsUptoSaid :=
  OpenClaim.holds_of_cond 8 Try.f8 rfl rfl rfl rfl rfl rfl rfl ⟨rfl, rfl, rfl, rfl, rfl⟩ rfl rfl rfl rfl rfl (by kernel_rfl) Try.func8 (by kernel_rfl) (of_decide_eq_true (by kernel_rfl)) (by unfold Func.isWrapper; first | (rw [if_pos (by decide +kernel)]; kernel_rfl) | (rw [if_neg (by decide +kernel)]; exact ⟨rfl, rfl⟩)) (fun os started H enc _ F => relLaws_lifted os started H enc F)
#print axioms relLaws_holds
end Go.Proofs.Ytocbdcgbbdjhlaa

