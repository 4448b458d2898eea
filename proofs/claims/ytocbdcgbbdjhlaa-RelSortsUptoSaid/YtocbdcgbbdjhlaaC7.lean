/-
  RelSorts: rows sorted, with one more, and whether one is there, for any rows and row of bulk at most 1048576. Own work.
-/
import Derived.Test.YtocbdcgbbdjhlaaR29
import Derived.Test.YtocbdcgbbdjhlaaO1
namespace Go.Proofs.Ytocbdcgbbdjhlaa
open Go.Aw Go.ChangeShapes Go.WideShapes Go.ChangeAt Go.RowKit

theorem relSorts_fn (H : Type) (ds : List (DataW H)) (h : ds.length = Try.f9.params.toList.length) : Rows.relSortsSpec.fn H ds = { results := [.lit (.bool true)], args := ds } := by
  have h : ds.length = 2 := h
  match ds, h with
  | [_, _], _ => rfl
set_option maxRecDepth 100000 in
theorem relSorts_lifted (os : Os) (started : os.Started) (H : Type) (enc : TypeId × Value → H) (F : Stop.Interp) :
    ReturnsInHanded {} Try.checked os 9 .any ((Rows.OpenSpec.upto Rows.relSortsSpec).pre6 enc Try.prog Try.f9 Rows.relSortsUptoRow.domain false) (((Rows.OpenSpec.upto Rows.relSortsSpec).at F).post enc Try.prog Try.f9 false true false false) := by
  refine returnsInHanded_of_cond (C := Try.checked) (s := (Rows.OpenSpec.upto Rows.relSortsSpec)) (k := Rows.uptoSmall) rfl own started (by kernel_rfl) Try.func9
    (OpenSpec.witness (enc := enc) (C := Try.checked) (s := (Rows.OpenSpec.upto Rows.relSortsSpec)) (k := Rows.uptoSmall) rfl false ⟨#[], #[.slice none 0 0, .slice none 0 0], []⟩ 8 (by kernel_rfl) (by kernel_rfl) (by kernel_rfl)
      (x := ([.nil, .nil], [], [])) (by kernel_rfl) rfl (by kernel_rfl)) ?_
  intro W base args ds gs before hval hW _ hk _
  have hg : gs = [] := by obtain ⟨p, q, _, hV, _⟩ := hW; exact (trodVars_none hV).1
  exact law_contract 4 rfl Try.underlying4 laid rowed full (by kernel_rfl) rfl (s := Rows.relSortsSpec) (relSorts_fn) (opensArgs_cons opens_rows (opensArgs_cons opens_row opensArgs_nil)) (B := fun n => n ≤ 1048576) (fun x hx => relSorts_ok x.1 x.2.1 .no .no [] (fun r hr => by have := szL_mem hr; have h2 : szL x.1 + (szR x.2.1 + 0) ≤ 1048576 := hx; omega) (by have h2 : szL x.1 + (szR x.2.1 + 0) ≤ 1048576 := hx; have := szR_len x.2.1; omega)) hval hW (fun n hn => Nat.le_trans hn (small_bulk hk hg))
theorem relSorts_holds : Rows.RelSortsUptoSaid :=
  OpenClaim.holds_of_cond 9 Try.f9 rfl rfl rfl rfl rfl rfl rfl ⟨rfl, rfl, rfl, rfl, rfl⟩ rfl rfl rfl rfl rfl (by kernel_rfl) Try.func9 (by kernel_rfl) (of_decide_eq_true (by kernel_rfl)) (by unfold Func.isWrapper; first | (rw [if_pos (by decide +kernel)]; kernel_rfl) | (rw [if_neg (by decide +kernel)]; exact ⟨rfl, rfl⟩)) (fun os started H enc _ F => relSorts_lifted os started H enc F)
#print axioms relSorts_holds
end Go.Proofs.Ytocbdcgbbdjhlaa

