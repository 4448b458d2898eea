/-
  RelMatches: rows that have some values, for any rows, columns and values of bulk at most 1048576. Own work.
-/
import Derived.Test.YtocbdcgbbdjhlaaR13
import Derived.Test.YtocbdcgbbdjhlaaO1
namespace Go.Proofs.Ytocbdcgbbdjhlaa
open Go.Aw Go.ChangeShapes Go.WideShapes Go.ChangeAt Go.RowKit

theorem opens_ints (n : Nat) : Opens Try.prog n 30 (fun l : List Int => .sl 1 (l.map eI) .no) (fun l => (l.map fun _ => 1).sum + 1) := opens_all (fun n => opens_slice (c := 1) Try.underlying30 (by kernel_rfl) (by decide) (opens_int (k := .i64) Try.underlying3 n)) n
theorem relMatches_fn (H : Type) (ds : List (DataW H)) (h : ds.length = Try.f5.params.toList.length) : Rows.relMatchesSpec.fn H ds = { results := [.lit (.bool true)], args := ds } := by
  have h : ds.length = 3 := h
  match ds, h with
  | [_, _, _], _ => rfl
set_option maxRecDepth 100000 in
theorem relMatches_lifted (os : Os) (started : os.Started) (H : Type) (enc : TypeId × Value → H) (F : Stop.Interp) :
    ReturnsInHanded {} Try.checked os 5 .any ((Rows.OpenSpec.upto Rows.relMatchesSpec).pre6 enc Try.prog Try.f5 Rows.relMatchesUptoRow.domain false) (((Rows.OpenSpec.upto Rows.relMatchesSpec).at F).post enc Try.prog Try.f5 false true false false) := by
  refine returnsInHanded_of_cond (C := Try.checked) (s := (Rows.OpenSpec.upto Rows.relMatchesSpec)) (k := Rows.uptoSmall) rfl own started (by kernel_rfl) Try.func5
    (OpenSpec.witness (enc := enc) (C := Try.checked) (s := (Rows.OpenSpec.upto Rows.relMatchesSpec)) (k := Rows.uptoSmall) rfl false ⟨#[], #[.slice none 0 0, .slice none 0 0, .slice none 0 0], []⟩ 8 (by kernel_rfl) (by kernel_rfl) (by kernel_rfl)
      (x := ([.nil, .nil, .nil], [], [])) (by kernel_rfl) rfl (by kernel_rfl)) ?_
  intro W base args ds gs before hval hW _ hk _
  have hg : gs = [] := by obtain ⟨p, q, _, hV, _⟩ := hW; exact (trodVars_none hV).1
  exact law_contract 4 rfl Try.underlying4 laid rowed full (by kernel_rfl) rfl (s := Rows.relMatchesSpec) (relMatches_fn) (opensArgs_cons opens_rows (opensArgs_cons opens_ints (opensArgs_cons opens_row opensArgs_nil))) (B := fun n => n ≤ 1048576) (fun x hx => relMatches_ok x.1 x.2.1 x.2.2.1 .no .no .no [] (fun r hr => by have := szL_mem hr; have h2 : szL x.1 + _ ≤ 1048576 := hx; omega)) hval hW (fun n hn => Nat.le_trans hn (small_bulk hk hg))
theorem relMatches_holds : Rows.RelMatchesUptoSaid :=
  OpenClaim.holds_of_cond 5 Try.f5 rfl rfl rfl rfl rfl rfl rfl ⟨rfl, rfl, rfl, rfl, rfl⟩ rfl rfl rfl rfl rfl (by kernel_rfl) Try.func5 (by kernel_rfl) (of_decide_eq_true (by kernel_rfl)) (by unfold Func.isWrapper; first | (rw [if_pos (by decide +kernel)]; kernel_rfl) | (rw [if_neg (by decide +kernel)]; exact ⟨rfl, rfl⟩)) (fun os started H enc _ F => relMatches_lifted os started H enc F)
#print axioms relMatches_holds
end Go.Proofs.Ytocbdcgbbdjhlaa

