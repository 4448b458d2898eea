/-
  RelCompares: how rows are held against each other, and whether they rise, for any two rows and any rows. Own work.
-/
import Derived.Test.YtocbdcgbbdjhlaaR9
import Derived.Test.YtocbdcgbbdjhlaaFrame
namespace Go.Proofs.Ytocbdcgbbdjhlaa
open Go.Aw Go.ChangeShapes Go.WideShapes Go.ChangeAt Go.RowKit

theorem opens_val (n : Nat) : Opens Try.prog n 35 encV (fun v => v.s.length) :=
  opens_all (fun n => opens_map (opens_struct Try.underlying35 (by kernel_rfl) (opensF_cons (c := 1) rfl (by kernel_rfl) (opens_bool Try.underlying4 n) (opensF_cons (c := 1) rfl (by kernel_rfl) (opens_int (k := .i64) Try.underlying2 n) (opensF_cons (c := 1) rfl (by kernel_rfl) (opens_str Try.underlying9 n) (opensF_nil))))) (fun x => ⟨x.1, x.2.1, x.2.2.1⟩) (fun _ => rfl) (fun x => by simp; omega)) n
theorem opens_row (n : Nat) : Opens Try.prog n 22 (encR) (fun l => (l.map fun v => v.s.length).sum + 1) := opens_all (fun n => opens_slice (c := 3) Try.underlying22 (by kernel_rfl) (by decide) (opens_val n)) n
theorem opens_rows (n : Nat) : Opens Try.prog n 26 (encL) (fun l => (l.map fun r => (r.map fun v => v.s.length).sum + 1).sum + 1) := opens_all (fun n => opens_slice (c := 1) Try.underlying26 (by kernel_rfl) (by decide) (opens_row n)) n
theorem relCompares_fn (H : Type) (ds : List (DataW H)) (h : ds.length = Try.f4.params.toList.length) : Rows.relComparesSpec.fn H ds = { results := [.lit (.bool true)], args := ds } := by
  have h : ds.length = 3 := h
  match ds, h with
  | [_, _, _], _ => rfl
set_option maxRecDepth 100000 in
theorem relCompares_lifted (os : Os) (started : os.Started) (H : Type) (enc : TypeId × Value → H) :
    ReturnsInHanded {} Try.checked os 4 .any (Rows.relComparesSpec.pre6 enc Try.prog Try.f4 Rows.relComparesRow.domain false) (Rows.relComparesSpec.post enc Try.prog Try.f4 false true false false) := by
  refine returnsInHanded_of_change (C := Try.checked) own started (by kernel_rfl) Try.func4
    (ChangeSpec.witness6 (enc := enc) (C := Try.checked) (s := Rows.relComparesSpec) false ⟨#[], #[.slice none 0 0, .slice none 0 0, .slice none 0 0], []⟩ 8 (by kernel_rfl) (by kernel_rfl) (by kernel_rfl) (by kernel_rfl)) ?_
  intro W base args ds gs before hval hW _ _
  exact law_contract 4 rfl Try.underlying4 laid rowed full (by kernel_rfl) rfl (s := Rows.relComparesSpec) (relCompares_fn) (opensArgs_cons opens_row (opensArgs_cons opens_row (opensArgs_cons opens_rows opensArgs_nil))) (B := fun _ => True) (fun x _ => relCompares_ok x.1 x.2.1 x.2.2.1 .no .no .no []) hval hW (fun _ _ => trivial)
theorem relCompares_holds : Rows.RelComparesSaid :=
  OpenClaim.holds_of_wide 4 Try.f4 rfl rfl rfl rfl rfl rfl rfl ⟨rfl, rfl, rfl, rfl, rfl⟩ rfl rfl rfl rfl rfl (by kernel_rfl) Try.func4 (by kernel_rfl) (of_decide_eq_true (by kernel_rfl)) (by unfold Func.isWrapper; first | (rw [if_pos (by decide +kernel)]; kernel_rfl) | (rw [if_neg (by decide +kernel)]; exact ⟨rfl, rfl⟩)) (fun os started H enc _ => relCompares_lifted os started H enc)
#print axioms relCompares_holds
end Go.Proofs.Ytocbdcgbbdjhlaa

