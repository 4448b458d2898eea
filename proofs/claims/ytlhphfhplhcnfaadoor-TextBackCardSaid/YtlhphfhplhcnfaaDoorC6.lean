/-
  TextBack: symbols' texts, read and written. Own work.
-/
import Derived.Test.YtlhphfhplhcnfaaDoorL2
namespace Go.Proofs.YtlhphfhplhcnfaaDoor
open Go.Aw Go.ChangeShapes Go.WideShapes Go.ChangeAt Go.RowKit

theorem textBack_fn (H : Type) (ds : List (DataW H)) (h : ds.length = Tryd.f8.params.toList.length) : Rows.textBackSpec.fn H ds = { results := [.lit (.bool true)], args := ds } := by
  have h : ds.length = 3 := h
  match ds, h with
  | [_, _, _], _ => rfl
theorem textBack_reads (os : Os) {H : Type} (enc : TypeId × Value → H) : ∃ places, DataW.whole enc Tryd.prog ((World.laidAll Tryd.prog os Rows.textBackRow.laid).forCall (fun _ _ => 0) ⟨#[], #[.int .i64 0, .string .empty, .string .empty], []⟩).memory Tryd.f8.params.toList Rows.textBackSpec.vars false #[.int .i64 0, .string .empty, .string .empty].toList 8 = some ([.lit (.int .i64 0), .lit (.string []), .lit (.string [])], [], places) :=
  ⟨[], by kernel_rfl⟩
set_option maxRecDepth 100000 in
theorem textBack_lifted (os : Os) (started : os.Started) (H : Type) (enc : TypeId × Value → H) (F : Stop.Interp) :
    ReturnsInHanded {} Tryd.checked os 8 .any ((OpenSpec.ofChange Rows.textBackSpec).preRow enc Tryd.prog Tryd.f8 Rows.textBackRow.domain false Rows.textBackRow.laid) (((OpenSpec.ofChange Rows.textBackSpec).at F).post enc Tryd.prog Tryd.f8 false true false false) := by
  obtain ⟨places, hx⟩ := textBack_reads os enc
  refine returnsInHanded_of_row (C := Tryd.checked) (s := (OpenSpec.ofChange Rows.textBackSpec)) own started (by kernel_rfl) Tryd.func8
    (witness_row_at (enc := enc) (C := Tryd.checked) false (World.laidAll Tryd.prog os Rows.textBackRow.laid) #[.int .i64 0, .string .empty, .string .empty] (World.laidAll_os _ _ _) (by kernel_rfl) (by kernel_rfl) (by kernel_rfl)
      (OpenSpec.preRow_of_cond 8 hx (by kernel_rfl) (fun k hk => by cases hk) (by kernel_rfl) (laidMet_laidAll _ (by kernel_rfl) (by kernel_rfl)))) ?_
  intro W base args ds gs before hval hW _ hcnd _ hL _ _
  obtain ⟨S0, hG, hR⟩ := start6 hL
  exact law_contractG 4 rfl Tryd.underlying4 laid rowed full (by kernel_rfl) rfl (s := Rows.textBackSpec) (textBack_fn) (opensArgs_cons (opens_int (k := .i64) Tryd.underlying2) (opensArgs_cons (opens_str Tryd.underlying9) (opensArgs_cons (opens_str Tryd.underlying9) opensArgs_nil))) (B := fun _ => True) (fun x _ => ACall_sat fun hs => textBack_ok x.1 x.2.1 x.2.2.1 S0 hG.1 (i64_of (hs _ (.head _)).int) _ _ hG.2.choose_spec.choose_spec) hR hval hW (fun _ _ => trivial)
theorem textBack_said : Rows.TextBackSaid :=
  OpenClaim.holds_of_cond 8 Tryd.f8 rfl rfl rfl rfl rfl rfl rfl ⟨rfl, rfl, rfl, rfl, rfl⟩ rfl rfl rfl rfl rfl (by kernel_rfl) Tryd.func8 (by kernel_rfl) (of_decide_eq_true (by kernel_rfl)) (by unfold Func.isWrapper; first | (rw [if_pos (by decide +kernel)]; kernel_rfl) | (rw [if_neg (by decide +kernel)]; exact ⟨rfl, rfl⟩)) (fun os started H enc _ F => by rw [OpenClaim.pre_eq_preRow]; exact textBack_lifted os started H enc F)
theorem textBack_holds : Rows.TextBackCardSaid :=
  Claim7.holds_tied_plain_at .later [] _ _ _ _ textBack_said (fun _ h => by cases h) (by kernel_rfl) (fun _ h => by cases h) textBack_row_tie rfl ⟨rfl, rfl⟩ (by kernel_rfl) rfl
    (fun f fn hf hfn => by
      obtain rfl : f = 8 := Option.some.inj (hf.symm.trans (by kernel_rfl))
      obtain rfl : fn = Tryd.f8 := (Option.some.inj (Tryd.func8.symm.trans hfn)).symm
      refine ⟨by kernel_rfl, fun j t ht => ?_⟩
      have hall : (Tryd.f8.params.toList.all fun u => !Tryd.prog.wantsStandIn u) = true := by kernel_rfl
      have := List.all_eq_true.1 hall t (by simpa using Array.mem_of_getElem? ht)
      exact (show Tryd.prog.wantsStandIn t = false by simpa using this)) (by kernel_rfl)
#print axioms textBack_holds
end Go.Proofs.YtlhphfhplhcnfaaDoor

