/-
  DtypeChecks: what is wrong with a program, and where, for any program. Own work.
-/
import Derived.Test.YtkmalncnaodkiaaDoorP11
set_option linter.all false
namespace Go.Proofs.YtkmalncnaodkiaaDoor
open Go.Aw Go.ChangeShapes Go.WideShapes Go.ChangeAt Go.RowKit

theorem dtypeChecks_fn (H : Type) (ds : List (DataW H)) (h : ds.length = Tryd.f7.params.toList.length) : Rows.dtypeChecksSpec.fn H ds = { results := [.lit (.bool true)], args := ds } := by
  have h : ds.length = 1 := h
  match ds, h with
  | [_], _ => rfl
theorem dtypeChecks_reads (os : Os) {H : Type} (enc : TypeId × Value → H) : ∃ places, DataW.whole enc Tryd.prog ((World.laidAll Tryd.prog os Rows.dtypeChecksRow.laid).forCall (fun _ _ => 0) ⟨#[], #[.agg #[.slice none 0 0, .slice none 0 0]], []⟩).memory Tryd.f7.params.toList Rows.dtypeChecksSpec.vars false #[.agg #[.slice none 0 0, .slice none 0 0]].toList 8 = some ([.agg [.nil, .nil]], [], places) :=
  ⟨[], by kernel_rfl⟩
set_option maxRecDepth 100000 in
theorem dtypeChecks_lifted (os : Os) (started : os.Started) (H : Type) (enc : TypeId × Value → H) (F : Stop.Interp) :
    ReturnsInHanded {} Tryd.checked os 7 .any ((OpenSpec.ofChange Rows.dtypeChecksSpec).preRow enc Tryd.prog Tryd.f7 Rows.dtypeChecksRow.domain false Rows.dtypeChecksRow.laid) (((OpenSpec.ofChange Rows.dtypeChecksSpec).at F).post enc Tryd.prog Tryd.f7 false true false false) := by
  obtain ⟨places, hx⟩ := dtypeChecks_reads os enc
  refine returnsInHanded_of_row (C := Tryd.checked) (s := (OpenSpec.ofChange Rows.dtypeChecksSpec)) own started (by kernel_rfl) Tryd.func7
    (witness_row_at (enc := enc) (C := Tryd.checked) false (World.laidAll Tryd.prog os Rows.dtypeChecksRow.laid) #[.agg #[.slice none 0 0, .slice none 0 0]] (World.laidAll_os _ _ _) (by kernel_rfl) (by kernel_rfl) (by kernel_rfl)
      (OpenSpec.preRow_of_cond 8 hx (by kernel_rfl) (fun k hk => by cases hk) (by kernel_rfl) (laidMet_laidAll _ (by kernel_rfl) (by kernel_rfl)))) ?_
  intro W base args ds gs before hval hW _ hcnd _ hL _ _
  obtain ⟨S0, hG, hR⟩ := startT hL
  exact law_contractG 4 rfl Tryd.underlying4 laid rowed full (by kernel_rfl) rfl (s := Rows.dtypeChecksSpec) (dtypeChecks_fn) (opensArgs_cons opens_P opensArgs_nil) (B := fun _ => True) (fun x _ => dtypeChecks_ok x.1 S0 _ _ _ hG.1.choose_spec.choose_spec hG.2.choose_spec) hR hval hW (fun _ _ => trivial)
theorem dtypeChecks_said : Rows.DtypeChecksSaid :=
  OpenClaim.holds_of_cond 7 Tryd.f7 rfl rfl rfl rfl rfl rfl rfl ⟨rfl, rfl, rfl, rfl, rfl⟩ rfl rfl rfl rfl rfl (by kernel_rfl) Tryd.func7 (by kernel_rfl) (of_decide_eq_true (by kernel_rfl)) (by unfold Func.isWrapper; first | (rw [if_pos (by decide +kernel)]; kernel_rfl) | (rw [if_neg (by decide +kernel)]; exact ⟨rfl, rfl⟩)) (fun os started H enc _ F => by rw [OpenClaim.pre_eq_preRow]; exact dtypeChecks_lifted os started H enc F)
theorem dtypeChecks_holds : Rows.DtypeChecksCardSaid :=
  Claim7.holds_tied_plain_at .later [] _ _ _ _ dtypeChecks_said (fun _ h => by cases h) (by kernel_rfl) (fun _ h => by cases h) dtypeChecks_row_tie rfl ⟨rfl, rfl⟩ (by kernel_rfl) rfl
    (fun f fn hf hfn => by
      obtain rfl : f = 7 := Option.some.inj (hf.symm.trans (by kernel_rfl))
      obtain rfl : fn = Tryd.f7 := (Option.some.inj (Tryd.func7.symm.trans hfn)).symm
      refine ⟨by kernel_rfl, fun j t ht => ?_⟩
      have hall : (Tryd.f7.params.toList.all fun u => !Tryd.prog.wantsStandIn u) = true := by kernel_rfl
      have := List.all_eq_true.1 hall t (by simpa using Array.mem_of_getElem? ht)
      exact (show Tryd.prog.wantsStandIn t = false by simpa using this)) (by kernel_rfl)
#print axioms dtypeChecks_holds
end Go.Proofs.YtkmalncnaodkiaaDoor

