/-
  DtreeParts: a program's text is that of its relations, and then its rules' lines, for any program. Own work.
-/
import Derived.Test.YtljdbkieofhblaaDoorP10
namespace Go.Proofs.YtljdbkieofhblaaDoor
open Go.Aw Go.ChangeShapes Go.WideShapes Go.ChangeAt Go.RowKit

theorem dtreeParts_fn (H : Type) (ds : List (DataW H)) (h : ds.length = Tryd.f5.params.toList.length) : Rows.dtreePartsSpec.fn H ds = { results := [.lit (.bool true)], args := ds } := by
  have h : ds.length = 1 := h
  match ds, h with
  | [_], _ => rfl
theorem dtreeParts_reads (os : Os) {H : Type} (enc : TypeId × Value → H) : ∃ places, DataW.whole enc Tryd.prog ((World.laidAll Tryd.prog os Rows.dtreePartsRow.laid).forCall (fun _ _ => 0) ⟨#[], #[.agg #[.slice none 0 0, .slice none 0 0]], []⟩).memory Tryd.f5.params.toList Rows.dtreePartsSpec.vars false #[.agg #[.slice none 0 0, .slice none 0 0]].toList 8 = some ([.agg [.nil, .nil]], [], places) :=
  ⟨[], by kernel_rfl⟩
set_option maxRecDepth 100000 in
theorem dtreeParts_lifted (os : Os) (started : os.Started) (H : Type) (enc : TypeId × Value → H) (F : Stop.Interp) :
    ReturnsInHanded {} Tryd.checked os 5 .any ((OpenSpec.ofChange Rows.dtreePartsSpec).preRow enc Tryd.prog Tryd.f5 Rows.dtreePartsRow.domain false Rows.dtreePartsRow.laid) (((OpenSpec.ofChange Rows.dtreePartsSpec).at F).post enc Tryd.prog Tryd.f5 false true false false) := by
  obtain ⟨places, hx⟩ := dtreeParts_reads os enc
  refine returnsInHanded_of_row (C := Tryd.checked) (s := (OpenSpec.ofChange Rows.dtreePartsSpec)) own started (by kernel_rfl) Tryd.func5
    (witness_row_at (enc := enc) (C := Tryd.checked) false (World.laidAll Tryd.prog os Rows.dtreePartsRow.laid) #[.agg #[.slice none 0 0, .slice none 0 0]] (World.laidAll_os _ _ _) (by kernel_rfl) (by kernel_rfl) (by kernel_rfl)
      (OpenSpec.preRow_of_cond 8 hx (by kernel_rfl) (fun k hk => by cases hk) (by kernel_rfl) (laidMet_laidAll _ (by kernel_rfl) (by kernel_rfl)))) ?_
  intro W base args ds gs before hval hW _ hcnd _ hL _ _
  obtain ⟨S0, hG, hR⟩ := startD hL
  exact law_contractG 4 rfl Tryd.underlying4 laid rowed full (by kernel_rfl) rfl (s := Rows.dtreePartsSpec) (dtreeParts_fn) (opensArgs_cons opens_P opensArgs_nil) (B := fun _ => True) (fun x _ => dtreeParts_ok x.1 S0 hG.1 _ _ hG.2.choose_spec.choose_spec) hR hval hW (fun _ _ => trivial)
theorem dtreeParts_said : Rows.DtreePartsSaid :=
  OpenClaim.holds_of_cond 5 Tryd.f5 rfl rfl rfl rfl rfl rfl rfl ⟨rfl, rfl, rfl, rfl, rfl⟩ rfl rfl rfl rfl rfl (by kernel_rfl) Tryd.func5 (by kernel_rfl) (of_decide_eq_true (by kernel_rfl)) (by unfold Func.isWrapper; first | (rw [if_pos (by decide +kernel)]; kernel_rfl) | (rw [if_neg (by decide +kernel)]; exact ⟨rfl, rfl⟩)) (fun os started H enc _ F => by rw [OpenClaim.pre_eq_preRow]; exact dtreeParts_lifted os started H enc F)
theorem dtreeParts_holds : Rows.DtreePartsCardSaid :=
  Claim7.holds_tied_plain_at .later [] _ _ _ _ dtreeParts_said (fun _ h => by cases h) (by kernel_rfl) (fun _ h => by cases h) dtreeParts_row_tie rfl ⟨rfl, rfl⟩ (by kernel_rfl) rfl
    (fun f fn hf hfn => by
      obtain rfl : f = 5 := Option.some.inj (hf.symm.trans (by kernel_rfl))
      obtain rfl : fn = Tryd.f5 := (Option.some.inj (Tryd.func5.symm.trans hfn)).symm
      refine ⟨by kernel_rfl, fun j t ht => ?_⟩
      have hall : (Tryd.f5.params.toList.all fun u => !Tryd.prog.wantsStandIn u) = true := by kernel_rfl
      have := List.all_eq_true.1 hall t (by simpa using Array.mem_of_getElem? ht)
      exact (show Tryd.prog.wantsStandIn t = false by simpa using this)) (by kernel_rfl)
#print axioms dtreeParts_holds
end Go.Proofs.YtljdbkieofhblaaDoor

