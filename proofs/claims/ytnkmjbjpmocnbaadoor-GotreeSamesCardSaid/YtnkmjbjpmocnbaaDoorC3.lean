/-
  GotreeSames: which files are alike, for any two files. Own work.
-/
import Derived.Test.YtnkmjbjpmocnbaaDoorP12
import Derived.Deep.DeepWitnessRowRef
set_option linter.all false
namespace Go.Proofs.YtnkmjbjpmocnbaaDoor
open Go.Aw Go.ChangeShapes Go.WideShapes Go.ChangeAt Go.RowKit

theorem gotreeSames_fn (H : Type) (ds : List (DataW H)) (h : ds.length = Tryd.f5.params.toList.length) : Rows.gotreeSamesSpec.fn H ds = { results := [.lit (.bool true)], args := ds } := by
  have h : ds.length = 2 := h
  match ds, h with
  | [_, _], _ => rfl
theorem gotreeSames_reads (os : Os) {H : Type} (enc : TypeId × Value → H) : ∃ places, DataW.whole enc Tryd.prog ((World.laidAll Tryd.prog os Rows.gotreeSamesRow.laid).forCall (fun _ _ => 0) ⟨#[], #[.agg #[.slice none 0 0, .slice none 0 0], .agg #[.slice none 0 0, .slice none 0 0]], []⟩).memory Tryd.f5.params.toList Rows.gotreeSamesSpec.vars false #[.agg #[.slice none 0 0, .slice none 0 0], .agg #[.slice none 0 0, .slice none 0 0]].toList 8 = some ([.agg [.nil, .nil], .agg [.nil, .nil]], [], places) :=
  ⟨[], by kernel_rfl⟩
set_option maxRecDepth 100000 in
theorem gotreeSames_lifted (os : Os) (started : os.Started) (H : Type) (enc : TypeId × Value → H) (F : Stop.Interp) :
    ReturnsInHanded {} Tryd.checked os 5 .any ((OpenSpec.ofChange Rows.gotreeSamesSpec).preRow enc Tryd.prog Tryd.f5 Rows.gotreeSamesRow.domain false Rows.gotreeSamesRow.laid) (((OpenSpec.ofChange Rows.gotreeSamesSpec).at F).post enc Tryd.prog Tryd.f5 false true false false) := by
  obtain ⟨places, hx⟩ := gotreeSames_reads os enc
  refine returnsInHanded_of_row (C := Tryd.checked) (s := (OpenSpec.ofChange Rows.gotreeSamesSpec)) own started (by kernel_rfl) Tryd.func5
    (witness_row_atRef (enc := enc) (C := Tryd.checked) false (World.laidAll Tryd.prog os Rows.gotreeSamesRow.laid) #[.agg #[.slice none 0 0, .slice none 0 0], .agg #[.slice none 0 0, .slice none 0 0]] (World.laidAll_os _ _ _) (by kernel_rfl) (by kernel_rfl) (by kernel_rfl)
      (OpenSpec.preRow_of_cond 8 hx (by kernel_rfl) (fun k hk => by cases hk) (by kernel_rfl) (laidMet_laidAll _ (by kernel_rfl) (by kernel_rfl)))) ?_
  intro W base args ds gs before hval hW _ hcnd _ hL _ _
  obtain ⟨S0, hG, hR⟩ := startG hL
  exact law_contractG 4 rfl Tryd.underlying4 laid rowed full (by kernel_rfl) rfl (s := Rows.gotreeSamesSpec) (gotreeSames_fn) (opensArgs_cons opens_Fi (opensArgs_cons opens_Fi opensArgs_nil)) (B := fun _ => True) (fun x _ => gotreeSames_ok x.1 x.2.1 S0 hG.1 hG.2) hR hval hW (fun _ _ => trivial)
theorem gotreeSames_said : Rows.GotreeSamesSaid :=
  OpenClaim.holds_of_cond 5 Tryd.f5 rfl rfl rfl rfl rfl rfl rfl ⟨rfl, rfl, rfl, rfl, rfl⟩ rfl rfl rfl rfl rfl (by kernel_rfl) Tryd.func5 (by kernel_rfl) (of_decide_eq_true (by kernel_rfl)) (by unfold Func.isWrapper; first | (rw [if_pos (by decide +kernel)]; kernel_rfl) | (rw [if_neg (by decide +kernel)]; exact ⟨rfl, rfl⟩)) (fun os started H enc _ F => by rw [OpenClaim.pre_eq_preRow]; exact gotreeSames_lifted os started H enc F)
theorem gotreeSames_holds : Rows.GotreeSamesCardSaid :=
  Claim7.holds_tied_plain_at .later [] _ _ _ _ gotreeSames_said (fun _ h => by cases h) (by kernel_rfl) (fun _ h => by cases h) gotreeSames_row_tie rfl ⟨rfl, rfl⟩ (by kernel_rfl) rfl
    (fun f fn hf hfn => by
      obtain rfl : f = 5 := Option.some.inj (hf.symm.trans (by kernel_rfl))
      obtain rfl : fn = Tryd.f5 := (Option.some.inj (Tryd.func5.symm.trans hfn)).symm
      refine ⟨by kernel_rfl, fun j t ht => ?_⟩
      have hall : (Tryd.f5.params.toList.all fun u => !Tryd.prog.wantsStandIn u) = true := by kernel_rfl
      have := List.all_eq_true.1 hall t (by simpa using Array.mem_of_getElem? ht)
      exact (show Tryd.prog.wantsStandIn t = false by simpa using this)) (by kernel_rfl)
#print axioms gotreeSames_holds
end Go.Proofs.YtnkmjbjpmocnbaaDoor

