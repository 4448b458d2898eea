/-
  FactsFirst: the first line that is none is told, whatever stands behind it, for any program and streams. Own work.
-/
import Derived.Test.YtgkjbpnmeeibbaaGreatDoorF20
set_option linter.all false
namespace Go.Proofs.YtgkjbpnmeeibbaaGreatDoor
open Go.Aw Go.ChangeShapes Go.WideShapes Go.ChangeAt Go.RowKit Tree

theorem factsFirst_fn (H : Type) (ds : List (DataW H)) (h : ds.length = Tryz.f5.params.toList.length) : Rows.factsFirstSpec.fn H ds = { results := [.lit (.bool true)], args := ds } := by
  have h : ds.length = 3 := h
  match ds, h with
  | [_, _, _], _ => rfl
theorem factsFirst_reads (os : Os) {H : Type} (enc : TypeId × Value → H) : ∃ places, DataW.whole enc Tryz.prog ((laidH os Rows.factsFirstRow.laid).forCall (fun _ _ => 0) ⟨#[], #[.agg #[.slice none 0 0, .slice none 0 0], .string .empty, .string .empty], []⟩).memory Tryz.f5.params.toList Rows.factsFirstSpec.vars false #[.agg #[.slice none 0 0, .slice none 0 0], .string .empty, .string .empty].toList 8 = some ([.agg [.nil, .nil], .lit (.string []), .lit (.string [])], [], places) :=
  ⟨[], by kernel_rfl⟩
set_option maxRecDepth 100000 in
theorem factsFirst_lifted (os : Os) (started : os.Started) (H : Type) (enc : TypeId × Value → H) (F : Stop.Interp) :
    ReturnsInHanded {} Tryz.checked os 5 .any ((OpenSpec.ofChange Rows.factsFirstSpec).preRow enc Tryz.prog Tryz.f5 Rows.factsFirstRow.domain false Rows.factsFirstRow.laid) (((OpenSpec.ofChange Rows.factsFirstSpec).at F).post enc Tryz.prog Tryz.f5 false true false false) := by
  obtain ⟨places, hx⟩ := factsFirst_reads os enc
  refine returnsInHanded_of_row (C := Tryz.checked) (s := (OpenSpec.ofChange Rows.factsFirstSpec)) own started (by kernel_rfl) Tryz.func5
    (witness_row_at (enc := enc) (C := Tryz.checked) false (laidH os Rows.factsFirstRow.laid) #[.agg #[.slice none 0 0, .slice none 0 0], .string .empty, .string .empty] (laidH_os _ _) (by kernel_rfl) (by kernel_rfl) (by kernel_rfl)
      (OpenSpec.preRow_of_cond 8 hx (by kernel_rfl) (fun k hk => by cases hk) (by kernel_rfl) (laidMetH_laidH _ (by kernel_rfl) (by kernel_rfl) (by kernel_rfl)))) ?_
  intro W base args ds gs before hval hW _ hcnd _ hL _ _
  obtain ⟨S0, hG, hR⟩ := startF hL
  exact law_contractG 4 rfl Tryz.underlying4 laid rowed full (by kernel_rfl) rfl (s := Rows.factsFirstSpec) (factsFirst_fn) (opensArgs_cons opens_P (opensArgs_cons (opens_str Tryz.underlying9) (opensArgs_cons (opens_str Tryz.underlying9) opensArgs_nil))) (B := fun _ => True) (fun x _ => factsFirst_ok x.1 x.2.1 x.2.2.1 S0 hG) hR hval hW (fun _ _ => trivial)
theorem factsFirst_said : Rows.FactsFirstSaid :=
  OpenClaim.holds_of_cond 5 Tryz.f5 rfl rfl rfl rfl rfl rfl rfl ⟨rfl, rfl, rfl, rfl, rfl⟩ rfl rfl rfl rfl rfl (by kernel_rfl) Tryz.func5 (by kernel_rfl) (of_decide_eq_true (by kernel_rfl)) (by unfold Func.isWrapper; first | (rw [if_pos (by decide +kernel)]; kernel_rfl) | (rw [if_neg (by decide +kernel)]; exact ⟨rfl, rfl⟩)) (fun os started H enc _ F => by rw [OpenClaim.pre_eq_preRow]; exact factsFirst_lifted os started H enc F)
theorem factsFirst_holds : Rows.FactsFirstCardSaid :=
  Claim7.holds_tied_plain_at .later [] _ _ _ _ factsFirst_said (fun _ h => by cases h) (by kernel_rfl) (fun _ h => by cases h) factsFirst_row_tie rfl ⟨rfl, rfl⟩ (by kernel_rfl) rfl
    (fun f fn hf hfn => by
      obtain rfl : f = 5 := Option.some.inj (hf.symm.trans (by kernel_rfl))
      obtain rfl : fn = Tryz.f5 := (Option.some.inj (Tryz.func5.symm.trans hfn)).symm
      refine ⟨by kernel_rfl, fun j t ht => ?_⟩
      have hall : (Tryz.f5.params.toList.all fun u => !Tryz.prog.wantsStandIn u) = true := by kernel_rfl
      have := List.all_eq_true.1 hall t (by simpa using Array.mem_of_getElem? ht)
      exact (show Tryz.prog.wantsStandIn t = false by simpa using this)) (by kernel_rfl)
#print axioms factsFirst_holds
end Go.Proofs.YtgkjbpnmeeibbaaGreatDoor
