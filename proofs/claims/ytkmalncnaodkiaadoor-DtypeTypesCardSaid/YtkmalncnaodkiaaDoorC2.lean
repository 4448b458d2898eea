/-
  DtypeTypes: the types of a rule's variables, for any relations, rule. Own work.
-/
import Derived.Test.YtkmalncnaodkiaaDoorP11
set_option linter.all false
namespace Go.Proofs.YtkmalncnaodkiaaDoor
open Go.Aw Go.ChangeShapes Go.WideShapes Go.ChangeAt Go.RowKit

theorem opens_Ds (n : Nat) : Opens Tryd.prog n 28 (fun l : List De => .sl 6 (l.map encD) .no) (fun l => (l.map fun _ => 0).sum + 1) := opens_all (fun n => opens_slice (c := 6) Tryd.underlying28 (by kernel_rfl) (by decide) (opens_D n)) n
theorem dtypeTypes_fn (H : Type) (ds : List (DataW H)) (h : ds.length = Tryd.f4.params.toList.length) : Rows.dtypeTypesSpec.fn H ds = { results := [.lit (.bool true)], args := ds } := by
  have h : ds.length = 2 := h
  match ds, h with
  | [_, _], _ => rfl
theorem dtypeTypes_reads (os : Os) {H : Type} (enc : TypeId × Value → H) : ∃ places, DataW.whole enc Tryd.prog ((World.laidAll Tryd.prog os Rows.dtypeTypesRow.laid).forCall (fun _ _ => 0) ⟨#[], #[.slice none 0 0, .agg #[.string .empty, .slice none 0 0, .slice none 0 0, .int .i64 0]], []⟩).memory Tryd.f4.params.toList Rows.dtypeTypesSpec.vars false #[.slice none 0 0, .agg #[.string .empty, .slice none 0 0, .slice none 0 0, .int .i64 0]].toList 8 = some ([.nil, .agg [.agg [.lit (.string []), .nil], .nil, .lit (.int .i64 0)]], [], places) :=
  ⟨[], by kernel_rfl⟩
set_option maxRecDepth 100000 in
theorem dtypeTypes_lifted (os : Os) (started : os.Started) (H : Type) (enc : TypeId × Value → H) (F : Stop.Interp) :
    ReturnsInHanded {} Tryd.checked os 4 .any ((OpenSpec.ofChange Rows.dtypeTypesSpec).preRow enc Tryd.prog Tryd.f4 Rows.dtypeTypesRow.domain false Rows.dtypeTypesRow.laid) (((OpenSpec.ofChange Rows.dtypeTypesSpec).at F).post enc Tryd.prog Tryd.f4 false true false false) := by
  obtain ⟨places, hx⟩ := dtypeTypes_reads os enc
  refine returnsInHanded_of_row (C := Tryd.checked) (s := (OpenSpec.ofChange Rows.dtypeTypesSpec)) own started (by kernel_rfl) Tryd.func4
    (witness_row_at (enc := enc) (C := Tryd.checked) false (World.laidAll Tryd.prog os Rows.dtypeTypesRow.laid) #[.slice none 0 0, .agg #[.string .empty, .slice none 0 0, .slice none 0 0, .int .i64 0]] (World.laidAll_os _ _ _) (by kernel_rfl) (by kernel_rfl) (by kernel_rfl)
      (OpenSpec.preRow_of_cond 8 hx (by kernel_rfl) (fun k hk => by cases hk) (by kernel_rfl) (laidMet_laidAll _ (by kernel_rfl) (by kernel_rfl)))) ?_
  intro W base args ds gs before hval hW _ hcnd _ hL _ _
  obtain ⟨S0, hG, hR⟩ := startT hL
  exact law_contractG 4 rfl Tryd.underlying4 laid rowed full (by kernel_rfl) rfl (s := Rows.dtypeTypesSpec) (dtypeTypes_fn) (opensArgs_cons opens_Ds (opensArgs_cons opens_R opensArgs_nil)) (B := fun _ => True) (fun x _ => dtypeTypes_ok x.1 x.2.1 S0 _ _ _ hG.1.choose_spec.choose_spec hG.2.choose_spec) hR hval hW (fun _ _ => trivial)
theorem dtypeTypes_said : Rows.DtypeTypesSaid :=
  OpenClaim.holds_of_cond 4 Tryd.f4 rfl rfl rfl rfl rfl rfl rfl ⟨rfl, rfl, rfl, rfl, rfl⟩ rfl rfl rfl rfl rfl (by kernel_rfl) Tryd.func4 (by kernel_rfl) (of_decide_eq_true (by kernel_rfl)) (by unfold Func.isWrapper; first | (rw [if_pos (by decide +kernel)]; kernel_rfl) | (rw [if_neg (by decide +kernel)]; exact ⟨rfl, rfl⟩)) (fun os started H enc _ F => by rw [OpenClaim.pre_eq_preRow]; exact dtypeTypes_lifted os started H enc F)
theorem dtypeTypes_holds : Rows.DtypeTypesCardSaid :=
  Claim7.holds_tied_plain_at .later [] _ _ _ _ dtypeTypes_said (fun _ h => by cases h) (by kernel_rfl) (fun _ h => by cases h) dtypeTypes_row_tie rfl ⟨rfl, rfl⟩ (by kernel_rfl) rfl
    (fun f fn hf hfn => by
      obtain rfl : f = 4 := Option.some.inj (hf.symm.trans (by kernel_rfl))
      obtain rfl : fn = Tryd.f4 := (Option.some.inj (Tryd.func4.symm.trans hfn)).symm
      refine ⟨by kernel_rfl, fun j t ht => ?_⟩
      have hall : (Tryd.f4.params.toList.all fun u => !Tryd.prog.wantsStandIn u) = true := by kernel_rfl
      have := List.all_eq_true.1 hall t (by simpa using Array.mem_of_getElem? ht)
      exact (show Tryd.prog.wantsStandIn t = false by simpa using this)) (by kernel_rfl)
#print axioms dtypeTypes_holds
end Go.Proofs.YtkmalncnaodkiaaDoor

