/-
  DtypeParts: a program's first rules fit, and each one alone does, if it does, else the first error is told, for any program, place. Own work.
-/
import Derived.Test.YtkmalncnaodkiaaDoorP13
set_option linter.all false
namespace Go.Proofs.YtkmalncnaodkiaaDoor
open Go.Aw Go.ChangeShapes Go.WideShapes Go.ChangeAt Go.RowKit

theorem dtypeParts_fn (H : Type) (ds : List (DataW H)) (h : ds.length = Tryd.f8.params.toList.length) : Rows.dtypePartsSpec.fn H ds = { results := [.lit (.bool true)], args := ds } := by
  have h : ds.length = 2 := h
  match ds, h with
  | [_, _], _ => rfl
theorem dtypeParts_reads (os : Os) {H : Type} (enc : TypeId × Value → H) : ∃ places, DataW.whole enc Tryd.prog ((World.laidAll Tryd.prog os Rows.dtypePartsRow.laid).forCall (fun _ _ => 0) ⟨#[], #[.agg #[.slice none 0 0, .slice none 0 0], .int .i64 0], []⟩).memory Tryd.f8.params.toList Rows.dtypePartsSpec.vars false #[.agg #[.slice none 0 0, .slice none 0 0], .int .i64 0].toList 8 = some ([.agg [.nil, .nil], .lit (.int .i64 0)], [], places) :=
  ⟨[], by kernel_rfl⟩
set_option maxRecDepth 100000 in
theorem dtypeParts_lifted (os : Os) (started : os.Started) (H : Type) (enc : TypeId × Value → H) (F : Stop.Interp) :
    ReturnsInHanded {} Tryd.checked os 8 .any ((OpenSpec.ofChange Rows.dtypePartsSpec).preRow enc Tryd.prog Tryd.f8 Rows.dtypePartsRow.domain false Rows.dtypePartsRow.laid) (((OpenSpec.ofChange Rows.dtypePartsSpec).at F).post enc Tryd.prog Tryd.f8 false true false false) := by
  obtain ⟨places, hx⟩ := dtypeParts_reads os enc
  refine returnsInHanded_of_row (C := Tryd.checked) (s := (OpenSpec.ofChange Rows.dtypePartsSpec)) own started (by kernel_rfl) Tryd.func8
    (witness_row_at (enc := enc) (C := Tryd.checked) false (World.laidAll Tryd.prog os Rows.dtypePartsRow.laid) #[.agg #[.slice none 0 0, .slice none 0 0], .int .i64 0] (World.laidAll_os _ _ _) (by kernel_rfl) (by kernel_rfl) (by kernel_rfl)
      (OpenSpec.preRow_of_cond 8 hx (by kernel_rfl) (fun k hk => by cases hk) (by kernel_rfl) (laidMet_laidAll _ (by kernel_rfl) (by kernel_rfl)))) ?_
  intro W base args ds gs before hval hW _ hcnd _ hL _ _
  obtain ⟨S0, hG, hR⟩ := startT hL
  exact law_contractG 4 rfl Tryd.underlying4 laid rowed full (by kernel_rfl) rfl (s := Rows.dtypePartsSpec) (dtypeParts_fn) (opensArgs_cons opens_P (opensArgs_cons (opens_int (k := .i64) Tryd.underlying3) opensArgs_nil)) (B := fun _ => True) (fun x _ => dtypeParts_ok x.1 x.2.1 S0 _ _ _ hG.1.choose_spec.choose_spec hG.2.choose_spec) hR hval hW (fun _ _ => trivial)
theorem dtypeParts_said : Rows.DtypePartsSaid :=
  OpenClaim.holds_of_cond 8 Tryd.f8 rfl rfl rfl rfl rfl rfl rfl ⟨rfl, rfl, rfl, rfl, rfl⟩ rfl rfl rfl rfl rfl (by kernel_rfl) Tryd.func8 (by kernel_rfl) (of_decide_eq_true (by kernel_rfl)) (by unfold Func.isWrapper; first | (rw [if_pos (by decide +kernel)]; kernel_rfl) | (rw [if_neg (by decide +kernel)]; exact ⟨rfl, rfl⟩)) (fun os started H enc _ F => by rw [OpenClaim.pre_eq_preRow]; exact dtypeParts_lifted os started H enc F)
theorem dtypeParts_holds : Rows.DtypePartsCardSaid :=
  Claim7.holds_tied_plain_at .later [] _ _ _ _ dtypeParts_said (fun _ h => by cases h) (by kernel_rfl) (fun _ h => by cases h) dtypeParts_row_tie rfl ⟨rfl, rfl⟩ (by kernel_rfl) rfl
    (fun f fn hf hfn => by
      obtain rfl : f = 8 := Option.some.inj (hf.symm.trans (by kernel_rfl))
      obtain rfl : fn = Tryd.f8 := (Option.some.inj (Tryd.func8.symm.trans hfn)).symm
      refine ⟨by kernel_rfl, fun j t ht => ?_⟩
      have hall : (Tryd.f8.params.toList.all fun u => !Tryd.prog.wantsStandIn u) = true := by kernel_rfl
      have := List.all_eq_true.1 hall t (by simpa using Array.mem_of_getElem? ht)
      exact (show Tryd.prog.wantsStandIn t = false by simpa using this)) (by kernel_rfl)
#print axioms dtypeParts_holds
end Go.Proofs.YtkmalncnaodkiaaDoor

