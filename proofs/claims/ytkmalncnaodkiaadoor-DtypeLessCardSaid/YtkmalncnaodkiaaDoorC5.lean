/-
  DtypeLess: a rule that fits does so without one of its parts, or has then a variable that nothing gives a type, for any relations, rule, place. Own work.
-/
import Derived.Test.YtkmalncnaodkiaaDoorP12
set_option linter.all false
namespace Go.Proofs.YtkmalncnaodkiaaDoor
open Go.Aw Go.ChangeShapes Go.WideShapes Go.ChangeAt Go.RowKit

theorem opens_Ds (n : Nat) : Opens Tryd.prog n 28 (fun l : List De => .sl 6 (l.map encD) .no) (fun l => (l.map fun _ => 0).sum + 1) := opens_all (fun n => opens_slice (c := 6) Tryd.underlying28 (by kernel_rfl) (by decide) (opens_D n)) n
theorem dtypeLess_fn (H : Type) (ds : List (DataW H)) (h : ds.length = Tryd.f6.params.toList.length) : Rows.dtypeLessSpec.fn H ds = { results := [.lit (.bool true)], args := ds } := by
  have h : ds.length = 3 := h
  match ds, h with
  | [_, _, _], _ => rfl
theorem dtypeLess_reads (os : Os) {H : Type} (enc : TypeId × Value → H) : ∃ places, DataW.whole enc Tryd.prog ((World.laidAll Tryd.prog os Rows.dtypeLessRow.laid).forCall (fun _ _ => 0) ⟨#[], #[.slice none 0 0, .agg #[.string .empty, .slice none 0 0, .slice none 0 0, .int .i64 0], .int .i64 0], []⟩).memory Tryd.f6.params.toList Rows.dtypeLessSpec.vars false #[.slice none 0 0, .agg #[.string .empty, .slice none 0 0, .slice none 0 0, .int .i64 0], .int .i64 0].toList 8 = some ([.nil, .agg [.agg [.lit (.string []), .nil], .nil, .lit (.int .i64 0)], .lit (.int .i64 0)], [], places) :=
  ⟨[], by kernel_rfl⟩
set_option maxRecDepth 100000 in
theorem dtypeLess_lifted (os : Os) (started : os.Started) (H : Type) (enc : TypeId × Value → H) (F : Stop.Interp) :
    ReturnsInHanded {} Tryd.checked os 6 .any ((OpenSpec.ofChange Rows.dtypeLessSpec).preRow enc Tryd.prog Tryd.f6 Rows.dtypeLessRow.domain false Rows.dtypeLessRow.laid) (((OpenSpec.ofChange Rows.dtypeLessSpec).at F).post enc Tryd.prog Tryd.f6 false true false false) := by
  obtain ⟨places, hx⟩ := dtypeLess_reads os enc
  refine returnsInHanded_of_row (C := Tryd.checked) (s := (OpenSpec.ofChange Rows.dtypeLessSpec)) own started (by kernel_rfl) Tryd.func6
    (witness_row_at (enc := enc) (C := Tryd.checked) false (World.laidAll Tryd.prog os Rows.dtypeLessRow.laid) #[.slice none 0 0, .agg #[.string .empty, .slice none 0 0, .slice none 0 0, .int .i64 0], .int .i64 0] (World.laidAll_os _ _ _) (by kernel_rfl) (by kernel_rfl) (by kernel_rfl)
      (OpenSpec.preRow_of_cond 8 hx (by kernel_rfl) (fun k hk => by cases hk) (by kernel_rfl) (laidMet_laidAll _ (by kernel_rfl) (by kernel_rfl)))) ?_
  intro W base args ds gs before hval hW _ hcnd _ hL _ _
  obtain ⟨S0, hG, hR⟩ := startT hL
  exact law_contractG 4 rfl Tryd.underlying4 laid rowed full (by kernel_rfl) rfl (s := Rows.dtypeLessSpec) (dtypeLess_fn) (opensArgs_cons opens_Ds (opensArgs_cons opens_R (opensArgs_cons (opens_int (k := .i64) Tryd.underlying3) opensArgs_nil))) (B := fun _ => True) (fun x _ => dtypeLess_ok x.1 x.2.1 x.2.2.1 S0 _ _ _ hG.1.choose_spec.choose_spec hG.2.choose_spec) hR hval hW (fun _ _ => trivial)
theorem dtypeLess_said : Rows.DtypeLessSaid :=
  OpenClaim.holds_of_cond 6 Tryd.f6 rfl rfl rfl rfl rfl rfl rfl ⟨rfl, rfl, rfl, rfl, rfl⟩ rfl rfl rfl rfl rfl (by kernel_rfl) Tryd.func6 (by kernel_rfl) (of_decide_eq_true (by kernel_rfl)) (by unfold Func.isWrapper; first | (rw [if_pos (by decide +kernel)]; kernel_rfl) | (rw [if_neg (by decide +kernel)]; exact ⟨rfl, rfl⟩)) (fun os started H enc _ F => by rw [OpenClaim.pre_eq_preRow]; exact dtypeLess_lifted os started H enc F)
theorem dtypeLess_holds : Rows.DtypeLessCardSaid :=
  Claim7.holds_tied_plain_at .later [] _ _ _ _ dtypeLess_said (fun _ h => by cases h) (by kernel_rfl) (fun _ h => by cases h) dtypeLess_row_tie rfl ⟨rfl, rfl⟩ (by kernel_rfl) rfl
    (fun f fn hf hfn => by
      obtain rfl : f = 6 := Option.some.inj (hf.symm.trans (by kernel_rfl))
      obtain rfl : fn = Tryd.f6 := (Option.some.inj (Tryd.func6.symm.trans hfn)).symm
      refine ⟨by kernel_rfl, fun j t ht => ?_⟩
      have hall : (Tryd.f6.params.toList.all fun u => !Tryd.prog.wantsStandIn u) = true := by kernel_rfl
      have := List.all_eq_true.1 hall t (by simpa using Array.mem_of_getElem? ht)
      exact (show Tryd.prog.wantsStandIn t = false by simpa using this)) (by kernel_rfl)
#print axioms dtypeLess_holds
end Go.Proofs.YtkmalncnaodkiaaDoor

