/-
  FactsBack: what is told is read as it was, for any program and any rows of bulk at most 1048576. Own work.
-/
import Derived.Test.YtgkjbpnmeeibbaaGreatDoorQ20
set_option linter.all false
namespace Go.Proofs.YtgkjbpnmeeibbaaGreatDoor
open Go.Aw Go.ChangeShapes Go.WideShapes Go.ChangeAt Go.RowKit Tree

theorem factsBack_fn (H : Type) (ds : List (DataW H)) (h : ds.length = Tryz.f9.params.toList.length) : Rows.factsBackSpec.fn H ds = { results := [.lit (.bool true)], args := ds } := by
  have h : ds.length = 2 := h
  match ds, h with
  | [_, _], _ => rfl
theorem factsBack_reads (os : Os) {H : Type} (enc : TypeId × Value → H) : ∃ places, DataW.whole enc Tryz.prog ((laidH os Rows.factsBackUptoRow.laid).forCall (fun _ _ => 0) ⟨#[], #[.agg #[.slice none 0 0, .slice none 0 0], .slice none 0 0], []⟩).memory Tryz.f9.params.toList Rows.factsBackSpec.vars false #[.agg #[.slice none 0 0, .slice none 0 0], .slice none 0 0].toList 8 = some ([.agg [.nil, .nil], .nil], [], places) :=
  ⟨[], by kernel_rfl⟩
set_option maxRecDepth 100000 in
theorem factsBack_lifted (os : Os) (started : os.Started) (H : Type) (enc : TypeId × Value → H) (F : Stop.Interp) :
    ReturnsInHanded {} Tryz.checked os 9 .any ((Rows.OpenSpec.upto Rows.factsBackSpec).preRow enc Tryz.prog Tryz.f9 Rows.factsBackUptoRow.domain false Rows.factsBackUptoRow.laid) (((Rows.OpenSpec.upto Rows.factsBackSpec).at F).post enc Tryz.prog Tryz.f9 false true false false) := by
  obtain ⟨places, hx⟩ := factsBack_reads os enc
  refine returnsInHanded_of_row (C := Tryz.checked) (s := (Rows.OpenSpec.upto Rows.factsBackSpec)) own started (by kernel_rfl) Tryz.func9
    (witness_row_at (enc := enc) (C := Tryz.checked) false (laidH os Rows.factsBackUptoRow.laid) #[.agg #[.slice none 0 0, .slice none 0 0], .slice none 0 0] (laidH_os _ _) (by kernel_rfl) (by kernel_rfl) (by kernel_rfl)
      (OpenSpec.preRow_of_cond 8 hx (by kernel_rfl) (fun k hk => by cases hk; kernel_rfl) (by kernel_rfl) (laidMetH_laidH _ (by kernel_rfl) (by kernel_rfl) (by kernel_rfl)))) ?_
  intro W base args ds gs before hval hW _ hcnd _ hL _ _
  obtain ⟨S0, hG, hR⟩ := startF hL
  have hg : gs = [] := by obtain ⟨p, q, _, hV, _⟩ := hW; exact (trodVars_none hV).1
  exact law_contractG 4 rfl Tryz.underlying4 laid rowed full (by kernel_rfl) rfl (s := Rows.factsBackSpec) (factsBack_fn) (opensArgs_cons opens_P (opensArgs_cons opens_all3 opensArgs_nil)) (B := fun n => n ≤ 1048576) (fun x hx => factsBack_ok x.1 x.2.1 S0 hG (by have h2 : 0 + (szA x.2.1 + 0) ≤ 1048576 := hx; omega)) hR hval hW (fun n hn => Nat.le_trans hn (small_bulk (hcnd _ rfl) hg))
theorem factsBack_said : Rows.FactsBackUptoSaid :=
  OpenClaim.holds_of_cond 9 Tryz.f9 rfl rfl rfl rfl rfl rfl rfl ⟨rfl, rfl, rfl, rfl, rfl⟩ rfl rfl rfl rfl rfl (by kernel_rfl) Tryz.func9 (by kernel_rfl) (of_decide_eq_true (by kernel_rfl)) (by unfold Func.isWrapper; first | (rw [if_pos (by decide +kernel)]; kernel_rfl) | (rw [if_neg (by decide +kernel)]; exact ⟨rfl, rfl⟩)) (fun os started H enc _ F => by rw [OpenClaim.pre_eq_preRow]; exact factsBack_lifted os started H enc F)
theorem factsBack_holds : Rows.FactsBackUptoCardSaid :=
  Claim7.holds_tied_plain_at .later [] _ _ _ _ factsBack_said (fun _ h => by cases h) (by kernel_rfl) (fun _ h => by cases h) factsBackUpto_row_tie rfl ⟨rfl, rfl⟩ (by kernel_rfl) rfl
    (fun f fn hf hfn => by
      obtain rfl : f = 9 := Option.some.inj (hf.symm.trans (by kernel_rfl))
      obtain rfl : fn = Tryz.f9 := (Option.some.inj (Tryz.func9.symm.trans hfn)).symm
      refine ⟨by kernel_rfl, fun j t ht => ?_⟩
      have hall : (Tryz.f9.params.toList.all fun u => !Tryz.prog.wantsStandIn u) = true := by kernel_rfl
      have := List.all_eq_true.1 hall t (by simpa using Array.mem_of_getElem? ht)
      exact (show Tryz.prog.wantsStandIn t = false by simpa using this)) (by kernel_rfl)
#print axioms factsBack_holds
end Go.Proofs.YtgkjbpnmeeibbaaGreatDoor
