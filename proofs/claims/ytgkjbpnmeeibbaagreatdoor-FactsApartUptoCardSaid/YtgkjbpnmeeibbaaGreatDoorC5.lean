/-
  FactsApart: unlike rows have unlike lines, for any two relations whose names have at most 1048576 bytes, and any rows. Own work.
-/
import Derived.Test.YtgkjbpnmeeibbaaGreatDoorQ20
set_option linter.all false
namespace Go.Proofs.YtgkjbpnmeeibbaaGreatDoor
open Go.Aw Go.ChangeShapes Go.WideShapes Go.ChangeAt Go.RowKit Tree

theorem factsApart_fn (H : Type) (ds : List (DataW H)) (h : ds.length = Tryz.f7.params.toList.length) : Rows.factsApartSpec.fn H ds = { results := [.lit (.bool true)], args := ds } := by
  have h : ds.length = 4 := h
  match ds, h with
  | [_, _, _, _], _ => rfl
theorem factsApart_reads (os : Os) {H : Type} (enc : TypeId × Value → H) : ∃ places, DataW.whole enc Tryz.prog ((laidH os Rows.factsApartUptoRow.laid).forCall (fun _ _ => 0) ⟨#[], #[.agg #[.string .empty, .slice none 0 0, .slice none 0 0, .bool false, .bool false, .int .i64 0], .agg #[.string .empty, .slice none 0 0, .slice none 0 0, .bool false, .bool false, .int .i64 0], .slice none 0 0, .slice none 0 0], []⟩).memory Tryz.f7.params.toList Rows.factsApartSpec.vars false #[.agg #[.string .empty, .slice none 0 0, .slice none 0 0, .bool false, .bool false, .int .i64 0], .agg #[.string .empty, .slice none 0 0, .slice none 0 0, .bool false, .bool false, .int .i64 0], .slice none 0 0, .slice none 0 0].toList 8 = some ([.agg [.lit (.string []), .nil, .nil, .lit (.bool false), .lit (.bool false), .lit (.int .i64 0)], .agg [.lit (.string []), .nil, .nil, .lit (.bool false), .lit (.bool false), .lit (.int .i64 0)], .nil, .nil], [], places) :=
  ⟨[], by kernel_rfl⟩
set_option maxRecDepth 100000 in
theorem factsApart_lifted (os : Os) (started : os.Started) (H : Type) (enc : TypeId × Value → H) (F : Stop.Interp) :
    ReturnsInHanded {} Tryz.checked os 7 .any ((Rows.OpenSpec.upto Rows.factsApartSpec).preRow enc Tryz.prog Tryz.f7 Rows.factsApartUptoRow.domain false Rows.factsApartUptoRow.laid) (((Rows.OpenSpec.upto Rows.factsApartSpec).at F).post enc Tryz.prog Tryz.f7 false true false false) := by
  obtain ⟨places, hx⟩ := factsApart_reads os enc
  refine returnsInHanded_of_row (C := Tryz.checked) (s := (Rows.OpenSpec.upto Rows.factsApartSpec)) own started (by kernel_rfl) Tryz.func7
    (witness_row_at (enc := enc) (C := Tryz.checked) false (laidH os Rows.factsApartUptoRow.laid) #[.agg #[.string .empty, .slice none 0 0, .slice none 0 0, .bool false, .bool false, .int .i64 0], .agg #[.string .empty, .slice none 0 0, .slice none 0 0, .bool false, .bool false, .int .i64 0], .slice none 0 0, .slice none 0 0] (laidH_os _ _) (by kernel_rfl) (by kernel_rfl) (by kernel_rfl)
      (OpenSpec.preRow_of_cond 8 hx (by kernel_rfl) (fun k hk => by cases hk; kernel_rfl) (by kernel_rfl) (laidMetH_laidH _ (by kernel_rfl) (by kernel_rfl) (by kernel_rfl)))) ?_
  intro W base args ds gs before hval hW _ hcnd _ hL _ _
  obtain ⟨S0, hG, hR⟩ := startF hL
  have hg : gs = [] := by obtain ⟨p, q, _, hV, _⟩ := hW; exact (trodVars_none hV).1
  exact law_contractG 4 rfl Tryz.underlying4 laid rowed full (by kernel_rfl) rfl (s := Rows.factsApartSpec) (factsApart_fn) (opensArgs_cons opens_De (opensArgs_cons opens_De (opensArgs_cons opens_row (opensArgs_cons opens_row opensArgs_nil)))) (B := fun n => n ≤ 1048576) (fun x hx => factsApart_ok x.1 x.2.1 x.2.2.1 x.2.2.2.1 S0 hG (by have h2 : x.1.rel.length + (x.2.1.rel.length + (szR x.2.2.1 + (szR x.2.2.2.1 + 0))) ≤ 1048576 := hx; omega) (by have h2 : x.1.rel.length + (x.2.1.rel.length + (szR x.2.2.1 + (szR x.2.2.2.1 + 0))) ≤ 1048576 := hx; omega)) hR hval hW (fun n hn => Nat.le_trans hn (small_bulk (hcnd _ rfl) hg))
theorem factsApart_said : Rows.FactsApartUptoSaid :=
  OpenClaim.holds_of_cond 7 Tryz.f7 rfl rfl rfl rfl rfl rfl rfl ⟨rfl, rfl, rfl, rfl, rfl⟩ rfl rfl rfl rfl rfl (by kernel_rfl) Tryz.func7 (by kernel_rfl) (of_decide_eq_true (by kernel_rfl)) (by unfold Func.isWrapper; first | (rw [if_pos (by decide +kernel)]; kernel_rfl) | (rw [if_neg (by decide +kernel)]; exact ⟨rfl, rfl⟩)) (fun os started H enc _ F => by rw [OpenClaim.pre_eq_preRow]; exact factsApart_lifted os started H enc F)
theorem factsApart_holds : Rows.FactsApartUptoCardSaid :=
  Claim7.holds_tied_plain_at .later [] _ _ _ _ factsApart_said (fun _ h => by cases h) (by kernel_rfl) (fun _ h => by cases h) factsApartUpto_row_tie rfl ⟨rfl, rfl⟩ (by kernel_rfl) rfl
    (fun f fn hf hfn => by
      obtain rfl : f = 7 := Option.some.inj (hf.symm.trans (by kernel_rfl))
      obtain rfl : fn = Tryz.f7 := (Option.some.inj (Tryz.func7.symm.trans hfn)).symm
      refine ⟨by kernel_rfl, fun j t ht => ?_⟩
      have hall : (Tryz.f7.params.toList.all fun u => !Tryz.prog.wantsStandIn u) = true := by kernel_rfl
      have := List.all_eq_true.1 hall t (by simpa using Array.mem_of_getElem? ht)
      exact (show Tryz.prog.wantsStandIn t = false by simpa using this)) (by kernel_rfl)
#print axioms factsApart_holds
end Go.Proofs.YtgkjbpnmeeibbaaGreatDoor
