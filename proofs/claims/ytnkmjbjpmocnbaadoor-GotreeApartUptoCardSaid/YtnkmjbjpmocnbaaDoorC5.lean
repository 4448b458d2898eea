/-
  GotreeApart: no two trees have one text, for any files and expressions whose bulk is at most 1048576 together. Own work.
-/
import Derived.Test.YtnkmjbjpmocnbaaDoorL7
import Derived.Deep.DeepWitnessRowRef
set_option linter.all false
namespace Go.Proofs.YtnkmjbjpmocnbaaDoor
open Go.Aw Go.ChangeShapes Go.WideShapes Go.ChangeAt Go.RowKit

theorem gotreeApart_fn (H : Type) (ds : List (DataW H)) (h : ds.length = Tryd.f7.params.toList.length) : Rows.gotreeApartSpec.fn H ds = { results := [.lit (.bool true)], args := ds } := by
  have h : ds.length = 4 := h
  match ds, h with
  | [_, _, _, _], _ => rfl
theorem gotreeApart_reads (os : Os) {H : Type} (enc : TypeId × Value → H) : ∃ places, DataW.whole enc Tryd.prog ((World.laidAll Tryd.prog os Rows.gotreeApartUptoRow.laid).forCall (fun _ _ => 0) ⟨#[], #[.agg #[.slice none 0 0, .slice none 0 0], .agg #[.slice none 0 0, .slice none 0 0], .agg #[.int .i64 0, .string .empty, .int .i64 0, .slice none 0 0], .agg #[.int .i64 0, .string .empty, .int .i64 0, .slice none 0 0]], []⟩).memory Tryd.f7.params.toList Rows.gotreeApartSpec.vars false #[.agg #[.slice none 0 0, .slice none 0 0], .agg #[.slice none 0 0, .slice none 0 0], .agg #[.int .i64 0, .string .empty, .int .i64 0, .slice none 0 0], .agg #[.int .i64 0, .string .empty, .int .i64 0, .slice none 0 0]].toList 8 = some ([.agg [.nil, .nil], .agg [.nil, .nil], .agg [.lit (.int .i64 0), .lit (.string []), .lit (.int .i64 0), .nil], .agg [.lit (.int .i64 0), .lit (.string []), .lit (.int .i64 0), .nil]], [], places) :=
  ⟨[], by kernel_rfl⟩
set_option maxRecDepth 100000 in
theorem gotreeApart_lifted (os : Os) (started : os.Started) (H : Type) (enc : TypeId × Value → H) (F : Stop.Interp) :
    ReturnsInHanded {} Tryd.checked os 7 .any ((Rows.OpenSpec.upto Rows.gotreeApartSpec).preRow enc Tryd.prog Tryd.f7 Rows.gotreeApartUptoRow.domain false Rows.gotreeApartUptoRow.laid) (((Rows.OpenSpec.upto Rows.gotreeApartSpec).at F).post enc Tryd.prog Tryd.f7 false true false false) := by
  obtain ⟨places, hx⟩ := gotreeApart_reads os enc
  refine returnsInHanded_of_row (C := Tryd.checked) (s := (Rows.OpenSpec.upto Rows.gotreeApartSpec)) own started (by kernel_rfl) Tryd.func7
    (witness_row_atRef (enc := enc) (C := Tryd.checked) false (World.laidAll Tryd.prog os Rows.gotreeApartUptoRow.laid) #[.agg #[.slice none 0 0, .slice none 0 0], .agg #[.slice none 0 0, .slice none 0 0], .agg #[.int .i64 0, .string .empty, .int .i64 0, .slice none 0 0], .agg #[.int .i64 0, .string .empty, .int .i64 0, .slice none 0 0]] (World.laidAll_os _ _ _) (by kernel_rfl) (by kernel_rfl) (by kernel_rfl)
      (OpenSpec.preRow_of_cond 8 hx (by kernel_rfl) (fun k hk => by cases hk; kernel_rfl) (by kernel_rfl) (laidMet_laidAll _ (by kernel_rfl) (by kernel_rfl)))) ?_
  intro W base args ds gs before hval hW _ hcnd _ hL _ _
  obtain ⟨S0, hG, hR⟩ := startG hL
  have hg : gs = [] := by obtain ⟨p, q, _, hV, _⟩ := hW; exact (trodVars_none hV).1
  exact law_contractG 4 rfl Tryd.underlying4 laid rowed full (by kernel_rfl) rfl (s := Rows.gotreeApartSpec) (gotreeApart_fn) (opensArgs_cons opens_Fi (opensArgs_cons opens_Fi (opensArgs_cons opens_T (opensArgs_cons opens_T opensArgs_nil)))) (B := fun n => n ≤ 1048576) (fun x hx => by have h2 : szFi x.1 + (szFi x.2.1 + (szT x.2.2.1 + (szT x.2.2.2.1 + 0))) ≤ 1048576 := hx; exact gotreeApart_ok x.1 x.2.1 x.2.2.1 x.2.2.2.1 S0 (by omega) (by omega) (by omega) (by omega) hG.1 hG.2) hR hval hW (fun n hn => Nat.le_trans hn (small_bulk (hcnd _ rfl) hg))
theorem gotreeApart_said : Rows.GotreeApartUptoSaid :=
  OpenClaim.holds_of_cond 7 Tryd.f7 rfl rfl rfl rfl rfl rfl rfl ⟨rfl, rfl, rfl, rfl, rfl⟩ rfl rfl rfl rfl rfl (by kernel_rfl) Tryd.func7 (by kernel_rfl) (of_decide_eq_true (by kernel_rfl)) (by unfold Func.isWrapper; first | (rw [if_pos (by decide +kernel)]; kernel_rfl) | (rw [if_neg (by decide +kernel)]; exact ⟨rfl, rfl⟩)) (fun os started H enc _ F => by rw [OpenClaim.pre_eq_preRow]; exact gotreeApart_lifted os started H enc F)
theorem gotreeApart_holds : Rows.GotreeApartUptoCardSaid :=
  Claim7.holds_tied_plain_at .later [] _ _ _ _ gotreeApart_said (fun _ h => by cases h) (by kernel_rfl) (fun _ h => by cases h) gotreeApartUpto_row_tie rfl ⟨rfl, rfl⟩ (by kernel_rfl) rfl
    (fun f fn hf hfn => by
      obtain rfl : f = 7 := Option.some.inj (hf.symm.trans (by kernel_rfl))
      obtain rfl : fn = Tryd.f7 := (Option.some.inj (Tryd.func7.symm.trans hfn)).symm
      refine ⟨by kernel_rfl, fun j t ht => ?_⟩
      have hall : (Tryd.f7.params.toList.all fun u => !Tryd.prog.wantsStandIn u) = true := by kernel_rfl
      have := List.all_eq_true.1 hall t (by simpa using Array.mem_of_getElem? ht)
      exact (show Tryd.prog.wantsStandIn t = false by simpa using this)) (by kernel_rfl)
#print axioms gotreeApart_holds
end Go.Proofs.YtnkmjbjpmocnbaaDoor

