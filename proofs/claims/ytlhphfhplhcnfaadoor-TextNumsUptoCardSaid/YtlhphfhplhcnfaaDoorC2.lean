/-
  TextNums: numbers as texts, and texts as numbers, for any number and any text of bulk at most 1048576. Own work.
-/
import Derived.Test.YtlhphfhplhcnfaaDoorL1
namespace Go.Proofs.YtlhphfhplhcnfaaDoor
open Go.Aw Go.ChangeShapes Go.WideShapes Go.ChangeAt Go.RowKit

theorem textNums_fn (H : Type) (ds : List (DataW H)) (h : ds.length = Tryd.f3.params.toList.length) : Rows.textNumsSpec.fn H ds = { results := [.lit (.bool true)], args := ds } := by
  have h : ds.length = 2 := h
  match ds, h with
  | [_, _], _ => rfl
theorem textNums_reads (os : Os) {H : Type} (enc : TypeId × Value → H) : ∃ places, DataW.whole enc Tryd.prog ((World.laidAll Tryd.prog os Rows.textNumsUptoRow.laid).forCall (fun _ _ => 0) ⟨#[], #[.int .i64 0, .string .empty], []⟩).memory Tryd.f3.params.toList Rows.textNumsSpec.vars false #[.int .i64 0, .string .empty].toList 8 = some ([.lit (.int .i64 0), .lit (.string [])], [], places) :=
  ⟨[], by kernel_rfl⟩
set_option maxRecDepth 100000 in
theorem textNums_lifted (os : Os) (started : os.Started) (H : Type) (enc : TypeId × Value → H) (F : Stop.Interp) :
    ReturnsInHanded {} Tryd.checked os 3 .any ((Rows.OpenSpec.upto Rows.textNumsSpec).preRow enc Tryd.prog Tryd.f3 Rows.textNumsUptoRow.domain false Rows.textNumsUptoRow.laid) (((Rows.OpenSpec.upto Rows.textNumsSpec).at F).post enc Tryd.prog Tryd.f3 false true false false) := by
  obtain ⟨places, hx⟩ := textNums_reads os enc
  refine returnsInHanded_of_row (C := Tryd.checked) (s := (Rows.OpenSpec.upto Rows.textNumsSpec)) own started (by kernel_rfl) Tryd.func3
    (witness_row_at (enc := enc) (C := Tryd.checked) false (World.laidAll Tryd.prog os Rows.textNumsUptoRow.laid) #[.int .i64 0, .string .empty] (World.laidAll_os _ _ _) (by kernel_rfl) (by kernel_rfl) (by kernel_rfl)
      (OpenSpec.preRow_of_cond 8 hx (by kernel_rfl) (fun k hk => by cases hk; kernel_rfl) (by kernel_rfl) (laidMet_laidAll _ (by kernel_rfl) (by kernel_rfl)))) ?_
  intro W base args ds gs before hval hW _ hcnd _ hL _ _
  obtain ⟨S0, hG, hR⟩ := start5 hL
  have hg : gs = [] := by obtain ⟨p, q, _, hV, _⟩ := hW; exact (trodVars_none hV).1
  exact law_contractG 4 rfl Tryd.underlying4 laid rowed full (by kernel_rfl) rfl (s := Rows.textNumsSpec) (textNums_fn) (opensArgs_cons (opens_int (k := .i64) Tryd.underlying2) (opensArgs_cons (opens_str Tryd.underlying9) opensArgs_nil)) (B := fun n => n ≤ 1048576) (fun x hx => ACall_sat fun hs => textNums_ok x.1 x.2.1 S0 hG (i64_of (hs _ (.head _)).int) (by have h2 : 1 + (x.2.1.length + 1 + 0) ≤ 1048576 := hx; omega)) hR hval hW (fun n hn => Nat.le_trans hn (small_bulk (hcnd _ rfl) hg))
theorem textNums_said : Rows.TextNumsUptoSaid :=
  OpenClaim.holds_of_cond 3 Tryd.f3 rfl rfl rfl rfl rfl rfl rfl ⟨rfl, rfl, rfl, rfl, rfl⟩ rfl rfl rfl rfl rfl (by kernel_rfl) Tryd.func3 (by kernel_rfl) (of_decide_eq_true (by kernel_rfl)) (by unfold Func.isWrapper; first | (rw [if_pos (by decide +kernel)]; kernel_rfl) | (rw [if_neg (by decide +kernel)]; exact ⟨rfl, rfl⟩)) (fun os started H enc _ F => by rw [OpenClaim.pre_eq_preRow]; exact textNums_lifted os started H enc F)
theorem textNums_holds : Rows.TextNumsUptoCardSaid :=
  Claim7.holds_tied_plain_at .later [] _ _ _ _ textNums_said (fun _ h => by cases h) (by kernel_rfl) (fun _ h => by cases h) textNumsUpto_row_tie rfl ⟨rfl, rfl⟩ (by kernel_rfl) rfl
    (fun f fn hf hfn => by
      obtain rfl : f = 3 := Option.some.inj (hf.symm.trans (by kernel_rfl))
      obtain rfl : fn = Tryd.f3 := (Option.some.inj (Tryd.func3.symm.trans hfn)).symm
      refine ⟨by kernel_rfl, fun j t ht => ?_⟩
      have hall : (Tryd.f3.params.toList.all fun u => !Tryd.prog.wantsStandIn u) = true := by kernel_rfl
      have := List.all_eq_true.1 hall t (by simpa using Array.mem_of_getElem? ht)
      exact (show Tryd.prog.wantsStandIn t = false by simpa using this)) (by kernel_rfl)
#print axioms textNums_holds
end Go.Proofs.YtlhphfhplhcnfaaDoor

