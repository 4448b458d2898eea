/-
 DreadParts: two texts behind each other are a program, if both are: the relations of both, the rules of both, for any two texts. Own work.
-/
import Derived.Test.YtfeknkaioofljaaGreatDoorQ26
set_option linter.all false
namespace Go.Proofs.YtfeknkaioofljaaGreatDoor
open Go.Aw Go.ChangeShapes Go.WideShapes Go.ChangeAt Go.RowKit Tree

theorem dreadParts_fn (H : Type) (ds : List (DataW H)) (h : ds.length = Tryz.f6.params.toList.length) : Rows.dreadPartsSpec.fn H ds = { results := [.lit (.bool true)], args := ds } := by
 have h : ds.length = 2 := h
 match ds, h with
 | [_, _], _ => rfl
theorem dreadParts_reads (os : Os) {H : Type} (enc : TypeId × Value → H) : ∃ places, DataW.whole enc Tryz.prog ((laidH os Rows.dreadPartsRow.laid).forCall (fun _ _ => 0) ⟨#[], #[.string .empty, .string .empty], []⟩).memory Tryz.f6.params.toList Rows.dreadPartsSpec.vars false #[.string .empty, .string .empty].toList 8 = some ([.lit (.string []), .lit (.string [])], [], places) :=
 ⟨[], by kernel_rfl⟩
set_option maxRecDepth 100000 in
theorem dreadParts_lifted (os : Os) (started : os.Started) (H : Type) (enc : TypeId × Value → H) (F : Stop.Interp) :
  ReturnsInHanded {} Tryz.checked os 6 .any ((OpenSpec.ofChange Rows.dreadPartsSpec).preRow enc Tryz.prog Tryz.f6 Rows.dreadPartsRow.domain false Rows.dreadPartsRow.laid) (((OpenSpec.ofChange Rows.dreadPartsSpec).at F).post enc Tryz.prog Tryz.f6 false true false false) := by
 obtain ⟨places, hx⟩ := dreadParts_reads os enc
 refine returnsInHanded_of_row (C := Tryz.checked) (s := (OpenSpec.ofChange Rows.dreadPartsSpec)) own started (by kernel_rfl) Tryz.func6
  (witness_row_at (enc := enc) (C := Tryz.checked) false (laidH os Rows.dreadPartsRow.laid) #[.string .empty, .string .empty] (laidH_os _ _) (by kernel_rfl) (by kernel_rfl) (by kernel_rfl)
   (OpenSpec.preRow_of_cond 8 hx (by kernel_rfl) (fun k hk => by cases hk) (by kernel_rfl) (laidMetH_laidH _ (by kernel_rfl) (by kernel_rfl) (by kernel_rfl)))) ?_
 intro W base args ds gs before hval hW _ hcnd _ hL _ _
 obtain ⟨S0, hG, hR⟩ := startR hL
 exact law_contractG 4 rfl Tryz.underlying4 laid rowed full (by kernel_rfl) rfl (s := Rows.dreadPartsSpec) (dreadParts_fn) (opensArgs_cons (opens_str Tryz.underlying9) (opensArgs_cons (opens_str Tryz.underlying9) opensArgs_nil)) (B := fun _ => True) (fun x _ => dreadParts_ok x.1 x.2.1 S0 hG) hR hval hW (fun _ _ => trivial)
theorem dreadParts_said : Rows.DreadPartsSaid :=
 OpenClaim.holds_of_cond 6 Tryz.f6 rfl rfl rfl rfl rfl rfl rfl ⟨rfl, rfl, rfl, rfl, rfl⟩ rfl rfl rfl rfl rfl (by kernel_rfl) Tryz.func6 (by kernel_rfl) (of_decide_eq_true (by kernel_rfl)) (by unfold Func.isWrapper; first | (rw [if_pos (by decide +kernel)]; kernel_rfl) | (rw [if_neg (by decide +kernel)]; exact ⟨rfl, rfl⟩)) (fun os started H enc _ F => by rw [OpenClaim.pre_eq_preRow]; exact dreadParts_lifted os started H enc F)
theorem dreadParts_holds : Rows.DreadPartsCardSaid :=
 Claim7.holds_tied_plain_at .later [] _ _ _ _ dreadParts_said (fun _ h => by cases h) (by kernel_rfl) (fun _ h => by cases h) dreadParts_row_tie rfl ⟨rfl, rfl⟩ (by kernel_rfl) rfl
  (fun f fn hf hfn => by
   obtain rfl : f = 6 := Option.some.inj (hf.symm.trans (by kernel_rfl))
   obtain rfl : fn = Tryz.f6 := (Option.some.inj (Tryz.func6.symm.trans hfn)).symm
   refine ⟨by kernel_rfl, fun j t ht => ?_⟩
   have hall : (Tryz.f6.params.toList.all fun u => !Tryz.prog.wantsStandIn u) = true := by kernel_rfl
   have := List.all_eq_true.1 hall t (by simpa using Array.mem_of_getElem? ht)
   exact (show Tryz.prog.wantsStandIn t = false by simpa using this)) (by kernel_rfl)
#print axioms dreadParts_holds
end Go.Proofs.YtfeknkaioofljaaGreatDoor
