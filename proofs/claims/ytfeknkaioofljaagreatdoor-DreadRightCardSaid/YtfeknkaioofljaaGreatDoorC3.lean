/-
 DreadRight: what is read is right,and read from its own text so again,for any text. Own work.
-/
import Derived.Test.YtfeknkaioofljaaGreatDoorQ26
import Derived.Test.YtfeknkaioofljaaGreatDoorQ30
set_option linter.all false
namespace Go.Proofs.YtfeknkaioofljaaGreatDoor
open Go.Aw Go.ChangeShapes Go.WideShapes Go.ChangeAt Go.RowKit Tree
theorem dreadRight_fn (H : Type) (ds : List (DataW H)) (h : ds.length = Tryz.f5.params.toList.length) : Rows.dreadRightSpec.fn H ds = { results := [.lit (.bool true)],args := ds } := by
 have h : ds.length = 1 := h
 match ds,h with
 | [_],_ => rfl
theorem dreadRight_reads (os : Os) {H : Type} (enc : TypeId × Value → H) : ∃ places,DataW.whole enc Tryz.prog ((laidH os Rows.dreadRightRow.laid).forCall (fun _ _ => 0) ⟨#[], #[.string .empty], []⟩).memory Tryz.f5.params.toList Rows.dreadRightSpec.vars false #[.string .empty].toList 8 = some ([.lit (.string [])], [],places) :=
 ⟨[],by kernel_rfl⟩
set_option maxRecDepth 100000 in
theorem dreadRight_lifted (os : Os) (started : os.Started) (H : Type) (enc : TypeId × Value → H) (F : Stop.Interp) :
  ReturnsInHanded {} Tryz.checked os 5 .any ((OpenSpec.ofChange Rows.dreadRightSpec).preRow enc Tryz.prog Tryz.f5 Rows.dreadRightRow.domain false Rows.dreadRightRow.laid) (((OpenSpec.ofChange Rows.dreadRightSpec).at F).post enc Tryz.prog Tryz.f5 false true false false) := by
 obtain ⟨places,hx⟩ := dreadRight_reads os enc
 refine returnsInHanded_of_row (C := Tryz.checked) (s := (OpenSpec.ofChange Rows.dreadRightSpec)) own started (by kernel_rfl) Tryz.func5
  (witness_row_at (enc := enc) (C := Tryz.checked) false (laidH os Rows.dreadRightRow.laid) #[.string .empty] (laidH_os _ _) (by kernel_rfl) (by kernel_rfl) (by kernel_rfl)
   (OpenSpec.preRow_of_cond 8 hx (by kernel_rfl) (fun k hk => by cases hk) (by kernel_rfl) (laidMetH_laidH _ (by kernel_rfl) (by kernel_rfl) (by kernel_rfl)))) ?_
 intro W base args ds gs before hval hW _ hcnd _ hL _ _
 obtain ⟨S0,hG,hR⟩ := startR hL
 exact law_contractG 4 rfl Tryz.underlying4 laid rowed full (by kernel_rfl) rfl (s := Rows.dreadRightSpec) (dreadRight_fn) (opensArgs_cons (opens_str Tryz.underlying9) opensArgs_nil) (B := fun _ => True) (fun x _ => dreadRight_ok x.1 S0 hG) hR hval hW (fun _ _ => trivial)
theorem dreadRight_said : Rows.DreadRightSaid :=
 OpenClaim.holds_of_cond 5 Tryz.f5 rfl rfl rfl rfl rfl rfl rfl ⟨rfl,rfl,rfl,rfl,rfl⟩ rfl rfl rfl rfl rfl (by kernel_rfl) Tryz.func5 (by kernel_rfl) (of_decide_eq_true (by kernel_rfl)) (by unfold Func.isWrapper; first | (rw [if_pos (by decide +kernel)]; kernel_rfl) | (rw [if_neg (by decide +kernel)]; exact ⟨rfl,rfl⟩)) (fun os started H enc _ F => by rw [OpenClaim.pre_eq_preRow]; exact dreadRight_lifted os started H enc F)
theorem dreadRight_holds : Rows.DreadRightCardSaid :=
 Claim7.holds_tied_plain_at .later [] _ _ _ _ dreadRight_said (fun _ h => by cases h) (by kernel_rfl) (fun _ h => by cases h) dreadRight_row_tie rfl ⟨rfl,rfl⟩ (by kernel_rfl) rfl
  (fun f fn hf hfn => by
   obtain rfl : f = 5 := Option.some.inj (hf.symm.trans (by kernel_rfl))
   obtain rfl : fn = Tryz.f5 := (Option.some.inj (Tryz.func5.symm.trans hfn)).symm
   refine ⟨by kernel_rfl,fun j t ht => ?_⟩
   have hall : (Tryz.f5.params.toList.all fun u => !Tryz.prog.wantsStandIn u) = true := by kernel_rfl
   have := List.all_eq_true.1 hall t (by simpa using Array.mem_of_getElem? ht)
   exact (show Tryz.prog.wantsStandIn t = false by simpa using this)) (by kernel_rfl)
#print axioms dreadRight_holds
end Go.Proofs.YtfeknkaioofljaaGreatDoor
