/-
 DreadBack: a right program,no two of whose relations have one name,is read from its text as it was,for any program. Own work.
-/
import Derived.Test.YtfeknkaioofljaaGreatDoorQ26
import Derived.Test.YtfeknkaioofljaaGreatDoorQ29
set_option linter.all false
namespace Go.Proofs.YtfeknkaioofljaaGreatDoor
open Go.Aw Go.ChangeShapes Go.WideShapes Go.ChangeAt Go.RowKit Tree
theorem dreadBack_fn (H : Type) (ds : List (DataW H)) (h : ds.length = Tryz.f4.params.toList.length) : Rows.dreadBackSpec.fn H ds = { results := [.lit (.bool true)],args := ds } := by
 have h : ds.length = 1 := h
 match ds,h with
 | [_],_ => rfl
theorem dreadBack_reads (os : Os) {H : Type} (enc : TypeId × Value → H) : ∃ places,DataW.whole enc Tryz.prog ((laidH os Rows.dreadBackRow.laid).forCall (fun _ _ => 0) ⟨#[], #[.agg #[.slice none 0 0, .slice none 0 0]], []⟩).memory Tryz.f4.params.toList Rows.dreadBackSpec.vars false #[.agg #[.slice none 0 0, .slice none 0 0]].toList 8 = some ([.agg [.nil, .nil]], [],places) :=
 ⟨[],by kernel_rfl⟩
set_option maxRecDepth 100000 in
theorem dreadBack_lifted (os : Os) (started : os.Started) (H : Type) (enc : TypeId × Value → H) (F : Stop.Interp) :
  ReturnsInHanded {} Tryz.checked os 4 .any ((OpenSpec.ofChange Rows.dreadBackSpec).preRow enc Tryz.prog Tryz.f4 Rows.dreadBackRow.domain false Rows.dreadBackRow.laid) (((OpenSpec.ofChange Rows.dreadBackSpec).at F).post enc Tryz.prog Tryz.f4 false true false false) := by
 obtain ⟨places,hx⟩ := dreadBack_reads os enc
 refine returnsInHanded_of_row (C := Tryz.checked) (s := (OpenSpec.ofChange Rows.dreadBackSpec)) own started (by kernel_rfl) Tryz.func4
  (witness_row_at (enc := enc) (C := Tryz.checked) false (laidH os Rows.dreadBackRow.laid) #[.agg #[.slice none 0 0, .slice none 0 0]] (laidH_os _ _) (by kernel_rfl) (by kernel_rfl) (by kernel_rfl)
   (OpenSpec.preRow_of_cond 8 hx (by kernel_rfl) (fun k hk => by cases hk) (by kernel_rfl) (laidMetH_laidH _ (by kernel_rfl) (by kernel_rfl) (by kernel_rfl)))) ?_
 intro W base args ds gs before hval hW _ hcnd _ hL _ _
 obtain ⟨S0,hG,hR⟩ := startR hL
 exact law_contractG 4 rfl Tryz.underlying4 laid rowed full (by kernel_rfl) rfl (s := Rows.dreadBackSpec) (dreadBack_fn) (opensArgs_cons opens_P opensArgs_nil) (B := fun _ => True) (fun x _ => dreadBack_ok x.1 S0 hG) hR hval hW (fun _ _ => trivial)
theorem dreadBack_said : Rows.DreadBackSaid :=
 OpenClaim.holds_of_cond 4 Tryz.f4 rfl rfl rfl rfl rfl rfl rfl ⟨rfl,rfl,rfl,rfl,rfl⟩ rfl rfl rfl rfl rfl (by kernel_rfl) Tryz.func4 (by kernel_rfl) (of_decide_eq_true (by kernel_rfl)) (by unfold Func.isWrapper; first | (rw [if_pos (by decide +kernel)]; kernel_rfl) | (rw [if_neg (by decide +kernel)]; exact ⟨rfl,rfl⟩)) (fun os started H enc _ F => by rw [OpenClaim.pre_eq_preRow]; exact dreadBack_lifted os started H enc F)
theorem dreadBack_holds : Rows.DreadBackCardSaid :=
 Claim7.holds_tied_plain_at .later [] _ _ _ _ dreadBack_said (fun _ h => by cases h) (by kernel_rfl) (fun _ h => by cases h) dreadBack_row_tie rfl ⟨rfl,rfl⟩ (by kernel_rfl) rfl
  (fun f fn hf hfn => by
   obtain rfl : f = 4 := Option.some.inj (hf.symm.trans (by kernel_rfl))
   obtain rfl : fn = Tryz.f4 := (Option.some.inj (Tryz.func4.symm.trans hfn)).symm
   refine ⟨by kernel_rfl,fun j t ht => ?_⟩
   have hall : (Tryz.f4.params.toList.all fun u => !Tryz.prog.wantsStandIn u) = true := by kernel_rfl
   have := List.all_eq_true.1 hall t (by simpa using Array.mem_of_getElem? ht)
   exact (show Tryz.prog.wantsStandIn t = false by simpa using this)) (by kernel_rfl)
#print axioms dreadBack_holds
end Go.Proofs.YtfeknkaioofljaaGreatDoor
