/-
 DreadLong: what is too long,or too high: the program's answer is the book's,for any numbers of relations,rules,columns,parts,levels. Own work.
-/
import Derived.Test.YtfeknkaioofljaaGreatDoorQ43
import Derived.Test.YtfeknkaioofljaaGreatDoorQ42
set_option linter.all false
namespace Go.Proofs.YtfeknkaioofljaaGreatDoor
open Go.Aw Go.ChangeShapes Go.WideShapes Go.ChangeAt Go.RowKit Tree
theorem dreadLong_fn (H : Type) (ds : List (DataW H)) (h : ds.length = Tryz.f3.params.toList.length) : Rows.dreadLongSpec.fn H ds = { results := [.lit (.bool true)],args := ds } := by
 have h : ds.length = 5 := h
 match ds,h with
 | [_,_,_,_,_],_ => rfl
theorem dreadLong_reads (os : Os) {H : Type} (enc : TypeId × Value → H) : ∃ places,DataW.whole enc Tryz.prog ((laidH os Rows.dreadLongRow.laid).forCall (fun _ _ => 0) ⟨#[], #[.int .i64 0, .int .i64 0, .int .i64 0, .int .i64 0, .int .i64 0], []⟩).memory Tryz.f3.params.toList Rows.dreadLongSpec.vars false #[.int .i64 0, .int .i64 0, .int .i64 0, .int .i64 0, .int .i64 0].toList 8 = some ([.lit (.int .i64 0), .lit (.int .i64 0), .lit (.int .i64 0), .lit (.int .i64 0), .lit (.int .i64 0)], [],places) :=
 ⟨[],by kernel_rfl⟩
set_option maxRecDepth 100000 in
theorem dreadLong_lifted (os : Os) (started : os.Started) (H : Type) (enc : TypeId × Value → H) (F : Stop.Interp) :
  ReturnsInHanded {} Tryz.checked os 3 .any ((OpenSpec.ofChange Rows.dreadLongSpec).preRow enc Tryz.prog Tryz.f3 Rows.dreadLongRow.domain false Rows.dreadLongRow.laid) (((OpenSpec.ofChange Rows.dreadLongSpec).at F).post enc Tryz.prog Tryz.f3 false true false false) := by
 obtain ⟨places,hx⟩ := dreadLong_reads os enc
 refine returnsInHanded_of_row (C := Tryz.checked) (s := (OpenSpec.ofChange Rows.dreadLongSpec)) own started (by kernel_rfl) Tryz.func3
  (witness_row_at (enc := enc) (C := Tryz.checked) false (laidH os Rows.dreadLongRow.laid) #[.int .i64 0, .int .i64 0, .int .i64 0, .int .i64 0, .int .i64 0] (laidH_os _ _) (by kernel_rfl) (by kernel_rfl) (by kernel_rfl)
   (OpenSpec.preRow_of_cond 8 hx (by kernel_rfl) (fun k hk => by cases hk) (by kernel_rfl) (laidMetH_laidH _ (by kernel_rfl) (by kernel_rfl) (by kernel_rfl)))) ?_
 intro W base args ds gs before hval hW _ hcnd _ hL _ _
 obtain ⟨S0,hG,hR⟩ := startL hL
 exact law_contractG 4 rfl Tryz.underlying4 laid rowed full (by kernel_rfl) rfl (s := Rows.dreadLongSpec) (dreadLong_fn) (opensArgs_cons (opens_int (k := .i64) Tryz.underlying3) (opensArgs_cons (opens_int (k := .i64) Tryz.underlying3) (opensArgs_cons (opens_int (k := .i64) Tryz.underlying3) (opensArgs_cons (opens_int (k := .i64) Tryz.underlying3) (opensArgs_cons (opens_int (k := .i64) Tryz.underlying3) opensArgs_nil))))) (B := fun _ => True) (fun x _ => dreadLong_ok x.1 x.2.1 x.2.2.1 x.2.2.2.1 x.2.2.2.2.1 S0 hG) hR hval hW (fun _ _ => trivial)
theorem dreadLong_said : Rows.DreadLongSaid :=
 OpenClaim.holds_of_cond 3 Tryz.f3 rfl rfl rfl rfl rfl rfl rfl ⟨rfl,rfl,rfl,rfl,rfl⟩ rfl rfl rfl rfl rfl (by kernel_rfl) Tryz.func3 (by kernel_rfl) (of_decide_eq_true (by kernel_rfl)) (by unfold Func.isWrapper; first | (rw [if_pos (by decide +kernel)]; kernel_rfl) | (rw [if_neg (by decide +kernel)]; exact ⟨rfl,rfl⟩)) (fun os started H enc _ F => by rw [OpenClaim.pre_eq_preRow]; exact dreadLong_lifted os started H enc F)
theorem dreadLong_holds : Rows.DreadLongCardSaid :=
 Claim7.holds_tied_plain_at .later [] _ _ _ _ dreadLong_said (fun _ h => by cases h) (by kernel_rfl) (fun _ h => by cases h) dreadLong_row_tie rfl ⟨rfl,rfl⟩ (by kernel_rfl) rfl
  (fun f fn hf hfn => by
   obtain rfl : f = 3 := Option.some.inj (hf.symm.trans (by kernel_rfl))
   obtain rfl : fn = Tryz.f3 := (Option.some.inj (Tryz.func3.symm.trans hfn)).symm
   refine ⟨by kernel_rfl,fun j t ht => ?_⟩
   have hall : (Tryz.f3.params.toList.all fun u => !Tryz.prog.wantsStandIn u) = true := by kernel_rfl
   have := List.all_eq_true.1 hall t (by simpa using Array.mem_of_getElem? ht)
   exact (show Tryz.prog.wantsStandIn t = false by simpa using this)) (by kernel_rfl)
#print axioms dreadLong_holds
end Go.Proofs.YtfeknkaioofljaaGreatDoor
