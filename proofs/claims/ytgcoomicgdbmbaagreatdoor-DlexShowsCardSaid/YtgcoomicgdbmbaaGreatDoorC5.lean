/-
  DlexShows: tokens' texts, for any tokens. Own work.
-/
import Derived.Test.YtgcoomicgdbmbaaGreatDoorP14
import Derived.Test.YtgcoomicgdbmbaaGreatDoorP13
set_option linter.all false
namespace Go.Proofs.YtgcoomicgdbmbaaGreatDoor
open Go.Aw Go.ChangeShapes Go.WideShapes Go.ChangeAt Go.RowKit

theorem dlexShows_fn (H : Type) (ds : List (DataW H)) (h : ds.length = Tryz.f7.params.toList.length) : Rows.dlexShowsSpec.fn H ds = { results := [.lit (.bool true)], args := ds } := by
  have h : ds.length = 1 := h
  match ds, h with
  | [_], _ => rfl
theorem dlexShows_reads (os : Os) {H : Type} (enc : TypeId × Value → H) : ∃ places, DataW.whole enc Tryz.prog ((laidH os Rows.dlexShowsRow.laid).forCall (fun _ _ => 0) ⟨#[], #[.slice none 0 0], []⟩).memory Tryz.f7.params.toList Rows.dlexShowsSpec.vars false #[.slice none 0 0].toList 8 = some ([.nil], [], places) :=
  ⟨[], by kernel_rfl⟩
set_option maxRecDepth 100000 in
theorem dlexShows_lifted (os : Os) (started : os.Started) (H : Type) (enc : TypeId × Value → H) (F : Stop.Interp) :
    ReturnsInHanded {} Tryz.checked os 7 .any ((OpenSpec.ofChange Rows.dlexShowsSpec).preRow enc Tryz.prog Tryz.f7 Rows.dlexShowsRow.domain false Rows.dlexShowsRow.laid) (((OpenSpec.ofChange Rows.dlexShowsSpec).at F).post enc Tryz.prog Tryz.f7 false true false false) := by
  obtain ⟨places, hx⟩ := dlexShows_reads os enc
  refine returnsInHanded_of_row (C := Tryz.checked) (s := (OpenSpec.ofChange Rows.dlexShowsSpec)) own started (by kernel_rfl) Tryz.func7
    (witness_row_at (enc := enc) (C := Tryz.checked) false (laidH os Rows.dlexShowsRow.laid) #[.slice none 0 0] (laidH_os _ _) (by kernel_rfl) (by kernel_rfl) (by kernel_rfl)
      (OpenSpec.preRow_of_cond 8 hx (by kernel_rfl) (fun k hk => by cases hk) (by kernel_rfl) (laidMetH_laidH _ (by kernel_rfl) (by kernel_rfl) (by kernel_rfl)))) ?_
  intro W base args ds gs before hval hW _ hcnd _ hL _ _
  obtain ⟨S0, hG, hR⟩ := startX hL
  exact law_contractG 4 rfl Tryz.underlying4 laid rowed full (by kernel_rfl) rfl (s := Rows.dlexShowsSpec) (dlexShows_fn) (opensArgs_cons opens_Toks opensArgs_nil) (B := fun _ => True) (fun x _ => dlexShows_ok x.1 S0 hG) hR hval hW (fun _ _ => trivial)
theorem dlexShows_said : Rows.DlexShowsSaid :=
  OpenClaim.holds_of_cond 7 Tryz.f7 rfl rfl rfl rfl rfl rfl rfl ⟨rfl, rfl, rfl, rfl, rfl⟩ rfl rfl rfl rfl rfl (by kernel_rfl) Tryz.func7 (by kernel_rfl) (of_decide_eq_true (by kernel_rfl)) (by unfold Func.isWrapper; first | (rw [if_pos (by decide +kernel)]; kernel_rfl) | (rw [if_neg (by decide +kernel)]; exact ⟨rfl, rfl⟩)) (fun os started H enc _ F => by rw [OpenClaim.pre_eq_preRow]; exact dlexShows_lifted os started H enc F)
theorem dlexShows_holds : Rows.DlexShowsCardSaid :=
  Claim7.holds_tied_plain_at .later [] _ _ _ _ dlexShows_said (fun _ h => by cases h) (by kernel_rfl) (fun _ h => by cases h) dlexShows_row_tie rfl ⟨rfl, rfl⟩ (by kernel_rfl) rfl
    (fun f fn hf hfn => by
      obtain rfl : f = 7 := Option.some.inj (hf.symm.trans (by kernel_rfl))
      obtain rfl : fn = Tryz.f7 := (Option.some.inj (Tryz.func7.symm.trans hfn)).symm
      refine ⟨by kernel_rfl, fun j t ht => ?_⟩
      have hall : (Tryz.f7.params.toList.all fun u => !Tryz.prog.wantsStandIn u) = true := by kernel_rfl
      have := List.all_eq_true.1 hall t (by simpa using Array.mem_of_getElem? ht)
      exact (show Tryz.prog.wantsStandIn t = false by simpa using this)) (by kernel_rfl)
#print axioms dlexShows_holds
end Go.Proofs.YtgcoomicgdbmbaaGreatDoor

