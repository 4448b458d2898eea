/-
  DlexLong: what is too long, for any byte, how often. Own work.
-/
import Derived.Test.YtgcoomicgdbmbaaGreatDoorX18
import Derived.Test.YtgcoomicgdbmbaaGreatDoorP13
set_option linter.all false
namespace Go.Proofs.YtgcoomicgdbmbaaGreatDoor
open Go.Aw Go.ChangeShapes Go.WideShapes Go.ChangeAt Go.RowKit

theorem u8_of {n : Int} (h : IntKind.u8.has n) : ∃ c : UInt8, n = (c.toNat : Int) := by
  have h2 : 0 ≤ n ∧ n ≤ 255 := by
    simp only [IntKind.has, IntKind.min, IntKind.max, IntKind.bits, IntKind.signed] at h
    simp at h; omega
  exact ⟨UInt8.ofNat n.toNat, by rw [UInt8.toNat_ofNat']; omega⟩
theorem dlexLong_at (n m : Int) (R : List En) (hG : LexG R) : ACall Tryz.prog 4 [.int .u8 n, .int .i64 m] R (fun r S => r = .bool true ∧ S = R) := by
  refine ACall_sat fun hs => ?_
  obtain ⟨c, rfl⟩ := u8_of (hs (.int .u8 n) (.head _)).int
  exact dlexLong_ok c m R hG
theorem dlexLong_fn (H : Type) (ds : List (DataW H)) (h : ds.length = Tryz.f4.params.toList.length) : Rows.dlexLongSpec.fn H ds = { results := [.lit (.bool true)], args := ds } := by
  have h : ds.length = 2 := h
  match ds, h with
  | [_, _], _ => rfl
theorem dlexLong_reads (os : Os) {H : Type} (enc : TypeId × Value → H) : ∃ places, DataW.whole enc Tryz.prog ((laidH os Rows.dlexLongRow.laid).forCall (fun _ _ => 0) ⟨#[], #[.int .u8 0, .int .i64 0], []⟩).memory Tryz.f4.params.toList Rows.dlexLongSpec.vars false #[.int .u8 0, .int .i64 0].toList 8 = some ([.lit (.int .u8 0), .lit (.int .i64 0)], [], places) :=
  ⟨[], by kernel_rfl⟩
set_option maxRecDepth 100000 in
theorem dlexLong_lifted (os : Os) (started : os.Started) (H : Type) (enc : TypeId × Value → H) (F : Stop.Interp) :
    ReturnsInHanded {} Tryz.checked os 4 .any ((OpenSpec.ofChange Rows.dlexLongSpec).preRow enc Tryz.prog Tryz.f4 Rows.dlexLongRow.domain false Rows.dlexLongRow.laid) (((OpenSpec.ofChange Rows.dlexLongSpec).at F).post enc Tryz.prog Tryz.f4 false true false false) := by
  obtain ⟨places, hx⟩ := dlexLong_reads os enc
  refine returnsInHanded_of_row (C := Tryz.checked) (s := (OpenSpec.ofChange Rows.dlexLongSpec)) own started (by kernel_rfl) Tryz.func4
    (witness_row_at (enc := enc) (C := Tryz.checked) false (laidH os Rows.dlexLongRow.laid) #[.int .u8 0, .int .i64 0] (laidH_os _ _) (by kernel_rfl) (by kernel_rfl) (by kernel_rfl)
      (OpenSpec.preRow_of_cond 8 hx (by kernel_rfl) (fun k hk => by cases hk) (by kernel_rfl) (laidMetH_laidH _ (by kernel_rfl) (by kernel_rfl) (by kernel_rfl)))) ?_
  intro W base args ds gs before hval hW _ hcnd _ hL _ _
  obtain ⟨S0, hG, hR⟩ := startX hL
  exact law_contractG 4 rfl Tryz.underlying4 laid rowed full (by kernel_rfl) rfl (s := Rows.dlexLongSpec) (dlexLong_fn) (opensArgs_cons (opens_int (k := .u8) Tryz.underlying5) (opensArgs_cons (opens_int (k := .i64) Tryz.underlying3) opensArgs_nil)) (B := fun _ => True) (fun x _ => dlexLong_at x.1 x.2.1 S0 hG) hR hval hW (fun _ _ => trivial)
theorem dlexLong_said : Rows.DlexLongSaid :=
  OpenClaim.holds_of_cond 4 Tryz.f4 rfl rfl rfl rfl rfl rfl rfl ⟨rfl, rfl, rfl, rfl, rfl⟩ rfl rfl rfl rfl rfl (by kernel_rfl) Tryz.func4 (by kernel_rfl) (of_decide_eq_true (by kernel_rfl)) (by unfold Func.isWrapper; first | (rw [if_pos (by decide +kernel)]; kernel_rfl) | (rw [if_neg (by decide +kernel)]; exact ⟨rfl, rfl⟩)) (fun os started H enc _ F => by rw [OpenClaim.pre_eq_preRow]; exact dlexLong_lifted os started H enc F)
theorem dlexLong_holds : Rows.DlexLongCardSaid :=
  Claim7.holds_tied_plain_at .later [] _ _ _ _ dlexLong_said (fun _ h => by cases h) (by kernel_rfl) (fun _ h => by cases h) dlexLong_row_tie rfl ⟨rfl, rfl⟩ (by kernel_rfl) rfl
    (fun f fn hf hfn => by
      obtain rfl : f = 4 := Option.some.inj (hf.symm.trans (by kernel_rfl))
      obtain rfl : fn = Tryz.f4 := (Option.some.inj (Tryz.func4.symm.trans hfn)).symm
      refine ⟨by kernel_rfl, fun j t ht => ?_⟩
      have hall : (Tryz.f4.params.toList.all fun u => !Tryz.prog.wantsStandIn u) = true := by kernel_rfl
      have := List.all_eq_true.1 hall t (by simpa using Array.mem_of_getElem? ht)
      exact (show Tryz.prog.wantsStandIn t = false by simpa using this)) (by kernel_rfl)
#print axioms dlexLong_holds
end Go.Proofs.YtgcoomicgdbmbaaGreatDoor

