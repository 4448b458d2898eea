/-
  Bytes: plain ones, letters, digits; one byte's text. Own work.
-/
import Derived.Test.YtkmalncnaodkiaaDoorBld
set_option linter.all false
namespace Go.Proofs.YtkmalncnaodkiaaDoor
open Go.Aw
set_option maxHeartbeats 4000000

def plainB (c : UInt8) : Bool := decide (32 ≤ c.toNat) && decide (c.toNat ≤ 126) && !decide (c.toNat = 34) && !decide (c.toNat = 92)
def letterB (c : UInt8) : Bool := decide (97 ≤ c.toNat) && decide (c.toNat ≤ 122) || decide (65 ≤ c.toNat) && decide (c.toNat ≤ 90) || decide (c.toNat = 95)
def digitB (c : UInt8) : Bool := decide (48 ≤ c.toNat) && decide (c.toNat ≤ 57)

theorem letter_ok (c : UInt8) (R : List En) : ACall Tryd.prog 89 [.int .u8 c.toNat] R (fun r S => r = .bool (letterB c) ∧ S = R) := by
  refine ACall_body tab_ok Tryd.func89 rfl rfl rfl (by kernel_rfl) (Nat.le_of_ble_eq_true rfl) ?_
  all_goals (repeat (first | refine ga_ ?_ | intro _))
  all_goals (try (first | refine AW_cond rfl (fun h => ?_) (fun h => ?_) | refine ⟨fun h => ?_, fun h => ?_⟩))
  all_goals (try (repeat (first | refine ga_ ?_ | intro _)))
  all_goals (try (first | refine AW_cond rfl (fun h => ?_) (fun h => ?_) | refine ⟨fun h => ?_, fun h => ?_⟩))
  all_goals (try (repeat (first | refine ga_ ?_ | intro _)))
  all_goals (try (first | refine AW_cond rfl (fun h => ?_) (fun h => ?_) | refine ⟨fun h => ?_, fun h => ?_⟩))
  all_goals (try (repeat (first | refine ga_ ?_ | intro _)))
  all_goals (try (first | refine AW_cond rfl (fun h => ?_) (fun h => ?_) | refine ⟨fun h => ?_, fun h => ?_⟩))
  all_goals (try (repeat (first | refine ga_ ?_ | intro _)))
  all_goals (refine AW_ret ?_)
  all_goals (refine ⟨_, R, AVle.eq ?_, (by repeat (first | exact SLe.rfl | refine SLe.tail ?_)), rfl, rfl⟩)
  all_goals (show AV.bool _ = AV.bool _; congr 1; rw [Bool.eq_iff_iff]; simp [letterB] at *; omega)
theorem digit_ok (c : UInt8) (R : List En) : ACall Tryd.prog 90 [.int .u8 c.toNat] R (fun r S => r = .bool (digitB c) ∧ S = R) := by
  refine ACall_body tab_ok Tryd.func90 rfl rfl rfl (by kernel_rfl) (Nat.le_of_ble_eq_true rfl) ?_
  all_goals (repeat (first | refine ga_ ?_ | intro _))
  all_goals (try (first | refine AW_cond rfl (fun h => ?_) (fun h => ?_) | refine ⟨fun h => ?_, fun h => ?_⟩))
  all_goals (try (repeat (first | refine ga_ ?_ | intro _)))
  all_goals (try (first | refine AW_cond rfl (fun h => ?_) (fun h => ?_) | refine ⟨fun h => ?_, fun h => ?_⟩))
  all_goals (try (repeat (first | refine ga_ ?_ | intro _)))
  all_goals (refine AW_ret ?_)
  all_goals (refine ⟨_, R, AVle.eq ?_, (by repeat (first | exact SLe.rfl | refine SLe.tail ?_)), rfl, rfl⟩)
  all_goals (show AV.bool _ = AV.bool _; congr 1; rw [Bool.eq_iff_iff]; simp [digitB] at *; omega)
end Go.Proofs.YtkmalncnaodkiaaDoor

