/-
  Which parts of bodies may be, by the book. Own work.
-/
import Derived.Test.YtkmalncnaodkiaaDoorP2
set_option linter.all false
namespace Go.Proofs.YtkmalncnaodkiaaDoor
open Go.Aw Go.RowKit
set_option maxHeartbeats 16000000

theorem refLit_ok (l : Li) (R : List En) : ACall Tryd.prog 51 [encL l] R (fun r S => r = .bool (rightL l) ∧ S = R) := by
  obtain ⟨op, a, x, y⟩ := l
  have ka := refAtom_ok a
  have kx := refNoTerm_ok x
  have ky := refNoTerm_ok y
  have kna := refNoAtom_ok a
  have kt := fun R => refTerm_ok 20 x R (by omega)
  have ku := fun R => refTerm_ok 20 y R (by omega)
  refine ACall_body tab_ok Tryd.func51 rfl rfl rfl (by kernel_rfl) (Nat.le_of_ble_eq_true rfl) ?_
  repeat (first | refine go_ ?_ | intro _)
  rename_i p
  refine Or.inl ⟨⟨_, Tryd.func77, rfl, rfl⟩, ACall.mono ?_ (kt _)⟩
  rintro _ S1 ⟨rfl, hS1⟩
  subst S1
  repeat (first | refine go_ ?_ | intro _)
  refine Or.inl ⟨⟨_, Tryd.func77, rfl, rfl⟩, ACall.mono ?_ (ku _)⟩
  rintro _ S1 ⟨rfl, hS1⟩
  subst S1
  repeat (first | refine go_ ?_ | intro _)
  refine Or.inl ⟨⟨_, Tryd.func49, rfl, rfl⟩, ACall.mono ?_ (ka _)⟩
  rintro _ S1 ⟨rfl, hS1⟩
  subst S1
  repeat (first | refine det_step rfl ?_ | refine ⟨rfl, ?_⟩ | refine ⟨⟨_, rfl⟩, ?_⟩ | refine ⟨⟨_, rfl, rfl⟩, ?_⟩ | refine ⟨⟨rfl, rfl⟩, ?_⟩ | refine ⟨⟨Nat.le_of_ble_eq_true rfl, Nat.le_of_ble_eq_true rfl⟩, ?_⟩ | refine ⟨Nat.le_of_ble_eq_true rfl, ?_⟩ | refine ⟨_, _, rfl, ?_⟩ | refine ⟨0, _, rfl, ?_⟩ | refine ⟨1, _, rfl, ?_⟩ | refine ⟨2, _, rfl, ?_⟩ | refine ⟨3, _, rfl, ?_⟩ | refine ⟨4, _, rfl, ?_⟩ | refine ⟨5, _, rfl, ?_⟩ | refine ⟨_, rfl, ?_⟩ | intro _)
  refine AW_weak (weak_of (l := [(1, .ptr p 0), (3, .bool (rightT x 20)), (4, .bool (rightT y 20)), (5, .bool (rightA a))]) (m := []) (S' := .cells p (cL ⟨op, a, x, y⟩) :: R) ?_ rfl ?_) ?_
  · repeat (first | exact trivial | refine ⟨AVle.refl _, ?_⟩ | refine ⟨AVle.tk, ?_⟩ | refine ⟨AVle.nil, ?_⟩ | refine ⟨AVle.nilFull, ?_⟩ | refine ⟨AVle.eq (congrArg (AV.int .i64) (by first | (simp; done) | (simp; omega) | (rw [wrap_i64 (by first | omega | (simp; omega))]; first | rfl | omega | (simp; done) | (simp; omega)))), ?_⟩)
  · refine SW.le ?_
    repeat (first | exact SW.nil | refine SW.cons ?_ | refine SW.cells (by repeat (first | exact trivial | refine ⟨AVle.refl _, ?_⟩ | refine ⟨AVle.nilFull, ?_⟩ | refine ⟨AVle.tk, ?_⟩ | refine ⟨AVle.nil, ?_⟩)) rfl ?_ | refine SW.full ?_ | refine SW.drop ?_)
  by_cases ho : op = 1 ∨ op = 2
  · have e : rightL ⟨op, a, x, y⟩ = (rightA a && (noT x && noT y)) := by rw [rightL, if_pos ho]
    rcases ho with rfl | rfl
    · repeat (first | refine ga_ ?_ | intro _)
      refine gsplit (rightA a = true) (by first | (simp; done) | (simp <;> omega) | decide) (fun h => ?_) (fun h => ?_)
      · have ha := h
        repeat (first | refine go_ ?_ | intro _)
        refine Or.inl ⟨⟨_, Tryd.func78, rfl, rfl⟩, ACall.mono ?_ (kx _)⟩
        rintro _ S1 ⟨rfl, hS1⟩
        subst S1
        repeat (first | refine go_ ?_ | intro _)
        refine gsplit (noT x = true) (by first | (simp; done) | (simp <;> omega) | decide) (fun h => ?_) (fun h => ?_)
        · have hx := h
          repeat (first | refine go_ ?_ | intro _)
          refine Or.inl ⟨⟨_, Tryd.func78, rfl, rfl⟩, ACall.mono ?_ (ky _)⟩
          rintro _ S1 ⟨rfl, hS1⟩
          subst S1
          repeat (first | refine go_ ?_ | intro _)
          refine AW_ret ?_
          repeat (first | refine ⟨0, rfl, ?_⟩ | refine ⟨1, rfl, ?_⟩ | refine ⟨2, rfl, ?_⟩ | refine ⟨3, rfl, ?_⟩ | refine ⟨4, rfl, ?_⟩ | refine ⟨5, rfl, ?_⟩ | refine ⟨6, rfl, ?_⟩)
          refine ⟨_, R, AVle.eq ?_, (by repeat (first | exact SLe.rfl | refine SLe.tail ?_)), rfl, rfl⟩
          rw [e, ha, hx]; rfl
        · have hx := h
          repeat (first | refine ga_ ?_ | intro _)
          refine AW_ret ?_
          repeat (first | refine ⟨0, rfl, ?_⟩ | refine ⟨1, rfl, ?_⟩ | refine ⟨2, rfl, ?_⟩ | refine ⟨3, rfl, ?_⟩ | refine ⟨4, rfl, ?_⟩ | refine ⟨5, rfl, ?_⟩ | refine ⟨6, rfl, ?_⟩)
          refine ⟨_, R, AVle.eq ?_, (by repeat (first | exact SLe.rfl | refine SLe.tail ?_)), rfl, rfl⟩
          rw [e]; exact congrArg AV.bool (by simp [hx])
      · have ha := h
        repeat (first | refine ga_ ?_ | intro _)
        refine AW_ret ?_
        repeat (first | refine ⟨0, rfl, ?_⟩ | refine ⟨1, rfl, ?_⟩ | refine ⟨2, rfl, ?_⟩ | refine ⟨3, rfl, ?_⟩ | refine ⟨4, rfl, ?_⟩ | refine ⟨5, rfl, ?_⟩ | refine ⟨6, rfl, ?_⟩)
        refine ⟨_, R, AVle.eq ?_, (by repeat (first | exact SLe.rfl | refine SLe.tail ?_)), rfl, rfl⟩
        rw [e]; exact congrArg AV.bool (by simp [ha])
    · repeat (first | refine ga_ ?_ | intro _)
      refine gsplit (rightA a = true) (by first | (simp; done) | (simp <;> omega) | decide) (fun h => ?_) (fun h => ?_)
      · have ha := h
        repeat (first | refine go_ ?_ | intro _)
        refine Or.inl ⟨⟨_, Tryd.func78, rfl, rfl⟩, ACall.mono ?_ (kx _)⟩
        rintro _ S1 ⟨rfl, hS1⟩
        subst S1
        repeat (first | refine go_ ?_ | intro _)
        refine gsplit (noT x = true) (by first | (simp; done) | (simp <;> omega) | decide) (fun h => ?_) (fun h => ?_)
        · have hx := h
          repeat (first | refine go_ ?_ | intro _)
          refine Or.inl ⟨⟨_, Tryd.func78, rfl, rfl⟩, ACall.mono ?_ (ky _)⟩
          rintro _ S1 ⟨rfl, hS1⟩
          subst S1
          repeat (first | refine go_ ?_ | intro _)
          refine AW_ret ?_
          repeat (first | refine ⟨0, rfl, ?_⟩ | refine ⟨1, rfl, ?_⟩ | refine ⟨2, rfl, ?_⟩ | refine ⟨3, rfl, ?_⟩ | refine ⟨4, rfl, ?_⟩ | refine ⟨5, rfl, ?_⟩ | refine ⟨6, rfl, ?_⟩)
          refine ⟨_, R, AVle.eq ?_, (by repeat (first | exact SLe.rfl | refine SLe.tail ?_)), rfl, rfl⟩
          rw [e, ha, hx]; rfl
        · have hx := h
          repeat (first | refine ga_ ?_ | intro _)
          refine AW_ret ?_
          repeat (first | refine ⟨0, rfl, ?_⟩ | refine ⟨1, rfl, ?_⟩ | refine ⟨2, rfl, ?_⟩ | refine ⟨3, rfl, ?_⟩ | refine ⟨4, rfl, ?_⟩ | refine ⟨5, rfl, ?_⟩ | refine ⟨6, rfl, ?_⟩)
          refine ⟨_, R, AVle.eq ?_, (by repeat (first | exact SLe.rfl | refine SLe.tail ?_)), rfl, rfl⟩
          rw [e]; exact congrArg AV.bool (by simp [hx])
      · have ha := h
        repeat (first | refine ga_ ?_ | intro _)
        refine AW_ret ?_
        repeat (first | refine ⟨0, rfl, ?_⟩ | refine ⟨1, rfl, ?_⟩ | refine ⟨2, rfl, ?_⟩ | refine ⟨3, rfl, ?_⟩ | refine ⟨4, rfl, ?_⟩ | refine ⟨5, rfl, ?_⟩ | refine ⟨6, rfl, ?_⟩)
        refine ⟨_, R, AVle.eq ?_, (by repeat (first | exact SLe.rfl | refine SLe.tail ?_)), rfl, rfl⟩
        rw [e]; exact congrArg AV.bool (by simp [ha])
  by_cases hp : op = 3 ∨ op = 4 ∨ op = 5 ∨ op = 6
  · have e : rightL ⟨op, a, x, y⟩ = ((noA a && (!decide (x.op = 4) && !decide (y.op = 4))) && (rightT x 20 && rightT y 20)) := by rw [rightL, if_neg ho, if_pos (show 3 ≤ op ∧ op ≤ 6 by omega)]
    rcases hp with rfl | rfl | rfl | rfl
    · repeat (first | refine ga_ ?_ | intro _)
      refine Or.inl ⟨⟨_, Tryd.func79, rfl, rfl⟩, ACall.mono ?_ (kna _)⟩
      rintro _ S1 ⟨rfl, hS1⟩
      subst S1
      all_goals (repeat (first | refine ga_ ?_ | intro _))
      all_goals (try (first | refine AW_cond rfl (fun h => ?_) (fun h => ?_) | refine ⟨fun h => ?_, fun h => ?_⟩))
      all_goals (try (repeat (first | refine ga_ ?_ | intro _)))
      all_goals (try (first | refine AW_cond rfl (fun h => ?_) (fun h => ?_) | refine ⟨fun h => ?_, fun h => ?_⟩))
      all_goals (try (repeat (first | refine ga_ ?_ | intro _)))
      all_goals (try (first | refine AW_cond rfl (fun h => ?_) (fun h => ?_) | refine ⟨fun h => ?_, fun h => ?_⟩))
      all_goals (try (repeat (first | refine ga_ ?_ | intro _)))
      all_goals (try (first | refine AW_cond rfl (fun h => ?_) (fun h => ?_) | refine ⟨fun h => ?_, fun h => ?_⟩))
      all_goals (try (repeat (first | refine ga_ ?_ | intro _)))
      all_goals (refine AW_ret ?_)
      all_goals (refine ⟨_, R, AVle.eq ?_, (by repeat (first | exact SLe.rfl | refine SLe.tail ?_)), rfl, rfl⟩)
      all_goals (clear ka kx ky kna kt ku; show AV.bool _ = AV.bool _; congr 1; rw [e]; clear e; simp_all)
    · repeat (first | refine ga_ ?_ | intro _)
      refine Or.inl ⟨⟨_, Tryd.func79, rfl, rfl⟩, ACall.mono ?_ (kna _)⟩
      rintro _ S1 ⟨rfl, hS1⟩
      subst S1
      all_goals (repeat (first | refine ga_ ?_ | intro _))
      all_goals (try (first | refine AW_cond rfl (fun h => ?_) (fun h => ?_) | refine ⟨fun h => ?_, fun h => ?_⟩))
      all_goals (try (repeat (first | refine ga_ ?_ | intro _)))
      all_goals (try (first | refine AW_cond rfl (fun h => ?_) (fun h => ?_) | refine ⟨fun h => ?_, fun h => ?_⟩))
      all_goals (try (repeat (first | refine ga_ ?_ | intro _)))
      all_goals (try (first | refine AW_cond rfl (fun h => ?_) (fun h => ?_) | refine ⟨fun h => ?_, fun h => ?_⟩))
      all_goals (try (repeat (first | refine ga_ ?_ | intro _)))
      all_goals (try (first | refine AW_cond rfl (fun h => ?_) (fun h => ?_) | refine ⟨fun h => ?_, fun h => ?_⟩))
      all_goals (try (repeat (first | refine ga_ ?_ | intro _)))
      all_goals (refine AW_ret ?_)
      all_goals (refine ⟨_, R, AVle.eq ?_, (by repeat (first | exact SLe.rfl | refine SLe.tail ?_)), rfl, rfl⟩)
      all_goals (clear ka kx ky kna kt ku; show AV.bool _ = AV.bool _; congr 1; rw [e]; clear e; simp_all)
    · repeat (first | refine ga_ ?_ | intro _)
      refine Or.inl ⟨⟨_, Tryd.func79, rfl, rfl⟩, ACall.mono ?_ (kna _)⟩
      rintro _ S1 ⟨rfl, hS1⟩
      subst S1
      all_goals (repeat (first | refine ga_ ?_ | intro _))
      all_goals (try (first | refine AW_cond rfl (fun h => ?_) (fun h => ?_) | refine ⟨fun h => ?_, fun h => ?_⟩))
      all_goals (try (repeat (first | refine ga_ ?_ | intro _)))
      all_goals (try (first | refine AW_cond rfl (fun h => ?_) (fun h => ?_) | refine ⟨fun h => ?_, fun h => ?_⟩))
      all_goals (try (repeat (first | refine ga_ ?_ | intro _)))
      all_goals (try (first | refine AW_cond rfl (fun h => ?_) (fun h => ?_) | refine ⟨fun h => ?_, fun h => ?_⟩))
      all_goals (try (repeat (first | refine ga_ ?_ | intro _)))
      all_goals (try (first | refine AW_cond rfl (fun h => ?_) (fun h => ?_) | refine ⟨fun h => ?_, fun h => ?_⟩))
      all_goals (try (repeat (first | refine ga_ ?_ | intro _)))
      all_goals (refine AW_ret ?_)
      all_goals (refine ⟨_, R, AVle.eq ?_, (by repeat (first | exact SLe.rfl | refine SLe.tail ?_)), rfl, rfl⟩)
      all_goals (clear ka kx ky kna kt ku; show AV.bool _ = AV.bool _; congr 1; rw [e]; clear e; simp_all)
    · repeat (first | refine ga_ ?_ | intro _)
      refine Or.inl ⟨⟨_, Tryd.func79, rfl, rfl⟩, ACall.mono ?_ (kna _)⟩
      rintro _ S1 ⟨rfl, hS1⟩
      subst S1
      all_goals (repeat (first | refine ga_ ?_ | intro _))
      all_goals (try (first | refine AW_cond rfl (fun h => ?_) (fun h => ?_) | refine ⟨fun h => ?_, fun h => ?_⟩))
      all_goals (try (repeat (first | refine ga_ ?_ | intro _)))
      all_goals (try (first | refine AW_cond rfl (fun h => ?_) (fun h => ?_) | refine ⟨fun h => ?_, fun h => ?_⟩))
      all_goals (try (repeat (first | refine ga_ ?_ | intro _)))
      all_goals (try (first | refine AW_cond rfl (fun h => ?_) (fun h => ?_) | refine ⟨fun h => ?_, fun h => ?_⟩))
      all_goals (try (repeat (first | refine ga_ ?_ | intro _)))
      all_goals (try (first | refine AW_cond rfl (fun h => ?_) (fun h => ?_) | refine ⟨fun h => ?_, fun h => ?_⟩))
      all_goals (try (repeat (first | refine ga_ ?_ | intro _)))
      all_goals (refine AW_ret ?_)
      all_goals (refine ⟨_, R, AVle.eq ?_, (by repeat (first | exact SLe.rfl | refine SLe.tail ?_)), rfl, rfl⟩)
      all_goals (clear ka kx ky kna kt ku; show AV.bool _ = AV.bool _; congr 1; rw [e]; clear e; simp_all)
  by_cases hq : op = 7
  · have e : rightL ⟨op, a, x, y⟩ = (rightA a && ((isX x && noT y) && rightT x 20)) := by rw [rightL, if_neg ho, if_neg (show ¬ (3 ≤ op ∧ op ≤ 6) by omega), if_pos hq]
    subst hq
    repeat (first | refine ga_ ?_ | intro _)
    refine gsplit (rightA a = true) (by first | (simp; done) | (simp <;> omega) | decide) (fun h => ?_) (fun h => ?_)
    rotate_left
    · have ha := h
      repeat (first | refine ga_ ?_ | intro _)
      refine AW_ret ?_
      repeat (first | refine ⟨0, rfl, ?_⟩ | refine ⟨1, rfl, ?_⟩ | refine ⟨2, rfl, ?_⟩ | refine ⟨3, rfl, ?_⟩ | refine ⟨4, rfl, ?_⟩ | refine ⟨5, rfl, ?_⟩ | refine ⟨6, rfl, ?_⟩)
      refine ⟨_, R, AVle.eq ?_, (by repeat (first | exact SLe.rfl | refine SLe.tail ?_)), rfl, rfl⟩
      rw [e]; exact congrArg AV.bool (by simp [ha])
    have ha := h
    repeat (first | refine go_ ?_ | intro _)
    refine gsplit (rightT x 20 = true) (by first | (simp; done) | (simp <;> omega) | decide) (fun h => ?_) (fun h => ?_)
    rotate_left
    · have ht := h
      repeat (first | refine ga_ ?_ | intro _)
      refine AW_ret ?_
      repeat (first | refine ⟨0, rfl, ?_⟩ | refine ⟨1, rfl, ?_⟩ | refine ⟨2, rfl, ?_⟩ | refine ⟨3, rfl, ?_⟩ | refine ⟨4, rfl, ?_⟩ | refine ⟨5, rfl, ?_⟩ | refine ⟨6, rfl, ?_⟩)
      refine ⟨_, R, AVle.eq ?_, (by repeat (first | exact SLe.rfl | refine SLe.tail ?_)), rfl, rfl⟩
      rw [e]; exact congrArg AV.bool (by simp [ht])
    have ht := h
    repeat (first | refine go_ ?_ | intro _)
    refine gsplit (x.op = 1) (by first | (simp; done) | (simp <;> omega) | decide) (fun h => ?_) (fun h => ?_)
    · have hx : isX x = true := by simp [isX, h]
      repeat (first | refine ga_ ?_ | intro _)
      refine Or.inl ⟨⟨_, Tryd.func78, rfl, rfl⟩, ACall.mono ?_ (ky _)⟩
      rintro _ S1 ⟨rfl, hS1⟩
      subst S1
      repeat (first | refine go_ ?_ | intro _)
      refine AW_ret ?_
      repeat (first | refine ⟨0, rfl, ?_⟩ | refine ⟨1, rfl, ?_⟩ | refine ⟨2, rfl, ?_⟩ | refine ⟨3, rfl, ?_⟩ | refine ⟨4, rfl, ?_⟩ | refine ⟨5, rfl, ?_⟩ | refine ⟨6, rfl, ?_⟩)
      refine ⟨_, R, AVle.eq ?_, (by repeat (first | exact SLe.rfl | refine SLe.tail ?_)), rfl, rfl⟩
      rw [e, ha, hx, ht]; exact congrArg AV.bool (by simp)
    have hx1 := h
    repeat (first | refine go_ ?_ | intro _)
    refine gsplit (x.op = 2) (by first | (simp; done) | (simp <;> omega) | decide) (fun h => ?_) (fun h => ?_)
    · have hx : isX x = true := by simp [isX, h]
      repeat (first | refine ga_ ?_ | intro _)
      refine Or.inl ⟨⟨_, Tryd.func78, rfl, rfl⟩, ACall.mono ?_ (ky _)⟩
      rintro _ S1 ⟨rfl, hS1⟩
      subst S1
      repeat (first | refine go_ ?_ | intro _)
      refine AW_ret ?_
      repeat (first | refine ⟨0, rfl, ?_⟩ | refine ⟨1, rfl, ?_⟩ | refine ⟨2, rfl, ?_⟩ | refine ⟨3, rfl, ?_⟩ | refine ⟨4, rfl, ?_⟩ | refine ⟨5, rfl, ?_⟩ | refine ⟨6, rfl, ?_⟩)
      refine ⟨_, R, AVle.eq ?_, (by repeat (first | exact SLe.rfl | refine SLe.tail ?_)), rfl, rfl⟩
      rw [e, ha, hx, ht]; exact congrArg AV.bool (by simp)
    have hx : isX x = false := by simp [isX, h, hx1]
    repeat (first | refine ga_ ?_ | intro _)
    refine AW_ret ?_
    repeat (first | refine ⟨0, rfl, ?_⟩ | refine ⟨1, rfl, ?_⟩ | refine ⟨2, rfl, ?_⟩ | refine ⟨3, rfl, ?_⟩ | refine ⟨4, rfl, ?_⟩ | refine ⟨5, rfl, ?_⟩ | refine ⟨6, rfl, ?_⟩)
    refine ⟨_, R, AVle.eq ?_, (by repeat (first | exact SLe.rfl | refine SLe.tail ?_)), rfl, rfl⟩
    rw [e, hx]; exact congrArg AV.bool (by simp)
  by_cases hr : op = 8 ∨ op = 9 ∨ op = 10
  · have e : rightL ⟨op, a, x, y⟩ = (rightA a && ((isX x && decide (y.op = 1)) && (rightT x 20 && rightT y 20))) := by rw [rightL, if_neg ho, if_neg (show ¬ (3 ≤ op ∧ op ≤ 6) by omega), if_neg hq, if_pos (show 8 ≤ op ∧ op ≤ 10 by omega)]
    rcases hr with rfl | rfl | rfl
    · repeat (first | refine ga_ ?_ | intro _)
      all_goals (repeat (first | refine ga_ ?_ | intro _))
      all_goals (try (first | refine AW_cond rfl (fun h => ?_) (fun h => ?_) | refine ⟨fun h => ?_, fun h => ?_⟩))
      all_goals (try (repeat (first | refine ga_ ?_ | intro _)))
      all_goals (try (first | refine AW_cond rfl (fun h => ?_) (fun h => ?_) | refine ⟨fun h => ?_, fun h => ?_⟩))
      all_goals (try (repeat (first | refine ga_ ?_ | intro _)))
      all_goals (try (first | refine AW_cond rfl (fun h => ?_) (fun h => ?_) | refine ⟨fun h => ?_, fun h => ?_⟩))
      all_goals (try (repeat (first | refine ga_ ?_ | intro _)))
      all_goals (try (first | refine AW_cond rfl (fun h => ?_) (fun h => ?_) | refine ⟨fun h => ?_, fun h => ?_⟩))
      all_goals (try (repeat (first | refine ga_ ?_ | intro _)))
      all_goals (try (first | refine AW_cond rfl (fun h => ?_) (fun h => ?_) | refine ⟨fun h => ?_, fun h => ?_⟩))
      all_goals (try (repeat (first | refine ga_ ?_ | intro _)))
      all_goals (try (first | refine AW_cond rfl (fun h => ?_) (fun h => ?_) | refine ⟨fun h => ?_, fun h => ?_⟩))
      all_goals (try (repeat (first | refine ga_ ?_ | intro _)))
      all_goals (refine AW_ret ?_)
      all_goals (refine ⟨_, R, AVle.eq ?_, (by repeat (first | exact SLe.rfl | refine SLe.tail ?_)), rfl, rfl⟩)
      all_goals (clear ka kx ky kna kt ku; show AV.bool _ = AV.bool _; congr 1; rw [e, isX]; clear e; simp_all)
    · repeat (first | refine ga_ ?_ | intro _)
      all_goals (repeat (first | refine ga_ ?_ | intro _))
      all_goals (try (first | refine AW_cond rfl (fun h => ?_) (fun h => ?_) | refine ⟨fun h => ?_, fun h => ?_⟩))
      all_goals (try (repeat (first | refine ga_ ?_ | intro _)))
      all_goals (try (first | refine AW_cond rfl (fun h => ?_) (fun h => ?_) | refine ⟨fun h => ?_, fun h => ?_⟩))
      all_goals (try (repeat (first | refine ga_ ?_ | intro _)))
      all_goals (try (first | refine AW_cond rfl (fun h => ?_) (fun h => ?_) | refine ⟨fun h => ?_, fun h => ?_⟩))
      all_goals (try (repeat (first | refine ga_ ?_ | intro _)))
      all_goals (try (first | refine AW_cond rfl (fun h => ?_) (fun h => ?_) | refine ⟨fun h => ?_, fun h => ?_⟩))
      all_goals (try (repeat (first | refine ga_ ?_ | intro _)))
      all_goals (try (first | refine AW_cond rfl (fun h => ?_) (fun h => ?_) | refine ⟨fun h => ?_, fun h => ?_⟩))
      all_goals (try (repeat (first | refine ga_ ?_ | intro _)))
      all_goals (try (first | refine AW_cond rfl (fun h => ?_) (fun h => ?_) | refine ⟨fun h => ?_, fun h => ?_⟩))
      all_goals (try (repeat (first | refine ga_ ?_ | intro _)))
      all_goals (refine AW_ret ?_)
      all_goals (refine ⟨_, R, AVle.eq ?_, (by repeat (first | exact SLe.rfl | refine SLe.tail ?_)), rfl, rfl⟩)
      all_goals (clear ka kx ky kna kt ku; show AV.bool _ = AV.bool _; congr 1; rw [e, isX]; clear e; simp_all)
    · repeat (first | refine ga_ ?_ | intro _)
      all_goals (repeat (first | refine ga_ ?_ | intro _))
      all_goals (try (first | refine AW_cond rfl (fun h => ?_) (fun h => ?_) | refine ⟨fun h => ?_, fun h => ?_⟩))
      all_goals (try (repeat (first | refine ga_ ?_ | intro _)))
      all_goals (try (first | refine AW_cond rfl (fun h => ?_) (fun h => ?_) | refine ⟨fun h => ?_, fun h => ?_⟩))
      all_goals (try (repeat (first | refine ga_ ?_ | intro _)))
      all_goals (try (first | refine AW_cond rfl (fun h => ?_) (fun h => ?_) | refine ⟨fun h => ?_, fun h => ?_⟩))
      all_goals (try (repeat (first | refine ga_ ?_ | intro _)))
      all_goals (try (first | refine AW_cond rfl (fun h => ?_) (fun h => ?_) | refine ⟨fun h => ?_, fun h => ?_⟩))
      all_goals (try (repeat (first | refine ga_ ?_ | intro _)))
      all_goals (try (first | refine AW_cond rfl (fun h => ?_) (fun h => ?_) | refine ⟨fun h => ?_, fun h => ?_⟩))
      all_goals (try (repeat (first | refine ga_ ?_ | intro _)))
      all_goals (try (first | refine AW_cond rfl (fun h => ?_) (fun h => ?_) | refine ⟨fun h => ?_, fun h => ?_⟩))
      all_goals (try (repeat (first | refine ga_ ?_ | intro _)))
      all_goals (refine AW_ret ?_)
      all_goals (refine ⟨_, R, AVle.eq ?_, (by repeat (first | exact SLe.rfl | refine SLe.tail ?_)), rfl, rfl⟩)
      all_goals (clear ka kx ky kna kt ku; show AV.bool _ = AV.bool _; congr 1; rw [e, isX]; clear e; simp_all)
  have e : rightL ⟨op, a, x, y⟩ = false := by rw [rightL, if_neg ho, if_neg (show ¬ (3 ≤ op ∧ op ≤ 6) by omega), if_neg hq, if_neg (show ¬ (8 ≤ op ∧ op ≤ 10) by omega)]
  repeat (first | refine ga_ ?_ | intro _)
  refine AW_false (b := decide (op = 1)) rfl (by exact decide_eq_false (by omega)) ?_
  repeat (first | refine ga_ ?_ | intro _)
  refine AW_false (b := decide (op = 2)) rfl (by exact decide_eq_false (by omega)) ?_
  repeat (first | refine ga_ ?_ | intro _)
  refine AW_false (b := decide (op = 3)) rfl (by exact decide_eq_false (by omega)) ?_
  repeat (first | refine ga_ ?_ | intro _)
  refine AW_false (b := decide (op = 4)) rfl (by exact decide_eq_false (by omega)) ?_
  repeat (first | refine ga_ ?_ | intro _)
  refine AW_false (b := decide (op = 5)) rfl (by exact decide_eq_false (by omega)) ?_
  repeat (first | refine ga_ ?_ | intro _)
  refine AW_false (b := decide (op = 6)) rfl (by exact decide_eq_false (by omega)) ?_
  repeat (first | refine ga_ ?_ | intro _)
  refine AW_false (b := decide (op = 7)) rfl (by exact decide_eq_false (by omega)) ?_
  repeat (first | refine ga_ ?_ | intro _)
  refine AW_false (b := decide (op = 8)) rfl (by exact decide_eq_false (by omega)) ?_
  repeat (first | refine ga_ ?_ | intro _)
  refine AW_false (b := decide (op = 9)) rfl (by exact decide_eq_false (by omega)) ?_
  repeat (first | refine ga_ ?_ | intro _)
  refine AW_false (b := decide (op = 10)) rfl (by exact decide_eq_false (by omega)) ?_
  repeat (first | refine ga_ ?_ | intro _)
  refine AW_ret ?_
  repeat (first | refine ⟨0, rfl, ?_⟩ | refine ⟨1, rfl, ?_⟩ | refine ⟨2, rfl, ?_⟩ | refine ⟨3, rfl, ?_⟩ | refine ⟨4, rfl, ?_⟩ | refine ⟨5, rfl, ?_⟩ | refine ⟨6, rfl, ?_⟩)
  refine ⟨_, R, AVle.eq ?_, (by repeat (first | exact SLe.rfl | refine SLe.tail ?_)), rfl, rfl⟩
  rw [e]; rfl
end Go.Proofs.YtkmalncnaodkiaaDoor
/-
  Which rules, relations and programs may be, by the book. Own work.
-/
namespace Go.Proofs.YtkmalncnaodkiaaDoor
open Go.Aw Go.RowKit
set_option maxHeartbeats 4000000

theorem rightR_head {r : Ru} (h : rightA r.head = false) : rightR r = false := by simp [rightR, partsL, h]
theorem rightR_len {r : Ru} (h : 20 < r.body.length) : rightR r = false := by
  rw [rightR, partsL]; simp only [List.all_cons]
  rw [decide_eq_false (show ¬ r.body.length ≤ 20 by omega)]; simp
theorem rightR_at {r : Ru} {i : Nat} (h : i < r.head.l.length) (hb : headB r.body.length r.head.l[i] = false) : rightR r = false := by
  rw [rightR, List.all_eq_false]
  exact ⟨_, List.mem_of_getElem? (pl2 h), by rw [hb]; simp⟩
theorem rightR_lit {r : Ru} {i : Nat} (h : i < r.body.length) (hb : rightL r.body[i] = false) : rightR r = false := by
  rw [rightR, List.all_eq_false]
  exact ⟨_, List.mem_of_getElem? (pl3 h), by rw [hb]; simp⟩
theorem rightR_true {r : Ru} (h1 : rightA r.head = true) (h2 : r.body.length ≤ 20) (h3 : ∀ (i : Nat) (h : i < r.head.l.length), headB r.body.length r.head.l[i] = true) (h4 : ∀ (i : Nat) (h : i < r.body.length), rightL r.body[i] = true) : rightR r = true := by
  rw [rightR, partsL]
  simp only [List.all_cons, List.all_append, List.all_map, Bool.and_eq_true]
  refine ⟨h1, decide_eq_true h2, ?_, ?_⟩
  · rw [List.all_eq_true]
    intro x hx
    obtain ⟨i, hi, rfl⟩ := List.mem_iff_getElem.1 hx
    exact h3 i hi
  · rw [List.all_eq_true]
    intro x hx
    obtain ⟨i, hi, rfl⟩ := List.mem_iff_getElem.1 hx
    exact h4 i hi

theorem refRule_ok (r : Ru) (R : List En) : ACall Tryd.prog 29 [encRu r] R (fun v S => v = .bool (rightR r) ∧ S = R) := by
  have ka := refAtom_ok r.head
  refine ACall_body tab_ok Tryd.func29 rfl rfl rfl (by kernel_rfl) (Nat.le_of_ble_eq_true rfl) ?_
  repeat (first | refine go_ ?_ | intro _)
  rename_i p
  refine Or.inl ⟨⟨_, Tryd.func49, rfl, rfl⟩, ACall.mono ?_ (ka _)⟩
  rintro _ S1 ⟨rfl, hS1⟩
  subst S1
  repeat (first | refine go_ ?_ | intro _)
  refine gsplit (rightA r.head = false) (by first | (simp; done) | (simp <;> omega) | decide) (fun h => ?_) (fun h => ?_)
  · repeat (first | refine ga_ ?_ | intro _)
    refine AW_ret ?_
    repeat (first | refine ⟨0, rfl, ?_⟩ | refine ⟨1, rfl, ?_⟩ | refine ⟨2, rfl, ?_⟩ | refine ⟨3, rfl, ?_⟩ | refine ⟨4, rfl, ?_⟩ | refine ⟨5, rfl, ?_⟩ | refine ⟨6, rfl, ?_⟩)
    refine ⟨_, R, AVle.eq ?_, (by repeat (first | exact SLe.rfl | refine SLe.tail ?_)), rfl, rfl⟩
    rw [rightR_head h]; rfl
  have h1 : rightA r.head = true := by simpa using h
  have hl : r.head.l.length ≤ 8 := by
    simp [rightA] at h1; omega
  repeat (first | refine ga_ ?_ | intro _)
  refine AW_iff (20 < r.body.length) rfl (by first | (simp; done) | (simp <;> omega) | decide) (fun h => ?_) (fun h => ?_)
  · repeat (first | refine ga_ ?_ | intro _)
    refine AW_ret ?_
    repeat (first | refine ⟨0, rfl, ?_⟩ | refine ⟨1, rfl, ?_⟩ | refine ⟨2, rfl, ?_⟩ | refine ⟨3, rfl, ?_⟩ | refine ⟨4, rfl, ?_⟩ | refine ⟨5, rfl, ?_⟩ | refine ⟨6, rfl, ?_⟩)
    refine ⟨_, R, AVle.eq ?_, (by repeat (first | exact SLe.rfl | refine SLe.tail ?_)), rfl, rfl⟩
    rw [rightR_len h]; rfl
  have h2 : r.body.length ≤ 20 := by omega
  repeat (first | refine go_ ?_ | intro _)
  refine AW_for (α := Nat) (fun z => ⟨[(1, .ptr p 0), (4, .int .i64 (z : Nat))], []⟩) (fun z => .cells p (cRu r) :: R) (fun z => r.head.l.length - z) (fun z => z ≤ r.head.l.length ∧ ∀ (i : Nat) (hi : i < r.head.l.length), i < z → headB r.body.length r.head.l[i] = true) (0) ?_ (weak_of ?_ rfl ?_) (fun z hz => ?_)
  · exact ⟨by omega, fun i _ h => by omega⟩
  · repeat (first | exact trivial | refine ⟨AVle.refl _, ?_⟩ | refine ⟨AVle.tk, ?_⟩ | refine ⟨AVle.nil, ?_⟩ | refine ⟨AVle.nilFull, ?_⟩ | refine ⟨AVle.eq (congrArg (AV.int .i64) (by first | (simp; done) | (simp; omega) | (rw [wrap_i64 (by first | omega | (simp; omega))]; first | rfl | omega | (simp; done) | (simp; omega)))), ?_⟩)
  · repeat (first | exact SLe.rfl | refine SLe.tail ?_ | refine SLe.full ?_)
  obtain ⟨i1, i2⟩ := hz
  repeat (first | refine go_ ?_ | intro _)
  refine AW_iff (z < r.head.l.length) rfl (by first | (simp; done) | (simp <;> omega) | decide) (fun h => ?_) (fun h => ?_)
  · have hlt := h
    obtain ⟨x, hx⟩ : ∃ x, x = r.head.l[z] := ⟨_, rfl⟩
    have k2 := refTwo_ok x.op
    have bad : headB r.body.length x = false → rightR r = false := fun hb => rightR_at hlt (by rw [← hx]; exact hb)
    repeat (first | refine go_ ?_ | intro _)
    refine at_get (z) (encU x) (by first | rfl | omega | (rw [wrap_i64 (by omega)]; omega)) (by rw [hx]; exact encTs_get hlt) ?_
    repeat (first | refine go_ ?_ | intro _)
    refine gsplit (x.op = 4) (by first | (simp; done) | (simp <;> omega) | decide) (fun h => ?_) (fun h => ?_)
    · repeat (first | refine ga_ ?_ | intro _)
      refine AW_ret ?_
      repeat (first | refine ⟨0, rfl, ?_⟩ | refine ⟨1, rfl, ?_⟩ | refine ⟨2, rfl, ?_⟩ | refine ⟨3, rfl, ?_⟩ | refine ⟨4, rfl, ?_⟩ | refine ⟨5, rfl, ?_⟩ | refine ⟨6, rfl, ?_⟩)
      refine ⟨_, R, AVle.eq ?_, (by repeat (first | exact SLe.rfl | refine SLe.tail ?_)), rfl, rfl⟩
      rw [bad (by simp [headB, h])]; rfl
    have h4 := h
    repeat (first | refine ga_ ?_ | intro _)
    refine Or.inl ⟨⟨_, Tryd.func50, rfl, rfl⟩, ACall.mono ?_ (k2 _)⟩
    rintro _ S1 ⟨rfl, hS1⟩
    subst S1
    repeat (first | refine go_ ?_ | intro _)
    refine gsplit (twoB x.op = true) (by first | (simp; done) | (simp <;> omega) | decide) (fun h => ?_) (fun h => ?_)
    · repeat (first | refine ga_ ?_ | intro _)
      refine AW_ret ?_
      repeat (first | refine ⟨0, rfl, ?_⟩ | refine ⟨1, rfl, ?_⟩ | refine ⟨2, rfl, ?_⟩ | refine ⟨3, rfl, ?_⟩ | refine ⟨4, rfl, ?_⟩ | refine ⟨5, rfl, ?_⟩ | refine ⟨6, rfl, ?_⟩)
      refine ⟨_, R, AVle.eq ?_, (by repeat (first | exact SLe.rfl | refine SLe.tail ?_)), rfl, rfl⟩
      rw [bad (by simp [headB, h])]; rfl
    have h5 : twoB x.op = false := by simpa using h
    repeat (first | refine ga_ ?_ | intro _)
    refine gsplit (x.op = 1) (by first | (simp; done) | (simp <;> omega) | decide) (fun h => ?_) (fun h => ?_)
    · have h6 := h
      repeat (first | refine go_ ?_ | intro _)
      refine AW_iff (r.body.length = 0) rfl (by first | (simp; done) | (simp <;> omega) | decide) (fun h => ?_) (fun h => ?_)
      · repeat (first | refine go_ ?_ | intro _)
        refine AW_ret ?_
        repeat (first | refine ⟨0, rfl, ?_⟩ | refine ⟨1, rfl, ?_⟩ | refine ⟨2, rfl, ?_⟩ | refine ⟨3, rfl, ?_⟩ | refine ⟨4, rfl, ?_⟩ | refine ⟨5, rfl, ?_⟩ | refine ⟨6, rfl, ?_⟩)
        refine ⟨_, R, AVle.eq ?_, (by repeat (first | exact SLe.rfl | refine SLe.tail ?_)), rfl, rfl⟩
        rw [bad (by rw [headB, h5, decide_eq_false h4, decide_eq_true h6, h]; rfl)]; rfl
      · have h7 := h
        repeat (first | refine go_ ?_ | intro _)
        refine ⟨z + 1, ?_, ?_, weak_of ?_ rfl ?_⟩
        · omega
        · refine ⟨by omega, fun i hi hiz => ?_⟩
          by_cases hc : i < z
          · exact i2 i hi hc
          · obtain rfl : i = z := by omega
            rw [← hx]; exact (by rw [headB, h5, decide_eq_false h4, decide_eq_true h6, decide_eq_true (show 0 < r.body.length by omega)]; rfl)
        · repeat (first | exact trivial | refine ⟨AVle.refl _, ?_⟩ | refine ⟨AVle.tk, ?_⟩ | refine ⟨AVle.nil, ?_⟩ | refine ⟨AVle.nilFull, ?_⟩ | refine ⟨AVle.eq (congrArg (AV.int .i64) (by first | (simp; done) | (simp; omega) | (rw [wrap_i64 (by first | omega | (simp; omega))]; first | rfl | omega | (simp; done) | (simp; omega)))), ?_⟩)
        · refine SW.le ?_
          repeat (first | exact SW.nil | refine SW.cons ?_ | refine SW.cells (by repeat (first | exact trivial | refine ⟨AVle.refl _, ?_⟩ | refine ⟨AVle.nilFull, ?_⟩ | refine ⟨AVle.tk, ?_⟩ | refine ⟨AVle.nil, ?_⟩)) rfl ?_ | refine SW.full ?_ | refine SW.drop ?_)
    · have h6 := h
      repeat (first | refine ga_ ?_ | intro _)
      refine ⟨z + 1, ?_, ?_, weak_of ?_ rfl ?_⟩
      · omega
      · refine ⟨by omega, fun i hi hiz => ?_⟩
        by_cases hc : i < z
        · exact i2 i hi hc
        · obtain rfl : i = z := by omega
          rw [← hx]; exact (by rw [headB, h5, decide_eq_false h4, decide_eq_false h6]; rfl)
      · repeat (first | exact trivial | refine ⟨AVle.refl _, ?_⟩ | refine ⟨AVle.tk, ?_⟩ | refine ⟨AVle.nil, ?_⟩ | refine ⟨AVle.nilFull, ?_⟩ | refine ⟨AVle.eq (congrArg (AV.int .i64) (by first | (simp; done) | (simp; omega) | (rw [wrap_i64 (by first | omega | (simp; omega))]; first | rfl | omega | (simp; done) | (simp; omega)))), ?_⟩)
      · refine SW.le ?_
        repeat (first | exact SW.nil | refine SW.cons ?_ | refine SW.cells (by repeat (first | exact trivial | refine ⟨AVle.refl _, ?_⟩ | refine ⟨AVle.nilFull, ?_⟩ | refine ⟨AVle.tk, ?_⟩ | refine ⟨AVle.nil, ?_⟩)) rfl ?_ | refine SW.full ?_ | refine SW.drop ?_)
  · have h3 : ∀ (i : Nat) (h : i < r.head.l.length), headB r.body.length r.head.l[i] = true := fun i hi => i2 i hi (by omega)
    repeat (first | refine go_ ?_ | intro _)
    refine AW_for (α := Nat) (fun z => ⟨[(1, .ptr p 0), (6, .int .i64 (z : Nat))], []⟩) (fun z => .cells p (cRu r) :: R) (fun z => r.body.length - z) (fun z => z ≤ r.body.length ∧ ∀ (i : Nat) (hi : i < r.body.length), i < z → rightL r.body[i] = true) (0) ?_ (weak_of ?_ rfl ?_) (fun z hz => ?_)
    · exact ⟨by omega, fun i _ h => by omega⟩
    · repeat (first | exact trivial | refine ⟨AVle.refl _, ?_⟩ | refine ⟨AVle.tk, ?_⟩ | refine ⟨AVle.nil, ?_⟩ | refine ⟨AVle.nilFull, ?_⟩ | refine ⟨AVle.eq (congrArg (AV.int .i64) (by first | (simp; done) | (simp; omega) | (rw [wrap_i64 (by first | omega | (simp; omega))]; first | rfl | omega | (simp; done) | (simp; omega)))), ?_⟩)
    · repeat (first | exact SLe.rfl | refine SLe.tail ?_ | refine SLe.full ?_)
    obtain ⟨j1, j2⟩ := hz
    repeat (first | refine go_ ?_ | intro _)
    refine AW_iff (z < r.body.length) rfl (by first | (simp; done) | (simp <;> omega) | decide) (fun h => ?_) (fun h => ?_)
    · have hlt := h
      obtain ⟨x, hx⟩ : ∃ x, x = r.body[z] := ⟨_, rfl⟩
      have kl := refLit_ok x
      repeat (first | refine go_ ?_ | intro _)
      refine at_map (z) (by first | rfl | omega | (rw [wrap_i64 (by omega)]; omega)) (by first | assumption | omega) ?_
      rw [← hx]
      repeat (first | refine go_ ?_ | intro _)
      refine Or.inl ⟨⟨_, Tryd.func51, rfl, rfl⟩, ACall.mono ?_ (kl _)⟩
      rintro _ S1 ⟨rfl, hS1⟩
      subst S1
      repeat (first | refine go_ ?_ | intro _)
      refine AW_cond (b := !rightL x) rfl (fun h => ?_) (fun h => ?_)
      · repeat (first | refine go_ ?_ | intro _)
        refine AW_ret ?_
        repeat (first | refine ⟨0, rfl, ?_⟩ | refine ⟨1, rfl, ?_⟩ | refine ⟨2, rfl, ?_⟩ | refine ⟨3, rfl, ?_⟩ | refine ⟨4, rfl, ?_⟩ | refine ⟨5, rfl, ?_⟩ | refine ⟨6, rfl, ?_⟩)
        refine ⟨_, R, AVle.eq ?_, (by repeat (first | exact SLe.rfl | refine SLe.tail ?_)), rfl, rfl⟩
        rw [rightR_lit hlt (by rw [← hx]; simpa using h)]; rfl
      · have hq : rightL x = true := by simpa using h
        repeat (first | refine go_ ?_ | intro _)
        refine ⟨z + 1, ?_, ?_, weak_of ?_ rfl ?_⟩
        · omega
        · refine ⟨by omega, fun i hi hiz => ?_⟩
          by_cases hc : i < z
          · exact j2 i hi hc
          · obtain rfl : i = z := by omega
            rw [← hx]; exact hq
        · repeat (first | exact trivial | refine ⟨AVle.refl _, ?_⟩ | refine ⟨AVle.tk, ?_⟩ | refine ⟨AVle.nil, ?_⟩ | refine ⟨AVle.nilFull, ?_⟩ | refine ⟨AVle.eq (congrArg (AV.int .i64) (by first | (simp; done) | (simp; omega) | (rw [wrap_i64 (by first | omega | (simp; omega))]; first | rfl | omega | (simp; done) | (simp; omega)))), ?_⟩)
        · repeat (first | exact SLe.rfl | refine SLe.tail ?_ | refine SLe.full ?_)
    · repeat (first | refine go_ ?_ | intro _)
      refine AW_ret ?_
      repeat (first | refine ⟨0, rfl, ?_⟩ | refine ⟨1, rfl, ?_⟩ | refine ⟨2, rfl, ?_⟩ | refine ⟨3, rfl, ?_⟩ | refine ⟨4, rfl, ?_⟩ | refine ⟨5, rfl, ?_⟩ | refine ⟨6, rfl, ?_⟩)
      refine ⟨_, R, AVle.eq ?_, (by repeat (first | exact SLe.rfl | refine SLe.tail ?_)), rfl, rfl⟩
      rw [rightR_true h1 h2 h3 (fun i hi => j2 i hi (by omega))]; rfl
end Go.Proofs.YtkmalncnaodkiaaDoor
