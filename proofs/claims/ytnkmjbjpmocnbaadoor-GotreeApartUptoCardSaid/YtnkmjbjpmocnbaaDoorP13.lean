/-
  Which types, statements and files may be; their texts. Own work.
-/
import Derived.Test.YtnkmjbjpmocnbaaDoorP10
import Derived.Test.YtnkmjbjpmocnbaaDoorP7
import Derived.Test.YtnkmjbjpmocnbaaDoorP5
set_option linter.all false
namespace Go.Proofs.YtnkmjbjpmocnbaaDoor
open Go.Aw Go.RowKit

/-! ### which may be -/
mutual
def rightY : Y → Nat → Bool
  | _, 0 => false
  | .mk op s l, h + 1 => if op = 1 ∨ op = 2 ∨ op = 3 then decide (s = []) && decide (l.length = 0) else if op = 4 then ownB s && decide (l.length = 0) else if op = 5 then decide (s = []) && (decide (l.length = 1) && rightYs l h) else false
def rightYs : List Y → Nat → Bool
  | [], _ => true
  | t :: r, h => rightY t h && rightYs r h
end
theorem rightY_eq (t : Y) (h : Nat) : rightY t (h + 1) = if t.op = 1 ∨ t.op = 2 ∨ t.op = 3 then decide (t.s = []) && decide (t.l.length = 0) else if t.op = 4 then ownB t.s && decide (t.l.length = 0) else if t.op = 5 then decide (t.s = []) && (decide (t.l.length = 1) && rightYs t.l h) else false := by cases t; rw [rightY]; rfl
def noY (t : Y) : Bool := decide (t.op = 0) && (decide (t.s = []) && decide (t.l.length = 0))
def noX (t : T) : Bool := decide (t.op = 0) && (decide (t.s = []) && (decide (t.n = 0) && decide (t.l.length = 0)))
/-- a statement may be, if its parts' lists may be -/
def stmtB (z : Z) (L M : Bool) : Bool :=
  if z.op = 1 then ownB z.s && (rightY z.t 60 && (noX z.x && (noX z.y && (decide (z.l.length = 0) && decide (z.m.length = 0)))))
  else if z.op = 2 then ownB z.s && (rightG z.x 60 && (noY z.t && (noX z.y && (decide (z.l.length = 0) && decide (z.m.length = 0)))))
  else if z.op = 3 then rightG z.x 60 && (rightG z.y 60 && (decide (z.s = []) && (noY z.t && (decide (z.l.length = 0) && decide (z.m.length = 0)))))
  else if z.op = 4 then rightG z.x 60 && (L && (M && (decide (z.s = []) && (noY z.t && noX z.y))))
  else if z.op = 5 then rightG z.x 60 && (L && (decide (z.s = []) && (noY z.t && (noX z.y && decide (z.m.length = 0)))))
  else if z.op = 6 then (rightG z.x 60 || noX z.x) && (decide (z.s = []) && (noY z.t && (noX z.y && (decide (z.l.length = 0) && decide (z.m.length = 0)))))
  else if z.op = 7 then rightG z.x 60 && (decide (z.x.op = 9) && (decide (z.s = []) && (noY z.t && (noX z.y && (decide (z.l.length = 0) && decide (z.m.length = 0))))))
  else if z.op = 8 then decide (z.s = []) && (noY z.t && (noX z.x && (noX z.y && (decide (z.l.length = 0) && decide (z.m.length = 0)))))
  else false
mutual
def rightZ : Z → Nat → Bool
  | .mk op s t x y l m, h => stmtB (.mk op s t x y l m) (rightZs l h) (rightZs m h)
def rightZs : List Z → Nat → Bool
  | [], _ => true
  | _ :: _, 0 => false
  | z :: r, h + 1 => rightZ z h && rightZs r (h + 1)
end
end Go.Proofs.YtnkmjbjpmocnbaaDoor
/-
  Which types may be; the program. Own work.
-/
namespace Go.Proofs.YtnkmjbjpmocnbaaDoor
open Go.Aw Go.RowKit
set_option maxHeartbeats 4000000

theorem len0 {α : Type} {l : List α} : l.length = 0 ↔ l = [] := List.length_eq_zero_iff
theorem noType_ok (t : Y) (R : List En) : ACall Tryd.prog 49 [encV t] R (fun v S => v = .bool (noY t) ∧ S = R) := by
  refine ACall_body tab_ok Tryd.func49 rfl rfl rfl (by kernel_rfl) (Nat.le_of_ble_eq_true rfl) ?_
  repeat (first | refine ga_ ?_ | intro _)
  refine gsplit (t.op = 0) decide_eq_true_iff (fun h => ?_) (fun h => ?_)
  · have h1 := h
    repeat (first | refine ga_ ?_ | intro _)
    refine gsplit (t.s = []) decide_eq_true_iff (fun h => ?_) (fun h => ?_)
    · have h2 := h
      repeat (first | refine ga_ ?_ | intro _)
      refine AW_ret ?_
      repeat (first | refine ⟨0, rfl, ?_⟩ | refine ⟨1, rfl, ?_⟩ | refine ⟨2, rfl, ?_⟩ | refine ⟨3, rfl, ?_⟩ | refine ⟨4, rfl, ?_⟩ | refine ⟨5, rfl, ?_⟩ | refine ⟨6, rfl, ?_⟩)
      refine ⟨_, R, AVle.eq ?_, (by repeat (first | exact SLe.rfl | refine SLe.tail ?_)), rfl, rfl⟩
      exact congrArg AV.bool (by rw [noY, decide_eq_true h1, decide_eq_true h2]; simp)
    · repeat (first | refine ga_ ?_ | intro _)
      refine AW_ret ?_
      repeat (first | refine ⟨0, rfl, ?_⟩ | refine ⟨1, rfl, ?_⟩ | refine ⟨2, rfl, ?_⟩ | refine ⟨3, rfl, ?_⟩ | refine ⟨4, rfl, ?_⟩ | refine ⟨5, rfl, ?_⟩ | refine ⟨6, rfl, ?_⟩)
      refine ⟨_, R, AVle.eq ?_, (by repeat (first | exact SLe.rfl | refine SLe.tail ?_)), rfl, rfl⟩
      exact congrArg AV.bool (by rw [noY, decide_eq_false h]; simp)
  · repeat (first | refine ga_ ?_ | intro _)
    refine AW_ret ?_
    repeat (first | refine ⟨0, rfl, ?_⟩ | refine ⟨1, rfl, ?_⟩ | refine ⟨2, rfl, ?_⟩ | refine ⟨3, rfl, ?_⟩ | refine ⟨4, rfl, ?_⟩ | refine ⟨5, rfl, ?_⟩ | refine ⟨6, rfl, ?_⟩)
    refine ⟨_, R, AVle.eq ?_, (by repeat (first | exact SLe.rfl | refine SLe.tail ?_)), rfl, rfl⟩
    exact congrArg AV.bool (by rw [noY, decide_eq_false h]; simp)
theorem noExpr_ok (t : T) (R : List En) : ACall Tryd.prog 101 [encU t] R (fun v S => v = .bool (noX t) ∧ S = R) := by
  refine ACall_body tab_ok Tryd.func101 rfl rfl rfl (by kernel_rfl) (Nat.le_of_ble_eq_true rfl) ?_
  repeat (first | refine ga_ ?_ | intro _)
  refine gsplit (t.op = 0) decide_eq_true_iff (fun h => ?_) (fun h => ?_)
  · have h1 := h
    repeat (first | refine ga_ ?_ | intro _)
    refine gsplit (t.s = []) decide_eq_true_iff (fun h => ?_) (fun h => ?_)
    · have h2 := h
      repeat (first | refine ga_ ?_ | intro _)
      refine gsplit (t.n = 0) decide_eq_true_iff (fun h => ?_) (fun h => ?_)
      · have h3 := h
        repeat (first | refine ga_ ?_ | intro _)
        refine AW_ret ?_
        repeat (first | refine ⟨0, rfl, ?_⟩ | refine ⟨1, rfl, ?_⟩ | refine ⟨2, rfl, ?_⟩ | refine ⟨3, rfl, ?_⟩ | refine ⟨4, rfl, ?_⟩ | refine ⟨5, rfl, ?_⟩ | refine ⟨6, rfl, ?_⟩)
        refine ⟨_, R, AVle.eq ?_, (by repeat (first | exact SLe.rfl | refine SLe.tail ?_)), rfl, rfl⟩
        exact congrArg AV.bool (by rw [noX, decide_eq_true h1, decide_eq_true h2, decide_eq_true h3]; simp)
      · repeat (first | refine ga_ ?_ | intro _)
        refine AW_ret ?_
        repeat (first | refine ⟨0, rfl, ?_⟩ | refine ⟨1, rfl, ?_⟩ | refine ⟨2, rfl, ?_⟩ | refine ⟨3, rfl, ?_⟩ | refine ⟨4, rfl, ?_⟩ | refine ⟨5, rfl, ?_⟩ | refine ⟨6, rfl, ?_⟩)
        refine ⟨_, R, AVle.eq ?_, (by repeat (first | exact SLe.rfl | refine SLe.tail ?_)), rfl, rfl⟩
        exact congrArg AV.bool (by rw [noX, decide_eq_false h]; simp)
    · repeat (first | refine ga_ ?_ | intro _)
      refine AW_ret ?_
      repeat (first | refine ⟨0, rfl, ?_⟩ | refine ⟨1, rfl, ?_⟩ | refine ⟨2, rfl, ?_⟩ | refine ⟨3, rfl, ?_⟩ | refine ⟨4, rfl, ?_⟩ | refine ⟨5, rfl, ?_⟩ | refine ⟨6, rfl, ?_⟩)
      refine ⟨_, R, AVle.eq ?_, (by repeat (first | exact SLe.rfl | refine SLe.tail ?_)), rfl, rfl⟩
      exact congrArg AV.bool (by rw [noX, decide_eq_false h]; simp)
  · repeat (first | refine ga_ ?_ | intro _)
    refine AW_ret ?_
    repeat (first | refine ⟨0, rfl, ?_⟩ | refine ⟨1, rfl, ?_⟩ | refine ⟨2, rfl, ?_⟩ | refine ⟨3, rfl, ?_⟩ | refine ⟨4, rfl, ?_⟩ | refine ⟨5, rfl, ?_⟩ | refine ⟨6, rfl, ?_⟩)
    refine ⟨_, R, AVle.eq ?_, (by repeat (first | exact SLe.rfl | refine SLe.tail ?_)), rfl, rfl⟩
    exact congrArg AV.bool (by rw [noX, decide_eq_false h]; simp)
theorem rightYs_all (l : List Y) (h : Nat) : rightYs l h = l.all fun x => rightY x h := by
  induction l with
  | nil => rw [rightYs]; rfl
  | cons t r ih => rw [rightYs, ih]; rfl
theorem isType_ok : ∀ (h : Nat) (t : Y) (R : List En), spE ∈ R → h ≤ 1000 → ACall Tryd.prog 48 [encV t, .int .i64 (h : Nat)] R (fun v S => v = .bool (rightY t h) ∧ S = R)
  | 0, t, R, hE, _ => by
    refine ACall_body tab_ok Tryd.func48 rfl rfl rfl (by kernel_rfl) (Nat.le_of_ble_eq_true rfl) ?_
    repeat (first | refine ga_ ?_ | intro _)
    refine AW_ret ?_
    repeat (first | refine ⟨0, rfl, ?_⟩ | refine ⟨1, rfl, ?_⟩ | refine ⟨2, rfl, ?_⟩ | refine ⟨3, rfl, ?_⟩ | refine ⟨4, rfl, ?_⟩ | refine ⟨5, rfl, ?_⟩ | refine ⟨6, rfl, ?_⟩)
    refine ⟨_, R, AVle.eq ?_, (by repeat (first | exact SLe.rfl | refine SLe.tail ?_)), rfl, rfl⟩
    cases t; rw [rightY]; rfl
  | m + 1, t, R, hE, hm => by
    have e := rightY_eq t m
    have em : IntKind.i64.wrap (((m + 1 : Nat) : Int) - 1) = (m : Nat) := by rw [wrap_i64 (by omega)]; omega
    refine ACall_body tab_ok Tryd.func48 rfl rfl rfl (by kernel_rfl) (Nat.le_of_ble_eq_true rfl) ?_
    repeat (first | refine ga_ ?_ | intro _)
    rename_i p
    by_cases q1 : t.op = 1
    · rw [if_pos (.inl q1)] at e
      refine AW_true (b := decide (t.op = 1)) rfl (by exact decide_eq_true q1) ?_
      repeat (first | refine ga_ ?_ | intro _)
      refine AW_true (b := decide (t.op = 1)) rfl (by exact decide_eq_true q1) ?_
      repeat (first | refine ga_ ?_ | intro _)
      refine gsplit (t.s = []) decide_eq_true_iff (fun h => ?_) (fun h => ?_)
      · repeat (first | refine ga_ ?_ | intro _)
        refine AW_ret ?_
        repeat (first | refine ⟨0, rfl, ?_⟩ | refine ⟨1, rfl, ?_⟩ | refine ⟨2, rfl, ?_⟩ | refine ⟨3, rfl, ?_⟩ | refine ⟨4, rfl, ?_⟩ | refine ⟨5, rfl, ?_⟩ | refine ⟨6, rfl, ?_⟩)
        refine ⟨_, R, AVle.eq ?_, (by repeat (first | exact SLe.rfl | refine SLe.tail ?_)), rfl, rfl⟩
        exact congrArg AV.bool (by rw [e, decide_eq_true h]; simp)
      · repeat (first | refine ga_ ?_ | intro _)
        refine AW_ret ?_
        repeat (first | refine ⟨0, rfl, ?_⟩ | refine ⟨1, rfl, ?_⟩ | refine ⟨2, rfl, ?_⟩ | refine ⟨3, rfl, ?_⟩ | refine ⟨4, rfl, ?_⟩ | refine ⟨5, rfl, ?_⟩ | refine ⟨6, rfl, ?_⟩)
        refine ⟨_, R, AVle.eq ?_, (by repeat (first | exact SLe.rfl | refine SLe.tail ?_)), rfl, rfl⟩
        exact congrArg AV.bool (by rw [e, decide_eq_false h]; rfl)
    refine AW_false (b := decide (t.op = 1)) rfl (by exact decide_eq_false q1) ?_
    repeat (first | refine ga_ ?_ | intro _)
    by_cases q2 : t.op = 2
    · rw [if_pos (.inr (.inl q2))] at e
      refine AW_true (b := decide (t.op = 2)) rfl (by exact decide_eq_true q2) ?_
      repeat (first | refine ga_ ?_ | intro _)
      refine AW_true (b := decide (t.op = 2)) rfl (by exact decide_eq_true q2) ?_
      repeat (first | refine ga_ ?_ | intro _)
      refine gsplit (t.s = []) decide_eq_true_iff (fun h => ?_) (fun h => ?_)
      · repeat (first | refine ga_ ?_ | intro _)
        refine AW_ret ?_
        repeat (first | refine ⟨0, rfl, ?_⟩ | refine ⟨1, rfl, ?_⟩ | refine ⟨2, rfl, ?_⟩ | refine ⟨3, rfl, ?_⟩ | refine ⟨4, rfl, ?_⟩ | refine ⟨5, rfl, ?_⟩ | refine ⟨6, rfl, ?_⟩)
        refine ⟨_, R, AVle.eq ?_, (by repeat (first | exact SLe.rfl | refine SLe.tail ?_)), rfl, rfl⟩
        exact congrArg AV.bool (by rw [e, decide_eq_true h]; simp)
      · repeat (first | refine ga_ ?_ | intro _)
        refine AW_ret ?_
        repeat (first | refine ⟨0, rfl, ?_⟩ | refine ⟨1, rfl, ?_⟩ | refine ⟨2, rfl, ?_⟩ | refine ⟨3, rfl, ?_⟩ | refine ⟨4, rfl, ?_⟩ | refine ⟨5, rfl, ?_⟩ | refine ⟨6, rfl, ?_⟩)
        refine ⟨_, R, AVle.eq ?_, (by repeat (first | exact SLe.rfl | refine SLe.tail ?_)), rfl, rfl⟩
        exact congrArg AV.bool (by rw [e, decide_eq_false h]; rfl)
    refine AW_false (b := decide (t.op = 2)) rfl (by exact decide_eq_false q2) ?_
    repeat (first | refine ga_ ?_ | intro _)
    by_cases q3 : t.op = 3
    · rw [if_pos (.inr (.inr q3))] at e
      refine AW_true (b := decide (t.op = 3)) rfl (by exact decide_eq_true q3) ?_
      repeat (first | refine ga_ ?_ | intro _)
      refine gsplit (t.s = []) decide_eq_true_iff (fun h => ?_) (fun h => ?_)
      · repeat (first | refine ga_ ?_ | intro _)
        refine AW_ret ?_
        repeat (first | refine ⟨0, rfl, ?_⟩ | refine ⟨1, rfl, ?_⟩ | refine ⟨2, rfl, ?_⟩ | refine ⟨3, rfl, ?_⟩ | refine ⟨4, rfl, ?_⟩ | refine ⟨5, rfl, ?_⟩ | refine ⟨6, rfl, ?_⟩)
        refine ⟨_, R, AVle.eq ?_, (by repeat (first | exact SLe.rfl | refine SLe.tail ?_)), rfl, rfl⟩
        exact congrArg AV.bool (by rw [e, decide_eq_true h]; simp)
      · repeat (first | refine ga_ ?_ | intro _)
        refine AW_ret ?_
        repeat (first | refine ⟨0, rfl, ?_⟩ | refine ⟨1, rfl, ?_⟩ | refine ⟨2, rfl, ?_⟩ | refine ⟨3, rfl, ?_⟩ | refine ⟨4, rfl, ?_⟩ | refine ⟨5, rfl, ?_⟩ | refine ⟨6, rfl, ?_⟩)
        refine ⟨_, R, AVle.eq ?_, (by repeat (first | exact SLe.rfl | refine SLe.tail ?_)), rfl, rfl⟩
        exact congrArg AV.bool (by rw [e, decide_eq_false h]; rfl)
    refine AW_false (b := decide (t.op = 3)) rfl (by exact decide_eq_false q3) ?_
    repeat (first | refine ga_ ?_ | intro _)
    rw [if_neg (show ¬ (t.op = 1 ∨ t.op = 2 ∨ t.op = 3) by omega)] at e
    by_cases q4 : t.op = 4
    · rw [if_pos q4] at e
      refine AW_true (b := decide (t.op = 4)) rfl (by exact decide_eq_true q4) ?_
      repeat (first | refine ga_ ?_ | intro _)
      refine Or.inl ⟨⟨_, Tryd.func9, rfl, rfl⟩, ACall.mono ?_ (isName_ok t.s _ (.tail _ hE))⟩
      rintro _ S1 ⟨rfl, hS1⟩
      subst S1
      repeat (first | refine ga_ ?_ | intro _)
      refine gsplit (ownB t.s = true) (by first | (simp; done) | (simp <;> omega) | decide) (fun h => ?_) (fun h => ?_)
      · repeat (first | refine ga_ ?_ | intro _)
        refine AW_ret ?_
        repeat (first | refine ⟨0, rfl, ?_⟩ | refine ⟨1, rfl, ?_⟩ | refine ⟨2, rfl, ?_⟩ | refine ⟨3, rfl, ?_⟩ | refine ⟨4, rfl, ?_⟩ | refine ⟨5, rfl, ?_⟩ | refine ⟨6, rfl, ?_⟩)
        refine ⟨_, R, AVle.eq ?_, (by repeat (first | exact SLe.rfl | refine SLe.tail ?_)), rfl, rfl⟩
        exact congrArg AV.bool (by rw [e, h]; simp)
      · repeat (first | refine ga_ ?_ | intro _)
        refine AW_ret ?_
        repeat (first | refine ⟨0, rfl, ?_⟩ | refine ⟨1, rfl, ?_⟩ | refine ⟨2, rfl, ?_⟩ | refine ⟨3, rfl, ?_⟩ | refine ⟨4, rfl, ?_⟩ | refine ⟨5, rfl, ?_⟩ | refine ⟨6, rfl, ?_⟩)
        refine ⟨_, R, AVle.eq ?_, (by repeat (first | exact SLe.rfl | refine SLe.tail ?_)), rfl, rfl⟩
        exact congrArg AV.bool (by rw [e, show ownB t.s = false by simpa using h]; rfl)
    refine AW_false (b := decide (t.op = 4)) rfl (by exact decide_eq_false q4) ?_
    rw [if_neg q4] at e
    repeat (first | refine ga_ ?_ | intro _)
    by_cases q5 : t.op = 5
    · rw [if_pos q5] at e
      refine AW_true (b := decide (t.op = 5)) rfl (by exact decide_eq_true q5) ?_
      repeat (first | refine ga_ ?_ | intro _)
      refine gsplit (t.s = []) decide_eq_true_iff (fun h => ?_) (fun h => ?_)
      · have h1 := h
        repeat (first | refine ga_ ?_ | intro _)
        refine gsplit (t.l.length = 1) (by first | (simp; done) | (simp <;> omega) | decide) (fun h => ?_) (fun h => ?_)
        · have h2 := h
          obtain ⟨x, hx⟩ : ∃ x, x = t.l[0]'(by omega) := ⟨_, rfl⟩
          have k := fun R h => isType_ok m x R h (by omega)
          rw [← em] at k
          have ex : rightYs t.l m = rightY x m := by
            rw [rightYs_all]
            cases ht : t.l with
            | nil => rw [ht] at h2; simp at h2
            | cons a r =>
              cases r with
              | nil => rw [hx]; simp [ht]
              | cons b r => rw [ht] at h2; simp at h2
          repeat (first | refine ga_ ?_ | intro _)
          refine at_get (0) (encV x) (by first | rfl | omega | (rw [wrap_i64 (by omega)]; omega)) (by rw [hx]; exact encYs_get (by omega)) ?_
          repeat (first | refine ga_ ?_ | intro _)
          refine Or.inl ⟨⟨_, Tryd.func48, rfl, rfl⟩, ACall.mono ?_ (k _ (.tail _ hE))⟩
          rintro _ S1 ⟨rfl, hS1⟩
          subst S1
          repeat (first | refine ga_ ?_ | intro _)
          refine AW_ret ?_
          repeat (first | refine ⟨0, rfl, ?_⟩ | refine ⟨1, rfl, ?_⟩ | refine ⟨2, rfl, ?_⟩ | refine ⟨3, rfl, ?_⟩ | refine ⟨4, rfl, ?_⟩ | refine ⟨5, rfl, ?_⟩ | refine ⟨6, rfl, ?_⟩)
          refine ⟨_, R, AVle.eq ?_, (by repeat (first | exact SLe.rfl | refine SLe.tail ?_)), rfl, rfl⟩
          exact congrArg AV.bool (show rightY x m = _ by rw [e, decide_eq_true h1, decide_eq_true h2, ex]; simp)
        · repeat (first | refine ga_ ?_ | intro _)
          refine AW_ret ?_
          repeat (first | refine ⟨0, rfl, ?_⟩ | refine ⟨1, rfl, ?_⟩ | refine ⟨2, rfl, ?_⟩ | refine ⟨3, rfl, ?_⟩ | refine ⟨4, rfl, ?_⟩ | refine ⟨5, rfl, ?_⟩ | refine ⟨6, rfl, ?_⟩)
          refine ⟨_, R, AVle.eq ?_, (by repeat (first | exact SLe.rfl | refine SLe.tail ?_)), rfl, rfl⟩
          exact congrArg AV.bool (by rw [e, decide_eq_false h]; simp)
      · repeat (first | refine ga_ ?_ | intro _)
        refine AW_ret ?_
        repeat (first | refine ⟨0, rfl, ?_⟩ | refine ⟨1, rfl, ?_⟩ | refine ⟨2, rfl, ?_⟩ | refine ⟨3, rfl, ?_⟩ | refine ⟨4, rfl, ?_⟩ | refine ⟨5, rfl, ?_⟩ | refine ⟨6, rfl, ?_⟩)
        refine ⟨_, R, AVle.eq ?_, (by repeat (first | exact SLe.rfl | refine SLe.tail ?_)), rfl, rfl⟩
        exact congrArg AV.bool (by rw [e, decide_eq_false h]; rfl)
    refine AW_false (b := decide (t.op = 5)) rfl (by exact decide_eq_false q5) ?_
    repeat (first | refine ga_ ?_ | intro _)
    refine AW_ret ?_
    repeat (first | refine ⟨0, rfl, ?_⟩ | refine ⟨1, rfl, ?_⟩ | refine ⟨2, rfl, ?_⟩ | refine ⟨3, rfl, ?_⟩ | refine ⟨4, rfl, ?_⟩ | refine ⟨5, rfl, ?_⟩ | refine ⟨6, rfl, ?_⟩)
    refine ⟨_, R, AVle.eq ?_, (by repeat (first | exact SLe.rfl | refine SLe.tail ?_)), rfl, rfl⟩
    rw [e, if_neg q5]; rfl
end Go.Proofs.YtnkmjbjpmocnbaaDoor
/-
  Which statements may be; the program. Own work.
-/
namespace Go.Proofs.YtnkmjbjpmocnbaaDoor
open Go.Aw Go.RowKit
set_option maxHeartbeats 4000000

def Y0 : Y := .mk 0 [] []
def T0 : T := .mk 0 [] 0 []
theorem noY0 : noY Y0 = true := rfl
theorem noX0 : noX T0 = true := rfl
/-- is nothing left? -/
def finB (z : Z) : Bool := decide (z.s = []) && (noY z.t && (noX z.x && (noX z.y && (decide (z.l.length = 0) && decide (z.m.length = 0)))))
theorem rightZ_eq (z : Z) (h : Nat) : rightZ z h = stmtB z (rightZs z.l h) (rightZs z.m h) := by cases z; rw [rightZ]; rfl
theorem rightZs_0 (l : List Z) : rightZs l 0 = l.all fun _ => false := by cases l <;> rfl
theorem rightZs_all (l : List Z) (h : Nat) : rightZs l (h + 1) = l.all fun z => rightZ z h := by
  induction l with
  | nil => rw [rightZs]; rfl
  | cons t r ih => rw [rightZs, ih]; rfl

theorem indexZ_ok (qf : Z → Bool) (l : List Z) (q : Nat) (c : AV) (R : List En) (hll : l.length ≤ 9223372036854775807)
    (kx : ∀ x ∈ l, ACall Tryd.prog 79 [encSt x, .ptr q 0] (.cells q [c] :: R) (fun v S => v = .bool (qf x) ∧ S = .cells q [c] :: R)) :
    ACall Tryd.prog 100 [.sl 15 (encZs l) .no, .fn (.func 79) [] [.ptr q 0]] (.cells q [c] :: R)
      (fun v S => v = .int .i64 (idxB qf l) ∧ S = .cells q [c] :: R) := by
  refine ACall_body tab_ok Tryd.func100 rfl rfl rfl (by kernel_rfl) (Nat.le_of_ble_eq_true rfl) ?_
  repeat (first | refine go_ ?_ | intro _)
  refine AW_for (α := Nat) (fun z => ⟨[(0, .sl 15 (encZs l) .no), (1, .fn (.func 79) [] [.ptr q 0]), (7, .int .i64 (l.length : Nat)), (8, .int .i64 (z : Nat))], []⟩) (fun z => .cells q [c] :: R) (fun z => l.length - z) (fun z => z ≤ l.length ∧ ∀ (i : Nat) (hi : i < l.length), i < z → qf l[i] = false) (0) ?_ (weak_of ?_ rfl ?_) (fun z hz => ?_)
  · exact ⟨by omega, fun i _ h => by omega⟩
  · repeat (first | exact trivial | refine ⟨(AVle.eq (congrArg (AV.int .i64) (by simp))), ?_⟩ | refine ⟨AVle.refl _, ?_⟩ | refine ⟨AVle.tk, ?_⟩ | refine ⟨AVle.nil, ?_⟩ | refine ⟨AVle.nilFull, ?_⟩ | refine ⟨AVle.eq (congrArg (AV.int .i64) (by first | (simp; done) | (simp; omega) | (rw [wrap_i64 (by first | omega | (simp; omega))]; first | rfl | omega | (simp; done) | (simp; omega)))), ?_⟩)
  · repeat (first | exact SLe.rfl | refine SLe.tail ?_ | refine SLe.full ?_)
  obtain ⟨i1, i2⟩ := hz
  repeat (first | refine go_ ?_ | intro _)
  refine AW_iff (z < l.length) rfl (by first | (simp; done) | (simp <;> omega) | decide) (fun h => ?_) (fun h => ?_)
  · have hlt := h
    obtain ⟨x, hx⟩ : ∃ x, x = l[z] := ⟨_, rfl⟩
    repeat (first | refine go_ ?_ | intro _)
    refine at_get (z) (encSt x) (by first | rfl | omega | (rw [wrap_i64 (by omega)]; omega)) (by rw [hx]; exact encZs_get hlt) ?_
    repeat (first | refine go_ ?_ | intro _)
    refine Or.inl ⟨⟨_, Tryd.func79, rfl, rfl⟩, ACall.mono ?_ (kx x (hx ▸ List.getElem_mem hlt))⟩
    rintro _ S1 ⟨rfl, hS1⟩
    subst S1
    refine AW_cond (b := qf x) rfl (fun h => ?_) (fun h => ?_)
    · repeat (first | refine go_ ?_ | intro _)
      refine AW_ret ?_
      repeat (first | refine ⟨0, rfl, ?_⟩ | refine ⟨1, rfl, ?_⟩ | refine ⟨2, rfl, ?_⟩ | refine ⟨3, rfl, ?_⟩ | refine ⟨4, rfl, ?_⟩ | refine ⟨5, rfl, ?_⟩ | refine ⟨6, rfl, ?_⟩)
      refine ⟨_, .cells q [c] :: R, AVle.eq ?_, (by repeat (first | exact SLe.rfl | refine SLe.tail ?_)), rfl, rfl⟩
      exact congrArg (AV.int .i64) (idxB_some (q := qf) hlt (by rw [← hx]; exact h) i2).symm
    · have hq := h
      repeat (first | refine go_ ?_ | intro _)
      refine ⟨z + 1, ?_, ?_, weak_of ?_ rfl ?_⟩
      · omega
      · refine ⟨by omega, fun i hi hiz => ?_⟩
        by_cases hc : i < z
        · exact i2 i hi hc
        · obtain rfl : i = z := by omega
          rw [← hx]; exact hq
      · repeat (first | exact trivial | refine ⟨AVle.refl _, ?_⟩ | refine ⟨AVle.tk, ?_⟩ | refine ⟨AVle.nil, ?_⟩ | refine ⟨AVle.nilFull, ?_⟩ | refine ⟨AVle.eq (congrArg (AV.int .i64) (by first | (simp; done) | (simp; omega) | (rw [wrap_i64 (by first | omega | (simp; omega))]; first | rfl | omega | (simp; done) | (simp; omega)))), ?_⟩)
      · repeat (first | exact SLe.rfl | refine SLe.tail ?_ | refine SLe.full ?_)
  · repeat (first | refine go_ ?_ | intro _)
    refine AW_ret ?_
    repeat (first | refine ⟨0, rfl, ?_⟩ | refine ⟨1, rfl, ?_⟩ | refine ⟨2, rfl, ?_⟩ | refine ⟨3, rfl, ?_⟩ | refine ⟨4, rfl, ?_⟩ | refine ⟨5, rfl, ?_⟩ | refine ⟨6, rfl, ?_⟩)
    refine ⟨_, .cells q [c] :: R, AVle.eq ?_, (by repeat (first | exact SLe.rfl | refine SLe.tail ?_)), rfl, rfl⟩
    exact congrArg (AV.int .i64) (idxB_none (q := qf) (fun i hi => i2 i hi (by omega))).symm
theorem containsZ_ok (qf : Z → Bool) (l : List Z) (q : Nat) (c : AV) (R : List En) (hll : l.length ≤ 9223372036854775807)
    (kx : ∀ x ∈ l, ACall Tryd.prog 79 [encSt x, .ptr q 0] (.cells q [c] :: R) (fun v S => v = .bool (qf x) ∧ S = .cells q [c] :: R)) :
    ACall Tryd.prog 78 [.sl 15 (encZs l) .no, .fn (.func 79) [] [.ptr q 0]] (.cells q [c] :: R)
      (fun v S => v = .bool (l.any qf) ∧ S = .cells q [c] :: R) := by
  refine ACall_body tab_ok Tryd.func78 rfl rfl rfl (by kernel_rfl) (Nat.le_of_ble_eq_true rfl) ?_
  repeat (first | refine go_ ?_ | intro _)
  refine Or.inl ⟨⟨_, Tryd.func100, rfl, rfl⟩, ACall.mono ?_ (indexZ_ok qf l q c R hll kx)⟩
  rintro _ S1 ⟨rfl, hS1⟩
  subst S1
  repeat (first | refine go_ ?_ | intro _)
  refine AW_ret ?_
  repeat (first | refine ⟨0, rfl, ?_⟩ | refine ⟨1, rfl, ?_⟩ | refine ⟨2, rfl, ?_⟩ | refine ⟨3, rfl, ?_⟩ | refine ⟨4, rfl, ?_⟩ | refine ⟨5, rfl, ?_⟩ | refine ⟨6, rfl, ?_⟩)
  refine ⟨_, .cells q [c] :: R, AVle.eq ?_, (by repeat (first | exact SLe.rfl | refine SLe.tail ?_)), rfl, rfl⟩
  exact congrArg AV.bool (idxB_any _ l)

/-- what is known of lists of statements, of so many levels -/
def KS (h : Nat) (l : List Z) : Prop := ∀ R, spE ∈ R → ACall Tryd.prog 50 [.sl 15 (encZs l) .no, .int .i64 (h : Nat)] R (fun v S => v = .bool (rightZs l h) ∧ S = R)
theorem finB_mk (o : Int) (s : List UInt8) (t : Y) (x y : T) (l m : List Z) : finB (.mk o s t x y l m) = (decide (s = []) && (noY t && (noX x && (noX y && (decide (l.length = 0) && decide (m.length = 0)))))) := rfl
theorem isStmt_ok (hn : Nat) (st : Z) (R : List En) (hE : spE ∈ R) (hh : hn ≤ 1000) (kl : KS hn st.l) (km : KS hn st.m) (ll : st.l.length ≤ 3000) (lm : st.m.length ≤ 3000) : ACall Tryd.prog 80 [encSt st, .int .i64 ((hn + 1 : Nat) : Int)] R (fun v S => v = .bool (rightZ st hn) ∧ S = R) := by
  have e := rightZ_eq st hn
  unfold stmtB at e
  have em : IntKind.i64.wrap (((hn + 1 : Nat) : Int) - 1) = (hn : Nat) := by rw [wrap_i64 (by omega)]; omega
  unfold KS at kl km
  rw [← em] at kl km
  refine ACall_body tab_ok Tryd.func80 rfl rfl rfl (by kernel_rfl) (Nat.le_of_ble_eq_true rfl) ?_
  refine AW_cut3 (α := Nat × Nat) (fun z => ⟨[(1, .int .i64 ((hn + 1 : Nat) : Int)), (2, .ptr z.1 0), (5, .ptr z.2 0), (6, .bool true)], []⟩) (fun z => .cells z.2 (cZ st) :: .cells z.1 (cZ st) :: R) (fun z => True) ?_ (fun z hz => ?_)
  · repeat (first | refine go_ ?_ | intro _)
    rename_i p q
    refine ⟨((p, q) : Nat × Nat), ?_, weak_of ?_ rfl ?_⟩
    · trivial
    · repeat (first | exact trivial | refine ⟨AVle.refl _, ?_⟩ | refine ⟨AVle.tk, ?_⟩ | refine ⟨AVle.nil, ?_⟩ | refine ⟨AVle.nilFull, ?_⟩ | refine ⟨AVle.eq (congrArg (AV.int .i64) (by first | (simp; done) | (simp; omega) | (rw [wrap_i64 (by first | omega | (simp; omega))]; first | rfl | omega | (simp; done) | (simp; omega)))), ?_⟩)
    · refine SW.le ?_
      repeat (first | exact SW.nil | refine SW.cons ?_ | refine SW.cells (by repeat (first | exact trivial | refine ⟨AVle.refl _, ?_⟩ | refine ⟨AVle.nilFull, ?_⟩ | refine ⟨AVle.tk, ?_⟩ | refine ⟨AVle.nil, ?_⟩)) rfl ?_ | refine SW.full ?_ | refine SW.drop ?_)
  obtain ⟨p, q⟩ := z
  clear hz
  refine AW_cut1 (α := Bool × Z) (fun z => ⟨[(5, .ptr q 0), (6, .bool z.1)], []⟩) (fun z => .cells q (cZ z.2) :: .cells p (cZ st) :: R) (fun z => rightZ st hn = (z.1 && finB z.2)) ?_ (fun z hz => ?_)
  · repeat (first | refine ga_ ?_ | intro _)
    by_cases q1 : st.op = 1
    · rw [if_pos q1] at e
      refine AW_true (b := decide (st.op = 1)) rfl (by exact decide_eq_true q1) ?_
      repeat (first | refine ga_ ?_ | intro _)
      refine Or.inl ⟨⟨_, Tryd.func9, rfl, rfl⟩, ACall.mono ?_ (isName_ok st.s _ (.tail _ (.tail _ hE)))⟩
      rintro _ S1 ⟨rfl, hS1⟩
      subst S1
      repeat (first | refine ga_ ?_ | intro _)
      refine gsplit (ownB st.s = true) (by first | (simp; done) | (simp <;> omega) | decide) (fun h => ?_) (fun h => ?_)
      · have g1 := h
        repeat (first | refine ga_ ?_ | intro _)
        refine Or.inl ⟨⟨_, Tryd.func48, rfl, rfl⟩, ACall.mono ?_ (isType_ok 60 st.t _ (.tail _ (.tail _ hE)) (by omega))⟩
        rintro _ S1 ⟨rfl, hS1⟩
        subst S1
        repeat (first | refine ga_ ?_ | intro _)
        refine ⟨((rightY st.t 60, Z.mk st.op [] Y0 st.x st.y st.l st.m) : Bool × Z), ?_, weak_of ?_ rfl ?_⟩
        · show _ = _
          rw [e]; simp [finB_mk, noY0, noX0, Bool.and_assoc, g1]
        · repeat (first | exact trivial | refine ⟨AVle.refl _, ?_⟩ | refine ⟨AVle.tk, ?_⟩ | refine ⟨AVle.nil, ?_⟩ | refine ⟨AVle.nilFull, ?_⟩ | refine ⟨AVle.eq (congrArg (AV.int .i64) (by first | (simp; done) | (simp; omega) | (rw [wrap_i64 (by first | omega | (simp; omega))]; first | rfl | omega | (simp; done) | (simp; omega)))), ?_⟩)
        · refine SW.le ?_
          repeat (first | exact SW.nil | refine SW.cons ?_ | refine SW.cells (by repeat (first | exact trivial | refine ⟨AVle.refl _, ?_⟩ | refine ⟨AVle.nilFull, ?_⟩ | refine ⟨AVle.tk, ?_⟩ | refine ⟨AVle.nil, ?_⟩)) rfl ?_ | refine SW.full ?_ | refine SW.drop ?_)
      · have g1 : ownB st.s = false := by simpa using h
        repeat (first | refine ga_ ?_ | intro _)
        refine ⟨((false, Z.mk st.op [] Y0 st.x st.y st.l st.m) : Bool × Z), ?_, weak_of ?_ rfl ?_⟩
        · show _ = _
          rw [e]; simp [finB_mk, noY0, noX0, Bool.and_assoc, g1]
        · repeat (first | exact trivial | refine ⟨AVle.refl _, ?_⟩ | refine ⟨AVle.tk, ?_⟩ | refine ⟨AVle.nil, ?_⟩ | refine ⟨AVle.nilFull, ?_⟩ | refine ⟨AVle.eq (congrArg (AV.int .i64) (by first | (simp; done) | (simp; omega) | (rw [wrap_i64 (by first | omega | (simp; omega))]; first | rfl | omega | (simp; done) | (simp; omega)))), ?_⟩)
        · refine SW.le ?_
          repeat (first | exact SW.nil | refine SW.cons ?_ | refine SW.cells (by repeat (first | exact trivial | refine ⟨AVle.refl _, ?_⟩ | refine ⟨AVle.nilFull, ?_⟩ | refine ⟨AVle.tk, ?_⟩ | refine ⟨AVle.nil, ?_⟩)) rfl ?_ | refine SW.full ?_ | refine SW.drop ?_)
    refine AW_false (b := decide (st.op = 1)) rfl (by exact decide_eq_false q1) ?_
    rw [if_neg q1] at e
    repeat (first | refine ga_ ?_ | intro _)
    by_cases q2 : st.op = 2
    · rw [if_pos q2] at e
      refine AW_true (b := decide (st.op = 2)) rfl (by exact decide_eq_true q2) ?_
      repeat (first | refine ga_ ?_ | intro _)
      refine Or.inl ⟨⟨_, Tryd.func9, rfl, rfl⟩, ACall.mono ?_ (isName_ok st.s _ (.tail _ (.tail _ hE)))⟩
      rintro _ S1 ⟨rfl, hS1⟩
      subst S1
      repeat (first | refine ga_ ?_ | intro _)
      refine gsplit (ownB st.s = true) (by first | (simp; done) | (simp <;> omega) | decide) (fun h => ?_) (fun h => ?_)
      · have g1 := h
        repeat (first | refine ga_ ?_ | intro _)
        refine Or.inl ⟨⟨_, Tryd.func14, rfl, rfl⟩, ACall.mono ?_ (rightExpr_ok st.x _ (.tail _ (.tail _ hE)))⟩
        rintro _ S1 ⟨rfl, hS1⟩
        subst S1
        repeat (first | refine ga_ ?_ | intro _)
        refine ⟨((rightG st.x 60, Z.mk st.op [] st.t T0 st.y st.l st.m) : Bool × Z), ?_, weak_of ?_ rfl ?_⟩
        · show _ = _
          rw [e]; simp [finB_mk, noY0, noX0, Bool.and_assoc, g1]
        · repeat (first | exact trivial | refine ⟨AVle.refl _, ?_⟩ | refine ⟨AVle.tk, ?_⟩ | refine ⟨AVle.nil, ?_⟩ | refine ⟨AVle.nilFull, ?_⟩ | refine ⟨AVle.eq (congrArg (AV.int .i64) (by first | (simp; done) | (simp; omega) | (rw [wrap_i64 (by first | omega | (simp; omega))]; first | rfl | omega | (simp; done) | (simp; omega)))), ?_⟩)
        · refine SW.le ?_
          repeat (first | exact SW.nil | refine SW.cons ?_ | refine SW.cells (by repeat (first | exact trivial | refine ⟨AVle.refl _, ?_⟩ | refine ⟨AVle.nilFull, ?_⟩ | refine ⟨AVle.tk, ?_⟩ | refine ⟨AVle.nil, ?_⟩)) rfl ?_ | refine SW.full ?_ | refine SW.drop ?_)
      · have g1 : ownB st.s = false := by simpa using h
        repeat (first | refine ga_ ?_ | intro _)
        refine ⟨((false, Z.mk st.op [] st.t T0 st.y st.l st.m) : Bool × Z), ?_, weak_of ?_ rfl ?_⟩
        · show _ = _
          rw [e]; simp [finB_mk, noY0, noX0, Bool.and_assoc, g1]
        · repeat (first | exact trivial | refine ⟨AVle.refl _, ?_⟩ | refine ⟨AVle.tk, ?_⟩ | refine ⟨AVle.nil, ?_⟩ | refine ⟨AVle.nilFull, ?_⟩ | refine ⟨AVle.eq (congrArg (AV.int .i64) (by first | (simp; done) | (simp; omega) | (rw [wrap_i64 (by first | omega | (simp; omega))]; first | rfl | omega | (simp; done) | (simp; omega)))), ?_⟩)
        · refine SW.le ?_
          repeat (first | exact SW.nil | refine SW.cons ?_ | refine SW.cells (by repeat (first | exact trivial | refine ⟨AVle.refl _, ?_⟩ | refine ⟨AVle.nilFull, ?_⟩ | refine ⟨AVle.tk, ?_⟩ | refine ⟨AVle.nil, ?_⟩)) rfl ?_ | refine SW.full ?_ | refine SW.drop ?_)
    refine AW_false (b := decide (st.op = 2)) rfl (by exact decide_eq_false q2) ?_
    rw [if_neg q2] at e
    repeat (first | refine ga_ ?_ | intro _)
    by_cases q3 : st.op = 3
    · rw [if_pos q3] at e
      refine AW_true (b := decide (st.op = 3)) rfl (by exact decide_eq_true q3) ?_
      repeat (first | refine ga_ ?_ | intro _)
      refine Or.inl ⟨⟨_, Tryd.func14, rfl, rfl⟩, ACall.mono ?_ (rightExpr_ok st.x _ (.tail _ (.tail _ hE)))⟩
      rintro _ S1 ⟨rfl, hS1⟩
      subst S1
      repeat (first | refine ga_ ?_ | intro _)
      refine gsplit (rightG st.x 60 = true) (by first | (simp; done) | (simp <;> omega) | decide) (fun h => ?_) (fun h => ?_)
      · have g1 := h
        repeat (first | refine ga_ ?_ | intro _)
        refine Or.inl ⟨⟨_, Tryd.func14, rfl, rfl⟩, ACall.mono ?_ (rightExpr_ok st.y _ (.tail _ (.tail _ hE)))⟩
        rintro _ S1 ⟨rfl, hS1⟩
        subst S1
        repeat (first | refine ga_ ?_ | intro _)
        refine ⟨((rightG st.y 60, Z.mk st.op st.s st.t T0 T0 st.l st.m) : Bool × Z), ?_, weak_of ?_ rfl ?_⟩
        · show _ = _
          rw [e]; simp [finB_mk, noY0, noX0, Bool.and_assoc, g1]
        · repeat (first | exact trivial | refine ⟨AVle.refl _, ?_⟩ | refine ⟨AVle.tk, ?_⟩ | refine ⟨AVle.nil, ?_⟩ | refine ⟨AVle.nilFull, ?_⟩ | refine ⟨AVle.eq (congrArg (AV.int .i64) (by first | (simp; done) | (simp; omega) | (rw [wrap_i64 (by first | omega | (simp; omega))]; first | rfl | omega | (simp; done) | (simp; omega)))), ?_⟩)
        · refine SW.le ?_
          repeat (first | exact SW.nil | refine SW.cons ?_ | refine SW.cells (by repeat (first | exact trivial | refine ⟨AVle.refl _, ?_⟩ | refine ⟨AVle.nilFull, ?_⟩ | refine ⟨AVle.tk, ?_⟩ | refine ⟨AVle.nil, ?_⟩)) rfl ?_ | refine SW.full ?_ | refine SW.drop ?_)
      · have g1 : rightG st.x 60 = false := by simpa using h
        repeat (first | refine ga_ ?_ | intro _)
        refine ⟨((false, Z.mk st.op st.s st.t T0 T0 st.l st.m) : Bool × Z), ?_, weak_of ?_ rfl ?_⟩
        · show _ = _
          rw [e]; simp [finB_mk, noY0, noX0, Bool.and_assoc, g1]
        · repeat (first | exact trivial | refine ⟨AVle.refl _, ?_⟩ | refine ⟨AVle.tk, ?_⟩ | refine ⟨AVle.nil, ?_⟩ | refine ⟨AVle.nilFull, ?_⟩ | refine ⟨AVle.eq (congrArg (AV.int .i64) (by first | (simp; done) | (simp; omega) | (rw [wrap_i64 (by first | omega | (simp; omega))]; first | rfl | omega | (simp; done) | (simp; omega)))), ?_⟩)
        · refine SW.le ?_
          repeat (first | exact SW.nil | refine SW.cons ?_ | refine SW.cells (by repeat (first | exact trivial | refine ⟨AVle.refl _, ?_⟩ | refine ⟨AVle.nilFull, ?_⟩ | refine ⟨AVle.tk, ?_⟩ | refine ⟨AVle.nil, ?_⟩)) rfl ?_ | refine SW.full ?_ | refine SW.drop ?_)
    refine AW_false (b := decide (st.op = 3)) rfl (by exact decide_eq_false q3) ?_
    rw [if_neg q3] at e
    repeat (first | refine ga_ ?_ | intro _)
    by_cases q4 : st.op = 4
    · rw [if_pos q4] at e
      refine AW_true (b := decide (st.op = 4)) rfl (by exact decide_eq_true q4) ?_
      repeat (first | refine ga_ ?_ | intro _)
      refine Or.inl ⟨⟨_, Tryd.func14, rfl, rfl⟩, ACall.mono ?_ (rightExpr_ok st.x _ (.tail _ (.tail _ hE)))⟩
      rintro _ S1 ⟨rfl, hS1⟩
      subst S1
      repeat (first | refine ga_ ?_ | intro _)
      refine gsplit (rightG st.x 60 = true) (by first | (simp; done) | (simp <;> omega) | decide) (fun h => ?_) (fun h => ?_)
      · have g1 := h
        repeat (first | refine ga_ ?_ | intro _)
        refine Or.inl ⟨⟨_, Tryd.func50, rfl, rfl⟩, ACall.mono ?_ (kl _ (.tail _ (.tail _ hE)))⟩
        rintro _ S1 ⟨rfl, hS1⟩
        subst S1
        repeat (first | refine ga_ ?_ | intro _)
        refine gsplit (rightZs st.l hn = true) (by first | (simp; done) | (simp <;> omega) | decide) (fun h => ?_) (fun h => ?_)
        · have g2 := h
          repeat (first | refine ga_ ?_ | intro _)
          refine Or.inl ⟨⟨_, Tryd.func50, rfl, rfl⟩, ACall.mono ?_ (km _ (.tail _ (.tail _ hE)))⟩
          rintro _ S1 ⟨rfl, hS1⟩
          subst S1
          repeat (first | refine ga_ ?_ | intro _)
          refine ⟨((rightZs st.m hn, Z.mk st.op st.s st.t T0 st.y [] []) : Bool × Z), ?_, weak_of ?_ rfl ?_⟩
          · show _ = _
            rw [e]; simp [finB_mk, noY0, noX0, Bool.and_assoc, g1, g2]
          · repeat (first | exact trivial | refine ⟨AVle.refl _, ?_⟩ | refine ⟨AVle.tk, ?_⟩ | refine ⟨AVle.nil, ?_⟩ | refine ⟨AVle.nilFull, ?_⟩ | refine ⟨AVle.eq (congrArg (AV.int .i64) (by first | (simp; done) | (simp; omega) | (rw [wrap_i64 (by first | omega | (simp; omega))]; first | rfl | omega | (simp; done) | (simp; omega)))), ?_⟩)
          · refine SW.le ?_
            repeat (first | exact SW.nil | refine SW.cons ?_ | refine SW.cells (by repeat (first | exact trivial | refine ⟨AVle.refl _, ?_⟩ | refine ⟨AVle.nilFull, ?_⟩ | refine ⟨AVle.tk, ?_⟩ | refine ⟨AVle.nil, ?_⟩)) rfl ?_ | refine SW.full ?_ | refine SW.drop ?_)
        · have g2 : rightZs st.l hn = false := by simpa using h
          repeat (first | refine ga_ ?_ | intro _)
          refine ⟨((false, Z.mk st.op st.s st.t T0 st.y [] []) : Bool × Z), ?_, weak_of ?_ rfl ?_⟩
          · show _ = _
            rw [e]; simp [finB_mk, noY0, noX0, Bool.and_assoc, g1, g2]
          · repeat (first | exact trivial | refine ⟨AVle.refl _, ?_⟩ | refine ⟨AVle.tk, ?_⟩ | refine ⟨AVle.nil, ?_⟩ | refine ⟨AVle.nilFull, ?_⟩ | refine ⟨AVle.eq (congrArg (AV.int .i64) (by first | (simp; done) | (simp; omega) | (rw [wrap_i64 (by first | omega | (simp; omega))]; first | rfl | omega | (simp; done) | (simp; omega)))), ?_⟩)
          · refine SW.le ?_
            repeat (first | exact SW.nil | refine SW.cons ?_ | refine SW.cells (by repeat (first | exact trivial | refine ⟨AVle.refl _, ?_⟩ | refine ⟨AVle.nilFull, ?_⟩ | refine ⟨AVle.tk, ?_⟩ | refine ⟨AVle.nil, ?_⟩)) rfl ?_ | refine SW.full ?_ | refine SW.drop ?_)
      · have g1 : rightG st.x 60 = false := by simpa using h
        repeat (first | refine ga_ ?_ | intro _)
        refine ⟨((false, Z.mk st.op st.s st.t T0 st.y [] []) : Bool × Z), ?_, weak_of ?_ rfl ?_⟩
        · show _ = _
          rw [e]; simp [finB_mk, noY0, noX0, Bool.and_assoc, g1]
        · repeat (first | exact trivial | refine ⟨AVle.refl _, ?_⟩ | refine ⟨AVle.tk, ?_⟩ | refine ⟨AVle.nil, ?_⟩ | refine ⟨AVle.nilFull, ?_⟩ | refine ⟨AVle.eq (congrArg (AV.int .i64) (by first | (simp; done) | (simp; omega) | (rw [wrap_i64 (by first | omega | (simp; omega))]; first | rfl | omega | (simp; done) | (simp; omega)))), ?_⟩)
        · refine SW.le ?_
          repeat (first | exact SW.nil | refine SW.cons ?_ | refine SW.cells (by repeat (first | exact trivial | refine ⟨AVle.refl _, ?_⟩ | refine ⟨AVle.nilFull, ?_⟩ | refine ⟨AVle.tk, ?_⟩ | refine ⟨AVle.nil, ?_⟩)) rfl ?_ | refine SW.full ?_ | refine SW.drop ?_)
    refine AW_false (b := decide (st.op = 4)) rfl (by exact decide_eq_false q4) ?_
    rw [if_neg q4] at e
    repeat (first | refine ga_ ?_ | intro _)
    by_cases q5 : st.op = 5
    · rw [if_pos q5] at e
      refine AW_true (b := decide (st.op = 5)) rfl (by exact decide_eq_true q5) ?_
      repeat (first | refine ga_ ?_ | intro _)
      refine Or.inl ⟨⟨_, Tryd.func14, rfl, rfl⟩, ACall.mono ?_ (rightExpr_ok st.x _ (.tail _ (.tail _ hE)))⟩
      rintro _ S1 ⟨rfl, hS1⟩
      subst S1
      repeat (first | refine ga_ ?_ | intro _)
      refine gsplit (rightG st.x 60 = true) (by first | (simp; done) | (simp <;> omega) | decide) (fun h => ?_) (fun h => ?_)
      · have g1 := h
        repeat (first | refine ga_ ?_ | intro _)
        refine Or.inl ⟨⟨_, Tryd.func50, rfl, rfl⟩, ACall.mono ?_ (kl _ (.tail _ (.tail _ hE)))⟩
        rintro _ S1 ⟨rfl, hS1⟩
        subst S1
        repeat (first | refine ga_ ?_ | intro _)
        refine ⟨((rightZs st.l hn, Z.mk st.op st.s st.t T0 st.y [] st.m) : Bool × Z), ?_, weak_of ?_ rfl ?_⟩
        · show _ = _
          rw [e]; simp [finB_mk, noY0, noX0, Bool.and_assoc, g1]
        · repeat (first | exact trivial | refine ⟨AVle.refl _, ?_⟩ | refine ⟨AVle.tk, ?_⟩ | refine ⟨AVle.nil, ?_⟩ | refine ⟨AVle.nilFull, ?_⟩ | refine ⟨AVle.eq (congrArg (AV.int .i64) (by first | (simp; done) | (simp; omega) | (rw [wrap_i64 (by first | omega | (simp; omega))]; first | rfl | omega | (simp; done) | (simp; omega)))), ?_⟩)
        · refine SW.le ?_
          repeat (first | exact SW.nil | refine SW.cons ?_ | refine SW.cells (by repeat (first | exact trivial | refine ⟨AVle.refl _, ?_⟩ | refine ⟨AVle.nilFull, ?_⟩ | refine ⟨AVle.tk, ?_⟩ | refine ⟨AVle.nil, ?_⟩)) rfl ?_ | refine SW.full ?_ | refine SW.drop ?_)
      · have g1 : rightG st.x 60 = false := by simpa using h
        repeat (first | refine ga_ ?_ | intro _)
        refine ⟨((false, Z.mk st.op st.s st.t T0 st.y [] st.m) : Bool × Z), ?_, weak_of ?_ rfl ?_⟩
        · show _ = _
          rw [e]; simp [finB_mk, noY0, noX0, Bool.and_assoc, g1]
        · repeat (first | exact trivial | refine ⟨AVle.refl _, ?_⟩ | refine ⟨AVle.tk, ?_⟩ | refine ⟨AVle.nil, ?_⟩ | refine ⟨AVle.nilFull, ?_⟩ | refine ⟨AVle.eq (congrArg (AV.int .i64) (by first | (simp; done) | (simp; omega) | (rw [wrap_i64 (by first | omega | (simp; omega))]; first | rfl | omega | (simp; done) | (simp; omega)))), ?_⟩)
        · refine SW.le ?_
          repeat (first | exact SW.nil | refine SW.cons ?_ | refine SW.cells (by repeat (first | exact trivial | refine ⟨AVle.refl _, ?_⟩ | refine ⟨AVle.nilFull, ?_⟩ | refine ⟨AVle.tk, ?_⟩ | refine ⟨AVle.nil, ?_⟩)) rfl ?_ | refine SW.full ?_ | refine SW.drop ?_)
    refine AW_false (b := decide (st.op = 5)) rfl (by exact decide_eq_false q5) ?_
    rw [if_neg q5] at e
    repeat (first | refine ga_ ?_ | intro _)
    by_cases q6 : st.op = 6
    · rw [if_pos q6] at e
      refine AW_true (b := decide (st.op = 6)) rfl (by exact decide_eq_true q6) ?_
      repeat (first | refine ga_ ?_ | intro _)
      refine Or.inl ⟨⟨_, Tryd.func14, rfl, rfl⟩, ACall.mono ?_ (rightExpr_ok st.x _ (.tail _ (.tail _ hE)))⟩
      rintro _ S1 ⟨rfl, hS1⟩
      subst S1
      repeat (first | refine ga_ ?_ | intro _)
      refine gsplit (rightG st.x 60 = true) (by first | (simp; done) | (simp <;> omega) | decide) (fun h => ?_) (fun h => ?_)
      · have g1 := h
        repeat (first | refine ga_ ?_ | intro _)
        refine ⟨((true, Z.mk st.op st.s st.t T0 st.y st.l st.m) : Bool × Z), ?_, weak_of ?_ rfl ?_⟩
        · show _ = _
          rw [e]; simp [finB_mk, noY0, noX0, Bool.and_assoc, g1]
        · repeat (first | exact trivial | refine ⟨AVle.refl _, ?_⟩ | refine ⟨AVle.tk, ?_⟩ | refine ⟨AVle.nil, ?_⟩ | refine ⟨AVle.nilFull, ?_⟩ | refine ⟨AVle.eq (congrArg (AV.int .i64) (by first | (simp; done) | (simp; omega) | (rw [wrap_i64 (by first | omega | (simp; omega))]; first | rfl | omega | (simp; done) | (simp; omega)))), ?_⟩)
        · refine SW.le ?_
          repeat (first | exact SW.nil | refine SW.cons ?_ | refine SW.cells (by repeat (first | exact trivial | refine ⟨AVle.refl _, ?_⟩ | refine ⟨AVle.nilFull, ?_⟩ | refine ⟨AVle.tk, ?_⟩ | refine ⟨AVle.nil, ?_⟩)) rfl ?_ | refine SW.full ?_ | refine SW.drop ?_)
      · have g1 : rightG st.x 60 = false := by simpa using h
        repeat (first | refine ga_ ?_ | intro _)
        refine Or.inl ⟨⟨_, Tryd.func101, rfl, rfl⟩, ACall.mono ?_ (noExpr_ok st.x _)⟩
        rintro _ S1 ⟨rfl, hS1⟩
        subst S1
        repeat (first | refine ga_ ?_ | intro _)
        refine ⟨((noX st.x, Z.mk st.op st.s st.t T0 st.y st.l st.m) : Bool × Z), ?_, weak_of ?_ rfl ?_⟩
        · show _ = _
          rw [e]; simp [finB_mk, noY0, noX0, Bool.and_assoc, g1]
        · repeat (first | exact trivial | refine ⟨AVle.refl _, ?_⟩ | refine ⟨AVle.tk, ?_⟩ | refine ⟨AVle.nil, ?_⟩ | refine ⟨AVle.nilFull, ?_⟩ | refine ⟨AVle.eq (congrArg (AV.int .i64) (by first | (simp; done) | (simp; omega) | (rw [wrap_i64 (by first | omega | (simp; omega))]; first | rfl | omega | (simp; done) | (simp; omega)))), ?_⟩)
        · refine SW.le ?_
          repeat (first | exact SW.nil | refine SW.cons ?_ | refine SW.cells (by repeat (first | exact trivial | refine ⟨AVle.refl _, ?_⟩ | refine ⟨AVle.nilFull, ?_⟩ | refine ⟨AVle.tk, ?_⟩ | refine ⟨AVle.nil, ?_⟩)) rfl ?_ | refine SW.full ?_ | refine SW.drop ?_)
    refine AW_false (b := decide (st.op = 6)) rfl (by exact decide_eq_false q6) ?_
    rw [if_neg q6] at e
    repeat (first | refine ga_ ?_ | intro _)
    by_cases q7 : st.op = 7
    · rw [if_pos q7] at e
      refine AW_true (b := decide (st.op = 7)) rfl (by exact decide_eq_true q7) ?_
      repeat (first | refine ga_ ?_ | intro _)
      refine Or.inl ⟨⟨_, Tryd.func14, rfl, rfl⟩, ACall.mono ?_ (rightExpr_ok st.x _ (.tail _ (.tail _ hE)))⟩
      rintro _ S1 ⟨rfl, hS1⟩
      subst S1
      repeat (first | refine ga_ ?_ | intro _)
      refine gsplit (rightG st.x 60 = true) (by first | (simp; done) | (simp <;> omega) | decide) (fun h => ?_) (fun h => ?_)
      · have g1 := h
        repeat (first | refine ga_ ?_ | intro _)
        refine ⟨((decide (st.x.op = 9), Z.mk st.op st.s st.t T0 st.y st.l st.m) : Bool × Z), ?_, weak_of ?_ rfl ?_⟩
        · show _ = _
          rw [e]; simp [finB_mk, noY0, noX0, Bool.and_assoc, g1]
        · repeat (first | exact trivial | refine ⟨AVle.refl _, ?_⟩ | refine ⟨AVle.tk, ?_⟩ | refine ⟨AVle.nil, ?_⟩ | refine ⟨AVle.nilFull, ?_⟩ | refine ⟨AVle.eq (congrArg (AV.int .i64) (by first | (simp; done) | (simp; omega) | (rw [wrap_i64 (by first | omega | (simp; omega))]; first | rfl | omega | (simp; done) | (simp; omega)))), ?_⟩)
        · refine SW.le ?_
          repeat (first | exact SW.nil | refine SW.cons ?_ | refine SW.cells (by repeat (first | exact trivial | refine ⟨AVle.refl _, ?_⟩ | refine ⟨AVle.nilFull, ?_⟩ | refine ⟨AVle.tk, ?_⟩ | refine ⟨AVle.nil, ?_⟩)) rfl ?_ | refine SW.full ?_ | refine SW.drop ?_)
      · have g1 : rightG st.x 60 = false := by simpa using h
        repeat (first | refine ga_ ?_ | intro _)
        refine ⟨((false, Z.mk st.op st.s st.t T0 st.y st.l st.m) : Bool × Z), ?_, weak_of ?_ rfl ?_⟩
        · show _ = _
          rw [e]; simp [finB_mk, noY0, noX0, Bool.and_assoc, g1]
        · repeat (first | exact trivial | refine ⟨AVle.refl _, ?_⟩ | refine ⟨AVle.tk, ?_⟩ | refine ⟨AVle.nil, ?_⟩ | refine ⟨AVle.nilFull, ?_⟩ | refine ⟨AVle.eq (congrArg (AV.int .i64) (by first | (simp; done) | (simp; omega) | (rw [wrap_i64 (by first | omega | (simp; omega))]; first | rfl | omega | (simp; done) | (simp; omega)))), ?_⟩)
        · refine SW.le ?_
          repeat (first | exact SW.nil | refine SW.cons ?_ | refine SW.cells (by repeat (first | exact trivial | refine ⟨AVle.refl _, ?_⟩ | refine ⟨AVle.nilFull, ?_⟩ | refine ⟨AVle.tk, ?_⟩ | refine ⟨AVle.nil, ?_⟩)) rfl ?_ | refine SW.full ?_ | refine SW.drop ?_)
    refine AW_false (b := decide (st.op = 7)) rfl (by exact decide_eq_false q7) ?_
    rw [if_neg q7] at e
    repeat (first | refine ga_ ?_ | intro _)
    by_cases q8 : st.op = 8
    · rw [if_pos q8] at e
      refine AW_true (b := decide (st.op = 8)) rfl (by exact decide_eq_true q8) ?_
      repeat (first | refine ga_ ?_ | intro _)
      refine ⟨((true, Z.mk st.op st.s st.t st.x st.y st.l st.m) : Bool × Z), ?_, weak_of ?_ rfl ?_⟩
      · show _ = _
        rw [e]; simp [finB_mk, noY0, noX0, Bool.and_assoc, q8]
      · repeat (first | exact trivial | refine ⟨AVle.refl _, ?_⟩ | refine ⟨AVle.tk, ?_⟩ | refine ⟨AVle.nil, ?_⟩ | refine ⟨AVle.nilFull, ?_⟩ | refine ⟨AVle.eq (congrArg (AV.int .i64) (by first | (simp; done) | (simp; omega) | (rw [wrap_i64 (by first | omega | (simp; omega))]; first | rfl | omega | (simp; done) | (simp; omega)))), ?_⟩)
      · refine SW.le ?_
        repeat (first | exact SW.nil | refine SW.cons ?_ | refine SW.cells (by repeat (first | exact trivial | refine ⟨AVle.refl _, ?_⟩ | refine ⟨AVle.nilFull, ?_⟩ | refine ⟨AVle.tk, ?_⟩ | refine ⟨AVle.nil, ?_⟩)) rfl ?_ | refine SW.full ?_ | refine SW.drop ?_)
    refine AW_false (b := decide (st.op = 8)) rfl (by exact decide_eq_false q8) ?_
    rw [if_neg q8] at e
    repeat (first | refine ga_ ?_ | intro _)
    refine AW_ret ?_
    repeat (first | refine ⟨0, rfl, ?_⟩ | refine ⟨1, rfl, ?_⟩ | refine ⟨2, rfl, ?_⟩ | refine ⟨3, rfl, ?_⟩ | refine ⟨4, rfl, ?_⟩ | refine ⟨5, rfl, ?_⟩ | refine ⟨6, rfl, ?_⟩)
    refine ⟨_, R, AVle.eq ?_, (by repeat (first | exact SLe.rfl | refine SLe.tail ?_)), rfl, rfl⟩
    rw [e]; rfl
  obtain ⟨b, u⟩ := z
  replace hz : rightZ st hn = (b && finB u) := hz
  rw [hz]
  clear e hz
  cases b with
  | false =>
    repeat (first | refine ga_ ?_ | intro _)
    refine AW_ret ?_
    repeat (first | refine ⟨0, rfl, ?_⟩ | refine ⟨1, rfl, ?_⟩ | refine ⟨2, rfl, ?_⟩ | refine ⟨3, rfl, ?_⟩ | refine ⟨4, rfl, ?_⟩ | refine ⟨5, rfl, ?_⟩ | refine ⟨6, rfl, ?_⟩)
    refine ⟨_, R, AVle.eq ?_, (by repeat (first | exact SLe.rfl | refine SLe.tail ?_)), rfl, rfl⟩
    rfl
  | true =>
  repeat (first | refine ga_ ?_ | intro _)
  refine gsplit (u.s = []) decide_eq_true_iff (fun h => ?_) (fun h => ?_)
  rotate_left
  · repeat (first | refine ga_ ?_ | intro _)
    refine AW_ret ?_
    repeat (first | refine ⟨0, rfl, ?_⟩ | refine ⟨1, rfl, ?_⟩ | refine ⟨2, rfl, ?_⟩ | refine ⟨3, rfl, ?_⟩ | refine ⟨4, rfl, ?_⟩ | refine ⟨5, rfl, ?_⟩ | refine ⟨6, rfl, ?_⟩)
    refine ⟨_, R, AVle.eq ?_, (by repeat (first | exact SLe.rfl | refine SLe.tail ?_)), rfl, rfl⟩
    exact congrArg AV.bool (by rw [finB, decide_eq_false h]; rfl)
  have h1 := h
  repeat (first | refine ga_ ?_ | intro _)
  refine Or.inl ⟨⟨_, Tryd.func49, rfl, rfl⟩, ACall.mono ?_ (noType_ok u.t _)⟩
  rintro _ S1 ⟨rfl, hS1⟩
  subst S1
  repeat (first | refine ga_ ?_ | intro _)
  refine gsplit (noY u.t = true) (by first | (simp; done) | (simp <;> omega) | decide) (fun h => ?_) (fun h => ?_)
  rotate_left
  · repeat (first | refine ga_ ?_ | intro _)
    refine AW_ret ?_
    repeat (first | refine ⟨0, rfl, ?_⟩ | refine ⟨1, rfl, ?_⟩ | refine ⟨2, rfl, ?_⟩ | refine ⟨3, rfl, ?_⟩ | refine ⟨4, rfl, ?_⟩ | refine ⟨5, rfl, ?_⟩ | refine ⟨6, rfl, ?_⟩)
    refine ⟨_, R, AVle.eq ?_, (by repeat (first | exact SLe.rfl | refine SLe.tail ?_)), rfl, rfl⟩
    exact congrArg AV.bool (by rw [finB, show noY u.t = false by simpa using h]; simp)
  have h2 := h
  repeat (first | refine ga_ ?_ | intro _)
  refine Or.inl ⟨⟨_, Tryd.func101, rfl, rfl⟩, ACall.mono ?_ (noExpr_ok u.x _)⟩
  rintro _ S1 ⟨rfl, hS1⟩
  subst S1
  repeat (first | refine ga_ ?_ | intro _)
  refine gsplit (noX u.x = true) (by first | (simp; done) | (simp <;> omega) | decide) (fun h => ?_) (fun h => ?_)
  rotate_left
  · repeat (first | refine ga_ ?_ | intro _)
    refine AW_ret ?_
    repeat (first | refine ⟨0, rfl, ?_⟩ | refine ⟨1, rfl, ?_⟩ | refine ⟨2, rfl, ?_⟩ | refine ⟨3, rfl, ?_⟩ | refine ⟨4, rfl, ?_⟩ | refine ⟨5, rfl, ?_⟩ | refine ⟨6, rfl, ?_⟩)
    refine ⟨_, R, AVle.eq ?_, (by repeat (first | exact SLe.rfl | refine SLe.tail ?_)), rfl, rfl⟩
    exact congrArg AV.bool (by rw [finB, show noX u.x = false by simpa using h]; simp)
  have h3 := h
  repeat (first | refine ga_ ?_ | intro _)
  refine Or.inl ⟨⟨_, Tryd.func101, rfl, rfl⟩, ACall.mono ?_ (noExpr_ok u.y _)⟩
  rintro _ S1 ⟨rfl, hS1⟩
  subst S1
  repeat (first | refine ga_ ?_ | intro _)
  refine gsplit (noX u.y = true) (by first | (simp; done) | (simp <;> omega) | decide) (fun h => ?_) (fun h => ?_)
  rotate_left
  · repeat (first | refine ga_ ?_ | intro _)
    refine AW_ret ?_
    repeat (first | refine ⟨0, rfl, ?_⟩ | refine ⟨1, rfl, ?_⟩ | refine ⟨2, rfl, ?_⟩ | refine ⟨3, rfl, ?_⟩ | refine ⟨4, rfl, ?_⟩ | refine ⟨5, rfl, ?_⟩ | refine ⟨6, rfl, ?_⟩)
    refine ⟨_, R, AVle.eq ?_, (by repeat (first | exact SLe.rfl | refine SLe.tail ?_)), rfl, rfl⟩
    exact congrArg AV.bool (by rw [finB, show noX u.y = false by simpa using h]; simp)
  have h4 := h
  repeat (first | refine ga_ ?_ | intro _)
  refine gsplit (u.l.length = 0) (by first | (simp; done) | (simp <;> omega) | decide) (fun h => ?_) (fun h => ?_)
  rotate_left
  · repeat (first | refine ga_ ?_ | intro _)
    refine AW_ret ?_
    repeat (first | refine ⟨0, rfl, ?_⟩ | refine ⟨1, rfl, ?_⟩ | refine ⟨2, rfl, ?_⟩ | refine ⟨3, rfl, ?_⟩ | refine ⟨4, rfl, ?_⟩ | refine ⟨5, rfl, ?_⟩ | refine ⟨6, rfl, ?_⟩)
    refine ⟨_, R, AVle.eq ?_, (by repeat (first | exact SLe.rfl | refine SLe.tail ?_)), rfl, rfl⟩
    exact congrArg AV.bool (by rw [finB, decide_eq_false h]; simp)
  have h5 := h
  repeat (first | refine ga_ ?_ | intro _)
  refine AW_ret ?_
  repeat (first | refine ⟨0, rfl, ?_⟩ | refine ⟨1, rfl, ?_⟩ | refine ⟨2, rfl, ?_⟩ | refine ⟨3, rfl, ?_⟩ | refine ⟨4, rfl, ?_⟩ | refine ⟨5, rfl, ?_⟩ | refine ⟨6, rfl, ?_⟩)
  refine ⟨_, R, AVle.eq ?_, (by repeat (first | exact SLe.rfl | refine SLe.tail ?_)), rfl, rfl⟩
  exact congrArg AV.bool (by rw [finB, decide_eq_true h1, h2, h3, h4, decide_eq_true h5]; simp)
theorem areStmts_ok : ∀ (h : Nat) (l : List Z), h ≤ 1000 → cntZs l ≤ 3000 → KS h l
  | 0, l, _, hc, R, hE => by
    have hl := len_cntZs l
    have kx : ∀ q, ∀ x ∈ l, ACall Tryd.prog 79 [encSt x, .ptr q 0] (.cells q [.int .i64 ((0 : Nat) : Int)] :: R) (fun v S => v = .bool ((fun _ : Z => true) x) ∧ S = .cells q [.int .i64 ((0 : Nat) : Int)] :: R) := by
      intro q x hx
      refine ACall_body tab_ok Tryd.func79 rfl rfl rfl (by kernel_rfl) (Nat.le_of_ble_eq_true rfl) ?_
      repeat (first | refine ga_ ?_ | intro _)
      refine AW_ret ?_
      repeat (first | refine ⟨0, rfl, ?_⟩ | refine ⟨1, rfl, ?_⟩ | refine ⟨2, rfl, ?_⟩ | refine ⟨3, rfl, ?_⟩ | refine ⟨4, rfl, ?_⟩ | refine ⟨5, rfl, ?_⟩ | refine ⟨6, rfl, ?_⟩)
      refine ⟨_, .cells q [.int .i64 ((0 : Nat) : Int)] :: R, AVle.eq ?_, (by repeat (first | exact SLe.rfl | refine SLe.tail ?_)), rfl, rfl⟩
      rfl
    refine ACall_body tab_ok Tryd.func50 rfl rfl rfl (by kernel_rfl) (Nat.le_of_ble_eq_true rfl) ?_
    repeat (first | refine go_ ?_ | intro _)
    refine Or.inl ⟨⟨_, Tryd.func78, rfl, rfl⟩, ACall.mono ?_ (containsZ_ok (fun _ => true) l _ _ R (by omega) (kx _))⟩
    rintro _ S1 ⟨rfl, hS1⟩
    subst S1
    repeat (first | refine go_ ?_ | intro _)
    refine AW_ret ?_
    repeat (first | refine ⟨0, rfl, ?_⟩ | refine ⟨1, rfl, ?_⟩ | refine ⟨2, rfl, ?_⟩ | refine ⟨3, rfl, ?_⟩ | refine ⟨4, rfl, ?_⟩ | refine ⟨5, rfl, ?_⟩ | refine ⟨6, rfl, ?_⟩)
    refine ⟨_, R, AVle.eq ?_, (by repeat (first | exact SLe.rfl | refine SLe.tail ?_)), rfl, rfl⟩
    exact congrArg AV.bool (by rw [rightZs_0]; cases l <;> rfl)
  | h + 1, l, hh, hc, R, hE => by
    have hl := len_cntZs l
    have kx : ∀ q, ∀ x ∈ l, ACall Tryd.prog 79 [encSt x, .ptr q 0] (.cells q [.int .i64 ((h + 1 : Nat) : Int)] :: R) (fun v S => v = .bool ((fun z : Z => !rightZ z h) x) ∧ S = .cells q [.int .i64 ((h + 1 : Nat) : Int)] :: R) := by
      intro q x hx
      have cx := cntZs_mem hx
      have l1 := len_cntZs x.l
      have l2 := len_cntZs x.m
      have e0 : cntZ x = cntY x.t + cntT x.x + cntT x.y + cntZs x.l + cntZs x.m + 1 := by cases x; rw [cntZ]; rfl
      have k := fun R hE => isStmt_ok h x R hE (by omega) (areStmts_ok h x.l (by omega) (by omega)) (areStmts_ok h x.m (by omega) (by omega)) (by omega) (by omega)
      refine ACall_body tab_ok Tryd.func79 rfl rfl rfl (by kernel_rfl) (Nat.le_of_ble_eq_true rfl) ?_
      repeat (first | refine ga_ ?_ | intro _)
      refine Or.inl ⟨⟨_, Tryd.func80, rfl, rfl⟩, ACall.mono ?_ (k _ (.tail _ (.tail _ hE)))⟩
      rintro _ S1 ⟨rfl, hS1⟩
      subst S1
      repeat (first | refine ga_ ?_ | intro _)
      refine AW_ret ?_
      repeat (first | refine ⟨0, rfl, ?_⟩ | refine ⟨1, rfl, ?_⟩ | refine ⟨2, rfl, ?_⟩ | refine ⟨3, rfl, ?_⟩ | refine ⟨4, rfl, ?_⟩ | refine ⟨5, rfl, ?_⟩ | refine ⟨6, rfl, ?_⟩)
      refine ⟨_, .cells q [.int .i64 ((h + 1 : Nat) : Int)] :: R, AVle.eq ?_, (by repeat (first | exact SLe.rfl | refine SLe.tail ?_)), rfl, rfl⟩
      rfl
    refine ACall_body tab_ok Tryd.func50 rfl rfl rfl (by kernel_rfl) (Nat.le_of_ble_eq_true rfl) ?_
    repeat (first | refine go_ ?_ | intro _)
    refine Or.inl ⟨⟨_, Tryd.func78, rfl, rfl⟩, ACall.mono ?_ (containsZ_ok (fun z => !rightZ z h) l _ _ R (by omega) (kx _))⟩
    rintro _ S1 ⟨rfl, hS1⟩
    subst S1
    repeat (first | refine go_ ?_ | intro _)
    refine AW_ret ?_
    repeat (first | refine ⟨0, rfl, ?_⟩ | refine ⟨1, rfl, ?_⟩ | refine ⟨2, rfl, ?_⟩ | refine ⟨3, rfl, ?_⟩ | refine ⟨4, rfl, ?_⟩ | refine ⟨5, rfl, ?_⟩ | refine ⟨6, rfl, ?_⟩)
    refine ⟨_, R, AVle.eq ?_, (by repeat (first | exact SLe.rfl | refine SLe.tail ?_)), rfl, rfl⟩
    exact congrArg AV.bool (by rw [rightZs_all, List.not_any_eq_all_not]; simp)
end Go.Proofs.YtnkmjbjpmocnbaaDoor
