/-
  Which types and expressions are alike, by the book. Own work.
-/
import Derived.Test.YtnkmjbjpmocnbaaDoorP11
import Derived.Test.YtnkmjbjpmocnbaaDoorP10
import Derived.Test.YtnkmjbjpmocnbaaDoorP9
set_option linter.all false
namespace Go.Proofs.YtnkmjbjpmocnbaaDoor
open Go.Aw Go.RowKit
set_option maxHeartbeats 4000000

theorem refSameExpr_ok : ∀ (n : Nat) (a : T), cntT a ≤ n → n ≤ 3000 → ∀ (b : T) (R : List En), ACall Tryd.prog 21 [encU a, encU b] R (fun r S => r = .bool (isB (a = b)) ∧ S = R)
  | 0, t, hn, _, u, R => by have := cntT_pos t; omega
  | n + 1, a, hn, hm, b, R => by
    have hc : cntTs a.l ≤ n := by rw [cntT_eq] at hn; omega
    have hl := len_cntTs a.l
    have kl : ∀ x ∈ a.l, ∀ (y : T) (R : List En), ACall Tryd.prog 21 [encU x, encU y] R (fun r S => r = .bool (isB (x = y)) ∧ S = R) := fun x hx y R => refSameExpr_ok n x (by have := cntTs_mem hx; omega) (by omega) y R
    refine ACall_body tab_ok Tryd.func21 rfl rfl rfl (by kernel_rfl) (Nat.le_of_ble_eq_true rfl) ?_
    repeat (first | refine go_ ?_ | intro _)
    rename_i p q
    refine gsplit (¬ a.op = b.op) (by first | (simp; done) | (simp <;> omega) | decide) (fun h => ?_) (fun h => ?_)
    · have hq := h
      repeat (first | refine ga_ ?_ | intro _)
      refine AW_ret ?_
      repeat (first | refine ⟨0, rfl, ?_⟩ | refine ⟨1, rfl, ?_⟩ | refine ⟨2, rfl, ?_⟩ | refine ⟨3, rfl, ?_⟩ | refine ⟨4, rfl, ?_⟩ | refine ⟨5, rfl, ?_⟩ | refine ⟨6, rfl, ?_⟩)
      refine ⟨_, R, AVle.eq ?_, (by repeat (first | exact SLe.rfl | refine SLe.tail ?_)), rfl, rfl⟩
      exact congrArg AV.bool (isB_f (fun e => hq (T_ext.1 e).1)).symm
    have h1 : a.op = b.op := Decidable.not_not.1 h
    repeat (first | refine ga_ ?_ | intro _)
    refine gsplit (¬ a.s = b.s) (by first | (simp; done) | (simp <;> omega) | decide) (fun h => ?_) (fun h => ?_)
    · have hq := h
      repeat (first | refine ga_ ?_ | intro _)
      refine AW_ret ?_
      repeat (first | refine ⟨0, rfl, ?_⟩ | refine ⟨1, rfl, ?_⟩ | refine ⟨2, rfl, ?_⟩ | refine ⟨3, rfl, ?_⟩ | refine ⟨4, rfl, ?_⟩ | refine ⟨5, rfl, ?_⟩ | refine ⟨6, rfl, ?_⟩)
      refine ⟨_, R, AVle.eq ?_, (by repeat (first | exact SLe.rfl | refine SLe.tail ?_)), rfl, rfl⟩
      exact congrArg AV.bool (isB_f (fun e => hq (T_ext.1 e).2.1)).symm
    have h2 : a.s = b.s := Decidable.not_not.1 h
    repeat (first | refine ga_ ?_ | intro _)
    refine gsplit (¬ a.n = b.n) (by first | (simp; done) | (simp <;> omega) | decide) (fun h => ?_) (fun h => ?_)
    · have hq := h
      repeat (first | refine ga_ ?_ | intro _)
      refine AW_ret ?_
      repeat (first | refine ⟨0, rfl, ?_⟩ | refine ⟨1, rfl, ?_⟩ | refine ⟨2, rfl, ?_⟩ | refine ⟨3, rfl, ?_⟩ | refine ⟨4, rfl, ?_⟩ | refine ⟨5, rfl, ?_⟩ | refine ⟨6, rfl, ?_⟩)
      refine ⟨_, R, AVle.eq ?_, (by repeat (first | exact SLe.rfl | refine SLe.tail ?_)), rfl, rfl⟩
      exact congrArg AV.bool (isB_f (fun e => hq (T_ext.1 e).2.2.1)).symm
    have h3 : a.n = b.n := Decidable.not_not.1 h
    repeat (first | refine ga_ ?_ | intro _)
    refine AW_iff (¬ a.l.length = b.l.length) rfl (by first | (simp; done) | (simp <;> omega) | decide) (fun h => ?_) (fun h => ?_)
    · have hq := h
      repeat (first | refine ga_ ?_ | intro _)
      refine AW_ret ?_
      repeat (first | refine ⟨0, rfl, ?_⟩ | refine ⟨1, rfl, ?_⟩ | refine ⟨2, rfl, ?_⟩ | refine ⟨3, rfl, ?_⟩ | refine ⟨4, rfl, ?_⟩ | refine ⟨5, rfl, ?_⟩ | refine ⟨6, rfl, ?_⟩)
      refine ⟨_, R, AVle.eq ?_, (by repeat (first | exact SLe.rfl | refine SLe.tail ?_)), rfl, rfl⟩
      exact congrArg AV.bool (isB_f (fun e => hq (by rw [e]))).symm
    have hlen : a.l.length = b.l.length := Decidable.not_not.1 h
    repeat (first | refine go_ ?_ | intro _)
    refine AW_for (α := Nat) (fun z => ⟨[(2, .ptr p 0), (3, .ptr q 0), (5, .int .i64 (z : Nat))], []⟩) (fun z => .cells q (cT b) :: .cells p (cT a) :: R) (fun z => a.l.length - z) (fun z => z ≤ a.l.length ∧ ∀ (i : Nat) (h : i < a.l.length) (h' : i < b.l.length), i < z → a.l[i] = b.l[i]) (0) ?_ (weak_of ?_ rfl ?_) (fun z hz => ?_)
    · exact ⟨by omega, fun i _ _ h => by omega⟩
    · repeat (first | exact trivial | refine ⟨AVle.refl _, ?_⟩ | refine ⟨AVle.tk, ?_⟩ | refine ⟨AVle.nil, ?_⟩ | refine ⟨AVle.nilFull, ?_⟩ | refine ⟨AVle.eq (congrArg (AV.int .i64) (by first | (simp; done) | (simp; omega) | (rw [wrap_i64 (by first | omega | (simp; omega))]; first | rfl | omega | (simp; done) | (simp; omega)))), ?_⟩)
    · refine SW.le ?_
      repeat (first | exact SW.nil | refine SW.cons ?_ | refine SW.cells (by repeat (first | exact trivial | refine ⟨AVle.refl _, ?_⟩ | refine ⟨AVle.nilFull, ?_⟩ | refine ⟨AVle.tk, ?_⟩ | refine ⟨AVle.nil, ?_⟩)) rfl ?_ | refine SW.full ?_ | refine SW.drop ?_)
    obtain ⟨i1, i2⟩ := hz
    repeat (first | refine go_ ?_ | intro _)
    refine AW_iff (z < a.l.length) rfl (by first | (simp; done) | (simp <;> omega) | decide) (fun h => ?_) (fun h => ?_)
    · have hlt := h
      have hlt2 : z < b.l.length := by omega
      obtain ⟨x, hx⟩ : ∃ x, x = a.l[z] := ⟨_, rfl⟩
      obtain ⟨y, hy⟩ : ∃ x, x = b.l[z] := ⟨_, rfl⟩
      repeat (first | refine go_ ?_ | intro _)
      refine AW_draw tab_ok mixed 12 (by first | rfl | kernel_rfl) ?_
      repeat (first | refine go_ ?_ | intro _)
      refine at_get (z) (encU x) (by first | rfl | omega | (rw [wrap_i64 (by omega)]; omega)) (by rw [hx]; exact encTs_get hlt) ?_
      repeat (first | refine go_ ?_ | intro _)
      refine at_get (z) (encU y) (by first | rfl | omega | (rw [wrap_i64 (by omega)]; omega)) (by rw [hy]; exact encTs_get hlt2) ?_
      repeat (first | refine go_ ?_ | intro _)
      apply call_step
      · rfl
      · exact Or.inl ⟨⟨_, Tryd.func21, rfl, rfl⟩, kl x (hx ▸ List.getElem_mem hlt) y _⟩
      repeat (first | refine go_ ?_ | intro _)
      refine AW_cond (b := !isB (x = y)) rfl (fun h => ?_) (fun h => ?_)
      · have hq : ¬ x = y := isB_not.1 (by simpa using h)
        repeat (first | refine go_ ?_ | intro _)
        refine AW_ret ?_
        repeat (first | refine ⟨0, rfl, ?_⟩ | refine ⟨1, rfl, ?_⟩ | refine ⟨2, rfl, ?_⟩ | refine ⟨3, rfl, ?_⟩ | refine ⟨4, rfl, ?_⟩ | refine ⟨5, rfl, ?_⟩ | refine ⟨6, rfl, ?_⟩)
        refine ⟨_, R, AVle.eq ?_, (by repeat (first | exact SLe.rfl | refine SLe.tail ?_)), rfl, rfl⟩
        exact congrArg AV.bool (isB_f (fun ha => hq (by subst ha; rw [hx, hy]))).symm
      · have hq : x = y := isB_iff.1 (by simpa using h)
        repeat (first | refine go_ ?_ | intro _)
        refine ⟨z + 1, ?_, ?_, weak_of ?_ rfl ?_⟩
        · omega
        · refine ⟨by omega, fun i h h' hi => ?_⟩
          by_cases hc : i < z
          · exact i2 i h h' hc
          · obtain rfl : i = z := by omega
            rw [← hx, ← hy]; exact hq
        · repeat (first | exact trivial | refine ⟨AVle.refl _, ?_⟩ | refine ⟨AVle.tk, ?_⟩ | refine ⟨AVle.nil, ?_⟩ | refine ⟨AVle.nilFull, ?_⟩ | refine ⟨AVle.eq (congrArg (AV.int .i64) (by first | (simp; done) | (simp; omega) | (rw [wrap_i64 (by first | omega | (simp; omega))]; first | rfl | omega | (simp; done) | (simp; omega)))), ?_⟩)
        · refine SW.le ?_
          repeat (first | exact SW.nil | refine SW.cons ?_ | refine SW.cells (by repeat (first | exact trivial | refine ⟨AVle.refl _, ?_⟩ | refine ⟨AVle.nilFull, ?_⟩ | refine ⟨AVle.tk, ?_⟩ | refine ⟨AVle.nil, ?_⟩)) rfl ?_ | refine SW.full ?_ | refine SW.drop ?_)
    · have hal : a.l = b.l := List.ext_getElem hlen fun i h h' => i2 i h h' (by omega)
      repeat (first | refine go_ ?_ | intro _)
      refine AW_ret ?_
      repeat (first | refine ⟨0, rfl, ?_⟩ | refine ⟨1, rfl, ?_⟩ | refine ⟨2, rfl, ?_⟩ | refine ⟨3, rfl, ?_⟩ | refine ⟨4, rfl, ?_⟩ | refine ⟨5, rfl, ?_⟩ | refine ⟨6, rfl, ?_⟩)
      refine ⟨_, R, AVle.eq ?_, (by repeat (first | exact SLe.rfl | refine SLe.tail ?_)), rfl, rfl⟩
      exact congrArg AV.bool (isB_t (T_ext.2 ⟨h1, h2, h3, hal⟩)).symm
theorem refSameType_ok : ∀ (n : Nat) (a : Y), cntY a ≤ n → n ≤ 3000 → ∀ (b : Y) (R : List En), ACall Tryd.prog 39 [encV a, encV b] R (fun r S => r = .bool (isB (a = b)) ∧ S = R)
  | 0, t, hn, _, u, R => by have := cntY_pos t; omega
  | n + 1, a, hn, hm, b, R => by
    have hc : cntYs a.l ≤ n := by rw [cntY_eq] at hn; omega
    have hl := len_cntYs a.l
    have kl : ∀ x ∈ a.l, ∀ (y : Y) (R : List En), ACall Tryd.prog 39 [encV x, encV y] R (fun r S => r = .bool (isB (x = y)) ∧ S = R) := fun x hx y R => refSameType_ok n x (by have := cntYs_mem hx; omega) (by omega) y R
    refine ACall_body tab_ok Tryd.func39 rfl rfl rfl (by kernel_rfl) (Nat.le_of_ble_eq_true rfl) ?_
    repeat (first | refine go_ ?_ | intro _)
    rename_i p q
    refine gsplit (¬ a.op = b.op) (by first | (simp; done) | (simp <;> omega) | decide) (fun h => ?_) (fun h => ?_)
    · have hq := h
      repeat (first | refine ga_ ?_ | intro _)
      refine AW_ret ?_
      repeat (first | refine ⟨0, rfl, ?_⟩ | refine ⟨1, rfl, ?_⟩ | refine ⟨2, rfl, ?_⟩ | refine ⟨3, rfl, ?_⟩ | refine ⟨4, rfl, ?_⟩ | refine ⟨5, rfl, ?_⟩ | refine ⟨6, rfl, ?_⟩)
      refine ⟨_, R, AVle.eq ?_, (by repeat (first | exact SLe.rfl | refine SLe.tail ?_)), rfl, rfl⟩
      exact congrArg AV.bool (isB_f (fun e => hq (Y_ext.1 e).1)).symm
    have h1 : a.op = b.op := Decidable.not_not.1 h
    repeat (first | refine ga_ ?_ | intro _)
    refine gsplit (¬ a.s = b.s) (by first | (simp; done) | (simp <;> omega) | decide) (fun h => ?_) (fun h => ?_)
    · have hq := h
      repeat (first | refine ga_ ?_ | intro _)
      refine AW_ret ?_
      repeat (first | refine ⟨0, rfl, ?_⟩ | refine ⟨1, rfl, ?_⟩ | refine ⟨2, rfl, ?_⟩ | refine ⟨3, rfl, ?_⟩ | refine ⟨4, rfl, ?_⟩ | refine ⟨5, rfl, ?_⟩ | refine ⟨6, rfl, ?_⟩)
      refine ⟨_, R, AVle.eq ?_, (by repeat (first | exact SLe.rfl | refine SLe.tail ?_)), rfl, rfl⟩
      exact congrArg AV.bool (isB_f (fun e => hq (Y_ext.1 e).2.1)).symm
    have h2 : a.s = b.s := Decidable.not_not.1 h
    repeat (first | refine ga_ ?_ | intro _)
    refine AW_iff (¬ a.l.length = b.l.length) rfl (by first | (simp; done) | (simp <;> omega) | decide) (fun h => ?_) (fun h => ?_)
    · have hq := h
      repeat (first | refine ga_ ?_ | intro _)
      refine AW_ret ?_
      repeat (first | refine ⟨0, rfl, ?_⟩ | refine ⟨1, rfl, ?_⟩ | refine ⟨2, rfl, ?_⟩ | refine ⟨3, rfl, ?_⟩ | refine ⟨4, rfl, ?_⟩ | refine ⟨5, rfl, ?_⟩ | refine ⟨6, rfl, ?_⟩)
      refine ⟨_, R, AVle.eq ?_, (by repeat (first | exact SLe.rfl | refine SLe.tail ?_)), rfl, rfl⟩
      exact congrArg AV.bool (isB_f (fun e => hq (by rw [e]))).symm
    have hlen : a.l.length = b.l.length := Decidable.not_not.1 h
    repeat (first | refine go_ ?_ | intro _)
    refine AW_for (α := Nat) (fun z => ⟨[(2, .ptr p 0), (3, .ptr q 0), (5, .int .i64 (z : Nat))], []⟩) (fun z => .cells q (cY b) :: .cells p (cY a) :: R) (fun z => a.l.length - z) (fun z => z ≤ a.l.length ∧ ∀ (i : Nat) (h : i < a.l.length) (h' : i < b.l.length), i < z → a.l[i] = b.l[i]) (0) ?_ (weak_of ?_ rfl ?_) (fun z hz => ?_)
    · exact ⟨by omega, fun i _ _ h => by omega⟩
    · repeat (first | exact trivial | refine ⟨AVle.refl _, ?_⟩ | refine ⟨AVle.tk, ?_⟩ | refine ⟨AVle.nil, ?_⟩ | refine ⟨AVle.nilFull, ?_⟩ | refine ⟨AVle.eq (congrArg (AV.int .i64) (by first | (simp; done) | (simp; omega) | (rw [wrap_i64 (by first | omega | (simp; omega))]; first | rfl | omega | (simp; done) | (simp; omega)))), ?_⟩)
    · refine SW.le ?_
      repeat (first | exact SW.nil | refine SW.cons ?_ | refine SW.cells (by repeat (first | exact trivial | refine ⟨AVle.refl _, ?_⟩ | refine ⟨AVle.nilFull, ?_⟩ | refine ⟨AVle.tk, ?_⟩ | refine ⟨AVle.nil, ?_⟩)) rfl ?_ | refine SW.full ?_ | refine SW.drop ?_)
    obtain ⟨i1, i2⟩ := hz
    repeat (first | refine go_ ?_ | intro _)
    refine AW_iff (z < a.l.length) rfl (by first | (simp; done) | (simp <;> omega) | decide) (fun h => ?_) (fun h => ?_)
    · have hlt := h
      have hlt2 : z < b.l.length := by omega
      obtain ⟨x, hx⟩ : ∃ x, x = a.l[z] := ⟨_, rfl⟩
      obtain ⟨y, hy⟩ : ∃ x, x = b.l[z] := ⟨_, rfl⟩
      repeat (first | refine go_ ?_ | intro _)
      refine AW_draw tab_ok mixed 12 (by first | rfl | kernel_rfl) ?_
      repeat (first | refine go_ ?_ | intro _)
      refine at_get (z) (encV x) (by first | rfl | omega | (rw [wrap_i64 (by omega)]; omega)) (by rw [hx]; exact encYs_get hlt) ?_
      repeat (first | refine go_ ?_ | intro _)
      refine at_get (z) (encV y) (by first | rfl | omega | (rw [wrap_i64 (by omega)]; omega)) (by rw [hy]; exact encYs_get hlt2) ?_
      repeat (first | refine go_ ?_ | intro _)
      apply call_step
      · rfl
      · exact Or.inl ⟨⟨_, Tryd.func39, rfl, rfl⟩, kl x (hx ▸ List.getElem_mem hlt) y _⟩
      repeat (first | refine go_ ?_ | intro _)
      refine AW_cond (b := !isB (x = y)) rfl (fun h => ?_) (fun h => ?_)
      · have hq : ¬ x = y := isB_not.1 (by simpa using h)
        repeat (first | refine go_ ?_ | intro _)
        refine AW_ret ?_
        repeat (first | refine ⟨0, rfl, ?_⟩ | refine ⟨1, rfl, ?_⟩ | refine ⟨2, rfl, ?_⟩ | refine ⟨3, rfl, ?_⟩ | refine ⟨4, rfl, ?_⟩ | refine ⟨5, rfl, ?_⟩ | refine ⟨6, rfl, ?_⟩)
        refine ⟨_, R, AVle.eq ?_, (by repeat (first | exact SLe.rfl | refine SLe.tail ?_)), rfl, rfl⟩
        exact congrArg AV.bool (isB_f (fun ha => hq (by subst ha; rw [hx, hy]))).symm
      · have hq : x = y := isB_iff.1 (by simpa using h)
        repeat (first | refine go_ ?_ | intro _)
        refine ⟨z + 1, ?_, ?_, weak_of ?_ rfl ?_⟩
        · omega
        · refine ⟨by omega, fun i h h' hi => ?_⟩
          by_cases hc : i < z
          · exact i2 i h h' hc
          · obtain rfl : i = z := by omega
            rw [← hx, ← hy]; exact hq
        · repeat (first | exact trivial | refine ⟨AVle.refl _, ?_⟩ | refine ⟨AVle.tk, ?_⟩ | refine ⟨AVle.nil, ?_⟩ | refine ⟨AVle.nilFull, ?_⟩ | refine ⟨AVle.eq (congrArg (AV.int .i64) (by first | (simp; done) | (simp; omega) | (rw [wrap_i64 (by first | omega | (simp; omega))]; first | rfl | omega | (simp; done) | (simp; omega)))), ?_⟩)
        · refine SW.le ?_
          repeat (first | exact SW.nil | refine SW.cons ?_ | refine SW.cells (by repeat (first | exact trivial | refine ⟨AVle.refl _, ?_⟩ | refine ⟨AVle.nilFull, ?_⟩ | refine ⟨AVle.tk, ?_⟩ | refine ⟨AVle.nil, ?_⟩)) rfl ?_ | refine SW.full ?_ | refine SW.drop ?_)
    · have hal : a.l = b.l := List.ext_getElem hlen fun i h h' => i2 i h h' (by omega)
      repeat (first | refine go_ ?_ | intro _)
      refine AW_ret ?_
      repeat (first | refine ⟨0, rfl, ?_⟩ | refine ⟨1, rfl, ?_⟩ | refine ⟨2, rfl, ?_⟩ | refine ⟨3, rfl, ?_⟩ | refine ⟨4, rfl, ?_⟩ | refine ⟨5, rfl, ?_⟩ | refine ⟨6, rfl, ?_⟩)
      refine ⟨_, R, AVle.eq ?_, (by repeat (first | exact SLe.rfl | refine SLe.tail ?_)), rfl, rfl⟩
      exact congrArg AV.bool (isB_t (Y_ext.2 ⟨h1, h2, hal⟩)).symm
end Go.Proofs.YtnkmjbjpmocnbaaDoor
/-
  Which statements and files are alike, by the book. Own work.
-/
namespace Go.Proofs.YtnkmjbjpmocnbaaDoor
open Go.Aw Go.RowKit
set_option maxHeartbeats 4000000

theorem refSameStmts_ok : ∀ (n : Nat) (l : List Z), cntZs l ≤ n → n ≤ 3000 → ∀ (m : List Z) (R : List En), ACall Tryd.prog 40 [.sl 15 (encZs l) .no, .sl 15 (encZs m) .no] R (fun r S => r = .bool (isB (l = m)) ∧ S = R)
  | n, l, hn, hm, m, R => by
    have hl := len_cntZs l
    refine ACall_body tab_ok Tryd.func40 rfl rfl rfl (by kernel_rfl) (Nat.le_of_ble_eq_true rfl) ?_
    repeat (first | refine go_ ?_ | intro _)
    refine AW_iff (¬ l.length = m.length) rfl (by first | (simp; done) | (simp <;> omega) | decide) (fun h => ?_) (fun h => ?_)
    · have hq := h
      repeat (first | refine ga_ ?_ | intro _)
      refine AW_ret ?_
      repeat (first | refine ⟨0, rfl, ?_⟩ | refine ⟨1, rfl, ?_⟩ | refine ⟨2, rfl, ?_⟩ | refine ⟨3, rfl, ?_⟩ | refine ⟨4, rfl, ?_⟩ | refine ⟨5, rfl, ?_⟩ | refine ⟨6, rfl, ?_⟩)
      refine ⟨_, R, AVle.eq ?_, (by repeat (first | exact SLe.rfl | refine SLe.tail ?_)), rfl, rfl⟩
      exact congrArg AV.bool (isB_f (fun e => hq (by rw [e]))).symm
    have hlen : l.length = m.length := Decidable.not_not.1 h
    repeat (first | refine go_ ?_ | intro _)
    refine AW_for (α := Nat) (fun z => ⟨[(0, .sl 15 (encZs l) .no), (1, .sl 15 (encZs m) .no), (5, .int .i64 (z : Nat))], []⟩) (fun z => R) (fun z => l.length - z) (fun z => z ≤ l.length ∧ ∀ (i : Nat) (h : i < l.length) (h' : i < m.length), i < z → l[i] = m[i]) (0) ?_ (weak_of ?_ rfl ?_) (fun z hz => ?_)
    · exact ⟨by omega, fun i _ _ h => by omega⟩
    · repeat (first | exact trivial | refine ⟨AVle.refl _, ?_⟩ | refine ⟨AVle.tk, ?_⟩ | refine ⟨AVle.nil, ?_⟩ | refine ⟨AVle.nilFull, ?_⟩ | refine ⟨AVle.eq (congrArg (AV.int .i64) (by first | (simp; done) | (simp; omega) | (rw [wrap_i64 (by first | omega | (simp; omega))]; first | rfl | omega | (simp; done) | (simp; omega)))), ?_⟩)
    · refine SW.le ?_
      repeat (first | exact SW.nil | refine SW.cons ?_ | refine SW.cells (by repeat (first | exact trivial | refine ⟨AVle.refl _, ?_⟩ | refine ⟨AVle.nilFull, ?_⟩ | refine ⟨AVle.tk, ?_⟩ | refine ⟨AVle.nil, ?_⟩)) rfl ?_ | refine SW.full ?_ | refine SW.drop ?_)
    obtain ⟨i1, i2⟩ := hz
    repeat (first | refine go_ ?_ | intro _)
    refine AW_iff (z < l.length) rfl (by first | (simp; done) | (simp <;> omega) | decide) (fun h => ?_) (fun h => ?_)
    rotate_left
    · have hal : l = m := List.ext_getElem hlen fun i h h' => i2 i h h' (by omega)
      repeat (first | refine go_ ?_ | intro _)
      refine AW_ret ?_
      repeat (first | refine ⟨0, rfl, ?_⟩ | refine ⟨1, rfl, ?_⟩ | refine ⟨2, rfl, ?_⟩ | refine ⟨3, rfl, ?_⟩ | refine ⟨4, rfl, ?_⟩ | refine ⟨5, rfl, ?_⟩ | refine ⟨6, rfl, ?_⟩)
      refine ⟨_, R, AVle.eq ?_, (by repeat (first | exact SLe.rfl | refine SLe.tail ?_)), rfl, rfl⟩
      exact congrArg AV.bool (isB_t hal).symm
    have hlt := h
    have hlt2 : z < m.length := by omega
    obtain ⟨x, hx⟩ : ∃ x, x = l[z] := ⟨_, rfl⟩
    obtain ⟨y, hy⟩ : ∃ x, x = m[z] := ⟨_, rfl⟩
    have hcx : cntZ x ≤ cntZs l := cntZs_mem (hx ▸ List.getElem_mem hlt)
    rw [cntZ_eq] at hcx
    have hne : ¬ x = y → ¬ l = m := fun hq ha => hq (by subst ha; rw [hx, hy])
    have k1 := fun R => refSameType_ok 3000 x.t (by omega) (by omega) y.t R
    have k2 := fun R => refSameExpr_ok 3000 x.x (by omega) (by omega) y.x R
    have k3 := fun R => refSameExpr_ok 3000 x.y (by omega) (by omega) y.y R
    have k4 := fun R => refSameStmts_ok (cntZs x.l) x.l (Nat.le_refl _) (by omega) y.l R
    have k5 := fun R => refSameStmts_ok (cntZs x.m) x.m (Nat.le_refl _) (by omega) y.m R
    repeat (first | refine go_ ?_ | intro _)
    refine AW_draw tab_ok mixed 11 (by first | rfl | kernel_rfl) ?_
    repeat (first | refine ga_ ?_ | intro _)
    refine at_get (z) (encSt x) (by first | rfl | omega | (rw [wrap_i64 (by omega)]; omega)) (by rw [hx]; exact encZs_get hlt) ?_
    repeat (first | refine ga_ ?_ | intro _)
    refine at_get (z) (encSt y) (by first | rfl | omega | (rw [wrap_i64 (by omega)]; omega)) (by rw [hy]; exact encZs_get hlt2) ?_
    repeat (first | refine ga_ ?_ | intro _)
    apply call_step
    · rfl
    · exact Or.inl ⟨⟨_, Tryd.func39, rfl, rfl⟩, k1 _⟩
    repeat (first | refine ga_ ?_ | intro _)
    refine AW_draw tab_ok mixed 11 (by first | rfl | kernel_rfl) ?_
    repeat (first | refine ga_ ?_ | intro _)
    refine at_get (z) (encSt x) (by first | rfl | omega | (rw [wrap_i64 (by omega)]; omega)) (by rw [hx]; exact encZs_get hlt) ?_
    repeat (first | refine ga_ ?_ | intro _)
    refine at_get (z) (encSt y) (by first | rfl | omega | (rw [wrap_i64 (by omega)]; omega)) (by rw [hy]; exact encZs_get hlt2) ?_
    repeat (first | refine ga_ ?_ | intro _)
    apply call_step
    · rfl
    · exact Or.inl ⟨⟨_, Tryd.func21, rfl, rfl⟩, k2 _⟩
    repeat (first | refine ga_ ?_ | intro _)
    refine AW_draw tab_ok mixed 11 (by first | rfl | kernel_rfl) ?_
    repeat (first | refine ga_ ?_ | intro _)
    refine at_get (z) (encSt x) (by first | rfl | omega | (rw [wrap_i64 (by omega)]; omega)) (by rw [hx]; exact encZs_get hlt) ?_
    repeat (first | refine ga_ ?_ | intro _)
    refine at_get (z) (encSt y) (by first | rfl | omega | (rw [wrap_i64 (by omega)]; omega)) (by rw [hy]; exact encZs_get hlt2) ?_
    repeat (first | refine ga_ ?_ | intro _)
    apply call_step
    · rfl
    · exact Or.inl ⟨⟨_, Tryd.func21, rfl, rfl⟩, k3 _⟩
    repeat (first | refine ga_ ?_ | intro _)
    refine AW_weak (weak_of (l := [(0, .sl 15 (encZs l) .no), (1, .sl 15 (encZs m) .no), (5, .int .i64 (z : Nat)), (6, .bool (isB (x.t = y.t))), (7, .bool (isB (x.x = y.x))), (8, .bool (isB (x.y = y.y)))]) (m := []) (S' := R) ?_ rfl ?_) ?_
    · repeat (first | exact trivial | refine ⟨AVle.refl _, ?_⟩ | refine ⟨AVle.tk, ?_⟩ | refine ⟨AVle.nil, ?_⟩ | refine ⟨AVle.nilFull, ?_⟩ | refine ⟨AVle.eq (congrArg (AV.int .i64) (by first | (simp; done) | (simp; omega) | (rw [wrap_i64 (by first | omega | (simp; omega))]; first | rfl | omega | (simp; done) | (simp; omega)))), ?_⟩)
    · refine SW.le ?_
      repeat (first | exact SW.nil | refine SW.cons ?_ | refine SW.cells (by repeat (first | exact trivial | refine ⟨AVle.refl _, ?_⟩ | refine ⟨AVle.nilFull, ?_⟩ | refine ⟨AVle.tk, ?_⟩ | refine ⟨AVle.nil, ?_⟩)) rfl ?_ | refine SW.full ?_ | refine SW.drop ?_)
    refine AW_draw tab_ok mixed 64 (by first | rfl | kernel_rfl) ?_
    repeat (first | refine ga_ ?_ | intro _)
    refine at_get (z) (encSt x) (by first | rfl | omega | (rw [wrap_i64 (by omega)]; omega)) (by rw [hx]; exact encZs_get hlt) ?_
    repeat (first | refine ga_ ?_ | intro _)
    refine at_get (z) (encSt y) (by first | rfl | omega | (rw [wrap_i64 (by omega)]; omega)) (by rw [hy]; exact encZs_get hlt2) ?_
    repeat (first | refine ga_ ?_ | intro _)
    refine gsplit (¬ x.op = y.op) (by first | (simp; done) | (simp <;> omega) | decide) (fun h => ?_) (fun h => ?_)
    · have hq := h
      repeat (first | refine ga_ ?_ | intro _)
      refine AW_ret ?_
      repeat (first | refine ⟨0, rfl, ?_⟩ | refine ⟨1, rfl, ?_⟩ | refine ⟨2, rfl, ?_⟩ | refine ⟨3, rfl, ?_⟩ | refine ⟨4, rfl, ?_⟩ | refine ⟨5, rfl, ?_⟩ | refine ⟨6, rfl, ?_⟩)
      refine ⟨_, R, AVle.eq ?_, (by repeat (first | exact SLe.rfl | refine SLe.tail ?_)), rfl, rfl⟩
      exact congrArg AV.bool (isB_f (hne fun e => hq (Z_ext.1 e).1)).symm
    have h1 : x.op = y.op := Decidable.not_not.1 h
    repeat (first | refine ga_ ?_ | intro _)
    refine at_get (z) (encSt x) (by first | rfl | omega | (rw [wrap_i64 (by omega)]; omega)) (by rw [hx]; exact encZs_get hlt) ?_
    repeat (first | refine ga_ ?_ | intro _)
    refine at_get (z) (encSt y) (by first | rfl | omega | (rw [wrap_i64 (by omega)]; omega)) (by rw [hy]; exact encZs_get hlt2) ?_
    repeat (first | refine ga_ ?_ | intro _)
    refine gsplit (¬ x.s = y.s) (by first | (simp; done) | (simp <;> omega) | decide) (fun h => ?_) (fun h => ?_)
    · have hq := h
      repeat (first | refine ga_ ?_ | intro _)
      refine AW_ret ?_
      repeat (first | refine ⟨0, rfl, ?_⟩ | refine ⟨1, rfl, ?_⟩ | refine ⟨2, rfl, ?_⟩ | refine ⟨3, rfl, ?_⟩ | refine ⟨4, rfl, ?_⟩ | refine ⟨5, rfl, ?_⟩ | refine ⟨6, rfl, ?_⟩)
      refine ⟨_, R, AVle.eq ?_, (by repeat (first | exact SLe.rfl | refine SLe.tail ?_)), rfl, rfl⟩
      exact congrArg AV.bool (isB_f (hne fun e => hq (Z_ext.1 e).2.1)).symm
    have h2 : x.s = y.s := Decidable.not_not.1 h
    repeat (first | refine ga_ ?_ | intro _)
    refine gsplit (¬ x.t = y.t) (by first | (simp; done) | (simp <;> omega) | decide) (fun h => ?_) (fun h => ?_)
    · have hq := h
      repeat (first | refine ga_ ?_ | intro _)
      refine AW_ret ?_
      repeat (first | refine ⟨0, rfl, ?_⟩ | refine ⟨1, rfl, ?_⟩ | refine ⟨2, rfl, ?_⟩ | refine ⟨3, rfl, ?_⟩ | refine ⟨4, rfl, ?_⟩ | refine ⟨5, rfl, ?_⟩ | refine ⟨6, rfl, ?_⟩)
      refine ⟨_, R, AVle.eq ?_, (by repeat (first | exact SLe.rfl | refine SLe.tail ?_)), rfl, rfl⟩
      exact congrArg AV.bool (isB_f (hne fun e => hq (Z_ext.1 e).2.2.1)).symm
    have h3 : x.t = y.t := Classical.not_not.1 h
    repeat (first | refine ga_ ?_ | intro _)
    refine gsplit (¬ x.x = y.x) (by first | (simp; done) | (simp <;> omega) | decide) (fun h => ?_) (fun h => ?_)
    · have hq := h
      repeat (first | refine ga_ ?_ | intro _)
      refine AW_ret ?_
      repeat (first | refine ⟨0, rfl, ?_⟩ | refine ⟨1, rfl, ?_⟩ | refine ⟨2, rfl, ?_⟩ | refine ⟨3, rfl, ?_⟩ | refine ⟨4, rfl, ?_⟩ | refine ⟨5, rfl, ?_⟩ | refine ⟨6, rfl, ?_⟩)
      refine ⟨_, R, AVle.eq ?_, (by repeat (first | exact SLe.rfl | refine SLe.tail ?_)), rfl, rfl⟩
      exact congrArg AV.bool (isB_f (hne fun e => hq (Z_ext.1 e).2.2.2.1)).symm
    have h4 : x.x = y.x := Classical.not_not.1 h
    repeat (first | refine ga_ ?_ | intro _)
    refine gsplit (¬ x.y = y.y) (by first | (simp; done) | (simp <;> omega) | decide) (fun h => ?_) (fun h => ?_)
    · have hq := h
      repeat (first | refine ga_ ?_ | intro _)
      refine AW_ret ?_
      repeat (first | refine ⟨0, rfl, ?_⟩ | refine ⟨1, rfl, ?_⟩ | refine ⟨2, rfl, ?_⟩ | refine ⟨3, rfl, ?_⟩ | refine ⟨4, rfl, ?_⟩ | refine ⟨5, rfl, ?_⟩ | refine ⟨6, rfl, ?_⟩)
      refine ⟨_, R, AVle.eq ?_, (by repeat (first | exact SLe.rfl | refine SLe.tail ?_)), rfl, rfl⟩
      exact congrArg AV.bool (isB_f (hne fun e => hq (Z_ext.1 e).2.2.2.2.1)).symm
    have h5 : x.y = y.y := Classical.not_not.1 h
    repeat (first | refine ga_ ?_ | intro _)
    refine at_get (z) (encSt x) (by first | rfl | omega | (rw [wrap_i64 (by omega)]; omega)) (by rw [hx]; exact encZs_get hlt) ?_
    repeat (first | refine ga_ ?_ | intro _)
    refine at_get (z) (encSt y) (by first | rfl | omega | (rw [wrap_i64 (by omega)]; omega)) (by rw [hy]; exact encZs_get hlt2) ?_
    repeat (first | refine ga_ ?_ | intro _)
    apply call_step
    · rfl
    · exact Or.inl ⟨⟨_, Tryd.func40, rfl, rfl⟩, k4 _⟩
    repeat (first | refine ga_ ?_ | intro _)
    refine gsplit (¬ x.l = y.l) (by first | (simp; done) | (simp <;> omega) | decide) (fun h => ?_) (fun h => ?_)
    · have hq := h
      repeat (first | refine ga_ ?_ | intro _)
      refine AW_ret ?_
      repeat (first | refine ⟨0, rfl, ?_⟩ | refine ⟨1, rfl, ?_⟩ | refine ⟨2, rfl, ?_⟩ | refine ⟨3, rfl, ?_⟩ | refine ⟨4, rfl, ?_⟩ | refine ⟨5, rfl, ?_⟩ | refine ⟨6, rfl, ?_⟩)
      refine ⟨_, R, AVle.eq ?_, (by repeat (first | exact SLe.rfl | refine SLe.tail ?_)), rfl, rfl⟩
      exact congrArg AV.bool (isB_f (hne fun e => hq (Z_ext.1 e).2.2.2.2.2.1)).symm
    have h6 : x.l = y.l := Classical.not_not.1 h
    repeat (first | refine ga_ ?_ | intro _)
    refine at_get (z) (encSt x) (by first | rfl | omega | (rw [wrap_i64 (by omega)]; omega)) (by rw [hx]; exact encZs_get hlt) ?_
    repeat (first | refine ga_ ?_ | intro _)
    refine at_get (z) (encSt y) (by first | rfl | omega | (rw [wrap_i64 (by omega)]; omega)) (by rw [hy]; exact encZs_get hlt2) ?_
    repeat (first | refine ga_ ?_ | intro _)
    apply call_step
    · rfl
    · exact Or.inl ⟨⟨_, Tryd.func40, rfl, rfl⟩, k5 _⟩
    repeat (first | refine ga_ ?_ | intro _)
    refine AW_cond (b := !isB (x.m = y.m)) rfl (fun h => ?_) (fun h => ?_)
    · have hq : ¬ x.m = y.m := isB_not.1 (by simpa using h)
      repeat (first | refine ga_ ?_ | intro _)
      refine AW_ret ?_
      repeat (first | refine ⟨0, rfl, ?_⟩ | refine ⟨1, rfl, ?_⟩ | refine ⟨2, rfl, ?_⟩ | refine ⟨3, rfl, ?_⟩ | refine ⟨4, rfl, ?_⟩ | refine ⟨5, rfl, ?_⟩ | refine ⟨6, rfl, ?_⟩)
      refine ⟨_, R, AVle.eq ?_, (by repeat (first | exact SLe.rfl | refine SLe.tail ?_)), rfl, rfl⟩
      exact congrArg AV.bool (isB_f (hne fun e => hq (Z_ext.1 e).2.2.2.2.2.2)).symm
    have h7 : x.m = y.m := isB_iff.1 (by simpa using h)
    have hq : x = y := Z_ext.2 ⟨h1, h2, h3, h4, h5, h6, h7⟩
    repeat (first | refine ga_ ?_ | intro _)
    refine ⟨z + 1, ?_, ?_, weak_of ?_ rfl ?_⟩
    · omega
    · refine ⟨by omega, fun i h h' hi => ?_⟩
      by_cases hc : i < z
      · exact i2 i h h' hc
      · obtain rfl : i = z := by omega
        rw [← hx, ← hy]; exact hq
    · repeat (first | exact trivial | refine ⟨AVle.refl _, ?_⟩ | refine ⟨AVle.tk, ?_⟩ | refine ⟨AVle.nil, ?_⟩ | refine ⟨AVle.nilFull, ?_⟩ | refine ⟨AVle.eq (congrArg (AV.int .i64) (by first | (simp; done) | (simp; omega) | (rw [wrap_i64 (by first | omega | (simp; omega))]; first | rfl | omega | (simp; done) | (simp; omega)))), ?_⟩)
    · refine SW.le ?_
      repeat (first | exact SW.nil | refine SW.cons ?_ | refine SW.cells (by repeat (first | exact trivial | refine ⟨AVle.refl _, ?_⟩ | refine ⟨AVle.nilFull, ?_⟩ | refine ⟨AVle.tk, ?_⟩ | refine ⟨AVle.nil, ?_⟩)) rfl ?_ | refine SW.full ?_ | refine SW.drop ?_)
termination_by n l => SizeOf.sizeOf l
decreasing_by
  all_goals
    have hmem := List.sizeOf_lt_of_mem (hx ▸ List.getElem_mem hlt : x ∈ l)
    cases x with
    | mk a b c d e f g => simp at hmem; (first | (show SizeOf.sizeOf f < _; omega) | (show SizeOf.sizeOf g < _; omega))
end Go.Proofs.YtnkmjbjpmocnbaaDoor
/-
  Which files are alike, by the book. Own work.
-/
namespace Go.Proofs.YtnkmjbjpmocnbaaDoor
open Go.Aw Go.RowKit
set_option maxHeartbeats 4000000

def partsP (a b : List (List UInt8)) (s t : List Y) : Prop := a = b ∧ s = t
theorem refSameParts_ok (a b : List (List UInt8)) (s t : List Y) (R : List En) (ha : a.length ≤ 3000) (hs : cntYs s ≤ 3000) : ACall Tryd.prog 38 [.sl 1 (a.map AV.str) .no, .sl 3 (encYs s) .no, .sl 1 (b.map AV.str) .no, .sl 3 (encYs t) .no] R (fun r S => r = .bool (isB (partsP a b s t)) ∧ S = R) := by
  have hl := len_cntYs s
  refine ACall_body tab_ok Tryd.func38 rfl rfl rfl (by kernel_rfl) (Nat.le_of_ble_eq_true rfl) ?_
  repeat (first | refine go_ ?_ | intro _)
  refine gsplit (¬ a.length = b.length) (by first | (simp; done) | (simp <;> omega) | decide) (fun h => ?_) (fun h => ?_)
  · have hq := h
    repeat (first | refine ga_ ?_ | intro _)
    refine AW_ret ?_
    repeat (first | refine ⟨0, rfl, ?_⟩ | refine ⟨1, rfl, ?_⟩ | refine ⟨2, rfl, ?_⟩ | refine ⟨3, rfl, ?_⟩ | refine ⟨4, rfl, ?_⟩ | refine ⟨5, rfl, ?_⟩ | refine ⟨6, rfl, ?_⟩)
    refine ⟨_, R, AVle.eq ?_, (by repeat (first | exact SLe.rfl | refine SLe.tail ?_)), rfl, rfl⟩
    exact congrArg AV.bool (isB_f (fun e => hq (by rw [e.1]))).symm
  have l1 : a.length = b.length := Decidable.not_not.1 h
  repeat (first | refine ga_ ?_ | intro _)
  refine AW_iff (¬ s.length = t.length) rfl (by first | (simp; done) | (simp <;> omega) | decide) (fun h => ?_) (fun h => ?_)
  · have hq := h
    repeat (first | refine ga_ ?_ | intro _)
    refine AW_ret ?_
    repeat (first | refine ⟨0, rfl, ?_⟩ | refine ⟨1, rfl, ?_⟩ | refine ⟨2, rfl, ?_⟩ | refine ⟨3, rfl, ?_⟩ | refine ⟨4, rfl, ?_⟩ | refine ⟨5, rfl, ?_⟩ | refine ⟨6, rfl, ?_⟩)
    refine ⟨_, R, AVle.eq ?_, (by repeat (first | exact SLe.rfl | refine SLe.tail ?_)), rfl, rfl⟩
    exact congrArg AV.bool (isB_f (fun e => hq (by rw [e.2]))).symm
  have l2 : s.length = t.length := Decidable.not_not.1 h
  repeat (first | refine go_ ?_ | intro _)
  refine AW_for (α := Nat) (fun z => ⟨[(0, .sl 1 (a.map AV.str) .no), (1, .sl 3 (encYs s) .no), (2, .sl 1 (b.map AV.str) .no), (3, .sl 3 (encYs t) .no), (9, .int .i64 (z : Nat))], []⟩) (fun z => R) (fun z => a.length - z) (fun z => z ≤ a.length ∧ ∀ (i : Nat) (h : i < a.length) (h' : i < b.length), i < z → a[i] = b[i]) (0) ?_ (weak_of ?_ rfl ?_) (fun z hz => ?_)
  · exact ⟨by omega, fun i _ _ h => by omega⟩
  · repeat (first | exact trivial | refine ⟨AVle.refl _, ?_⟩ | refine ⟨AVle.tk, ?_⟩ | refine ⟨AVle.nil, ?_⟩ | refine ⟨AVle.nilFull, ?_⟩ | refine ⟨AVle.eq (congrArg (AV.int .i64) (by first | (simp; done) | (simp; omega) | (rw [wrap_i64 (by first | omega | (simp; omega))]; first | rfl | omega | (simp; done) | (simp; omega)))), ?_⟩)
  · refine SW.le ?_
    repeat (first | exact SW.nil | refine SW.cons ?_ | refine SW.cells (by repeat (first | exact trivial | refine ⟨AVle.refl _, ?_⟩ | refine ⟨AVle.nilFull, ?_⟩ | refine ⟨AVle.tk, ?_⟩ | refine ⟨AVle.nil, ?_⟩)) rfl ?_ | refine SW.full ?_ | refine SW.drop ?_)
  obtain ⟨i1, i2⟩ := hz
  repeat (first | refine go_ ?_ | intro _)
  refine AW_iff (z < a.length) rfl (by first | (simp; done) | (simp <;> omega) | decide) (fun h => ?_) (fun h => ?_)
  · have hlt := h
    have hlt2 : z < b.length := by omega
    obtain ⟨x, hx⟩ : ∃ x, x = a[z] := ⟨_, rfl⟩
    obtain ⟨y, hy⟩ : ∃ x, x = b[z] := ⟨_, rfl⟩
    repeat (first | refine go_ ?_ | intro _)
    refine AW_draw tab_ok mixed 9 (by first | rfl | kernel_rfl) ?_
    repeat (first | refine go_ ?_ | intro _)
    refine at_get (z) (.str x) (by first | rfl | omega | (rw [wrap_i64 (by omega)]; omega)) (by rw [List.getElem?_map, List.getElem?_eq_getElem hlt, hx]; rfl) ?_
    repeat (first | refine go_ ?_ | intro _)
    refine at_get (z) (.str y) (by first | rfl | omega | (rw [wrap_i64 (by omega)]; omega)) (by rw [List.getElem?_map, List.getElem?_eq_getElem hlt2, hy]; rfl) ?_
    repeat (first | refine go_ ?_ | intro _)
    refine AW_iff (¬ x = y) rfl (by first | (simp; done) | (simp <;> omega) | decide) (fun h => ?_) (fun h => ?_)
    · have hq := h
      repeat (first | refine ga_ ?_ | intro _)
      refine AW_ret ?_
      repeat (first | refine ⟨0, rfl, ?_⟩ | refine ⟨1, rfl, ?_⟩ | refine ⟨2, rfl, ?_⟩ | refine ⟨3, rfl, ?_⟩ | refine ⟨4, rfl, ?_⟩ | refine ⟨5, rfl, ?_⟩ | refine ⟨6, rfl, ?_⟩)
      refine ⟨_, R, AVle.eq ?_, (by repeat (first | exact SLe.rfl | refine SLe.tail ?_)), rfl, rfl⟩
      exact congrArg AV.bool (isB_f (fun ha => hq (by have e := ha.1; subst e; rw [hx, hy]))).symm
    · have hq : x = y := Decidable.not_not.1 h
      repeat (first | refine go_ ?_ | intro _)
      refine ⟨z + 1, ?_, ?_, weak_of ?_ rfl ?_⟩
      · omega
      · refine ⟨by omega, fun i h h' hi => ?_⟩
        by_cases hc : i < z
        · exact i2 i h h' hc
        · obtain rfl : i = z := by omega
          rw [← hx, ← hy]; exact hq
      · repeat (first | exact trivial | refine ⟨AVle.refl _, ?_⟩ | refine ⟨AVle.tk, ?_⟩ | refine ⟨AVle.nil, ?_⟩ | refine ⟨AVle.nilFull, ?_⟩ | refine ⟨AVle.eq (congrArg (AV.int .i64) (by first | (simp; done) | (simp; omega) | (rw [wrap_i64 (by first | omega | (simp; omega))]; first | rfl | omega | (simp; done) | (simp; omega)))), ?_⟩)
      · refine SW.le ?_
        repeat (first | exact SW.nil | refine SW.cons ?_ | refine SW.cells (by repeat (first | exact trivial | refine ⟨AVle.refl _, ?_⟩ | refine ⟨AVle.nilFull, ?_⟩ | refine ⟨AVle.tk, ?_⟩ | refine ⟨AVle.nil, ?_⟩)) rfl ?_ | refine SW.full ?_ | refine SW.drop ?_)
  have h4 : a = b := List.ext_getElem l1 fun i h h' => i2 i h h' (by omega)
  clear i1 i2 h
  repeat (first | refine go_ ?_ | intro _)
  refine AW_for (α := Nat) (fun z => ⟨[(0, .sl 1 (a.map AV.str) .no), (1, .sl 3 (encYs s) .no), (2, .sl 1 (b.map AV.str) .no), (3, .sl 3 (encYs t) .no), (10, .int .i64 (z : Nat))], []⟩) (fun z => R) (fun z => s.length - z) (fun z => z ≤ s.length ∧ ∀ (i : Nat) (h : i < s.length) (h' : i < t.length), i < z → s[i] = t[i]) (0) ?_ (weak_of ?_ rfl ?_) (fun z hz => ?_)
  · exact ⟨by omega, fun i _ _ h => by omega⟩
  · repeat (first | exact trivial | refine ⟨AVle.refl _, ?_⟩ | refine ⟨AVle.tk, ?_⟩ | refine ⟨AVle.nil, ?_⟩ | refine ⟨AVle.nilFull, ?_⟩ | refine ⟨AVle.eq (congrArg (AV.int .i64) (by first | (simp; done) | (simp; omega) | (rw [wrap_i64 (by first | omega | (simp; omega))]; first | rfl | omega | (simp; done) | (simp; omega)))), ?_⟩)
  · refine SW.le ?_
    repeat (first | exact SW.nil | refine SW.cons ?_ | refine SW.cells (by repeat (first | exact trivial | refine ⟨AVle.refl _, ?_⟩ | refine ⟨AVle.nilFull, ?_⟩ | refine ⟨AVle.tk, ?_⟩ | refine ⟨AVle.nil, ?_⟩)) rfl ?_ | refine SW.full ?_ | refine SW.drop ?_)
  obtain ⟨i1, i2⟩ := hz
  repeat (first | refine go_ ?_ | intro _)
  refine AW_iff (z < s.length) rfl (by first | (simp; done) | (simp <;> omega) | decide) (fun h => ?_) (fun h => ?_)
  · have hlt := h
    have hlt2 : z < t.length := by omega
    obtain ⟨x, hx⟩ : ∃ x, x = s[z] := ⟨_, rfl⟩
    obtain ⟨y, hy⟩ : ∃ x, x = t[z] := ⟨_, rfl⟩
    have hcx : cntY x ≤ cntYs s := cntYs_mem (hx ▸ List.getElem_mem hlt)
    have kx := fun R => refSameType_ok 3000 x (by omega) (by omega) y R
    repeat (first | refine go_ ?_ | intro _)
    refine AW_draw tab_ok mixed 9 (by first | rfl | kernel_rfl) ?_
    repeat (first | refine go_ ?_ | intro _)
    refine at_get (z) (encV x) (by first | rfl | omega | (rw [wrap_i64 (by omega)]; omega)) (by rw [hx]; exact encYs_get hlt) ?_
    repeat (first | refine go_ ?_ | intro _)
    refine at_get (z) (encV y) (by first | rfl | omega | (rw [wrap_i64 (by omega)]; omega)) (by rw [hy]; exact encYs_get hlt2) ?_
    repeat (first | refine go_ ?_ | intro _)
    apply call_step
    · rfl
    · exact Or.inl ⟨⟨_, Tryd.func39, rfl, rfl⟩, kx _⟩
    repeat (first | refine go_ ?_ | intro _)
    refine AW_cond (b := !isB (x = y)) rfl (fun h => ?_) (fun h => ?_)
    · have hq : ¬ x = y := isB_not.1 (by simpa using h)
      repeat (first | refine ga_ ?_ | intro _)
      refine AW_ret ?_
      repeat (first | refine ⟨0, rfl, ?_⟩ | refine ⟨1, rfl, ?_⟩ | refine ⟨2, rfl, ?_⟩ | refine ⟨3, rfl, ?_⟩ | refine ⟨4, rfl, ?_⟩ | refine ⟨5, rfl, ?_⟩ | refine ⟨6, rfl, ?_⟩)
      refine ⟨_, R, AVle.eq ?_, (by repeat (first | exact SLe.rfl | refine SLe.tail ?_)), rfl, rfl⟩
      exact congrArg AV.bool (isB_f (fun ha => hq (by have e := ha.2; subst e; rw [hx, hy]))).symm
    · have hq : x = y := isB_iff.1 (by simpa using h)
      repeat (first | refine go_ ?_ | intro _)
      refine ⟨z + 1, ?_, ?_, weak_of ?_ rfl ?_⟩
      · omega
      · refine ⟨by omega, fun i h h' hi => ?_⟩
        by_cases hc : i < z
        · exact i2 i h h' hc
        · obtain rfl : i = z := by omega
          rw [← hx, ← hy]; exact hq
      · repeat (first | exact trivial | refine ⟨AVle.refl _, ?_⟩ | refine ⟨AVle.tk, ?_⟩ | refine ⟨AVle.nil, ?_⟩ | refine ⟨AVle.nilFull, ?_⟩ | refine ⟨AVle.eq (congrArg (AV.int .i64) (by first | (simp; done) | (simp; omega) | (rw [wrap_i64 (by first | omega | (simp; omega))]; first | rfl | omega | (simp; done) | (simp; omega)))), ?_⟩)
      · refine SW.le ?_
        repeat (first | exact SW.nil | refine SW.cons ?_ | refine SW.cells (by repeat (first | exact trivial | refine ⟨AVle.refl _, ?_⟩ | refine ⟨AVle.nilFull, ?_⟩ | refine ⟨AVle.tk, ?_⟩ | refine ⟨AVle.nil, ?_⟩)) rfl ?_ | refine SW.full ?_ | refine SW.drop ?_)
  have h5 : s = t := List.ext_getElem l2 fun i h h' => i2 i h h' (by omega)
  repeat (first | refine go_ ?_ | intro _)
  refine AW_ret ?_
  repeat (first | refine ⟨0, rfl, ?_⟩ | refine ⟨1, rfl, ?_⟩ | refine ⟨2, rfl, ?_⟩ | refine ⟨3, rfl, ?_⟩ | refine ⟨4, rfl, ?_⟩ | refine ⟨5, rfl, ?_⟩ | refine ⟨6, rfl, ?_⟩)
  refine ⟨_, R, AVle.eq ?_, (by repeat (first | exact SLe.rfl | refine SLe.tail ?_)), rfl, rfl⟩
  exact congrArg AV.bool (isB_t ⟨h4, h5⟩).symm
theorem refSame_ok (a b : Fi) (R : List En) (hc : cntFi a ≤ 3000) : ACall Tryd.prog 18 [encFi a, encFi b] R (fun r S => r = .bool (isB (a = b)) ∧ S = R) := by
  unfold cntFi at hc
  have c1 := len_cntScs a.structs
  have c2 := len_cntFns a.funcs
  refine ACall_body tab_ok Tryd.func18 rfl rfl rfl (by kernel_rfl) (Nat.le_of_ble_eq_true rfl) ?_
  repeat (first | refine go_ ?_ | intro _)
  rename_i p q
  refine gsplit (¬ a.structs.length = b.structs.length) (by first | (simp; done) | (simp <;> omega) | decide) (fun h => ?_) (fun h => ?_)
  · have hq := h
    repeat (first | refine ga_ ?_ | intro _)
    refine AW_ret ?_
    repeat (first | refine ⟨0, rfl, ?_⟩ | refine ⟨1, rfl, ?_⟩ | refine ⟨2, rfl, ?_⟩ | refine ⟨3, rfl, ?_⟩ | refine ⟨4, rfl, ?_⟩ | refine ⟨5, rfl, ?_⟩ | refine ⟨6, rfl, ?_⟩)
    refine ⟨_, R, AVle.eq ?_, (by repeat (first | exact SLe.rfl | refine SLe.tail ?_)), rfl, rfl⟩
    exact congrArg AV.bool (isB_f (fun e => hq (by rw [e]))).symm
  have l1 : a.structs.length = b.structs.length := Decidable.not_not.1 h
  repeat (first | refine ga_ ?_ | intro _)
  refine AW_iff (¬ a.funcs.length = b.funcs.length) rfl (by first | (simp; done) | (simp <;> omega) | decide) (fun h => ?_) (fun h => ?_)
  · have hq := h
    repeat (first | refine ga_ ?_ | intro _)
    refine AW_ret ?_
    repeat (first | refine ⟨0, rfl, ?_⟩ | refine ⟨1, rfl, ?_⟩ | refine ⟨2, rfl, ?_⟩ | refine ⟨3, rfl, ?_⟩ | refine ⟨4, rfl, ?_⟩ | refine ⟨5, rfl, ?_⟩ | refine ⟨6, rfl, ?_⟩)
    refine ⟨_, R, AVle.eq ?_, (by repeat (first | exact SLe.rfl | refine SLe.tail ?_)), rfl, rfl⟩
    exact congrArg AV.bool (isB_f (fun e => hq (by rw [e]))).symm
  have l2 : a.funcs.length = b.funcs.length := Decidable.not_not.1 h
  repeat (first | refine go_ ?_ | intro _)
  refine AW_for (α := Nat) (fun z => ⟨[(2, .ptr p 0), (3, .ptr q 0), (5, .int .i64 (z : Nat))], []⟩) (fun z => .cells q (cFi b) :: .cells p (cFi a) :: R) (fun z => a.structs.length - z) (fun z => z ≤ a.structs.length ∧ ∀ (i : Nat) (h : i < a.structs.length) (h' : i < b.structs.length), i < z → a.structs[i] = b.structs[i]) (0) ?_ (weak_of ?_ rfl ?_) (fun z hz => ?_)
  · exact ⟨by omega, fun i _ _ h => by omega⟩
  · repeat (first | exact trivial | refine ⟨AVle.refl _, ?_⟩ | refine ⟨AVle.tk, ?_⟩ | refine ⟨AVle.nil, ?_⟩ | refine ⟨AVle.nilFull, ?_⟩ | refine ⟨AVle.eq (congrArg (AV.int .i64) (by first | (simp; done) | (simp; omega) | (rw [wrap_i64 (by first | omega | (simp; omega))]; first | rfl | omega | (simp; done) | (simp; omega)))), ?_⟩)
  · refine SW.le ?_
    repeat (first | exact SW.nil | refine SW.cons ?_ | refine SW.cells (by repeat (first | exact trivial | refine ⟨AVle.refl _, ?_⟩ | refine ⟨AVle.nilFull, ?_⟩ | refine ⟨AVle.tk, ?_⟩ | refine ⟨AVle.nil, ?_⟩)) rfl ?_ | refine SW.full ?_ | refine SW.drop ?_)
  obtain ⟨i1, i2⟩ := hz
  repeat (first | refine go_ ?_ | intro _)
  refine AW_iff (z < a.structs.length) rfl (by first | (simp; done) | (simp <;> omega) | decide) (fun h => ?_) (fun h => ?_)
  · have hlt := h
    have hlt2 : z < b.structs.length := by omega
    obtain ⟨x, hx⟩ : ∃ x, x = a.structs[z] := ⟨_, rfl⟩
    obtain ⟨y, hy⟩ : ∃ x, x = b.structs[z] := ⟨_, rfl⟩
    have hcx : cntSc x ≤ cntScs a.structs := cntScs_mem (hx ▸ List.getElem_mem hlt)
    unfold cntSc at hcx
    have hne : ¬ x = y → ¬ a = b := fun hq ha => hq (by subst ha; rw [hx, hy])
    have kp := fun R => refSameParts_ok x.names y.names x.types y.types R (by omega) (by omega)
    repeat (first | refine go_ ?_ | intro _)
    refine AW_draw tab_ok mixed 25 (by first | rfl | kernel_rfl) ?_
    repeat (first | refine ga_ ?_ | intro _)
    refine at_get (z) (encSc x) (by first | rfl | omega | (rw [wrap_i64 (by omega)]; omega)) (by exact encScs_get hlt hx) ?_
    repeat (first | refine ga_ ?_ | intro _)
    refine at_get (z) (encSc x) (by first | rfl | omega | (rw [wrap_i64 (by omega)]; omega)) (by exact encScs_get hlt hx) ?_
    repeat (first | refine ga_ ?_ | intro _)
    refine at_get (z) (encSc y) (by first | rfl | omega | (rw [wrap_i64 (by omega)]; omega)) (by exact encScs_get hlt2 hy) ?_
    repeat (first | refine ga_ ?_ | intro _)
    refine at_get (z) (encSc y) (by first | rfl | omega | (rw [wrap_i64 (by omega)]; omega)) (by exact encScs_get hlt2 hy) ?_
    repeat (first | refine ga_ ?_ | intro _)
    apply call_step
    · rfl
    · exact Or.inl ⟨⟨_, Tryd.func38, rfl, rfl⟩, kp _⟩
    repeat (first | refine ga_ ?_ | intro _)
    refine AW_weak (weak_of (l := [(2, .ptr p 0), (3, .ptr q 0), (5, .int .i64 (z : Nat)), (6, .bool (isB (partsP x.names y.names x.types y.types)))]) (m := []) (S' := .cells q (cFi b) :: .cells p (cFi a) :: R) ?_ rfl ?_) ?_
    · repeat (first | exact trivial | refine ⟨AVle.refl _, ?_⟩ | refine ⟨AVle.tk, ?_⟩ | refine ⟨AVle.nil, ?_⟩ | refine ⟨AVle.nilFull, ?_⟩ | refine ⟨AVle.eq (congrArg (AV.int .i64) (by first | (simp; done) | (simp; omega) | (rw [wrap_i64 (by first | omega | (simp; omega))]; first | rfl | omega | (simp; done) | (simp; omega)))), ?_⟩)
    · refine SW.le ?_
      repeat (first | exact SW.nil | refine SW.cons ?_ | refine SW.cells (by repeat (first | exact trivial | refine ⟨AVle.refl _, ?_⟩ | refine ⟨AVle.nilFull, ?_⟩ | refine ⟨AVle.tk, ?_⟩ | refine ⟨AVle.nil, ?_⟩)) rfl ?_ | refine SW.full ?_ | refine SW.drop ?_)
    refine AW_draw tab_ok mixed 17 (by first | rfl | kernel_rfl) ?_
    repeat (first | refine ga_ ?_ | intro _)
    refine at_get (z) (encSc x) (by first | rfl | omega | (rw [wrap_i64 (by omega)]; omega)) (by exact encScs_get hlt hx) ?_
    repeat (first | refine ga_ ?_ | intro _)
    refine at_get (z) (encSc y) (by first | rfl | omega | (rw [wrap_i64 (by omega)]; omega)) (by exact encScs_get hlt2 hy) ?_
    repeat (first | refine ga_ ?_ | intro _)
    refine gsplit (¬ x.s = y.s) (by first | (simp; done) | (simp <;> omega) | decide) (fun h => ?_) (fun h => ?_)
    · have hq := h
      repeat (first | refine ga_ ?_ | intro _)
      refine AW_ret ?_
      repeat (first | refine ⟨0, rfl, ?_⟩ | refine ⟨1, rfl, ?_⟩ | refine ⟨2, rfl, ?_⟩ | refine ⟨3, rfl, ?_⟩ | refine ⟨4, rfl, ?_⟩ | refine ⟨5, rfl, ?_⟩ | refine ⟨6, rfl, ?_⟩)
      refine ⟨_, R, AVle.eq ?_, (by repeat (first | exact SLe.rfl | refine SLe.tail ?_)), rfl, rfl⟩
      exact congrArg AV.bool (isB_f (hne fun e => hq (Sc_ext.1 e).1)).symm
    have h3 : x.s = y.s := Decidable.not_not.1 h
    repeat (first | refine ga_ ?_ | intro _)
    refine AW_cond (b := !isB (partsP x.names y.names x.types y.types)) rfl (fun h => ?_) (fun h => ?_)
    · have hq : ¬ partsP x.names y.names x.types y.types := isB_not.1 (by simpa using h)
      repeat (first | refine ga_ ?_ | intro _)
      refine AW_ret ?_
      repeat (first | refine ⟨0, rfl, ?_⟩ | refine ⟨1, rfl, ?_⟩ | refine ⟨2, rfl, ?_⟩ | refine ⟨3, rfl, ?_⟩ | refine ⟨4, rfl, ?_⟩ | refine ⟨5, rfl, ?_⟩ | refine ⟨6, rfl, ?_⟩)
      refine ⟨_, R, AVle.eq ?_, (by repeat (first | exact SLe.rfl | refine SLe.tail ?_)), rfl, rfl⟩
      exact congrArg AV.bool (isB_f (hne fun e => hq (Sc_ext.1 e).2)).symm
    have h4 : partsP x.names y.names x.types y.types := isB_iff.1 (by simpa using h)
    have hq : x = y := Sc_ext.2 ⟨h3, h4⟩
    repeat (first | refine ga_ ?_ | intro _)
    refine ⟨z + 1, ?_, ?_, weak_of ?_ rfl ?_⟩
    · omega
    · refine ⟨by omega, fun i h h' hi => ?_⟩
      by_cases hc : i < z
      · exact i2 i h h' hc
      · obtain rfl : i = z := by omega
        rw [← hx, ← hy]; exact hq
    · repeat (first | exact trivial | refine ⟨AVle.refl _, ?_⟩ | refine ⟨AVle.tk, ?_⟩ | refine ⟨AVle.nil, ?_⟩ | refine ⟨AVle.nilFull, ?_⟩ | refine ⟨AVle.eq (congrArg (AV.int .i64) (by first | (simp; done) | (simp; omega) | (rw [wrap_i64 (by first | omega | (simp; omega))]; first | rfl | omega | (simp; done) | (simp; omega)))), ?_⟩)
    · refine SW.le ?_
      repeat (first | exact SW.nil | refine SW.cons ?_ | refine SW.cells (by repeat (first | exact trivial | refine ⟨AVle.refl _, ?_⟩ | refine ⟨AVle.nilFull, ?_⟩ | refine ⟨AVle.tk, ?_⟩ | refine ⟨AVle.nil, ?_⟩)) rfl ?_ | refine SW.full ?_ | refine SW.drop ?_)
  have h5 : a.structs = b.structs := List.ext_getElem l1 fun i h h' => i2 i h h' (by omega)
  clear i1 i2 h
  repeat (first | refine go_ ?_ | intro _)
  refine AW_for (α := Nat) (fun z => ⟨[(2, .ptr p 0), (3, .ptr q 0), (7, .int .i64 (z : Nat))], []⟩) (fun z => .cells q (cFi b) :: .cells p (cFi a) :: R) (fun z => a.funcs.length - z) (fun z => z ≤ a.funcs.length ∧ ∀ (i : Nat) (h : i < a.funcs.length) (h' : i < b.funcs.length), i < z → a.funcs[i] = b.funcs[i]) (0) ?_ (weak_of ?_ rfl ?_) (fun z hz => ?_)
  · exact ⟨by omega, fun i _ _ h => by omega⟩
  · repeat (first | exact trivial | refine ⟨AVle.refl _, ?_⟩ | refine ⟨AVle.tk, ?_⟩ | refine ⟨AVle.nil, ?_⟩ | refine ⟨AVle.nilFull, ?_⟩ | refine ⟨AVle.eq (congrArg (AV.int .i64) (by first | (simp; done) | (simp; omega) | (rw [wrap_i64 (by first | omega | (simp; omega))]; first | rfl | omega | (simp; done) | (simp; omega)))), ?_⟩)
  · refine SW.le ?_
    repeat (first | exact SW.nil | refine SW.cons ?_ | refine SW.cells (by repeat (first | exact trivial | refine ⟨AVle.refl _, ?_⟩ | refine ⟨AVle.nilFull, ?_⟩ | refine ⟨AVle.tk, ?_⟩ | refine ⟨AVle.nil, ?_⟩)) rfl ?_ | refine SW.full ?_ | refine SW.drop ?_)
  obtain ⟨i1, i2⟩ := hz
  repeat (first | refine go_ ?_ | intro _)
  refine AW_iff (z < a.funcs.length) rfl (by first | (simp; done) | (simp <;> omega) | decide) (fun h => ?_) (fun h => ?_)
  · have hlt := h
    have hlt2 : z < b.funcs.length := by omega
    obtain ⟨x, hx⟩ : ∃ x, x = a.funcs[z] := ⟨_, rfl⟩
    obtain ⟨y, hy⟩ : ∃ x, x = b.funcs[z] := ⟨_, rfl⟩
    have hcx : cntFn x ≤ cntFns a.funcs := cntFns_mem (hx ▸ List.getElem_mem hlt)
    unfold cntFn at hcx
    have hne : ¬ x = y → ¬ a = b := fun hq ha => hq (by subst ha; rw [hx, hy])
    have kp := fun R => refSameParts_ok x.names y.names x.types y.types R (by omega) (by omega)
    have kr := fun R => refSameType_ok 3000 x.ret (by omega) (by omega) y.ret R
    have kb := fun R => refSameStmts_ok 3000 x.l (by omega) (by omega) y.l R
    repeat (first | refine go_ ?_ | intro _)
    refine at_get (z) (encFn x) (by first | rfl | omega | (rw [wrap_i64 (by omega)]; omega)) (by exact encFns_get hlt hx) ?_
    repeat (first | refine go_ ?_ | intro _)
    refine at_get (z) (encFn y) (by first | rfl | omega | (rw [wrap_i64 (by omega)]; omega)) (by exact encFns_get hlt2 hy) ?_
    repeat (first | refine go_ ?_ | intro _)
    refine Or.inl ⟨⟨_, Tryd.func38, rfl, rfl⟩, ACall.mono ?_ (kp _)⟩
    rintro _ S1 ⟨rfl, hS1⟩
    subst S1
    repeat (first | refine go_ ?_ | intro _)
    refine Or.inl ⟨⟨_, Tryd.func39, rfl, rfl⟩, ACall.mono ?_ (kr _)⟩
    rintro _ S1 ⟨rfl, hS1⟩
    subst S1
    repeat (first | refine go_ ?_ | intro _)
    refine Or.inl ⟨⟨_, Tryd.func40, rfl, rfl⟩, ACall.mono ?_ (kb _)⟩
    rintro _ S1 ⟨rfl, hS1⟩
    subst S1
    repeat (first | refine ga_ ?_ | intro _)
    refine gsplit (¬ x.s = y.s) (by first | (simp; done) | (simp <;> omega) | decide) (fun h => ?_) (fun h => ?_)
    · have hq := h
      repeat (first | refine ga_ ?_ | intro _)
      refine AW_ret ?_
      repeat (first | refine ⟨0, rfl, ?_⟩ | refine ⟨1, rfl, ?_⟩ | refine ⟨2, rfl, ?_⟩ | refine ⟨3, rfl, ?_⟩ | refine ⟨4, rfl, ?_⟩ | refine ⟨5, rfl, ?_⟩ | refine ⟨6, rfl, ?_⟩)
      refine ⟨_, R, AVle.eq ?_, (by repeat (first | exact SLe.rfl | refine SLe.tail ?_)), rfl, rfl⟩
      exact congrArg AV.bool (isB_f (hne fun e => hq (Fn_ext.1 e).1)).symm
    have h3 : x.s = y.s := Decidable.not_not.1 h
    repeat (first | refine ga_ ?_ | intro _)
    refine gsplit (¬ partsP x.names y.names x.types y.types) (by first | (simp; done) | (simp <;> omega) | decide) (fun h => ?_) (fun h => ?_)
    · have hq := h
      repeat (first | refine ga_ ?_ | intro _)
      refine AW_ret ?_
      repeat (first | refine ⟨0, rfl, ?_⟩ | refine ⟨1, rfl, ?_⟩ | refine ⟨2, rfl, ?_⟩ | refine ⟨3, rfl, ?_⟩ | refine ⟨4, rfl, ?_⟩ | refine ⟨5, rfl, ?_⟩ | refine ⟨6, rfl, ?_⟩)
      refine ⟨_, R, AVle.eq ?_, (by repeat (first | exact SLe.rfl | refine SLe.tail ?_)), rfl, rfl⟩
      exact congrArg AV.bool (isB_f (hne fun e => hq ⟨(Fn_ext.1 e).2.1, (Fn_ext.1 e).2.2.1⟩)).symm
    have h4 : partsP x.names y.names x.types y.types := Classical.not_not.1 h
    repeat (first | refine ga_ ?_ | intro _)
    refine gsplit (¬ x.ret = y.ret) (by first | (simp; done) | (simp <;> omega) | decide) (fun h => ?_) (fun h => ?_)
    · have hq := h
      repeat (first | refine ga_ ?_ | intro _)
      refine AW_ret ?_
      repeat (first | refine ⟨0, rfl, ?_⟩ | refine ⟨1, rfl, ?_⟩ | refine ⟨2, rfl, ?_⟩ | refine ⟨3, rfl, ?_⟩ | refine ⟨4, rfl, ?_⟩ | refine ⟨5, rfl, ?_⟩ | refine ⟨6, rfl, ?_⟩)
      refine ⟨_, R, AVle.eq ?_, (by repeat (first | exact SLe.rfl | refine SLe.tail ?_)), rfl, rfl⟩
      exact congrArg AV.bool (isB_f (hne fun e => hq (Fn_ext.1 e).2.2.2.1)).symm
    have h6 : x.ret = y.ret := Classical.not_not.1 h
    repeat (first | refine ga_ ?_ | intro _)
    refine AW_cond (b := !isB (x.l = y.l)) rfl (fun h => ?_) (fun h => ?_)
    · have hq : ¬ x.l = y.l := isB_not.1 (by simpa using h)
      repeat (first | refine ga_ ?_ | intro _)
      refine AW_ret ?_
      repeat (first | refine ⟨0, rfl, ?_⟩ | refine ⟨1, rfl, ?_⟩ | refine ⟨2, rfl, ?_⟩ | refine ⟨3, rfl, ?_⟩ | refine ⟨4, rfl, ?_⟩ | refine ⟨5, rfl, ?_⟩ | refine ⟨6, rfl, ?_⟩)
      refine ⟨_, R, AVle.eq ?_, (by repeat (first | exact SLe.rfl | refine SLe.tail ?_)), rfl, rfl⟩
      exact congrArg AV.bool (isB_f (hne fun e => hq (Fn_ext.1 e).2.2.2.2)).symm
    have h7 : x.l = y.l := isB_iff.1 (by simpa using h)
    have hq : x = y := Fn_ext.2 ⟨h3, h4.1, h4.2, h6, h7⟩
    repeat (first | refine ga_ ?_ | intro _)
    refine ⟨z + 1, ?_, ?_, weak_of ?_ rfl ?_⟩
    · omega
    · refine ⟨by omega, fun i h h' hi => ?_⟩
      by_cases hc : i < z
      · exact i2 i h h' hc
      · obtain rfl : i = z := by omega
        rw [← hx, ← hy]; exact hq
    · repeat (first | exact trivial | refine ⟨AVle.refl _, ?_⟩ | refine ⟨AVle.tk, ?_⟩ | refine ⟨AVle.nil, ?_⟩ | refine ⟨AVle.nilFull, ?_⟩ | refine ⟨AVle.eq (congrArg (AV.int .i64) (by first | (simp; done) | (simp; omega) | (rw [wrap_i64 (by first | omega | (simp; omega))]; first | rfl | omega | (simp; done) | (simp; omega)))), ?_⟩)
    · refine SW.le ?_
      repeat (first | exact SW.nil | refine SW.cons ?_ | refine SW.cells (by repeat (first | exact trivial | refine ⟨AVle.refl _, ?_⟩ | refine ⟨AVle.nilFull, ?_⟩ | refine ⟨AVle.tk, ?_⟩ | refine ⟨AVle.nil, ?_⟩)) rfl ?_ | refine SW.full ?_ | refine SW.drop ?_)
  have h8 : a.funcs = b.funcs := List.ext_getElem l2 fun i h h' => i2 i h h' (by omega)
  repeat (first | refine go_ ?_ | intro _)
  refine AW_ret ?_
  repeat (first | refine ⟨0, rfl, ?_⟩ | refine ⟨1, rfl, ?_⟩ | refine ⟨2, rfl, ?_⟩ | refine ⟨3, rfl, ?_⟩ | refine ⟨4, rfl, ?_⟩ | refine ⟨5, rfl, ?_⟩ | refine ⟨6, rfl, ?_⟩)
  refine ⟨_, R, AVle.eq ?_, (by repeat (first | exact SLe.rfl | refine SLe.tail ?_)), rfl, rfl⟩
  exact congrArg AV.bool (isB_t (Fi_ext.2 ⟨h5, h8⟩)).symm

/-! ### the law -/
theorem okF_of (f : Fi) (h : Sat (encFi f)) : okF f := by
  refine ⟨fun d hd => ?_, fun d hd => ?_⟩
  · have hc := fun c hc => (h.agg (c := .sl 3 (f.structs.map encSc) .no) (by simp [cFi])).flat (c := c) hc
    have := (hc (.sl 1 (d.names.map AV.str) .no) (List.mem_flatMap.2 ⟨encSc d, List.mem_map.2 ⟨d, hd, rfl⟩, by show _ ∈ cSc d; simp [cSc]⟩)).sl
    simpa using this
  · have hc := fun c hc => (h.agg (c := .sl 7 (f.funcs.map encFn) .no) (by simp [cFi])).flat (c := c) hc
    have := (hc (.sl 1 (d.names.map AV.str) .no) (List.mem_flatMap.2 ⟨encFn d, List.mem_map.2 ⟨d, hd, rfl⟩, by show _ ∈ cFn d; simp [cFn]⟩)).sl
    simpa using this
theorem smallI_0 {p : Fi} (h : smallB p = false) : smallI p = 0 := by rw [smallI, if_neg (by rw [h]; simp)]
theorem smallI_1 {p : Fi} (h : smallB p = true) : smallI p = 1 := by rw [smallI, if_pos h]
theorem gotreeSames_ok (a b : Fi) (R : List En) (hG : NumG R) (hE : spE ∈ R) : ACall Tryd.prog 5 [encFi a, encFi b] R (fun v S => v = .bool true ∧ S = R) := by
  refine ACall_sat fun hs => ?_
  have ka := fun R => small_ok a R (okF_of a (hs _ (.head _)))
  have kb := fun R => small_ok b R (okF_of b (hs _ (.tail _ (.head _))))
  by_cases hb : smallB a = true
  · rw [smallI_1 hb] at ka
    have hc := small_cnt hb
    by_cases hb2 : smallB b = true
    · rw [smallI_1 hb2] at kb
      refine ACall_body tab_ok Tryd.func5 rfl rfl rfl (by kernel_rfl) (Nat.le_of_ble_eq_true rfl) ?_
      repeat (first | refine go_ ?_ | intro _)
      refine Or.inl ⟨⟨_, Tryd.func8, rfl, rfl⟩, ACall.mono ?_ (shown_ok _ hG.cons.cons (.tail _ (.tail _ hE)))⟩
      rintro _ S1 ⟨rfl, hS1⟩
      subst S1
      repeat (first | refine go_ ?_ | intro _)
      refine Or.inl ⟨⟨_, Tryd.func16, rfl, rfl⟩, ACall.mono ?_ (ka _)⟩
      rintro _ S1 ⟨rfl, hS1⟩
      subst S1
      repeat (first | refine ga_ ?_ | intro _)
      refine Or.inl ⟨⟨_, Tryd.func16, rfl, rfl⟩, ACall.mono ?_ (kb _)⟩
      rintro _ S1 ⟨rfl, hS1⟩
      subst S1
      repeat (first | refine ga_ ?_ | intro _)
      refine AW_draw tab_ok mixed 10 (by first | rfl | kernel_rfl) ?_
      repeat (first | refine ga_ ?_ | intro _)
      apply call_step
      · rfl
      · exact Or.inl ⟨⟨_, Tryd.func17, rfl, rfl⟩, same_ok a b _ hc⟩
      repeat (first | refine ga_ ?_ | intro _)
      apply call_step
      · rfl
      · exact Or.inl ⟨⟨_, Tryd.func18, rfl, rfl⟩, refSame_ok a b _ hc⟩
      repeat (first | refine ga_ ?_ | intro _)
      refine AW_ret ?_
      repeat (first | refine ⟨0, rfl, ?_⟩ | refine ⟨1, rfl, ?_⟩ | refine ⟨2, rfl, ?_⟩ | refine ⟨3, rfl, ?_⟩ | refine ⟨4, rfl, ?_⟩ | refine ⟨5, rfl, ?_⟩ | refine ⟨6, rfl, ?_⟩)
      refine ⟨_, R, AVle.eq ?_, (by repeat (first | exact SLe.rfl | refine SLe.tail ?_)), rfl, rfl⟩
      exact congrArg AV.bool (by simp)
    · rw [smallI_0 (by simpa using hb2)] at kb
      refine ACall_body tab_ok Tryd.func5 rfl rfl rfl (by kernel_rfl) (Nat.le_of_ble_eq_true rfl) ?_
      repeat (first | refine go_ ?_ | intro _)
      refine Or.inl ⟨⟨_, Tryd.func8, rfl, rfl⟩, ACall.mono ?_ (shown_ok _ hG.cons.cons (.tail _ (.tail _ hE)))⟩
      rintro _ S1 ⟨rfl, hS1⟩
      subst S1
      repeat (first | refine go_ ?_ | intro _)
      refine Or.inl ⟨⟨_, Tryd.func16, rfl, rfl⟩, ACall.mono ?_ (ka _)⟩
      rintro _ S1 ⟨rfl, hS1⟩
      subst S1
      repeat (first | refine ga_ ?_ | intro _)
      refine Or.inl ⟨⟨_, Tryd.func16, rfl, rfl⟩, ACall.mono ?_ (kb _)⟩
      rintro _ S1 ⟨rfl, hS1⟩
      subst S1
      repeat (first | refine ga_ ?_ | intro _)
      refine AW_ret ?_
      repeat (first | refine ⟨0, rfl, ?_⟩ | refine ⟨1, rfl, ?_⟩ | refine ⟨2, rfl, ?_⟩ | refine ⟨3, rfl, ?_⟩ | refine ⟨4, rfl, ?_⟩ | refine ⟨5, rfl, ?_⟩ | refine ⟨6, rfl, ?_⟩)
      refine ⟨_, R, AVle.eq ?_, (by repeat (first | exact SLe.rfl | refine SLe.tail ?_)), rfl, rfl⟩
      rfl
  · rw [smallI_0 (by simpa using hb)] at ka
    refine ACall_body tab_ok Tryd.func5 rfl rfl rfl (by kernel_rfl) (Nat.le_of_ble_eq_true rfl) ?_
    repeat (first | refine go_ ?_ | intro _)
    refine Or.inl ⟨⟨_, Tryd.func8, rfl, rfl⟩, ACall.mono ?_ (shown_ok _ hG.cons.cons (.tail _ (.tail _ hE)))⟩
    rintro _ S1 ⟨rfl, hS1⟩
    subst S1
    repeat (first | refine go_ ?_ | intro _)
    refine Or.inl ⟨⟨_, Tryd.func16, rfl, rfl⟩, ACall.mono ?_ (ka _)⟩
    rintro _ S1 ⟨rfl, hS1⟩
    subst S1
    repeat (first | refine ga_ ?_ | intro _)
    refine AW_ret ?_
    repeat (first | refine ⟨0, rfl, ?_⟩ | refine ⟨1, rfl, ?_⟩ | refine ⟨2, rfl, ?_⟩ | refine ⟨3, rfl, ?_⟩ | refine ⟨4, rfl, ?_⟩ | refine ⟨5, rfl, ?_⟩ | refine ⟨6, rfl, ?_⟩)
    refine ⟨_, R, AVle.eq ?_, (by repeat (first | exact SLe.rfl | refine SLe.tail ?_)), rfl, rfl⟩
    rfl
end Go.Proofs.YtnkmjbjpmocnbaaDoor
