/-
  The document's Put, In, Union, Minus. Own work.
-/
import Derived.Test.YtocbdcgbbdjhlaaR13
namespace Go.Proofs.Ytocbdcgbbdjhlaa
open Go.Aw
set_option maxHeartbeats 4000000

def putR (t : List V) : List (List V) → List (List V) × Bool
  | [] => ([t], true)
  | x :: l => if cmpR x t < 0 then (x :: (putR t l).1, (putR t l).2) else if cmpR x t ≠ 0 then (t :: x :: l, true) else (x :: l, false)
theorem putR_len (t : List V) (l : List (List V)) : (putR t l).1.length ≤ l.length + 1 := by
  induction l with
  | nil => simp [putR]
  | cons x l ih =>
    simp only [putR]
    repeat' split
    all_goals simp
    omega
def encE (e : Int) : AV := .int .i64 e

theorem put_ok (l : List (List V)) (t : List V) (tl : Tk) (R : List En) (hl : l.length ≤ 16777216) :
    ACall Try.prog 37 [.sl 1 (l.map encR) tl, encR t] R (fun r S => r = .tup [encL (putR t l).1, .bool (putR t l).2] ∧ S = R) := by
  refine ACall_sat fun hs => ?_
  have ht := (hs (encR t) (by simp)).sl
  refine ACall_body tab_ok Try.func37 rfl rfl rfl (by kernel_rfl) (Nat.le_of_ble_eq_true rfl) ?_
  repeat (first | refine AW_seq ?_ | refine det_step rfl ?_ | refine AW_region tab_ok ?_ | refine AW_block ?_ | refine AW_scope ?_ | refine AW_exit ?_ | refine AW_goto ?_ | refine AW_label ?_ | refine AW_skip ?_ | refine ⟨rfl, ?_⟩ | refine ⟨⟨_, rfl⟩, ?_⟩ | refine ⟨⟨Nat.le_of_ble_eq_true rfl, Nat.le_of_ble_eq_true rfl⟩, ?_⟩ | refine ⟨Nat.le_of_ble_eq_true rfl, ?_⟩ | refine ⟨_, _, rfl, ?_⟩ | refine ⟨0, _, rfl, ?_⟩ | refine ⟨1, _, rfl, ?_⟩ | refine ⟨2, _, rfl, ?_⟩ | refine ⟨3, _, rfl, ?_⟩ | refine ⟨4, _, rfl, ?_⟩ | refine ⟨5, _, rfl, ?_⟩ | refine ⟨_, rfl, ?_⟩ | intro _)
  refine AW_for (α := Nat × Tk) (fun z => ⟨[(0, .sl 1 (l.map encR) tl), (1, encR t), (6, .sl 1 ((l.take z.1).map encR) z.2), (7, .int .i64 (z.1 : Nat))], []⟩) (fun z => .grow z.2 :: R) (fun z => l.length - z.1) (fun z => z.1 ≤ l.length ∧ l.take z.1 ++ (putR t (l.drop z.1)).1 = (putR t l).1 ∧ (putR t (l.drop z.1)).2 = (putR t l).2) ((0, .full)) ?_ (weak_of ?_ rfl ?_) (fun z hz => ?_)
  · simp
  · repeat (first | exact trivial | refine ⟨AVle.refl _, ?_⟩ | refine ⟨AVle.tk, ?_⟩ | refine ⟨AVle.nil, ?_⟩ | refine ⟨AVle.nilFull, ?_⟩ | refine ⟨AVle.eq (congrArg (AV.int .i64) (by first | (simp; done) | (simp; omega) | (rw [wrap_i64 (by first | omega | (simp; omega))]; first | rfl | omega | (simp; done) | (simp; omega)))), ?_⟩)
  · repeat (first | exact SLe.rfl | refine SLe.tail ?_ | refine SLe.full ?_)
  obtain ⟨i, tk⟩ := z
  obtain ⟨h1, h2, h3⟩ : i ≤ l.length ∧ l.take i ++ (putR t (l.drop i)).1 = (putR t l).1 ∧ (putR t (l.drop i)).2 = (putR t l).2 := hz
  repeat (first | refine AW_seq ?_ | refine det_step rfl ?_ | refine AW_region tab_ok ?_ | refine AW_block ?_ | refine AW_scope ?_ | refine AW_exit ?_ | refine AW_goto ?_ | refine AW_label ?_ | refine AW_skip ?_ | refine ⟨rfl, ?_⟩ | refine ⟨⟨_, rfl⟩, ?_⟩ | refine ⟨⟨Nat.le_of_ble_eq_true rfl, Nat.le_of_ble_eq_true rfl⟩, ?_⟩ | refine ⟨Nat.le_of_ble_eq_true rfl, ?_⟩ | refine ⟨_, _, rfl, ?_⟩ | refine ⟨0, _, rfl, ?_⟩ | refine ⟨1, _, rfl, ?_⟩ | refine ⟨2, _, rfl, ?_⟩ | refine ⟨3, _, rfl, ?_⟩ | refine ⟨4, _, rfl, ?_⟩ | refine ⟨5, _, rfl, ?_⟩ | refine ⟨_, rfl, ?_⟩ | intro _)
  refine gsplit (i < l.length) (by first | (simp; done) | (simp <;> omega) | decide) (fun h => ?_) (fun h => ?_)
  · repeat (first | refine AW_seq ?_ | refine det_step rfl ?_ | refine AW_region tab_ok ?_ | refine AW_block ?_ | refine AW_scope ?_ | refine AW_exit ?_ | refine AW_goto ?_ | refine AW_label ?_ | refine AW_skip ?_ | refine ⟨rfl, ?_⟩ | refine ⟨⟨_, rfl⟩, ?_⟩ | refine ⟨⟨Nat.le_of_ble_eq_true rfl, Nat.le_of_ble_eq_true rfl⟩, ?_⟩ | refine ⟨Nat.le_of_ble_eq_true rfl, ?_⟩ | refine ⟨_, _, rfl, ?_⟩ | refine ⟨0, _, rfl, ?_⟩ | refine ⟨1, _, rfl, ?_⟩ | refine ⟨2, _, rfl, ?_⟩ | refine ⟨3, _, rfl, ?_⟩ | refine ⟨4, _, rfl, ?_⟩ | refine ⟨5, _, rfl, ?_⟩ | refine ⟨_, rfl, ?_⟩ | intro _)
    refine at_map (i) (by first | rfl | omega | (rw [wrap_i64 (by omega)]; omega)) (by first | assumption | omega) ?_
    repeat (first | refine AW_seq ?_ | refine det_step rfl ?_ | refine AW_region tab_ok ?_ | refine AW_block ?_ | refine AW_scope ?_ | refine AW_exit ?_ | refine AW_goto ?_ | refine AW_label ?_ | refine AW_skip ?_ | refine ⟨rfl, ?_⟩ | refine ⟨⟨_, rfl⟩, ?_⟩ | refine ⟨⟨Nat.le_of_ble_eq_true rfl, Nat.le_of_ble_eq_true rfl⟩, ?_⟩ | refine ⟨Nat.le_of_ble_eq_true rfl, ?_⟩ | refine ⟨_, _, rfl, ?_⟩ | refine ⟨0, _, rfl, ?_⟩ | refine ⟨1, _, rfl, ?_⟩ | refine ⟨2, _, rfl, ?_⟩ | refine ⟨3, _, rfl, ?_⟩ | refine ⟨4, _, rfl, ?_⟩ | refine ⟨5, _, rfl, ?_⟩ | refine ⟨_, rfl, ?_⟩ | intro _)
    refine Or.inl ⟨⟨_, Try.func13, rfl, rfl⟩, ACall.mono ?_ (refCompare_ok _ _ _ _ _)⟩
    rintro _ S1 ⟨rfl, hS1⟩
    subst S1
    repeat (first | refine AW_seq ?_ | refine det_step rfl ?_ | refine AW_region tab_ok ?_ | refine AW_block ?_ | refine AW_scope ?_ | refine AW_exit ?_ | refine AW_goto ?_ | refine AW_label ?_ | refine AW_skip ?_ | refine ⟨rfl, ?_⟩ | refine ⟨⟨_, rfl⟩, ?_⟩ | refine ⟨⟨Nat.le_of_ble_eq_true rfl, Nat.le_of_ble_eq_true rfl⟩, ?_⟩ | refine ⟨Nat.le_of_ble_eq_true rfl, ?_⟩ | refine ⟨_, _, rfl, ?_⟩ | refine ⟨0, _, rfl, ?_⟩ | refine ⟨1, _, rfl, ?_⟩ | refine ⟨2, _, rfl, ?_⟩ | refine ⟨3, _, rfl, ?_⟩ | refine ⟨4, _, rfl, ?_⟩ | refine ⟨5, _, rfl, ?_⟩ | refine ⟨_, rfl, ?_⟩ | intro _)
    refine AW_iff (cmpR l[i] t < 0) rfl (by first | (simp; done) | (simp <;> omega) | decide) (fun h => ?_) (fun h => ?_)
    · repeat (first | refine AW_seq ?_ | refine det_step rfl ?_ | refine AW_region tab_ok ?_ | refine AW_block ?_ | refine AW_scope ?_ | refine AW_exit ?_ | refine AW_goto ?_ | refine AW_label ?_ | refine AW_skip ?_ | refine ⟨rfl, ?_⟩ | refine ⟨⟨_, rfl⟩, ?_⟩ | refine ⟨⟨Nat.le_of_ble_eq_true rfl, Nat.le_of_ble_eq_true rfl⟩, ?_⟩ | refine ⟨Nat.le_of_ble_eq_true rfl, ?_⟩ | refine ⟨_, _, rfl, ?_⟩ | refine ⟨0, _, rfl, ?_⟩ | refine ⟨1, _, rfl, ?_⟩ | refine ⟨2, _, rfl, ?_⟩ | refine ⟨3, _, rfl, ?_⟩ | refine ⟨4, _, rfl, ?_⟩ | refine ⟨5, _, rfl, ?_⟩ | refine ⟨_, rfl, ?_⟩ | intro _)
      refine at_map (i) (by first | rfl | omega | (rw [wrap_i64 (by omega)]; omega)) (by first | assumption | omega) ?_
      repeat (first | refine AW_seq ?_ | refine det_step rfl ?_ | refine AW_region tab_ok ?_ | refine AW_block ?_ | refine AW_scope ?_ | refine AW_exit ?_ | refine AW_goto ?_ | refine AW_label ?_ | refine AW_skip ?_ | refine ⟨rfl, ?_⟩ | refine ⟨⟨_, rfl⟩, ?_⟩ | refine ⟨⟨Nat.le_of_ble_eq_true rfl, Nat.le_of_ble_eq_true rfl⟩, ?_⟩ | refine ⟨Nat.le_of_ble_eq_true rfl, ?_⟩ | refine ⟨_, _, rfl, ?_⟩ | refine ⟨0, _, rfl, ?_⟩ | refine ⟨1, _, rfl, ?_⟩ | refine ⟨2, _, rfl, ?_⟩ | refine ⟨3, _, rfl, ?_⟩ | refine ⟨4, _, rfl, ?_⟩ | refine ⟨5, _, rfl, ?_⟩ | refine ⟨_, rfl, ?_⟩ | intro _)
      refine ⟨room (by first | omega | (simp; omega) | (simp at *; omega)) rfl, .inl rfl, .inr (.inl ⟨rfl, 0, rfl, (l.take (i + 1)).map encR, map_take_succ (by assumption), fun t1 => ?_⟩)⟩
      repeat (first | refine AW_seq ?_ | refine det_step rfl ?_ | refine AW_region tab_ok ?_ | refine AW_block ?_ | refine AW_scope ?_ | refine AW_exit ?_ | refine AW_goto ?_ | refine AW_label ?_ | refine AW_skip ?_ | refine ⟨rfl, ?_⟩ | refine ⟨⟨_, rfl⟩, ?_⟩ | refine ⟨⟨Nat.le_of_ble_eq_true rfl, Nat.le_of_ble_eq_true rfl⟩, ?_⟩ | refine ⟨Nat.le_of_ble_eq_true rfl, ?_⟩ | refine ⟨_, _, rfl, ?_⟩ | refine ⟨0, _, rfl, ?_⟩ | refine ⟨1, _, rfl, ?_⟩ | refine ⟨2, _, rfl, ?_⟩ | refine ⟨3, _, rfl, ?_⟩ | refine ⟨4, _, rfl, ?_⟩ | refine ⟨5, _, rfl, ?_⟩ | refine ⟨_, rfl, ?_⟩ | intro _)
      refine ⟨((i + 1, t1) : Nat × Tk), ?_, ?_, weak_of ?_ rfl ?_⟩
      · show l.length - (i + 1) < l.length - i; omega
      · rw [get_drop (show i < l.length by assumption), putR, if_pos (by assumption)] at h2 h3
        refine ⟨by omega, ?_, h3⟩
        show l.take (i + 1) ++ (putR t (l.drop (i + 1))).1 = _
        rw [← h2, List.take_add_one, List.getElem?_eq_getElem (by assumption), Option.toList_some, List.append_assoc]; rfl
      · repeat (first | exact trivial | refine ⟨AVle.refl _, ?_⟩ | refine ⟨AVle.tk, ?_⟩ | refine ⟨AVle.nil, ?_⟩ | refine ⟨AVle.nilFull, ?_⟩ | refine ⟨AVle.eq (congrArg (AV.int .i64) (by first | (simp; done) | (simp; omega) | (rw [wrap_i64 (by first | omega | (simp; omega))]; first | rfl | omega | (simp; done) | (simp; omega)))), ?_⟩)
      · repeat (first | exact SLe.rfl | refine SLe.tail ?_ | refine SLe.full ?_)
    · have hi : i < l.length := by assumption
      rw [get_drop hi, putR, if_neg (by assumption)] at h2 h3
      repeat (first | refine AW_seq ?_ | refine det_step rfl ?_ | refine AW_region tab_ok ?_ | refine AW_block ?_ | refine AW_scope ?_ | refine AW_exit ?_ | refine AW_goto ?_ | refine AW_label ?_ | refine AW_skip ?_ | refine ⟨rfl, ?_⟩ | refine ⟨⟨_, rfl⟩, ?_⟩ | refine ⟨⟨Nat.le_of_ble_eq_true rfl, Nat.le_of_ble_eq_true rfl⟩, ?_⟩ | refine ⟨Nat.le_of_ble_eq_true rfl, ?_⟩ | refine ⟨_, _, rfl, ?_⟩ | refine ⟨0, _, rfl, ?_⟩ | refine ⟨1, _, rfl, ?_⟩ | refine ⟨2, _, rfl, ?_⟩ | refine ⟨3, _, rfl, ?_⟩ | refine ⟨4, _, rfl, ?_⟩ | refine ⟨5, _, rfl, ?_⟩ | refine ⟨_, rfl, ?_⟩ | intro _)
      refine gsplit (False) (by first | (simp; done) | (simp <;> omega) | decide) (fun h => ?_) (fun h => ?_)
      · cases h
      repeat (first | refine AW_seq ?_ | refine det_step rfl ?_ | refine AW_region tab_ok ?_ | refine AW_block ?_ | refine AW_scope ?_ | refine AW_exit ?_ | refine AW_goto ?_ | refine AW_label ?_ | refine AW_skip ?_ | refine ⟨rfl, ?_⟩ | refine ⟨⟨_, rfl⟩, ?_⟩ | refine ⟨⟨Nat.le_of_ble_eq_true rfl, Nat.le_of_ble_eq_true rfl⟩, ?_⟩ | refine ⟨Nat.le_of_ble_eq_true rfl, ?_⟩ | refine ⟨_, _, rfl, ?_⟩ | refine ⟨0, _, rfl, ?_⟩ | refine ⟨1, _, rfl, ?_⟩ | refine ⟨2, _, rfl, ?_⟩ | refine ⟨3, _, rfl, ?_⟩ | refine ⟨4, _, rfl, ?_⟩ | refine ⟨5, _, rfl, ?_⟩ | refine ⟨_, rfl, ?_⟩ | intro _)
      refine at_map (i) (by first | rfl | omega | (rw [wrap_i64 (by omega)]; omega)) (by first | assumption | omega) ?_
      repeat (first | refine AW_seq ?_ | refine det_step rfl ?_ | refine AW_region tab_ok ?_ | refine AW_block ?_ | refine AW_scope ?_ | refine AW_exit ?_ | refine AW_goto ?_ | refine AW_label ?_ | refine AW_skip ?_ | refine ⟨rfl, ?_⟩ | refine ⟨⟨_, rfl⟩, ?_⟩ | refine ⟨⟨Nat.le_of_ble_eq_true rfl, Nat.le_of_ble_eq_true rfl⟩, ?_⟩ | refine ⟨Nat.le_of_ble_eq_true rfl, ?_⟩ | refine ⟨_, _, rfl, ?_⟩ | refine ⟨0, _, rfl, ?_⟩ | refine ⟨1, _, rfl, ?_⟩ | refine ⟨2, _, rfl, ?_⟩ | refine ⟨3, _, rfl, ?_⟩ | refine ⟨4, _, rfl, ?_⟩ | refine ⟨5, _, rfl, ?_⟩ | refine ⟨_, rfl, ?_⟩ | intro _)
      refine Or.inl ⟨⟨_, Try.func13, rfl, rfl⟩, ACall.mono ?_ (refCompare_ok _ _ _ _ _)⟩
      rintro _ S1 ⟨rfl, hS1⟩
      subst S1
      repeat (first | refine AW_seq ?_ | refine det_step rfl ?_ | refine AW_region tab_ok ?_ | refine AW_block ?_ | refine AW_scope ?_ | refine AW_exit ?_ | refine AW_goto ?_ | refine AW_label ?_ | refine AW_skip ?_ | refine ⟨rfl, ?_⟩ | refine ⟨⟨_, rfl⟩, ?_⟩ | refine ⟨⟨Nat.le_of_ble_eq_true rfl, Nat.le_of_ble_eq_true rfl⟩, ?_⟩ | refine ⟨Nat.le_of_ble_eq_true rfl, ?_⟩ | refine ⟨_, _, rfl, ?_⟩ | refine ⟨0, _, rfl, ?_⟩ | refine ⟨1, _, rfl, ?_⟩ | refine ⟨2, _, rfl, ?_⟩ | refine ⟨3, _, rfl, ?_⟩ | refine ⟨4, _, rfl, ?_⟩ | refine ⟨5, _, rfl, ?_⟩ | refine ⟨_, rfl, ?_⟩ | intro _)
      by_cases hc : cmpR l[i] t = 0
      · rw [if_neg (by simpa using hc)] at h2 h3
        refine AW_false (b := !(decide (cmpR l[i] t = 0))) rfl (by simp [hc]) ?_
        repeat (first | refine AW_seq ?_ | refine det_step rfl ?_ | refine AW_region tab_ok ?_ | refine AW_block ?_ | refine AW_scope ?_ | refine AW_exit ?_ | refine AW_goto ?_ | refine AW_label ?_ | refine AW_skip ?_ | refine ⟨rfl, ?_⟩ | refine ⟨⟨_, rfl⟩, ?_⟩ | refine ⟨⟨Nat.le_of_ble_eq_true rfl, Nat.le_of_ble_eq_true rfl⟩, ?_⟩ | refine ⟨Nat.le_of_ble_eq_true rfl, ?_⟩ | refine ⟨_, _, rfl, ?_⟩ | refine ⟨0, _, rfl, ?_⟩ | refine ⟨1, _, rfl, ?_⟩ | refine ⟨2, _, rfl, ?_⟩ | refine ⟨3, _, rfl, ?_⟩ | refine ⟨4, _, rfl, ?_⟩ | refine ⟨5, _, rfl, ?_⟩ | refine ⟨_, rfl, ?_⟩ | intro _)
        refine AW_for (α := Nat × List (List V) × Tk) (fun z => ⟨[(0, .sl 1 (l.map encR) tl), (6, .sl 1 (z.2.1.map encR) z.2.2), (7, .int .i64 (z.1 : Nat)), (8, .bool false)], []⟩) (fun z => .grow z.2.2 :: R) (fun z => l.length - z.1) (fun z => z.1 ≤ l.length ∧ z.2.1 ++ l.drop z.1 = (putR t l).1) ((i, l.take i, tk)) ?_ (weak_of ?_ rfl ?_) (fun z hz => ?_)
        · refine ⟨by omega, ?_⟩
          exact by show l.take i ++ l.drop i = _; rw [← h2, get_drop hi]
        · repeat (first | exact trivial | refine ⟨(AVle.eq (congrArg AV.bool (show (!decide (cmpR l[i] t = 0)) = false by simp [hc]))), ?_⟩ | refine ⟨AVle.refl _, ?_⟩ | refine ⟨AVle.tk, ?_⟩ | refine ⟨AVle.nil, ?_⟩ | refine ⟨AVle.nilFull, ?_⟩ | refine ⟨AVle.eq (congrArg (AV.int .i64) (by first | (simp; done) | (simp; omega) | (rw [wrap_i64 (by first | omega | (simp; omega))]; first | rfl | omega | (simp; done) | (simp; omega)))), ?_⟩)
        · repeat (first | exact SLe.rfl | refine SLe.tail ?_ | refine SLe.full ?_)
        obtain ⟨k, o, tk2⟩ := z
        obtain ⟨g1, g2⟩ : k ≤ l.length ∧ o ++ l.drop k = (putR t l).1 := hz
        have hol : o.length ≤ 16777217 := by
          have e := congrArg List.length g2
          have := putR_len t l
          simp only [List.length_append, List.length_drop] at e; omega
        repeat (first | refine AW_seq ?_ | refine det_step rfl ?_ | refine AW_region tab_ok ?_ | refine AW_block ?_ | refine AW_scope ?_ | refine AW_exit ?_ | refine AW_goto ?_ | refine AW_label ?_ | refine AW_skip ?_ | refine ⟨rfl, ?_⟩ | refine ⟨⟨_, rfl⟩, ?_⟩ | refine ⟨⟨Nat.le_of_ble_eq_true rfl, Nat.le_of_ble_eq_true rfl⟩, ?_⟩ | refine ⟨Nat.le_of_ble_eq_true rfl, ?_⟩ | refine ⟨_, _, rfl, ?_⟩ | refine ⟨0, _, rfl, ?_⟩ | refine ⟨1, _, rfl, ?_⟩ | refine ⟨2, _, rfl, ?_⟩ | refine ⟨3, _, rfl, ?_⟩ | refine ⟨4, _, rfl, ?_⟩ | refine ⟨5, _, rfl, ?_⟩ | refine ⟨_, rfl, ?_⟩ | intro _)
        refine AW_iff (k < l.length) rfl (by first | (simp; done) | (simp <;> omega) | decide) (fun h => ?_) (fun h => ?_)
        · repeat (first | refine AW_seq ?_ | refine det_step rfl ?_ | refine AW_region tab_ok ?_ | refine AW_block ?_ | refine AW_scope ?_ | refine AW_exit ?_ | refine AW_goto ?_ | refine AW_label ?_ | refine AW_skip ?_ | refine ⟨rfl, ?_⟩ | refine ⟨⟨_, rfl⟩, ?_⟩ | refine ⟨⟨Nat.le_of_ble_eq_true rfl, Nat.le_of_ble_eq_true rfl⟩, ?_⟩ | refine ⟨Nat.le_of_ble_eq_true rfl, ?_⟩ | refine ⟨_, _, rfl, ?_⟩ | refine ⟨0, _, rfl, ?_⟩ | refine ⟨1, _, rfl, ?_⟩ | refine ⟨2, _, rfl, ?_⟩ | refine ⟨3, _, rfl, ?_⟩ | refine ⟨4, _, rfl, ?_⟩ | refine ⟨5, _, rfl, ?_⟩ | refine ⟨_, rfl, ?_⟩ | intro _)
          refine at_map (k) (by first | rfl | omega | (rw [wrap_i64 (by omega)]; omega)) (by first | assumption | omega) ?_
          repeat (first | refine AW_seq ?_ | refine det_step rfl ?_ | refine AW_region tab_ok ?_ | refine AW_block ?_ | refine AW_scope ?_ | refine AW_exit ?_ | refine AW_goto ?_ | refine AW_label ?_ | refine AW_skip ?_ | refine ⟨rfl, ?_⟩ | refine ⟨⟨_, rfl⟩, ?_⟩ | refine ⟨⟨Nat.le_of_ble_eq_true rfl, Nat.le_of_ble_eq_true rfl⟩, ?_⟩ | refine ⟨Nat.le_of_ble_eq_true rfl, ?_⟩ | refine ⟨_, _, rfl, ?_⟩ | refine ⟨0, _, rfl, ?_⟩ | refine ⟨1, _, rfl, ?_⟩ | refine ⟨2, _, rfl, ?_⟩ | refine ⟨3, _, rfl, ?_⟩ | refine ⟨4, _, rfl, ?_⟩ | refine ⟨5, _, rfl, ?_⟩ | refine ⟨_, rfl, ?_⟩ | intro _)
          refine ⟨room (by first | omega | (simp; omega) | (simp at *; omega)) rfl, .inl rfl, .inr (.inl ⟨rfl, 0, rfl, (o ++ [l[k]]).map encR, snoc_map (f := encR) o l[k], fun t1 => ?_⟩)⟩
          repeat (first | refine AW_seq ?_ | refine det_step rfl ?_ | refine AW_region tab_ok ?_ | refine AW_block ?_ | refine AW_scope ?_ | refine AW_exit ?_ | refine AW_goto ?_ | refine AW_label ?_ | refine AW_skip ?_ | refine ⟨rfl, ?_⟩ | refine ⟨⟨_, rfl⟩, ?_⟩ | refine ⟨⟨Nat.le_of_ble_eq_true rfl, Nat.le_of_ble_eq_true rfl⟩, ?_⟩ | refine ⟨Nat.le_of_ble_eq_true rfl, ?_⟩ | refine ⟨_, _, rfl, ?_⟩ | refine ⟨0, _, rfl, ?_⟩ | refine ⟨1, _, rfl, ?_⟩ | refine ⟨2, _, rfl, ?_⟩ | refine ⟨3, _, rfl, ?_⟩ | refine ⟨4, _, rfl, ?_⟩ | refine ⟨5, _, rfl, ?_⟩ | refine ⟨_, rfl, ?_⟩ | intro _)
          refine ⟨((k + 1, o ++ [l[k]], t1) : Nat × List (List V) × Tk), ?_, ?_, weak_of ?_ rfl ?_⟩
          · show l.length - (k + 1) < l.length - k; omega
          · refine ⟨by show k + 1 ≤ l.length; omega, ?_⟩
            show (o ++ [l[k]]) ++ l.drop (k + 1) = _
            rw [← g2, get_drop (show k < l.length by assumption), List.append_assoc]; rfl
          · repeat (first | exact trivial | refine ⟨AVle.refl _, ?_⟩ | refine ⟨AVle.tk, ?_⟩ | refine ⟨AVle.nil, ?_⟩ | refine ⟨AVle.nilFull, ?_⟩ | refine ⟨AVle.eq (congrArg (AV.int .i64) (by first | (simp; done) | (simp; omega) | (rw [wrap_i64 (by first | omega | (simp; omega))]; first | rfl | omega | (simp; done) | (simp; omega)))), ?_⟩)
          · repeat (first | exact SLe.rfl | refine SLe.tail ?_ | refine SLe.full ?_)
        · repeat (first | refine AW_seq ?_ | refine det_step rfl ?_ | refine AW_region tab_ok ?_ | refine AW_block ?_ | refine AW_scope ?_ | refine AW_exit ?_ | refine AW_goto ?_ | refine AW_label ?_ | refine AW_skip ?_ | refine ⟨rfl, ?_⟩ | refine ⟨⟨_, rfl⟩, ?_⟩ | refine ⟨⟨Nat.le_of_ble_eq_true rfl, Nat.le_of_ble_eq_true rfl⟩, ?_⟩ | refine ⟨Nat.le_of_ble_eq_true rfl, ?_⟩ | refine ⟨_, _, rfl, ?_⟩ | refine ⟨0, _, rfl, ?_⟩ | refine ⟨1, _, rfl, ?_⟩ | refine ⟨2, _, rfl, ?_⟩ | refine ⟨3, _, rfl, ?_⟩ | refine ⟨4, _, rfl, ?_⟩ | refine ⟨5, _, rfl, ?_⟩ | refine ⟨_, rfl, ?_⟩ | intro _)
          refine AW_ret ?_
          repeat (first | refine ⟨0, rfl, ?_⟩ | refine ⟨1, rfl, ?_⟩ | refine ⟨2, rfl, ?_⟩ | refine ⟨3, rfl, ?_⟩)
          refine ⟨_, R, ?_, (by repeat (first | exact SLe.rfl | refine SLe.tail ?_)), rfl, rfl⟩
          refine AVle.tup ⟨?_, AVle.eq (congrArg AV.bool h3), trivial⟩
          show AVle (.sl 1 (o.map encR) tk2) _
          rw [List.drop_of_length_le (by omega), List.append_nil] at g2
          rw [g2]
          exact AVle.tk
      · rw [if_pos hc] at h2 h3
        refine AW_true (b := !(decide (cmpR l[i] t = 0))) rfl (by simp [hc]) ?_
        repeat (first | refine AW_seq ?_ | refine det_step rfl ?_ | refine AW_region tab_ok ?_ | refine AW_block ?_ | refine AW_scope ?_ | refine AW_exit ?_ | refine AW_goto ?_ | refine AW_label ?_ | refine AW_skip ?_ | refine ⟨rfl, ?_⟩ | refine ⟨⟨_, rfl⟩, ?_⟩ | refine ⟨⟨Nat.le_of_ble_eq_true rfl, Nat.le_of_ble_eq_true rfl⟩, ?_⟩ | refine ⟨Nat.le_of_ble_eq_true rfl, ?_⟩ | refine ⟨_, _, rfl, ?_⟩ | refine ⟨0, _, rfl, ?_⟩ | refine ⟨1, _, rfl, ?_⟩ | refine ⟨2, _, rfl, ?_⟩ | refine ⟨3, _, rfl, ?_⟩ | refine ⟨4, _, rfl, ?_⟩ | refine ⟨5, _, rfl, ?_⟩ | refine ⟨_, rfl, ?_⟩ | intro _)
        refine ⟨room (by first | omega | (simp; omega) | (simp at *; omega)) rfl, .inl rfl, .inr (.inl ⟨rfl, 0, rfl, (l.take i ++ [t]).map encR, snoc_map (f := encR) (l.take i) t, fun t1 => ?_⟩)⟩
        repeat (first | refine AW_seq ?_ | refine det_step rfl ?_ | refine AW_region tab_ok ?_ | refine AW_block ?_ | refine AW_scope ?_ | refine AW_exit ?_ | refine AW_goto ?_ | refine AW_label ?_ | refine AW_skip ?_ | refine ⟨rfl, ?_⟩ | refine ⟨⟨_, rfl⟩, ?_⟩ | refine ⟨⟨Nat.le_of_ble_eq_true rfl, Nat.le_of_ble_eq_true rfl⟩, ?_⟩ | refine ⟨Nat.le_of_ble_eq_true rfl, ?_⟩ | refine ⟨_, _, rfl, ?_⟩ | refine ⟨0, _, rfl, ?_⟩ | refine ⟨1, _, rfl, ?_⟩ | refine ⟨2, _, rfl, ?_⟩ | refine ⟨3, _, rfl, ?_⟩ | refine ⟨4, _, rfl, ?_⟩ | refine ⟨5, _, rfl, ?_⟩ | refine ⟨_, rfl, ?_⟩ | intro _)
        refine AW_for (α := Nat × List (List V) × Tk) (fun z => ⟨[(0, .sl 1 (l.map encR) tl), (6, .sl 1 (z.2.1.map encR) z.2.2), (7, .int .i64 (z.1 : Nat)), (8, .bool true)], []⟩) (fun z => .grow z.2.2 :: R) (fun z => l.length - z.1) (fun z => z.1 ≤ l.length ∧ z.2.1 ++ l.drop z.1 = (putR t l).1) ((i, l.take i ++ [t], t1)) ?_ (weak_of ?_ rfl ?_) (fun z hz => ?_)
        · refine ⟨by omega, ?_⟩
          exact by show l.take i ++ [t] ++ l.drop i = _; rw [← h2, get_drop hi, List.append_assoc]; rfl
        · repeat (first | exact trivial | refine ⟨(AVle.eq (congrArg AV.bool (show (!decide (cmpR l[i] t = 0)) = true by simp [hc]))), ?_⟩ | refine ⟨AVle.refl _, ?_⟩ | refine ⟨AVle.tk, ?_⟩ | refine ⟨AVle.nil, ?_⟩ | refine ⟨AVle.nilFull, ?_⟩ | refine ⟨AVle.eq (congrArg (AV.int .i64) (by first | (simp; done) | (simp; omega) | (rw [wrap_i64 (by first | omega | (simp; omega))]; first | rfl | omega | (simp; done) | (simp; omega)))), ?_⟩)
        · repeat (first | exact SLe.rfl | refine SLe.tail ?_ | refine SLe.full ?_)
        obtain ⟨k, o, tk2⟩ := z
        obtain ⟨g1, g2⟩ : k ≤ l.length ∧ o ++ l.drop k = (putR t l).1 := hz
        have hol : o.length ≤ 16777217 := by
          have e := congrArg List.length g2
          have := putR_len t l
          simp only [List.length_append, List.length_drop] at e; omega
        repeat (first | refine AW_seq ?_ | refine det_step rfl ?_ | refine AW_region tab_ok ?_ | refine AW_block ?_ | refine AW_scope ?_ | refine AW_exit ?_ | refine AW_goto ?_ | refine AW_label ?_ | refine AW_skip ?_ | refine ⟨rfl, ?_⟩ | refine ⟨⟨_, rfl⟩, ?_⟩ | refine ⟨⟨Nat.le_of_ble_eq_true rfl, Nat.le_of_ble_eq_true rfl⟩, ?_⟩ | refine ⟨Nat.le_of_ble_eq_true rfl, ?_⟩ | refine ⟨_, _, rfl, ?_⟩ | refine ⟨0, _, rfl, ?_⟩ | refine ⟨1, _, rfl, ?_⟩ | refine ⟨2, _, rfl, ?_⟩ | refine ⟨3, _, rfl, ?_⟩ | refine ⟨4, _, rfl, ?_⟩ | refine ⟨5, _, rfl, ?_⟩ | refine ⟨_, rfl, ?_⟩ | intro _)
        refine AW_iff (k < l.length) rfl (by first | (simp; done) | (simp <;> omega) | decide) (fun h => ?_) (fun h => ?_)
        · repeat (first | refine AW_seq ?_ | refine det_step rfl ?_ | refine AW_region tab_ok ?_ | refine AW_block ?_ | refine AW_scope ?_ | refine AW_exit ?_ | refine AW_goto ?_ | refine AW_label ?_ | refine AW_skip ?_ | refine ⟨rfl, ?_⟩ | refine ⟨⟨_, rfl⟩, ?_⟩ | refine ⟨⟨Nat.le_of_ble_eq_true rfl, Nat.le_of_ble_eq_true rfl⟩, ?_⟩ | refine ⟨Nat.le_of_ble_eq_true rfl, ?_⟩ | refine ⟨_, _, rfl, ?_⟩ | refine ⟨0, _, rfl, ?_⟩ | refine ⟨1, _, rfl, ?_⟩ | refine ⟨2, _, rfl, ?_⟩ | refine ⟨3, _, rfl, ?_⟩ | refine ⟨4, _, rfl, ?_⟩ | refine ⟨5, _, rfl, ?_⟩ | refine ⟨_, rfl, ?_⟩ | intro _)
          refine at_map (k) (by first | rfl | omega | (rw [wrap_i64 (by omega)]; omega)) (by first | assumption | omega) ?_
          repeat (first | refine AW_seq ?_ | refine det_step rfl ?_ | refine AW_region tab_ok ?_ | refine AW_block ?_ | refine AW_scope ?_ | refine AW_exit ?_ | refine AW_goto ?_ | refine AW_label ?_ | refine AW_skip ?_ | refine ⟨rfl, ?_⟩ | refine ⟨⟨_, rfl⟩, ?_⟩ | refine ⟨⟨Nat.le_of_ble_eq_true rfl, Nat.le_of_ble_eq_true rfl⟩, ?_⟩ | refine ⟨Nat.le_of_ble_eq_true rfl, ?_⟩ | refine ⟨_, _, rfl, ?_⟩ | refine ⟨0, _, rfl, ?_⟩ | refine ⟨1, _, rfl, ?_⟩ | refine ⟨2, _, rfl, ?_⟩ | refine ⟨3, _, rfl, ?_⟩ | refine ⟨4, _, rfl, ?_⟩ | refine ⟨5, _, rfl, ?_⟩ | refine ⟨_, rfl, ?_⟩ | intro _)
          refine ⟨room (by first | omega | (simp; omega) | (simp at *; omega)) rfl, .inl rfl, .inr (.inl ⟨rfl, 0, rfl, (o ++ [l[k]]).map encR, snoc_map (f := encR) o l[k], fun t1 => ?_⟩)⟩
          repeat (first | refine AW_seq ?_ | refine det_step rfl ?_ | refine AW_region tab_ok ?_ | refine AW_block ?_ | refine AW_scope ?_ | refine AW_exit ?_ | refine AW_goto ?_ | refine AW_label ?_ | refine AW_skip ?_ | refine ⟨rfl, ?_⟩ | refine ⟨⟨_, rfl⟩, ?_⟩ | refine ⟨⟨Nat.le_of_ble_eq_true rfl, Nat.le_of_ble_eq_true rfl⟩, ?_⟩ | refine ⟨Nat.le_of_ble_eq_true rfl, ?_⟩ | refine ⟨_, _, rfl, ?_⟩ | refine ⟨0, _, rfl, ?_⟩ | refine ⟨1, _, rfl, ?_⟩ | refine ⟨2, _, rfl, ?_⟩ | refine ⟨3, _, rfl, ?_⟩ | refine ⟨4, _, rfl, ?_⟩ | refine ⟨5, _, rfl, ?_⟩ | refine ⟨_, rfl, ?_⟩ | intro _)
          refine ⟨((k + 1, o ++ [l[k]], t1) : Nat × List (List V) × Tk), ?_, ?_, weak_of ?_ rfl ?_⟩
          · show l.length - (k + 1) < l.length - k; omega
          · refine ⟨by show k + 1 ≤ l.length; omega, ?_⟩
            show (o ++ [l[k]]) ++ l.drop (k + 1) = _
            rw [← g2, get_drop (show k < l.length by assumption), List.append_assoc]; rfl
          · repeat (first | exact trivial | refine ⟨AVle.refl _, ?_⟩ | refine ⟨AVle.tk, ?_⟩ | refine ⟨AVle.nil, ?_⟩ | refine ⟨AVle.nilFull, ?_⟩ | refine ⟨AVle.eq (congrArg (AV.int .i64) (by first | (simp; done) | (simp; omega) | (rw [wrap_i64 (by first | omega | (simp; omega))]; first | rfl | omega | (simp; done) | (simp; omega)))), ?_⟩)
          · repeat (first | exact SLe.rfl | refine SLe.tail ?_ | refine SLe.full ?_)
        · repeat (first | refine AW_seq ?_ | refine det_step rfl ?_ | refine AW_region tab_ok ?_ | refine AW_block ?_ | refine AW_scope ?_ | refine AW_exit ?_ | refine AW_goto ?_ | refine AW_label ?_ | refine AW_skip ?_ | refine ⟨rfl, ?_⟩ | refine ⟨⟨_, rfl⟩, ?_⟩ | refine ⟨⟨Nat.le_of_ble_eq_true rfl, Nat.le_of_ble_eq_true rfl⟩, ?_⟩ | refine ⟨Nat.le_of_ble_eq_true rfl, ?_⟩ | refine ⟨_, _, rfl, ?_⟩ | refine ⟨0, _, rfl, ?_⟩ | refine ⟨1, _, rfl, ?_⟩ | refine ⟨2, _, rfl, ?_⟩ | refine ⟨3, _, rfl, ?_⟩ | refine ⟨4, _, rfl, ?_⟩ | refine ⟨5, _, rfl, ?_⟩ | refine ⟨_, rfl, ?_⟩ | intro _)
          refine AW_ret ?_
          repeat (first | refine ⟨0, rfl, ?_⟩ | refine ⟨1, rfl, ?_⟩ | refine ⟨2, rfl, ?_⟩ | refine ⟨3, rfl, ?_⟩)
          refine ⟨_, R, ?_, (by repeat (first | exact SLe.rfl | refine SLe.tail ?_)), rfl, rfl⟩
          refine AVle.tup ⟨?_, AVle.eq (congrArg AV.bool h3), trivial⟩
          show AVle (.sl 1 (o.map encR) tk2) _
          rw [List.drop_of_length_le (by omega), List.append_nil] at g2
          rw [g2]
          exact AVle.tk
  · have hi : i = l.length := by omega
    subst hi
    rw [List.drop_length, putR] at h2 h3
    repeat (first | refine AW_seq ?_ | refine det_step rfl ?_ | refine AW_region tab_ok ?_ | refine AW_block ?_ | refine AW_scope ?_ | refine AW_exit ?_ | refine AW_goto ?_ | refine AW_label ?_ | refine AW_skip ?_ | refine ⟨rfl, ?_⟩ | refine ⟨⟨_, rfl⟩, ?_⟩ | refine ⟨⟨Nat.le_of_ble_eq_true rfl, Nat.le_of_ble_eq_true rfl⟩, ?_⟩ | refine ⟨Nat.le_of_ble_eq_true rfl, ?_⟩ | refine ⟨_, _, rfl, ?_⟩ | refine ⟨0, _, rfl, ?_⟩ | refine ⟨1, _, rfl, ?_⟩ | refine ⟨2, _, rfl, ?_⟩ | refine ⟨3, _, rfl, ?_⟩ | refine ⟨4, _, rfl, ?_⟩ | refine ⟨5, _, rfl, ?_⟩ | refine ⟨_, rfl, ?_⟩ | intro _)
    refine AW_false (b := false) rfl (by first | rfl | (simp; done) | (simp; omega) | decide) ?_
    repeat (first | refine AW_seq ?_ | refine det_step rfl ?_ | refine AW_region tab_ok ?_ | refine AW_block ?_ | refine AW_scope ?_ | refine AW_exit ?_ | refine AW_goto ?_ | refine AW_label ?_ | refine AW_skip ?_ | refine ⟨rfl, ?_⟩ | refine ⟨⟨_, rfl⟩, ?_⟩ | refine ⟨⟨Nat.le_of_ble_eq_true rfl, Nat.le_of_ble_eq_true rfl⟩, ?_⟩ | refine ⟨Nat.le_of_ble_eq_true rfl, ?_⟩ | refine ⟨_, _, rfl, ?_⟩ | refine ⟨0, _, rfl, ?_⟩ | refine ⟨1, _, rfl, ?_⟩ | refine ⟨2, _, rfl, ?_⟩ | refine ⟨3, _, rfl, ?_⟩ | refine ⟨4, _, rfl, ?_⟩ | refine ⟨5, _, rfl, ?_⟩ | refine ⟨_, rfl, ?_⟩ | intro _)
    refine gsplit (True) (by first | (simp; done) | (simp <;> omega) | decide) (fun h => ?_) (fun h => ?_)
    rotate_left
    · exact absurd trivial h
    repeat (first | refine AW_seq ?_ | refine det_step rfl ?_ | refine AW_region tab_ok ?_ | refine AW_block ?_ | refine AW_scope ?_ | refine AW_exit ?_ | refine AW_goto ?_ | refine AW_label ?_ | refine AW_skip ?_ | refine ⟨rfl, ?_⟩ | refine ⟨⟨_, rfl⟩, ?_⟩ | refine ⟨⟨Nat.le_of_ble_eq_true rfl, Nat.le_of_ble_eq_true rfl⟩, ?_⟩ | refine ⟨Nat.le_of_ble_eq_true rfl, ?_⟩ | refine ⟨_, _, rfl, ?_⟩ | refine ⟨0, _, rfl, ?_⟩ | refine ⟨1, _, rfl, ?_⟩ | refine ⟨2, _, rfl, ?_⟩ | refine ⟨3, _, rfl, ?_⟩ | refine ⟨4, _, rfl, ?_⟩ | refine ⟨5, _, rfl, ?_⟩ | refine ⟨_, rfl, ?_⟩ | intro _)
    refine AW_true (b := true) rfl (by first | rfl | (simp; done) | (simp; omega) | decide) ?_
    repeat (first | refine AW_seq ?_ | refine det_step rfl ?_ | refine AW_region tab_ok ?_ | refine AW_block ?_ | refine AW_scope ?_ | refine AW_exit ?_ | refine AW_goto ?_ | refine AW_label ?_ | refine AW_skip ?_ | refine ⟨rfl, ?_⟩ | refine ⟨⟨_, rfl⟩, ?_⟩ | refine ⟨⟨Nat.le_of_ble_eq_true rfl, Nat.le_of_ble_eq_true rfl⟩, ?_⟩ | refine ⟨Nat.le_of_ble_eq_true rfl, ?_⟩ | refine ⟨_, _, rfl, ?_⟩ | refine ⟨0, _, rfl, ?_⟩ | refine ⟨1, _, rfl, ?_⟩ | refine ⟨2, _, rfl, ?_⟩ | refine ⟨3, _, rfl, ?_⟩ | refine ⟨4, _, rfl, ?_⟩ | refine ⟨5, _, rfl, ?_⟩ | refine ⟨_, rfl, ?_⟩ | intro _)
    refine ⟨room (by first | omega | (simp; omega) | (simp at *; omega)) rfl, .inl rfl, .inr (.inl ⟨rfl, 0, rfl, (l.take l.length ++ [t]).map encR, snoc_map (f := encR) (l.take l.length) t, fun t1 => ?_⟩)⟩
    repeat (first | refine AW_seq ?_ | refine det_step rfl ?_ | refine AW_region tab_ok ?_ | refine AW_block ?_ | refine AW_scope ?_ | refine AW_exit ?_ | refine AW_goto ?_ | refine AW_label ?_ | refine AW_skip ?_ | refine ⟨rfl, ?_⟩ | refine ⟨⟨_, rfl⟩, ?_⟩ | refine ⟨⟨Nat.le_of_ble_eq_true rfl, Nat.le_of_ble_eq_true rfl⟩, ?_⟩ | refine ⟨Nat.le_of_ble_eq_true rfl, ?_⟩ | refine ⟨_, _, rfl, ?_⟩ | refine ⟨0, _, rfl, ?_⟩ | refine ⟨1, _, rfl, ?_⟩ | refine ⟨2, _, rfl, ?_⟩ | refine ⟨3, _, rfl, ?_⟩ | refine ⟨4, _, rfl, ?_⟩ | refine ⟨5, _, rfl, ?_⟩ | refine ⟨_, rfl, ?_⟩ | intro _)
    refine AW_for (α := Nat × List (List V) × Tk) (fun z => ⟨[(0, .sl 1 (l.map encR) tl), (6, .sl 1 (z.2.1.map encR) z.2.2), (7, .int .i64 (z.1 : Nat)), (8, .bool true)], []⟩) (fun z => .grow z.2.2 :: R) (fun z => l.length - z.1) (fun z => z.1 ≤ l.length ∧ z.2.1 ++ l.drop z.1 = (putR t l).1) ((l.length, l.take l.length ++ [t], t1)) ?_ (weak_of ?_ rfl ?_) (fun z hz => ?_)
    · refine ⟨by omega, ?_⟩
      exact by show l.take l.length ++ [t] ++ l.drop l.length = _; rw [List.drop_length, List.append_nil]; exact h2
    · repeat (first | exact trivial | refine ⟨(AVle.refl _), ?_⟩ | refine ⟨AVle.refl _, ?_⟩ | refine ⟨AVle.tk, ?_⟩ | refine ⟨AVle.nil, ?_⟩ | refine ⟨AVle.nilFull, ?_⟩ | refine ⟨AVle.eq (congrArg (AV.int .i64) (by first | (simp; done) | (simp; omega) | (rw [wrap_i64 (by first | omega | (simp; omega))]; first | rfl | omega | (simp; done) | (simp; omega)))), ?_⟩)
    · repeat (first | exact SLe.rfl | refine SLe.tail ?_ | refine SLe.full ?_)
    obtain ⟨k, o, tk2⟩ := z
    obtain ⟨g1, g2⟩ : k ≤ l.length ∧ o ++ l.drop k = (putR t l).1 := hz
    have hol : o.length ≤ 16777217 := by
      have e := congrArg List.length g2
      have := putR_len t l
      simp only [List.length_append, List.length_drop] at e; omega
    repeat (first | refine AW_seq ?_ | refine det_step rfl ?_ | refine AW_region tab_ok ?_ | refine AW_block ?_ | refine AW_scope ?_ | refine AW_exit ?_ | refine AW_goto ?_ | refine AW_label ?_ | refine AW_skip ?_ | refine ⟨rfl, ?_⟩ | refine ⟨⟨_, rfl⟩, ?_⟩ | refine ⟨⟨Nat.le_of_ble_eq_true rfl, Nat.le_of_ble_eq_true rfl⟩, ?_⟩ | refine ⟨Nat.le_of_ble_eq_true rfl, ?_⟩ | refine ⟨_, _, rfl, ?_⟩ | refine ⟨0, _, rfl, ?_⟩ | refine ⟨1, _, rfl, ?_⟩ | refine ⟨2, _, rfl, ?_⟩ | refine ⟨3, _, rfl, ?_⟩ | refine ⟨4, _, rfl, ?_⟩ | refine ⟨5, _, rfl, ?_⟩ | refine ⟨_, rfl, ?_⟩ | intro _)
    refine AW_iff (k < l.length) rfl (by first | (simp; done) | (simp <;> omega) | decide) (fun h => ?_) (fun h => ?_)
    · repeat (first | refine AW_seq ?_ | refine det_step rfl ?_ | refine AW_region tab_ok ?_ | refine AW_block ?_ | refine AW_scope ?_ | refine AW_exit ?_ | refine AW_goto ?_ | refine AW_label ?_ | refine AW_skip ?_ | refine ⟨rfl, ?_⟩ | refine ⟨⟨_, rfl⟩, ?_⟩ | refine ⟨⟨Nat.le_of_ble_eq_true rfl, Nat.le_of_ble_eq_true rfl⟩, ?_⟩ | refine ⟨Nat.le_of_ble_eq_true rfl, ?_⟩ | refine ⟨_, _, rfl, ?_⟩ | refine ⟨0, _, rfl, ?_⟩ | refine ⟨1, _, rfl, ?_⟩ | refine ⟨2, _, rfl, ?_⟩ | refine ⟨3, _, rfl, ?_⟩ | refine ⟨4, _, rfl, ?_⟩ | refine ⟨5, _, rfl, ?_⟩ | refine ⟨_, rfl, ?_⟩ | intro _)
      refine at_map (k) (by first | rfl | omega | (rw [wrap_i64 (by omega)]; omega)) (by first | assumption | omega) ?_
      repeat (first | refine AW_seq ?_ | refine det_step rfl ?_ | refine AW_region tab_ok ?_ | refine AW_block ?_ | refine AW_scope ?_ | refine AW_exit ?_ | refine AW_goto ?_ | refine AW_label ?_ | refine AW_skip ?_ | refine ⟨rfl, ?_⟩ | refine ⟨⟨_, rfl⟩, ?_⟩ | refine ⟨⟨Nat.le_of_ble_eq_true rfl, Nat.le_of_ble_eq_true rfl⟩, ?_⟩ | refine ⟨Nat.le_of_ble_eq_true rfl, ?_⟩ | refine ⟨_, _, rfl, ?_⟩ | refine ⟨0, _, rfl, ?_⟩ | refine ⟨1, _, rfl, ?_⟩ | refine ⟨2, _, rfl, ?_⟩ | refine ⟨3, _, rfl, ?_⟩ | refine ⟨4, _, rfl, ?_⟩ | refine ⟨5, _, rfl, ?_⟩ | refine ⟨_, rfl, ?_⟩ | intro _)
      refine ⟨room (by first | omega | (simp; omega) | (simp at *; omega)) rfl, .inl rfl, .inr (.inl ⟨rfl, 0, rfl, (o ++ [l[k]]).map encR, snoc_map (f := encR) o l[k], fun t1 => ?_⟩)⟩
      repeat (first | refine AW_seq ?_ | refine det_step rfl ?_ | refine AW_region tab_ok ?_ | refine AW_block ?_ | refine AW_scope ?_ | refine AW_exit ?_ | refine AW_goto ?_ | refine AW_label ?_ | refine AW_skip ?_ | refine ⟨rfl, ?_⟩ | refine ⟨⟨_, rfl⟩, ?_⟩ | refine ⟨⟨Nat.le_of_ble_eq_true rfl, Nat.le_of_ble_eq_true rfl⟩, ?_⟩ | refine ⟨Nat.le_of_ble_eq_true rfl, ?_⟩ | refine ⟨_, _, rfl, ?_⟩ | refine ⟨0, _, rfl, ?_⟩ | refine ⟨1, _, rfl, ?_⟩ | refine ⟨2, _, rfl, ?_⟩ | refine ⟨3, _, rfl, ?_⟩ | refine ⟨4, _, rfl, ?_⟩ | refine ⟨5, _, rfl, ?_⟩ | refine ⟨_, rfl, ?_⟩ | intro _)
      refine ⟨((k + 1, o ++ [l[k]], t1) : Nat × List (List V) × Tk), ?_, ?_, weak_of ?_ rfl ?_⟩
      · show l.length - (k + 1) < l.length - k; omega
      · refine ⟨by show k + 1 ≤ l.length; omega, ?_⟩
        show (o ++ [l[k]]) ++ l.drop (k + 1) = _
        rw [← g2, get_drop (show k < l.length by assumption), List.append_assoc]; rfl
      · repeat (first | exact trivial | refine ⟨AVle.refl _, ?_⟩ | refine ⟨AVle.tk, ?_⟩ | refine ⟨AVle.nil, ?_⟩ | refine ⟨AVle.nilFull, ?_⟩ | refine ⟨AVle.eq (congrArg (AV.int .i64) (by first | (simp; done) | (simp; omega) | (rw [wrap_i64 (by first | omega | (simp; omega))]; first | rfl | omega | (simp; done) | (simp; omega)))), ?_⟩)
      · repeat (first | exact SLe.rfl | refine SLe.tail ?_ | refine SLe.full ?_)
    · repeat (first | refine AW_seq ?_ | refine det_step rfl ?_ | refine AW_region tab_ok ?_ | refine AW_block ?_ | refine AW_scope ?_ | refine AW_exit ?_ | refine AW_goto ?_ | refine AW_label ?_ | refine AW_skip ?_ | refine ⟨rfl, ?_⟩ | refine ⟨⟨_, rfl⟩, ?_⟩ | refine ⟨⟨Nat.le_of_ble_eq_true rfl, Nat.le_of_ble_eq_true rfl⟩, ?_⟩ | refine ⟨Nat.le_of_ble_eq_true rfl, ?_⟩ | refine ⟨_, _, rfl, ?_⟩ | refine ⟨0, _, rfl, ?_⟩ | refine ⟨1, _, rfl, ?_⟩ | refine ⟨2, _, rfl, ?_⟩ | refine ⟨3, _, rfl, ?_⟩ | refine ⟨4, _, rfl, ?_⟩ | refine ⟨5, _, rfl, ?_⟩ | refine ⟨_, rfl, ?_⟩ | intro _)
      refine AW_ret ?_
      repeat (first | refine ⟨0, rfl, ?_⟩ | refine ⟨1, rfl, ?_⟩ | refine ⟨2, rfl, ?_⟩ | refine ⟨3, rfl, ?_⟩)
      refine ⟨_, R, ?_, (by repeat (first | exact SLe.rfl | refine SLe.tail ?_)), rfl, rfl⟩
      refine AVle.tup ⟨?_, AVle.eq (congrArg AV.bool h3), trivial⟩
      show AVle (.sl 1 (o.map encR) tk2) _
      rw [List.drop_of_length_le (by omega), List.append_nil] at g2
      rw [g2]
      exact AVle.tk
end Go.Proofs.Ytocbdcgbbdjhlaa

