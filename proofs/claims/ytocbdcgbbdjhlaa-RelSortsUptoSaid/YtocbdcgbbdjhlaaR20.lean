/-
  Rows swapped, rows turned round. Own work.
-/
import Derived.Test.YtocbdcgbbdjhlaaR19
namespace Go.Proofs.Ytocbdcgbbdjhlaa
open Go.Aw
set_option maxHeartbeats 4000000

theorem two_get0 (A B C : List AV) (x y : AV) : (A ++ x :: (B ++ y :: C))[A.length]? = some x := by simp
theorem two_get1 (A B C : List AV) (x y : AV) : (A ++ x :: (B ++ y :: C))[A.length + 1 + B.length]? = some y := by
  rw [List.getElem?_append_right (by omega)]
  rw [show A.length + 1 + B.length - A.length = B.length + 1 by omega]
  simp
theorem two_set0 (A B C : List AV) (x y z : AV) : (A ++ x :: (B ++ y :: C)).set A.length z = A ++ z :: (B ++ y :: C) := by simp
theorem two_set1 (A B C : List AV) (x y z : AV) : (A ++ x :: (B ++ y :: C)).set (A.length + 1 + B.length) z = A ++ x :: (B ++ z :: C) := by
  rw [List.set_append_right _ _ (by omega)]
  rw [show A.length + 1 + B.length - A.length = B.length + 1 by omega]
  simp

theorem swapRange_ok (f : AV) (pre X M Y post : List (List V)) (hXY : X.length = Y.length) (b n cap : Nat) (rest : List AV) (hn : n = (pre ++ X ++ M ++ Y ++ post).length) (a1 b1 k : Nat) (ha : a1 = pre.length) (hb : b1 = pre.length + X.length + M.length) (hk : k = X.length) (hmax : n ≤ 16777216) (R : List En) :
    ACall Try.prog 58 [.msl b 0 n cap, .int .i64 a1, .int .i64 b1, .int .i64 k, f] (hold n b ((pre ++ X ++ M ++ Y ++ post).map encR ++ rest) R)
      (fun r S => r = .tup [] ∧ S = hold n b ((pre ++ Y ++ M ++ X ++ post).map encR ++ rest) R) := by
  refine ACall_sat fun hs => ?_
  have hcap := (hs (.msl b 0 n cap) (by simp)).msl
  simp only [List.length_append] at hn
  refine ACall_body tab_ok Try.func58 rfl rfl rfl (by kernel_rfl) (Nat.le_of_ble_eq_true rfl) ?_
  repeat (first | refine AW_seq ?_ | refine det_step rfl ?_ | refine AW_region tab_ok ?_ | refine AW_block ?_ | refine AW_scope ?_ | refine AW_exit ?_ | refine AW_goto ?_ | refine AW_label ?_ | refine AW_skip ?_ | refine ⟨rfl, ?_⟩ | refine ⟨⟨_, rfl⟩, ?_⟩ | refine ⟨⟨Nat.le_of_ble_eq_true rfl, Nat.le_of_ble_eq_true rfl⟩, ?_⟩ | refine ⟨Nat.le_of_ble_eq_true rfl, ?_⟩ | refine ⟨_, _, rfl, ?_⟩ | refine ⟨0, _, rfl, ?_⟩ | refine ⟨1, _, rfl, ?_⟩ | refine ⟨2, _, rfl, ?_⟩ | refine ⟨3, _, rfl, ?_⟩ | refine ⟨4, _, rfl, ?_⟩ | refine ⟨5, _, rfl, ?_⟩ | refine ⟨_, rfl, ?_⟩ | intro _)
  refine AW_for (α := Nat) (fun z => ⟨[(0, .msl b 0 n cap), (1, .int .i64 (a1 : Nat)), (2, .int .i64 (b1 : Nat)), (3, .int .i64 (k : Nat)), (10, .int .i64 (z : Nat))], []⟩) (fun z => hold n b ((pre ++ Y.take z ++ X.drop z ++ M ++ X.take z ++ Y.drop z ++ post).map encR ++ rest) R) (fun z => k - z) (fun z => z ≤ k) (0) ?_ (weak_of ?_ rfl ?_) (fun z hz => ?_)
  · omega
  · repeat (first | exact trivial | refine ⟨AVle.refl _, ?_⟩ | refine ⟨AVle.tk, ?_⟩ | refine ⟨AVle.nil, ?_⟩ | refine ⟨AVle.nilFull, ?_⟩ | refine ⟨AVle.eq (congrArg (AV.int .i64) (by first | (simp; done) | (simp; omega) | (rw [wrap_i64 (by first | omega | (simp; omega))]; first | rfl | omega | (simp; done) | (simp; omega)))), ?_⟩)
  · refine SLe.of_eq ?_
    simp
  repeat (first | refine AW_seq ?_ | refine det_step rfl ?_ | refine AW_region tab_ok ?_ | refine AW_block ?_ | refine AW_scope ?_ | refine AW_exit ?_ | refine AW_goto ?_ | refine AW_label ?_ | refine AW_skip ?_ | refine ⟨rfl, ?_⟩ | refine ⟨⟨_, rfl⟩, ?_⟩ | refine ⟨⟨Nat.le_of_ble_eq_true rfl, Nat.le_of_ble_eq_true rfl⟩, ?_⟩ | refine ⟨Nat.le_of_ble_eq_true rfl, ?_⟩ | refine ⟨_, _, rfl, ?_⟩ | refine ⟨0, _, rfl, ?_⟩ | refine ⟨1, _, rfl, ?_⟩ | refine ⟨2, _, rfl, ?_⟩ | refine ⟨3, _, rfl, ?_⟩ | refine ⟨4, _, rfl, ?_⟩ | refine ⟨5, _, rfl, ?_⟩ | refine ⟨_, rfl, ?_⟩ | intro _)
  refine AW_iff (z < k) rfl (by first | (simp; done) | (simp <;> omega) | decide) (fun h => ?_) (fun h => ?_)
  · have hx : z < X.length := by omega
    have hy : z < Y.length := by omega
    rw [hold_pos (by omega)]
    obtain ⟨A, B, C, hA, hB, hC, hD⟩ : ∃ A B C : List AV, A.length = a1 + z ∧ A.length + 1 + B.length = b1 + z ∧ (pre ++ Y.take z ++ X.drop z ++ M ++ X.take z ++ Y.drop z ++ post).map encR ++ rest = A ++ encR X[z] :: (B ++ encR Y[z] :: C) ∧
        (pre ++ Y.take (z + 1) ++ X.drop (z + 1) ++ M ++ X.take (z + 1) ++ Y.drop (z + 1) ++ post).map encR ++ rest = A ++ encR Y[z] :: (B ++ encR X[z] :: C) := by
      refine ⟨(pre ++ Y.take z).map encR, (X.drop (z + 1) ++ M ++ X.take z).map encR, (Y.drop (z + 1) ++ post).map encR ++ rest, ?_, ?_, ?_, ?_⟩
      · simp; omega
      · simp; omega
      · rw [get_drop hx, get_drop hy]; simp only [List.map_append, List.map_cons, List.append_assoc, List.cons_append]
      · rw [List.take_add_one, List.take_add_one, List.getElem?_eq_getElem hx, List.getElem?_eq_getElem hy]
        simp only [Option.toList_some, List.map_append, List.map_cons, List.map_nil, List.append_assoc, List.cons_append, List.nil_append]
    rw [hC]
    repeat (first | refine AW_seq ?_ | refine det_step rfl ?_ | refine AW_region tab_ok ?_ | refine AW_block ?_ | refine AW_scope ?_ | refine AW_exit ?_ | refine AW_goto ?_ | refine AW_label ?_ | refine AW_skip ?_ | refine ⟨rfl, ?_⟩ | refine ⟨⟨_, rfl⟩, ?_⟩ | refine ⟨⟨Nat.le_of_ble_eq_true rfl, Nat.le_of_ble_eq_true rfl⟩, ?_⟩ | refine ⟨Nat.le_of_ble_eq_true rfl, ?_⟩ | refine ⟨_, _, rfl, ?_⟩ | refine ⟨0, _, rfl, ?_⟩ | refine ⟨1, _, rfl, ?_⟩ | refine ⟨2, _, rfl, ?_⟩ | refine ⟨3, _, rfl, ?_⟩ | refine ⟨4, _, rfl, ?_⟩ | refine ⟨5, _, rfl, ?_⟩ | refine ⟨_, rfl, ?_⟩ | intro _)
    refine AW_drawl tab_ok mixed 20 [4, 5, 6, 7] (by first | rfl | kernel_rfl) ?_
    repeat (first | refine AW_seq ?_ | refine det_step rfl ?_ | refine AW_region tab_ok ?_ | refine AW_block ?_ | refine AW_scope ?_ | refine AW_exit ?_ | refine AW_goto ?_ | refine AW_label ?_ | refine AW_skip ?_ | refine ⟨rfl, ?_⟩ | refine ⟨⟨_, rfl⟩, ?_⟩ | refine ⟨⟨Nat.le_of_ble_eq_true rfl, Nat.le_of_ble_eq_true rfl⟩, ?_⟩ | refine ⟨Nat.le_of_ble_eq_true rfl, ?_⟩ | refine ⟨_, _, rfl, ?_⟩ | refine ⟨0, _, rfl, ?_⟩ | refine ⟨1, _, rfl, ?_⟩ | refine ⟨2, _, rfl, ?_⟩ | refine ⟨3, _, rfl, ?_⟩ | refine ⟨4, _, rfl, ?_⟩ | refine ⟨5, _, rfl, ?_⟩ | refine ⟨_, rfl, ?_⟩ | intro _)
    refine at_msl (b1 + z) (b1 + z) (by first | rfl | omega | (rw [wrap_i64 (by first | omega | (simp; omega))]; first | rfl | omega | (simp; omega))) (by first | assumption | omega) (by show _ + _ * 1 = _; omega) ?_
    repeat (first | refine AW_seq ?_ | refine det_step rfl ?_ | refine AW_region tab_ok ?_ | refine AW_block ?_ | refine AW_scope ?_ | refine AW_exit ?_ | refine AW_goto ?_ | refine AW_label ?_ | refine AW_skip ?_ | refine ⟨rfl, ?_⟩ | refine ⟨⟨_, rfl⟩, ?_⟩ | refine ⟨⟨Nat.le_of_ble_eq_true rfl, Nat.le_of_ble_eq_true rfl⟩, ?_⟩ | refine ⟨Nat.le_of_ble_eq_true rfl, ?_⟩ | refine ⟨_, _, rfl, ?_⟩ | refine ⟨0, _, rfl, ?_⟩ | refine ⟨1, _, rfl, ?_⟩ | refine ⟨2, _, rfl, ?_⟩ | refine ⟨3, _, rfl, ?_⟩ | refine ⟨4, _, rfl, ?_⟩ | refine ⟨5, _, rfl, ?_⟩ | refine ⟨_, rfl, ?_⟩ | intro _)
    refine load_one (encR Y[z]) rfl rfl (hB ▸ two_get1 A B C _ _) ?_
    repeat (first | refine AW_seq ?_ | refine det_step rfl ?_ | refine AW_region tab_ok ?_ | refine AW_block ?_ | refine AW_scope ?_ | refine AW_exit ?_ | refine AW_goto ?_ | refine AW_label ?_ | refine AW_skip ?_ | refine ⟨rfl, ?_⟩ | refine ⟨⟨_, rfl⟩, ?_⟩ | refine ⟨⟨Nat.le_of_ble_eq_true rfl, Nat.le_of_ble_eq_true rfl⟩, ?_⟩ | refine ⟨Nat.le_of_ble_eq_true rfl, ?_⟩ | refine ⟨_, _, rfl, ?_⟩ | refine ⟨0, _, rfl, ?_⟩ | refine ⟨1, _, rfl, ?_⟩ | refine ⟨2, _, rfl, ?_⟩ | refine ⟨3, _, rfl, ?_⟩ | refine ⟨4, _, rfl, ?_⟩ | refine ⟨5, _, rfl, ?_⟩ | refine ⟨_, rfl, ?_⟩ | intro _)
    refine at_msl (a1 + z) (a1 + z) (by first | rfl | omega | (rw [wrap_i64 (by first | omega | (simp; omega))]; first | rfl | omega | (simp; omega))) (by first | assumption | omega) (by show _ + _ * 1 = _; omega) ?_
    repeat (first | refine AW_seq ?_ | refine det_step rfl ?_ | refine AW_region tab_ok ?_ | refine AW_block ?_ | refine AW_scope ?_ | refine AW_exit ?_ | refine AW_goto ?_ | refine AW_label ?_ | refine AW_skip ?_ | refine ⟨rfl, ?_⟩ | refine ⟨⟨_, rfl⟩, ?_⟩ | refine ⟨⟨Nat.le_of_ble_eq_true rfl, Nat.le_of_ble_eq_true rfl⟩, ?_⟩ | refine ⟨Nat.le_of_ble_eq_true rfl, ?_⟩ | refine ⟨_, _, rfl, ?_⟩ | refine ⟨0, _, rfl, ?_⟩ | refine ⟨1, _, rfl, ?_⟩ | refine ⟨2, _, rfl, ?_⟩ | refine ⟨3, _, rfl, ?_⟩ | refine ⟨4, _, rfl, ?_⟩ | refine ⟨5, _, rfl, ?_⟩ | refine ⟨_, rfl, ?_⟩ | intro _)
    refine load_one (encR X[z]) rfl rfl (hA ▸ two_get0 A B C _ _) ?_
    repeat (first | refine AW_seq ?_ | refine det_step rfl ?_ | refine AW_region tab_ok ?_ | refine AW_block ?_ | refine AW_scope ?_ | refine AW_exit ?_ | refine AW_goto ?_ | refine AW_label ?_ | refine AW_skip ?_ | refine ⟨rfl, ?_⟩ | refine ⟨⟨_, rfl⟩, ?_⟩ | refine ⟨⟨Nat.le_of_ble_eq_true rfl, Nat.le_of_ble_eq_true rfl⟩, ?_⟩ | refine ⟨Nat.le_of_ble_eq_true rfl, ?_⟩ | refine ⟨_, _, rfl, ?_⟩ | refine ⟨0, _, rfl, ?_⟩ | refine ⟨1, _, rfl, ?_⟩ | refine ⟨2, _, rfl, ?_⟩ | refine ⟨3, _, rfl, ?_⟩ | refine ⟨4, _, rfl, ?_⟩ | refine ⟨5, _, rfl, ?_⟩ | refine ⟨_, rfl, ?_⟩ | intro _)
    refine at_msl (a1 + z) (a1 + z) (by first | rfl | omega | (rw [wrap_i64 (by first | omega | (simp; omega))]; first | rfl | omega | (simp; omega))) (by first | assumption | omega) (by show _ + _ * 1 = _; omega) ?_
    repeat (first | refine AW_seq ?_ | refine det_step rfl ?_ | refine AW_region tab_ok ?_ | refine AW_block ?_ | refine AW_scope ?_ | refine AW_exit ?_ | refine AW_goto ?_ | refine AW_label ?_ | refine AW_skip ?_ | refine ⟨rfl, ?_⟩ | refine ⟨⟨_, rfl⟩, ?_⟩ | refine ⟨⟨Nat.le_of_ble_eq_true rfl, Nat.le_of_ble_eq_true rfl⟩, ?_⟩ | refine ⟨Nat.le_of_ble_eq_true rfl, ?_⟩ | refine ⟨_, _, rfl, ?_⟩ | refine ⟨0, _, rfl, ?_⟩ | refine ⟨1, _, rfl, ?_⟩ | refine ⟨2, _, rfl, ?_⟩ | refine ⟨3, _, rfl, ?_⟩ | refine ⟨4, _, rfl, ?_⟩ | refine ⟨5, _, rfl, ?_⟩ | refine ⟨_, rfl, ?_⟩ | intro _)
    refine store_one (encR Y[z]) (A ++ encR Y[z] :: (B ++ encR Y[z] :: C)) rfl rfl (by simp; omega) (hA ▸ two_set0 A B C _ _ _) ?_
    repeat (first | refine AW_seq ?_ | refine det_step rfl ?_ | refine AW_region tab_ok ?_ | refine AW_block ?_ | refine AW_scope ?_ | refine AW_exit ?_ | refine AW_goto ?_ | refine AW_label ?_ | refine AW_skip ?_ | refine ⟨rfl, ?_⟩ | refine ⟨⟨_, rfl⟩, ?_⟩ | refine ⟨⟨Nat.le_of_ble_eq_true rfl, Nat.le_of_ble_eq_true rfl⟩, ?_⟩ | refine ⟨Nat.le_of_ble_eq_true rfl, ?_⟩ | refine ⟨_, _, rfl, ?_⟩ | refine ⟨0, _, rfl, ?_⟩ | refine ⟨1, _, rfl, ?_⟩ | refine ⟨2, _, rfl, ?_⟩ | refine ⟨3, _, rfl, ?_⟩ | refine ⟨4, _, rfl, ?_⟩ | refine ⟨5, _, rfl, ?_⟩ | refine ⟨_, rfl, ?_⟩ | intro _)
    refine at_msl (b1 + z) (b1 + z) (by first | rfl | omega | (rw [wrap_i64 (by first | omega | (simp; omega))]; first | rfl | omega | (simp; omega))) (by first | assumption | omega) (by show _ + _ * 1 = _; omega) ?_
    repeat (first | refine AW_seq ?_ | refine det_step rfl ?_ | refine AW_region tab_ok ?_ | refine AW_block ?_ | refine AW_scope ?_ | refine AW_exit ?_ | refine AW_goto ?_ | refine AW_label ?_ | refine AW_skip ?_ | refine ⟨rfl, ?_⟩ | refine ⟨⟨_, rfl⟩, ?_⟩ | refine ⟨⟨Nat.le_of_ble_eq_true rfl, Nat.le_of_ble_eq_true rfl⟩, ?_⟩ | refine ⟨Nat.le_of_ble_eq_true rfl, ?_⟩ | refine ⟨_, _, rfl, ?_⟩ | refine ⟨0, _, rfl, ?_⟩ | refine ⟨1, _, rfl, ?_⟩ | refine ⟨2, _, rfl, ?_⟩ | refine ⟨3, _, rfl, ?_⟩ | refine ⟨4, _, rfl, ?_⟩ | refine ⟨5, _, rfl, ?_⟩ | refine ⟨_, rfl, ?_⟩ | intro _)
    refine store_one (encR X[z]) (A ++ encR Y[z] :: (B ++ encR X[z] :: C)) rfl rfl (by simp; omega) (hB ▸ two_set1 A B C _ _ _) ?_
    repeat (first | refine AW_seq ?_ | refine det_step rfl ?_ | refine AW_region tab_ok ?_ | refine AW_block ?_ | refine AW_scope ?_ | refine AW_exit ?_ | refine AW_goto ?_ | refine AW_label ?_ | refine AW_skip ?_ | refine ⟨rfl, ?_⟩ | refine ⟨⟨_, rfl⟩, ?_⟩ | refine ⟨⟨Nat.le_of_ble_eq_true rfl, Nat.le_of_ble_eq_true rfl⟩, ?_⟩ | refine ⟨Nat.le_of_ble_eq_true rfl, ?_⟩ | refine ⟨_, _, rfl, ?_⟩ | refine ⟨0, _, rfl, ?_⟩ | refine ⟨1, _, rfl, ?_⟩ | refine ⟨2, _, rfl, ?_⟩ | refine ⟨3, _, rfl, ?_⟩ | refine ⟨4, _, rfl, ?_⟩ | refine ⟨5, _, rfl, ?_⟩ | refine ⟨_, rfl, ?_⟩ | intro _)
    refine ⟨z + 1, ?_, ?_, weak_of ?_ rfl ?_⟩
    · omega
    · omega
    · repeat (first | exact trivial | refine ⟨AVle.refl _, ?_⟩ | refine ⟨AVle.tk, ?_⟩ | refine ⟨AVle.nil, ?_⟩ | refine ⟨AVle.nilFull, ?_⟩ | refine ⟨AVle.eq (congrArg (AV.int .i64) (by first | (simp; done) | (simp; omega) | (rw [wrap_i64 (by first | omega | (simp; omega))]; first | rfl | omega | (simp; done) | (simp; omega)))), ?_⟩)
    · rw [hold_pos (by omega)]
      refine SLe.of_eq ?_
      rw [hD]; rfl
  · repeat (first | refine AW_seq ?_ | refine det_step rfl ?_ | refine AW_region tab_ok ?_ | refine AW_block ?_ | refine AW_scope ?_ | refine AW_exit ?_ | refine AW_goto ?_ | refine AW_label ?_ | refine AW_skip ?_ | refine ⟨rfl, ?_⟩ | refine ⟨⟨_, rfl⟩, ?_⟩ | refine ⟨⟨Nat.le_of_ble_eq_true rfl, Nat.le_of_ble_eq_true rfl⟩, ?_⟩ | refine ⟨Nat.le_of_ble_eq_true rfl, ?_⟩ | refine ⟨_, _, rfl, ?_⟩ | refine ⟨0, _, rfl, ?_⟩ | refine ⟨1, _, rfl, ?_⟩ | refine ⟨2, _, rfl, ?_⟩ | refine ⟨3, _, rfl, ?_⟩ | refine ⟨4, _, rfl, ?_⟩ | refine ⟨5, _, rfl, ?_⟩ | refine ⟨_, rfl, ?_⟩ | intro _)
    refine ⟨.tup [], _, AVle.refl _, SLe.rfl, rfl, ?_⟩
    have : z = k := by omega
    subst this
    rw [List.take_of_length_le (by omega), List.take_of_length_le (by omega), List.drop_of_length_le (by omega), List.drop_of_length_le (by omega)]
    simp

/-- two neighbours change places -/
theorem rotate_ok (f : AV) (b n cap : Nat) (rest : List AV) (hmax : n ≤ 16777216) (R : List En) : ∀ (k : Nat) (pre X Y post : List (List V)), X.length + Y.length = k → 0 < X.length → 0 < Y.length → n = (pre ++ X ++ Y ++ post).length →
    ∀ (a1 m1 b1 : Nat), a1 = pre.length → m1 = pre.length + X.length → b1 = pre.length + X.length + Y.length →
    ACall Try.prog 56 [.msl b 0 n cap, .int .i64 a1, .int .i64 m1, .int .i64 b1, f] (hold n b ((pre ++ X ++ Y ++ post).map encR ++ rest) R)
      (fun r S => r = .tup [] ∧ S = hold n b ((pre ++ Y ++ X ++ post).map encR ++ rest) R) := by
  intro k pre X Y post hk hX0 hY0 hn a1 m1 b1 ha hm hb
  refine ACall_sat fun hs => ?_
  have hcap := (hs (.msl b 0 n cap) (by simp)).msl
  simp only [List.length_append] at hn
  refine ACall_body tab_ok Try.func56 rfl rfl rfl (by kernel_rfl) (Nat.le_of_ble_eq_true rfl) ?_
  repeat (first | refine AW_seq ?_ | refine det_step rfl ?_ | refine AW_region tab_ok ?_ | refine AW_block ?_ | refine AW_scope ?_ | refine AW_exit ?_ | refine AW_goto ?_ | refine AW_label ?_ | refine AW_skip ?_ | refine ⟨rfl, ?_⟩ | refine ⟨⟨_, rfl⟩, ?_⟩ | refine ⟨⟨Nat.le_of_ble_eq_true rfl, Nat.le_of_ble_eq_true rfl⟩, ?_⟩ | refine ⟨Nat.le_of_ble_eq_true rfl, ?_⟩ | refine ⟨_, _, rfl, ?_⟩ | refine ⟨0, _, rfl, ?_⟩ | refine ⟨1, _, rfl, ?_⟩ | refine ⟨2, _, rfl, ?_⟩ | refine ⟨3, _, rfl, ?_⟩ | refine ⟨4, _, rfl, ?_⟩ | refine ⟨5, _, rfl, ?_⟩ | refine ⟨_, rfl, ?_⟩ | intro _)
  refine AW_for (α := List (List V) × List (List V) × List (List V) × List (List V)) (fun z => ⟨[(0, .msl b 0 n cap), (1, .int .i64 (a1 : Nat)), (2, .int .i64 (m1 : Nat)), (3, .int .i64 (b1 : Nat)), (4, f), (10, .int .i64 (z.2.1.length : Nat)), (11, .int .i64 (z.2.2.1.length : Nat))], []⟩) (fun z => hold n b ((z.1 ++ z.2.1 ++ z.2.2.1 ++ z.2.2.2).map encR ++ rest) R) (fun z => z.2.1.length + z.2.2.1.length) (fun z => 0 < z.2.1.length ∧ 0 < z.2.2.1.length ∧ (z.1 ++ z.2.1).length = m1 ∧ (z.1 ++ z.2.1 ++ z.2.2.1 ++ z.2.2.2).length = n ∧ z.1 ++ z.2.2.1 ++ z.2.1 ++ z.2.2.2 = pre ++ Y ++ X ++ post) ((pre, X, Y, post)) ?_ (weak_of ?_ rfl ?_) (fun z hz => ?_)
  · refine ⟨hX0, hY0, by simp; omega, by simp; omega, rfl⟩
  · repeat (first | exact trivial | refine ⟨AVle.refl _, ?_⟩ | refine ⟨AVle.tk, ?_⟩ | refine ⟨AVle.nil, ?_⟩ | refine ⟨AVle.nilFull, ?_⟩ | refine ⟨AVle.eq (congrArg (AV.int .i64) (by first | (simp; done) | (simp; omega) | (rw [wrap_i64 (by first | omega | (simp; omega))]; first | rfl | omega | (simp; done) | (simp; omega)))), ?_⟩)
  · repeat (first | exact SLe.rfl | refine SLe.tail ?_ | refine SLe.full ?_)
  obtain ⟨p, u, v, q⟩ := z
  obtain ⟨h1, h2, h3, h4, h5⟩ : 0 < u.length ∧ 0 < v.length ∧ (p ++ u).length = m1 ∧ (p ++ u ++ v ++ q).length = n ∧ p ++ v ++ u ++ q = pre ++ Y ++ X ++ post := hz
  simp only [List.length_append] at h3 h4
  repeat (first | refine AW_seq ?_ | refine det_step rfl ?_ | refine AW_region tab_ok ?_ | refine AW_block ?_ | refine AW_scope ?_ | refine AW_exit ?_ | refine AW_goto ?_ | refine AW_label ?_ | refine AW_skip ?_ | refine ⟨rfl, ?_⟩ | refine ⟨⟨_, rfl⟩, ?_⟩ | refine ⟨⟨Nat.le_of_ble_eq_true rfl, Nat.le_of_ble_eq_true rfl⟩, ?_⟩ | refine ⟨Nat.le_of_ble_eq_true rfl, ?_⟩ | refine ⟨_, _, rfl, ?_⟩ | refine ⟨0, _, rfl, ?_⟩ | refine ⟨1, _, rfl, ?_⟩ | refine ⟨2, _, rfl, ?_⟩ | refine ⟨3, _, rfl, ?_⟩ | refine ⟨4, _, rfl, ?_⟩ | refine ⟨5, _, rfl, ?_⟩ | refine ⟨_, rfl, ?_⟩ | intro _)
  refine AW_iff (u.length ≠ v.length) rfl (by first | (simp; done) | (simp <;> omega) | decide) (fun h => ?_) (fun h => ?_)
  · repeat (first | refine AW_seq ?_ | refine det_step rfl ?_ | refine AW_region tab_ok ?_ | refine AW_block ?_ | refine AW_scope ?_ | refine AW_exit ?_ | refine AW_goto ?_ | refine AW_label ?_ | refine AW_skip ?_ | refine ⟨rfl, ?_⟩ | refine ⟨⟨_, rfl⟩, ?_⟩ | refine ⟨⟨Nat.le_of_ble_eq_true rfl, Nat.le_of_ble_eq_true rfl⟩, ?_⟩ | refine ⟨Nat.le_of_ble_eq_true rfl, ?_⟩ | refine ⟨_, _, rfl, ?_⟩ | refine ⟨0, _, rfl, ?_⟩ | refine ⟨1, _, rfl, ?_⟩ | refine ⟨2, _, rfl, ?_⟩ | refine ⟨3, _, rfl, ?_⟩ | refine ⟨4, _, rfl, ?_⟩ | refine ⟨5, _, rfl, ?_⟩ | refine ⟨_, rfl, ?_⟩ | intro _)
    refine AW_iff (v.length < u.length) rfl (by first | (simp; done) | (simp <;> omega) | decide) (fun h => ?_) (fun h => ?_)
    · repeat (first | refine AW_seq ?_ | refine det_step rfl ?_ | refine AW_region tab_ok ?_ | refine AW_block ?_ | refine AW_scope ?_ | refine AW_exit ?_ | refine AW_goto ?_ | refine AW_label ?_ | refine AW_skip ?_ | refine ⟨rfl, ?_⟩ | refine ⟨⟨_, rfl⟩, ?_⟩ | refine ⟨⟨Nat.le_of_ble_eq_true rfl, Nat.le_of_ble_eq_true rfl⟩, ?_⟩ | refine ⟨Nat.le_of_ble_eq_true rfl, ?_⟩ | refine ⟨_, _, rfl, ?_⟩ | refine ⟨0, _, rfl, ?_⟩ | refine ⟨1, _, rfl, ?_⟩ | refine ⟨2, _, rfl, ?_⟩ | refine ⟨3, _, rfl, ?_⟩ | refine ⟨4, _, rfl, ?_⟩ | refine ⟨5, _, rfl, ?_⟩ | refine ⟨_, rfl, ?_⟩ | intro _)
      have e1 : IntKind.i64.wrap ((m1 : Int) - (u.length : Int)) = ((p.length : Nat) : Int) := by rw [wrap_i64 (by omega)]; omega
      have e2 : u = u.take v.length ++ u.drop v.length := (List.take_append_drop _ _).symm
      have e3 : p ++ u ++ v ++ q = p ++ u.take v.length ++ u.drop v.length ++ v ++ q := by rw [List.append_assoc p (u.take v.length), ← e2]
      have e4 : (u.take v.length).length = v.length := by rw [List.length_take]; omega
      have e5 : (u.drop v.length).length = u.length - v.length := List.length_drop
      have hc := swapRange_ok f p (u.take v.length) (u.drop v.length) v q e4 b n cap rest (by simp only [List.length_append, e4, e5]; omega) p.length m1 v.length rfl (by rw [e4, e5]; omega) e4.symm hmax R
      rw [← e3] at hc
      refine Or.inl ⟨⟨_, Try.func58, rfl, rfl⟩, ACall_args (ACall.mono ?_ (hc)) ⟨AVle.refl _, AVle.eq (congrArg (AV.int .i64) e1), AVle.refl _, AVle.refl _, AVle.refl _, trivial⟩⟩
      rintro _ S1 ⟨rfl, hS1⟩
      subst S1
      repeat (first | refine AW_seq ?_ | refine det_step rfl ?_ | refine AW_region tab_ok ?_ | refine AW_block ?_ | refine AW_scope ?_ | refine AW_exit ?_ | refine AW_goto ?_ | refine AW_label ?_ | refine AW_skip ?_ | refine ⟨rfl, ?_⟩ | refine ⟨⟨_, rfl⟩, ?_⟩ | refine ⟨⟨Nat.le_of_ble_eq_true rfl, Nat.le_of_ble_eq_true rfl⟩, ?_⟩ | refine ⟨Nat.le_of_ble_eq_true rfl, ?_⟩ | refine ⟨_, _, rfl, ?_⟩ | refine ⟨0, _, rfl, ?_⟩ | refine ⟨1, _, rfl, ?_⟩ | refine ⟨2, _, rfl, ?_⟩ | refine ⟨3, _, rfl, ?_⟩ | refine ⟨4, _, rfl, ?_⟩ | refine ⟨5, _, rfl, ?_⟩ | refine ⟨_, rfl, ?_⟩ | intro _)
      refine ⟨(p ++ v, u.drop v.length, u.take v.length, q), ?_, ?_, weak_of ?_ rfl ?_⟩
      · show (u.drop v.length).length + (u.take v.length).length < u.length + v.length
        rw [e4, e5]; omega
      · refine ⟨?_, ?_, ?_, ?_, ?_⟩
        · show 0 < (u.drop v.length).length
          rw [e5]; omega
        · show 0 < (u.take v.length).length
          rw [e4]; omega
        · show ((p ++ v) ++ u.drop v.length).length = m1
          simp only [List.length_append, e5]; omega
        · show ((p ++ v) ++ u.drop v.length ++ u.take v.length ++ q).length = n
          simp only [List.length_append, e4, e5]; omega
        · show (p ++ v) ++ u.take v.length ++ u.drop v.length ++ q = _
          rw [← h5, List.append_assoc (p ++ v), ← e2]
      · repeat (first | exact trivial | refine ⟨(AVle.eq (congrArg (AV.int .i64) (show IntKind.i64.wrap ((u.length : Int) - (v.length : Int)) = (((u.drop v.length).length : Nat) : Int) by rw [wrap_i64 (by omega), e5]; omega))), ?_⟩ | refine ⟨(AVle.eq (congrArg (AV.int .i64) (show ((v.length : Nat) : Int) = (((u.take v.length).length : Nat) : Int) by rw [e4]))), ?_⟩ | refine ⟨AVle.refl _, ?_⟩ | refine ⟨AVle.tk, ?_⟩ | refine ⟨AVle.nil, ?_⟩ | refine ⟨AVle.nilFull, ?_⟩ | refine ⟨AVle.eq (congrArg (AV.int .i64) (by first | (simp; done) | (simp; omega) | (rw [wrap_i64 (by first | omega | (simp; omega))]; first | rfl | omega | (simp; done) | (simp; omega)))), ?_⟩)
      · repeat (first | exact SLe.rfl | refine SLe.tail ?_ | refine SLe.full ?_)
    · repeat (first | refine AW_seq ?_ | refine det_step rfl ?_ | refine AW_region tab_ok ?_ | refine AW_block ?_ | refine AW_scope ?_ | refine AW_exit ?_ | refine AW_goto ?_ | refine AW_label ?_ | refine AW_skip ?_ | refine ⟨rfl, ?_⟩ | refine ⟨⟨_, rfl⟩, ?_⟩ | refine ⟨⟨Nat.le_of_ble_eq_true rfl, Nat.le_of_ble_eq_true rfl⟩, ?_⟩ | refine ⟨Nat.le_of_ble_eq_true rfl, ?_⟩ | refine ⟨_, _, rfl, ?_⟩ | refine ⟨0, _, rfl, ?_⟩ | refine ⟨1, _, rfl, ?_⟩ | refine ⟨2, _, rfl, ?_⟩ | refine ⟨3, _, rfl, ?_⟩ | refine ⟨4, _, rfl, ?_⟩ | refine ⟨5, _, rfl, ?_⟩ | refine ⟨_, rfl, ?_⟩ | intro _)
      have e1 : IntKind.i64.wrap ((m1 : Int) - (u.length : Int)) = ((p.length : Nat) : Int) := by rw [wrap_i64 (by omega)]; omega
      have e1' : IntKind.i64.wrap (IntKind.i64.wrap ((m1 : Int) + (v.length : Int)) - (u.length : Int)) = ((m1 + v.length - u.length : Nat) : Int) := by rw [wrap_i64 (n := (m1 : Int) + (v.length : Int)) (by omega), wrap_i64 (by omega)]; omega
      have e2 : v = v.take (v.length - u.length) ++ v.drop (v.length - u.length) := (List.take_append_drop _ _).symm
      have e3 : p ++ u ++ v ++ q = p ++ u ++ v.take (v.length - u.length) ++ v.drop (v.length - u.length) ++ q := by rw [List.append_assoc (p ++ u) (v.take (v.length - u.length)), ← e2]
      have e4 : (v.take (v.length - u.length)).length = v.length - u.length := by rw [List.length_take]; omega
      have e5 : (v.drop (v.length - u.length)).length = u.length := by rw [List.length_drop]; omega
      have hc := swapRange_ok f p u (v.take (v.length - u.length)) (v.drop (v.length - u.length)) q e5.symm b n cap rest (by simp only [List.length_append, e4, e5]; omega) p.length (m1 + v.length - u.length) u.length rfl (by rw [e4]; omega) rfl hmax R
      rw [← e3] at hc
      refine Or.inl ⟨⟨_, Try.func58, rfl, rfl⟩, ACall_args (ACall.mono ?_ (hc)) ⟨AVle.refl _, AVle.eq (congrArg (AV.int .i64) e1), AVle.eq (congrArg (AV.int .i64) e1'), AVle.refl _, AVle.refl _, trivial⟩⟩
      rintro _ S1 ⟨rfl, hS1⟩
      subst S1
      repeat (first | refine AW_seq ?_ | refine det_step rfl ?_ | refine AW_region tab_ok ?_ | refine AW_block ?_ | refine AW_scope ?_ | refine AW_exit ?_ | refine AW_goto ?_ | refine AW_label ?_ | refine AW_skip ?_ | refine ⟨rfl, ?_⟩ | refine ⟨⟨_, rfl⟩, ?_⟩ | refine ⟨⟨Nat.le_of_ble_eq_true rfl, Nat.le_of_ble_eq_true rfl⟩, ?_⟩ | refine ⟨Nat.le_of_ble_eq_true rfl, ?_⟩ | refine ⟨_, _, rfl, ?_⟩ | refine ⟨0, _, rfl, ?_⟩ | refine ⟨1, _, rfl, ?_⟩ | refine ⟨2, _, rfl, ?_⟩ | refine ⟨3, _, rfl, ?_⟩ | refine ⟨4, _, rfl, ?_⟩ | refine ⟨5, _, rfl, ?_⟩ | refine ⟨_, rfl, ?_⟩ | intro _)
      refine ⟨(p, v.drop (v.length - u.length), v.take (v.length - u.length), u ++ q), ?_, ?_, weak_of ?_ rfl ?_⟩
      · show (v.drop (v.length - u.length)).length + (v.take (v.length - u.length)).length < u.length + v.length
        rw [e4, e5]; omega
      · refine ⟨?_, ?_, ?_, ?_, ?_⟩
        · show 0 < (v.drop (v.length - u.length)).length
          rw [e5]; omega
        · show 0 < (v.take (v.length - u.length)).length
          rw [e4]; omega
        · show (p ++ v.drop (v.length - u.length)).length = m1
          simp only [List.length_append, e5]; omega
        · show (p ++ v.drop (v.length - u.length) ++ v.take (v.length - u.length) ++ (u ++ q)).length = n
          simp only [List.length_append, e4, e5]; omega
        · show p ++ v.take (v.length - u.length) ++ v.drop (v.length - u.length) ++ (u ++ q) = _
          rw [← h5, List.append_assoc p (v.take _), ← e2, List.append_assoc (p ++ v)]
      · repeat (first | exact trivial | refine ⟨(AVle.eq (congrArg (AV.int .i64) (show ((u.length : Nat) : Int) = (((v.drop (v.length - u.length)).length : Nat) : Int) by rw [e5]))), ?_⟩ | refine ⟨(AVle.eq (congrArg (AV.int .i64) (show IntKind.i64.wrap ((v.length : Int) - (u.length : Int)) = (((v.take (v.length - u.length)).length : Nat) : Int) by rw [wrap_i64 (by omega), e4]; omega))), ?_⟩ | refine ⟨AVle.refl _, ?_⟩ | refine ⟨AVle.tk, ?_⟩ | refine ⟨AVle.nil, ?_⟩ | refine ⟨AVle.nilFull, ?_⟩ | refine ⟨AVle.eq (congrArg (AV.int .i64) (by first | (simp; done) | (simp; omega) | (rw [wrap_i64 (by first | omega | (simp; omega))]; first | rfl | omega | (simp; done) | (simp; omega)))), ?_⟩)
      · refine SLe.of_eq ?_
        show hold n b ((p ++ v.drop (v.length - u.length) ++ v.take (v.length - u.length) ++ u ++ q).map encR ++ rest) R = hold n b ((p ++ v.drop (v.length - u.length) ++ v.take (v.length - u.length) ++ (u ++ q)).map encR ++ rest) R
        rw [List.append_assoc (p ++ v.drop (v.length - u.length) ++ v.take (v.length - u.length)) u q]
  · have he : u.length = v.length := Classical.not_not.1 h
    repeat (first | refine AW_seq ?_ | refine det_step rfl ?_ | refine AW_region tab_ok ?_ | refine AW_block ?_ | refine AW_scope ?_ | refine AW_exit ?_ | refine AW_goto ?_ | refine AW_label ?_ | refine AW_skip ?_ | refine ⟨rfl, ?_⟩ | refine ⟨⟨_, rfl⟩, ?_⟩ | refine ⟨⟨Nat.le_of_ble_eq_true rfl, Nat.le_of_ble_eq_true rfl⟩, ?_⟩ | refine ⟨Nat.le_of_ble_eq_true rfl, ?_⟩ | refine ⟨_, _, rfl, ?_⟩ | refine ⟨0, _, rfl, ?_⟩ | refine ⟨1, _, rfl, ?_⟩ | refine ⟨2, _, rfl, ?_⟩ | refine ⟨3, _, rfl, ?_⟩ | refine ⟨4, _, rfl, ?_⟩ | refine ⟨5, _, rfl, ?_⟩ | refine ⟨_, rfl, ?_⟩ | intro _)
    have e1 : IntKind.i64.wrap ((m1 : Int) - (u.length : Int)) = ((p.length : Nat) : Int) := by rw [wrap_i64 (by omega)]; omega
    have hc := swapRange_ok f p u [] v q he b n cap rest (by simp only [List.length_append, List.length_nil]; omega) p.length m1 u.length rfl (by simp; omega) rfl hmax R
    rw [List.append_nil, List.append_nil] at hc
    refine Or.inl ⟨⟨_, Try.func58, rfl, rfl⟩, ACall_args (ACall.mono ?_ (hc)) ⟨AVle.refl _, AVle.eq (congrArg (AV.int .i64) e1), AVle.refl _, AVle.refl _, AVle.refl _, trivial⟩⟩
    rintro _ S1 ⟨rfl, hS1⟩
    subst S1
    repeat (first | refine AW_seq ?_ | refine det_step rfl ?_ | refine AW_region tab_ok ?_ | refine AW_block ?_ | refine AW_scope ?_ | refine AW_exit ?_ | refine AW_goto ?_ | refine AW_label ?_ | refine AW_skip ?_ | refine ⟨rfl, ?_⟩ | refine ⟨⟨_, rfl⟩, ?_⟩ | refine ⟨⟨Nat.le_of_ble_eq_true rfl, Nat.le_of_ble_eq_true rfl⟩, ?_⟩ | refine ⟨Nat.le_of_ble_eq_true rfl, ?_⟩ | refine ⟨_, _, rfl, ?_⟩ | refine ⟨0, _, rfl, ?_⟩ | refine ⟨1, _, rfl, ?_⟩ | refine ⟨2, _, rfl, ?_⟩ | refine ⟨3, _, rfl, ?_⟩ | refine ⟨4, _, rfl, ?_⟩ | refine ⟨5, _, rfl, ?_⟩ | refine ⟨_, rfl, ?_⟩ | intro _)
    refine ⟨.tup [], _, AVle.refl _, SLe.rfl, rfl, ?_⟩
    show hold n b ((p ++ v ++ u ++ q).map encR ++ rest) R = _
    rw [h5]
end Go.Proofs.Ytocbdcgbbdjhlaa

