/-
  One byte, how often: the walk. Own work.
-/
import Derived.Test.YtgcoomicgdbmbaaGreatDoorP12
set_option linter.all false
namespace Go.Proofs.YtgcoomicgdbmbaaGreatDoor
open Go.Aw Go.RowKit
set_option maxHeartbeats 4000000

theorem dlexLong_ok (c : UInt8) (n : Int) (R : List En) (hG : LexG R) : ACall Tryz.prog 4 [.int .u8 c.toNat, .int .i64 n] R (fun r S => r = .bool true ∧ S = R) := by
  refine ACall_body tab_ok Tryz.func4 rfl rfl rfl (by kernel_rfl) (Nat.le_of_ble_eq_true rfl) ?_
  repeat (first | refine go_ ?_ | intro _)
  refine Or.inl ⟨⟨_, Tryz.func9, rfl, rfl⟩, ACall.mono ?_ (shown_ok R hG)⟩
  rintro _ S1 ⟨rfl, hS1⟩
  subst S1
  repeat (first | refine det_step rfl ?_ | refine ⟨rfl, ?_⟩ | refine ⟨⟨_, rfl⟩, ?_⟩ | refine ⟨⟨_, rfl, rfl⟩, ?_⟩ | refine ⟨⟨rfl, rfl⟩, ?_⟩ | refine ⟨⟨Nat.le_of_ble_eq_true rfl, Nat.le_of_ble_eq_true rfl⟩, ?_⟩ | refine ⟨Nat.le_of_ble_eq_true rfl, ?_⟩ | refine ⟨_, _, rfl, ?_⟩ | refine ⟨0, _, rfl, ?_⟩ | refine ⟨1, _, rfl, ?_⟩ | refine ⟨2, _, rfl, ?_⟩ | refine ⟨3, _, rfl, ?_⟩ | refine ⟨4, _, rfl, ?_⟩ | refine ⟨5, _, rfl, ?_⟩ | refine ⟨_, rfl, ?_⟩ | intro _)
  refine AW_weak (weak_of (l := [(0, .int .u8 c.toNat), (1, .int .i64 n), (5, .bool true)]) (m := []) (S' := R) ?_ rfl ?_) ?_
  · repeat (first | exact trivial | refine ⟨AVle.refl _, ?_⟩ | refine ⟨AVle.tk, ?_⟩ | refine ⟨AVle.nil, ?_⟩ | refine ⟨AVle.nilFull, ?_⟩ | refine ⟨AVle.eq (congrArg (AV.int .i64) (by first | (simp; done) | (simp; omega) | (rw [wrap_i64 (by first | omega | (simp; omega))]; first | rfl | omega | (simp; done) | (simp; omega)))), ?_⟩)
  · refine SW.le ?_
    repeat (first | exact SW.nil | refine SW.cons ?_ | refine SW.cells (by repeat (first | exact trivial | refine ⟨AVle.refl _, ?_⟩ | refine ⟨AVle.nilFull, ?_⟩ | refine ⟨AVle.tk, ?_⟩ | refine ⟨AVle.nil, ?_⟩)) rfl ?_ | refine SW.full ?_ | refine SW.drop ?_)
  refine AW_cut2 (α := Unit) (fun z => ⟨[(0, .int .u8 c.toNat), (1, .int .i64 n), (5, .bool true), (6, .sl 0 [] .full)], []⟩) (fun z => R) (fun z => 0 ≤ n ∧ n ≤ 70000) ?_ (fun z hz => ?_)
  · all_goals (repeat (first | refine ga_ ?_ | intro _))
    all_goals (try (first | refine AW_cond rfl (fun h => ?_) (fun h => ?_) | refine ⟨fun h => ?_, fun h => ?_⟩))
    all_goals (try (repeat (first | refine ga_ ?_ | intro _)))
    all_goals (try (first | refine AW_cond rfl (fun h => ?_) (fun h => ?_) | refine ⟨fun h => ?_, fun h => ?_⟩))
    all_goals (try (repeat (first | refine ga_ ?_ | intro _)))
    all_goals (try (first | refine AW_cond rfl (fun h => ?_) (fun h => ?_) | refine ⟨fun h => ?_, fun h => ?_⟩))
    all_goals (try (repeat (first | refine ga_ ?_ | intro _)))
    all_goals (try (first | refine AW_cond rfl (fun h => ?_) (fun h => ?_) | refine ⟨fun h => ?_, fun h => ?_⟩))
    all_goals (try (repeat (first | refine ga_ ?_ | intro _)))
    all_goals (try (first | refine AW_cond rfl (fun h => ?_) (fun h => ?_) | refine ⟨fun h => ?_, fun h => ?_⟩))
    all_goals (try (repeat (first | refine ga_ ?_ | intro _)))
    all_goals (try (first | refine AW_cond rfl (fun h => ?_) (fun h => ?_) | refine ⟨fun h => ?_, fun h => ?_⟩))
    all_goals (try (repeat (first | refine ga_ ?_ | intro _)))
    all_goals (try (first | refine AW_cond rfl (fun h => ?_) (fun h => ?_) | refine ⟨fun h => ?_, fun h => ?_⟩))
    all_goals (try (repeat (first | refine ga_ ?_ | intro _)))
    all_goals (try (first | refine AW_cond rfl (fun h => ?_) (fun h => ?_) | refine ⟨fun h => ?_, fun h => ?_⟩))
    all_goals (try (repeat (first | refine ga_ ?_ | intro _)))
    all_goals (try (first | refine AW_cond rfl (fun h => ?_) (fun h => ?_) | refine ⟨fun h => ?_, fun h => ?_⟩))
    all_goals (try (repeat (first | refine ga_ ?_ | intro _)))
    all_goals (try (first | refine AW_cond rfl (fun h => ?_) (fun h => ?_) | refine ⟨fun h => ?_, fun h => ?_⟩))
    all_goals (try (repeat (first | refine ga_ ?_ | intro _)))
    all_goals (try (first | refine AW_cond rfl (fun h => ?_) (fun h => ?_) | refine ⟨fun h => ?_, fun h => ?_⟩))
    all_goals (try (repeat (first | refine ga_ ?_ | intro _)))
    all_goals (try (first | refine AW_cond rfl (fun h => ?_) (fun h => ?_) | refine ⟨fun h => ?_, fun h => ?_⟩))
    all_goals (try (repeat (first | refine ga_ ?_ | intro _)))
    all_goals first
      | (refine AW_ret ?_; refine ⟨_, R, AVle.eq ?_, SLe.rfl, rfl, rfl⟩; rfl)
      | (refine ⟨(), ⟨?_, ?_⟩, weak_of ⟨AVle.refl _, AVle.refl _, AVle.refl _, AVle.refl _, trivial⟩ rfl SLe.rfl⟩ <;> (simp only [decide_eq_false_iff_not] at *; omega))
  obtain ⟨hz1, hz2⟩ := hz
  obtain ⟨m, rfl⟩ : ∃ m : Nat, n = (m : Int) := ⟨n.toNat, by omega⟩
  repeat (first | refine go_ ?_ | intro _)
  refine AW_for (α := Nat × Tk) (fun z => ⟨[(0, .int .u8 c.toNat), (1, .int .i64 (m : Int)), (5, .bool true), (6, .sl 1 (u8s (List.replicate z.1 c)) z.2), (7, .int .i64 (z.1 : Nat))], []⟩) (fun z => .grow z.2 :: R) (fun z => m - z.1) (fun z => z.1 ≤ m) ((0, .full)) ?_ (weak_of ?_ rfl ?_) (fun z hz => ?_)
  · exact Nat.zero_le _
  · repeat (first | exact trivial | refine ⟨AVle.refl _, ?_⟩ | refine ⟨AVle.tk, ?_⟩ | refine ⟨AVle.nil, ?_⟩ | refine ⟨AVle.nilFull, ?_⟩ | refine ⟨AVle.eq (congrArg (AV.int .i64) (by first | (simp; done) | (simp; omega) | (rw [wrap_i64 (by first | omega | (simp; omega))]; first | rfl | omega | (simp; done) | (simp; omega)))), ?_⟩)
  · repeat (first | exact SLe.rfl | refine SLe.tail ?_ | refine SLe.full ?_)
  obtain ⟨z, tk⟩ := z
  replace hz : z ≤ m := hz
  show AW _ _ _ _ ⟨[(0, .int .u8 c.toNat), (1, .int .i64 (m : Int)), (5, .bool true), (6, .sl 1 (u8s (List.replicate z c)) tk), (7, .int .i64 (z : Nat))], []⟩ (.grow tk :: R) _
  have hu := u8s_len (List.replicate z c)
  rw [List.length_replicate] at hu
  repeat (first | refine go_ ?_ | intro _)
  refine AW_iff (z < m) rfl (by first | (simp; done) | (simp <;> omega) | decide) (fun h => ?_) (fun h => ?_)
  · have hlt := h
    repeat (first | refine go_ ?_ | intro _)
    refine ⟨room (by first | omega | (simp; done) | (simp; omega) | (simp at *; done) | (simp at *; omega)) rfl, .inl rfl, .inr (.inl ⟨rfl, 0, rfl, u8s (List.replicate (z + 1) c), (by rw [List.replicate_succ', u8s_app]; rfl), fun t1 => ?_⟩)⟩
    repeat (first | refine go_ ?_ | intro _)
    refine ⟨((z + 1, t1) : Nat × Tk), ?_, ?_, weak_of ?_ rfl ?_⟩
    · show m - (z + 1) < m - z; omega
    · exact hlt
    · repeat (first | exact trivial | refine ⟨AVle.refl _, ?_⟩ | refine ⟨AVle.tk, ?_⟩ | refine ⟨AVle.nil, ?_⟩ | refine ⟨AVle.nilFull, ?_⟩ | refine ⟨AVle.eq (congrArg (AV.int .i64) (by first | (simp; done) | (simp; omega) | (rw [wrap_i64 (by first | omega | (simp; omega))]; first | rfl | omega | (simp; done) | (simp; omega)))), ?_⟩)
    · repeat (first | exact SLe.rfl | refine SLe.tail ?_ | refine SLe.full ?_)
  obtain rfl : z = m := by omega
  obtain ⟨t, ht⟩ : ∃ t, t = List.replicate z c := ⟨_, rfl⟩
  have htl : t.length = z := by rw [ht, List.length_replicate]
  rw [← ht]
  have k1 := lex_ok t (.grow tk :: R) hG.1.cons hG.2.1.cons (.tail _ hG.2.2) (by omega)
  have k2 := refLex_ok t (.grow tk :: R) hG.2.1.cons (by omega)
  have hll := lexS_len t
  obtain ⟨x, hx⟩ : ∃ x, x = lexS t := ⟨_, rfl⟩
  rw [← hx] at k1 k2 hll
  obtain ⟨l, i, e⟩ := x
  have k3 := sameT_ok l (.grow tk :: R) (by simp at hll; omega)
  refine AW_weak (weak_of (l := [(5, .bool true), (6, .sl 1 (u8s t) tk)]) (m := []) (S' := .grow tk :: R) ?_ rfl ?_) ?_
  · repeat (first | exact trivial | refine ⟨AVle.refl _, ?_⟩ | refine ⟨AVle.tk, ?_⟩ | refine ⟨AVle.nil, ?_⟩ | refine ⟨AVle.nilFull, ?_⟩ | refine ⟨AVle.eq (congrArg (AV.int .i64) (by first | (simp; done) | (simp; omega) | (rw [wrap_i64 (by first | omega | (simp; omega))]; first | rfl | omega | (simp; done) | (simp; omega)))), ?_⟩)
  · refine SW.le ?_
    repeat (first | exact SW.nil | refine SW.cons ?_ | refine SW.cells (by repeat (first | exact trivial | refine ⟨AVle.refl _, ?_⟩ | refine ⟨AVle.nilFull, ?_⟩ | refine ⟨AVle.tk, ?_⟩ | refine ⟨AVle.nil, ?_⟩)) rfl ?_ | refine SW.full ?_ | refine SW.drop ?_)
  repeat (first | refine go_ ?_ | intro _)
  refine Or.inl ⟨⟨_, Tryz.func11, rfl, rfl⟩, ACall.mono ?_ (k1)⟩
  rintro _ S1 ⟨rfl, hS1⟩
  subst S1
  repeat (first | refine det_step rfl ?_ | refine ⟨rfl, ?_⟩ | refine ⟨⟨_, rfl⟩, ?_⟩ | refine ⟨⟨_, rfl, rfl⟩, ?_⟩ | refine ⟨⟨rfl, rfl⟩, ?_⟩ | refine ⟨⟨Nat.le_of_ble_eq_true rfl, Nat.le_of_ble_eq_true rfl⟩, ?_⟩ | refine ⟨Nat.le_of_ble_eq_true rfl, ?_⟩ | refine ⟨_, _, rfl, ?_⟩ | refine ⟨0, _, rfl, ?_⟩ | refine ⟨1, _, rfl, ?_⟩ | refine ⟨2, _, rfl, ?_⟩ | refine ⟨3, _, rfl, ?_⟩ | refine ⟨4, _, rfl, ?_⟩ | refine ⟨5, _, rfl, ?_⟩ | refine ⟨_, rfl, ?_⟩ | intro _)
  refine AW_weak (weak_of (l := [(5, .bool true), (6, .sl 1 (u8s t) tk), (8, .sl 3 (l.map encT) .no), (9, .int .i64 i), (10, .int .i64 e)]) (m := []) (S' := .grow tk :: R) ?_ rfl ?_) ?_
  · repeat (first | exact trivial | refine ⟨AVle.refl _, ?_⟩ | refine ⟨AVle.tk, ?_⟩ | refine ⟨AVle.nil, ?_⟩ | refine ⟨AVle.nilFull, ?_⟩ | refine ⟨AVle.eq (congrArg (AV.int .i64) (by first | (simp; done) | (simp; omega) | (rw [wrap_i64 (by first | omega | (simp; omega))]; first | rfl | omega | (simp; done) | (simp; omega)))), ?_⟩)
  · refine SW.le ?_
    repeat (first | exact SW.nil | refine SW.cons ?_ | refine SW.cells (by repeat (first | exact trivial | refine ⟨AVle.refl _, ?_⟩ | refine ⟨AVle.nilFull, ?_⟩ | refine ⟨AVle.tk, ?_⟩ | refine ⟨AVle.nil, ?_⟩)) rfl ?_ | refine SW.full ?_ | refine SW.drop ?_)
  repeat (first | refine go_ ?_ | intro _)
  refine Or.inl ⟨⟨_, Tryz.func12, rfl, rfl⟩, ACall.mono ?_ (k2)⟩
  rintro _ S1 ⟨rfl, hS1⟩
  subst S1
  repeat (first | refine ga_ ?_ | intro _)
  refine Or.inl ⟨⟨_, Tryz.func13, rfl, rfl⟩, ACall.mono ?_ (k3)⟩
  rintro _ S1 ⟨rfl, hS1⟩
  subst S1
  repeat (first | refine ga_ ?_ | intro _)
  refine known_true (b := decide (i = i)) (by exact decide_eq_true rfl) ?_
  repeat (first | refine ga_ ?_ | intro _)
  refine AW_ret ?_
  repeat (first | refine ⟨0, rfl, ?_⟩ | refine ⟨1, rfl, ?_⟩ | refine ⟨2, rfl, ?_⟩ | refine ⟨3, rfl, ?_⟩ | refine ⟨4, rfl, ?_⟩ | refine ⟨5, rfl, ?_⟩ | refine ⟨6, rfl, ?_⟩)
  refine ⟨_, R, AVle.eq ?_, (by repeat (first | exact SLe.rfl | refine SLe.tail ?_)), rfl, rfl⟩
  exact congrArg AV.bool (decide_eq_true rfl)
end Go.Proofs.YtgcoomicgdbmbaaGreatDoor

