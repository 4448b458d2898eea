/-
  RelMatches, RelParts: what the laws' functions give. Own work.
-/
import Derived.Test.YtocbdcgbbdjhlaaR12
namespace Go.Proofs.Ytocbdcgbbdjhlaa
open Go.Aw
set_option maxHeartbeats 4000000

theorem mt_mem {l : List (List V)} {cols : List Int} {vals : List V} {r : List V} (h : r ∈ mt l cols vals) : r ∈ l := (List.mem_filter.1 h).1
theorem mt_len (l : List (List V)) (cols : List Int) (vals : List V) : (mt l cols vals).length ≤ l.length := List.length_filter_le _ _
theorem mt_two (l : List (List V)) (a b : Int) (v w : V) : mt (mt l [a] [v]) [b] [w] = mt l [a, b] [v, w] := by
  simp only [mt, List.filter_filter]
  congr 1
  funext t
  simp only [hasB, Bool.and_true]
  rw [Bool.and_comm]
theorem mt_swap (l : List (List V)) (a b : Int) (v w : V) : mt (mt l [b] [w]) [a] [v] = mt l [a, b] [v, w] := by
  rw [mt_two]
  simp only [mt]
  congr 1
  funext t
  simp only [hasB, Bool.and_true]
  rw [Bool.and_comm]
theorem mt_nil (l : List (List V)) : mt l [] [] = l := by simp [mt, hasB]

theorem relMatches_ok (l : List (List V)) (cols : List Int) (vals : List V) (tl tc tv : Tk) (R : List En) (hr : ∀ r ∈ l, r.length ≤ 16777216) :
    ACall Try.prog 5 [.sl 1 (l.map encR) tl, .sl 1 (cols.map eI) tc, .sl 3 (vals.map encV) tv] R (fun r S => r = .bool true ∧ S = R) := by
  refine ACall_sat fun hs => ?_
  have hc := (hs (.sl 1 (cols.map eI) tc) (by simp)).sl
  have hv := (hs (.sl 3 (vals.map encV) tv) (by simp)).sl
  have hr' : ∀ r ∈ l.take 100, r.length ≤ 16777216 := fun r h => hr r (List.mem_of_mem_take h)
  have hl' : (l.take 100).length ≤ 16777216 := by simp; omega
  refine ACall_body tab_ok Try.func5 rfl rfl rfl (by kernel_rfl) (Nat.le_of_ble_eq_true rfl) ?_
  repeat (first | refine AW_seq ?_ | refine det_step rfl ?_ | refine AW_region tab_ok ?_ | refine AW_block ?_ | refine AW_scope ?_ | refine AW_exit ?_ | refine AW_goto ?_ | refine AW_label ?_ | refine AW_skip ?_ | refine ⟨rfl, ?_⟩ | refine ⟨⟨_, rfl⟩, ?_⟩ | refine ⟨⟨Nat.le_of_ble_eq_true rfl, Nat.le_of_ble_eq_true rfl⟩, ?_⟩ | refine ⟨Nat.le_of_ble_eq_true rfl, ?_⟩ | refine ⟨_, _, rfl, ?_⟩ | refine ⟨0, _, rfl, ?_⟩ | refine ⟨1, _, rfl, ?_⟩ | refine ⟨2, _, rfl, ?_⟩ | refine ⟨3, _, rfl, ?_⟩ | refine ⟨4, _, rfl, ?_⟩ | refine ⟨5, _, rfl, ?_⟩ | refine ⟨_, rfl, ?_⟩ | intro _)
  refine Or.inl ⟨⟨_, Try.func10, rfl, rfl⟩, ACall.mono ?_ (shown_ok _)⟩
  rintro _ S1 ⟨rfl, hS1⟩
  subst S1
  repeat (first | refine AW_seq ?_ | refine det_step rfl ?_ | refine AW_region tab_ok ?_ | refine AW_block ?_ | refine AW_scope ?_ | refine AW_exit ?_ | refine AW_goto ?_ | refine AW_label ?_ | refine AW_skip ?_ | refine ⟨rfl, ?_⟩ | refine ⟨⟨_, rfl⟩, ?_⟩ | refine ⟨⟨Nat.le_of_ble_eq_true rfl, Nat.le_of_ble_eq_true rfl⟩, ?_⟩ | refine ⟨Nat.le_of_ble_eq_true rfl, ?_⟩ | refine ⟨_, _, rfl, ?_⟩ | refine ⟨0, _, rfl, ?_⟩ | refine ⟨1, _, rfl, ?_⟩ | refine ⟨2, _, rfl, ?_⟩ | refine ⟨3, _, rfl, ?_⟩ | refine ⟨4, _, rfl, ?_⟩ | refine ⟨5, _, rfl, ?_⟩ | refine ⟨_, rfl, ?_⟩ | intro _)
  refine Or.inl ⟨⟨_, Try.func12, rfl, rfl⟩, ACall.mono ?_ (cut_ok l tl _)⟩
  rintro _ S1 ⟨rfl, hS1⟩
  subst S1
  repeat (first | refine AW_seq ?_ | refine det_step rfl ?_ | refine AW_region tab_ok ?_ | refine AW_block ?_ | refine AW_scope ?_ | refine AW_exit ?_ | refine AW_goto ?_ | refine AW_label ?_ | refine AW_skip ?_ | refine ⟨rfl, ?_⟩ | refine ⟨⟨_, rfl⟩, ?_⟩ | refine ⟨⟨Nat.le_of_ble_eq_true rfl, Nat.le_of_ble_eq_true rfl⟩, ?_⟩ | refine ⟨Nat.le_of_ble_eq_true rfl, ?_⟩ | refine ⟨_, _, rfl, ?_⟩ | refine ⟨0, _, rfl, ?_⟩ | refine ⟨1, _, rfl, ?_⟩ | refine ⟨2, _, rfl, ?_⟩ | refine ⟨3, _, rfl, ?_⟩ | refine ⟨4, _, rfl, ?_⟩ | refine ⟨5, _, rfl, ?_⟩ | refine ⟨_, rfl, ?_⟩ | intro _)
  refine ⟨.inl rfl, (by simp), (show (0 : Int) ≤ 0 by first | omega | (simp; done) | (simp; omega)), (show (0 : Int) ≤ min ((cols.map eI).length : Int) 10 by first | omega | (simp; done) | (simp; omega)), (by show (min ((cols.map eI).length : Int) 10 : Int) ≤ _; first | omega | (simp; done) | (simp; omega)), (by simp), (cols.take 10).map eI, take_min eI cols 10, ?_⟩
  repeat (first | refine AW_seq ?_ | refine det_step rfl ?_ | refine AW_region tab_ok ?_ | refine AW_block ?_ | refine AW_scope ?_ | refine AW_exit ?_ | refine AW_goto ?_ | refine AW_label ?_ | refine AW_skip ?_ | refine ⟨rfl, ?_⟩ | refine ⟨⟨_, rfl⟩, ?_⟩ | refine ⟨⟨Nat.le_of_ble_eq_true rfl, Nat.le_of_ble_eq_true rfl⟩, ?_⟩ | refine ⟨Nat.le_of_ble_eq_true rfl, ?_⟩ | refine ⟨_, _, rfl, ?_⟩ | refine ⟨0, _, rfl, ?_⟩ | refine ⟨1, _, rfl, ?_⟩ | refine ⟨2, _, rfl, ?_⟩ | refine ⟨3, _, rfl, ?_⟩ | refine ⟨4, _, rfl, ?_⟩ | refine ⟨5, _, rfl, ?_⟩ | refine ⟨_, rfl, ?_⟩ | intro _)
  refine ⟨.inl rfl, (by simp), (show (0 : Int) ≤ 0 by first | omega | (simp; done) | (simp; omega)), (show (0 : Int) ≤ min ((vals.map encV).length : Int) 10 by first | omega | (simp; done) | (simp; omega)), (by show (min ((vals.map encV).length : Int) 10 : Int) ≤ _; first | omega | (simp; done) | (simp; omega)), (by simp), (vals.take 10).map encV, take_min encV vals 10, ?_⟩
  repeat (first | refine AW_seq ?_ | refine det_step rfl ?_ | refine AW_region tab_ok ?_ | refine AW_block ?_ | refine AW_scope ?_ | refine AW_exit ?_ | refine AW_goto ?_ | refine AW_label ?_ | refine AW_skip ?_ | refine ⟨rfl, ?_⟩ | refine ⟨⟨_, rfl⟩, ?_⟩ | refine ⟨⟨Nat.le_of_ble_eq_true rfl, Nat.le_of_ble_eq_true rfl⟩, ?_⟩ | refine ⟨Nat.le_of_ble_eq_true rfl, ?_⟩ | refine ⟨_, _, rfl, ?_⟩ | refine ⟨0, _, rfl, ?_⟩ | refine ⟨1, _, rfl, ?_⟩ | refine ⟨2, _, rfl, ?_⟩ | refine ⟨3, _, rfl, ?_⟩ | refine ⟨4, _, rfl, ?_⟩ | refine ⟨5, _, rfl, ?_⟩ | refine ⟨_, rfl, ?_⟩ | intro _)
  refine known_true (b := true) (by first | rfl | (simp; done) | (simp; omega) | decide) ?_
  repeat (first | refine AW_seq ?_ | refine det_step rfl ?_ | refine AW_region tab_ok ?_ | refine AW_block ?_ | refine AW_scope ?_ | refine AW_exit ?_ | refine AW_goto ?_ | refine AW_label ?_ | refine AW_skip ?_ | refine ⟨rfl, ?_⟩ | refine ⟨⟨_, rfl⟩, ?_⟩ | refine ⟨⟨Nat.le_of_ble_eq_true rfl, Nat.le_of_ble_eq_true rfl⟩, ?_⟩ | refine ⟨Nat.le_of_ble_eq_true rfl, ?_⟩ | refine ⟨_, _, rfl, ?_⟩ | refine ⟨0, _, rfl, ?_⟩ | refine ⟨1, _, rfl, ?_⟩ | refine ⟨2, _, rfl, ?_⟩ | refine ⟨3, _, rfl, ?_⟩ | refine ⟨4, _, rfl, ?_⟩ | refine ⟨5, _, rfl, ?_⟩ | refine ⟨_, rfl, ?_⟩ | intro _)
  refine Or.inl ⟨⟨_, Try.func17, rfl, rfl⟩, ACall.mono ?_ (match_ok (l.take 100) (cols.take 10) (vals.take 10) _ _ _ _ hl' hr')⟩
  rintro _ S1 ⟨rfl, hS1⟩
  subst S1
  repeat (first | refine AW_seq ?_ | refine det_step rfl ?_ | refine AW_region tab_ok ?_ | refine AW_block ?_ | refine AW_scope ?_ | refine AW_exit ?_ | refine AW_goto ?_ | refine AW_label ?_ | refine AW_skip ?_ | refine ⟨rfl, ?_⟩ | refine ⟨⟨_, rfl⟩, ?_⟩ | refine ⟨⟨Nat.le_of_ble_eq_true rfl, Nat.le_of_ble_eq_true rfl⟩, ?_⟩ | refine ⟨Nat.le_of_ble_eq_true rfl, ?_⟩ | refine ⟨_, _, rfl, ?_⟩ | refine ⟨0, _, rfl, ?_⟩ | refine ⟨1, _, rfl, ?_⟩ | refine ⟨2, _, rfl, ?_⟩ | refine ⟨3, _, rfl, ?_⟩ | refine ⟨4, _, rfl, ?_⟩ | refine ⟨5, _, rfl, ?_⟩ | refine ⟨_, rfl, ?_⟩ | intro _)
  refine Or.inl ⟨⟨_, Try.func18, rfl, rfl⟩, ACall.mono ?_ (refMatch_ok (l.take 100) (cols.take 10) (vals.take 10) _ _ _ _ hl')⟩
  rintro _ S1 ⟨rfl, hS1⟩
  subst S1
  repeat (first | refine AW_seq ?_ | refine det_step rfl ?_ | refine AW_region tab_ok ?_ | refine AW_block ?_ | refine AW_scope ?_ | refine AW_exit ?_ | refine AW_goto ?_ | refine AW_label ?_ | refine AW_skip ?_ | refine ⟨rfl, ?_⟩ | refine ⟨⟨_, rfl⟩, ?_⟩ | refine ⟨⟨Nat.le_of_ble_eq_true rfl, Nat.le_of_ble_eq_true rfl⟩, ?_⟩ | refine ⟨Nat.le_of_ble_eq_true rfl, ?_⟩ | refine ⟨_, _, rfl, ?_⟩ | refine ⟨0, _, rfl, ?_⟩ | refine ⟨1, _, rfl, ?_⟩ | refine ⟨2, _, rfl, ?_⟩ | refine ⟨3, _, rfl, ?_⟩ | refine ⟨4, _, rfl, ?_⟩ | refine ⟨5, _, rfl, ?_⟩ | refine ⟨_, rfl, ?_⟩ | intro _)
  refine Or.inl ⟨⟨_, Try.func16, rfl, rfl⟩, ACall.mono ?_ (same_ok (mt (l.take 100) (cols.take 10) (vals.take 10)) (mt (l.take 100) (cols.take 10) (vals.take 10)) _ _ _)⟩
  rintro _ S1 ⟨rfl, hS1⟩
  subst S1
  repeat (first | refine AW_seq ?_ | refine det_step rfl ?_ | refine AW_region tab_ok ?_ | refine AW_block ?_ | refine AW_scope ?_ | refine AW_exit ?_ | refine AW_goto ?_ | refine AW_label ?_ | refine AW_skip ?_ | refine ⟨rfl, ?_⟩ | refine ⟨⟨_, rfl⟩, ?_⟩ | refine ⟨⟨Nat.le_of_ble_eq_true rfl, Nat.le_of_ble_eq_true rfl⟩, ?_⟩ | refine ⟨Nat.le_of_ble_eq_true rfl, ?_⟩ | refine ⟨_, _, rfl, ?_⟩ | refine ⟨0, _, rfl, ?_⟩ | refine ⟨1, _, rfl, ?_⟩ | refine ⟨2, _, rfl, ?_⟩ | refine ⟨3, _, rfl, ?_⟩ | refine ⟨4, _, rfl, ?_⟩ | refine ⟨5, _, rfl, ?_⟩ | refine ⟨_, rfl, ?_⟩ | intro _)
  refine AW_ret ?_
  repeat (first | refine ⟨0, rfl, ?_⟩ | refine ⟨1, rfl, ?_⟩ | refine ⟨2, rfl, ?_⟩ | refine ⟨3, rfl, ?_⟩)
  refine ⟨_, R, AVle.eq ?_, (by repeat (first | exact SLe.rfl | refine SLe.tail ?_)), rfl, rfl⟩
  refine congrArg AV.bool ?_
  simp

theorem match_two (x : List (List V)) (a b : Int) (v w : V) (R : List En) (hl : x.length ≤ 16777216) (hr : ∀ r ∈ x, r.length ≤ 16777216) :
    ACall Try.prog 17 [.sl 1 ((mt x [a] [v]).map encR) .no, .sl 1 ([b].map eI) .full, .sl 3 ([w].map encV) .full] R (fun r S => r = encL (mt x [a, b] [v, w]) ∧ S = R) := by
  have h := match_ok (mt x [a] [v]) [b] [w] .no .full .full R (Nat.le_trans (mt_len _ _ _) hl) (fun r h => hr r (mt_mem h))
  rw [mt_two] at h
  exact h
theorem match_swap (x : List (List V)) (a b : Int) (v w : V) (R : List En) (hl : x.length ≤ 16777216) (hr : ∀ r ∈ x, r.length ≤ 16777216) :
    ACall Try.prog 17 [.sl 1 ((mt x [b] [w]).map encR) .no, .sl 1 ([a].map eI) .full, .sl 3 ([v].map encV) .full] R (fun r S => r = encL (mt x [a, b] [v, w]) ∧ S = R) := by
  have h := match_ok (mt x [b] [w]) [a] [v] .no .full .full R (Nat.le_trans (mt_len _ _ _) hl) (fun r h => hr r (mt_mem h))
  rw [mt_swap] at h
  exact h
theorem match_none (x : List (List V)) (R : List En) (hl : x.length ≤ 16777216) (hr : ∀ r ∈ x, r.length ≤ 16777216) :
    ACall Try.prog 17 [.sl 1 (x.map encR) .no, .sl 0 [] .full, .sl 0 [] .full] R (fun r S => r = encL x ∧ S = R) := by
  have h := match_ok x [] [] .no .full .full R hl hr
  rw [mt_nil] at h
  exact ACall_args h ⟨AVle.refl _, AVle.nilFull, AVle.nilFull, trivial⟩

theorem relParts_ok (l : List (List V)) (a b : Int) (v w : V) (tl : Tk) (R : List En) (hr : ∀ r ∈ l, r.length ≤ 16777216) :
    ACall Try.prog 6 [.sl 1 (l.map encR) tl, .int .i64 a, .int .i64 b, encV v, encV w] R (fun r S => r = .bool true ∧ S = R) := by
  obtain ⟨vs, vn, vt⟩ := v
  obtain ⟨ws, wn, wt⟩ := w
  obtain ⟨x, hx⟩ := (⟨_, rfl⟩ : ∃ x, l.take 100 = x)
  have hr' : ∀ r ∈ x, r.length ≤ 16777216 := fun r h => hr r (List.mem_of_mem_take (hx ▸ h))
  have hl' : x.length ≤ 16777216 := by rw [← hx]; simp; omega
  refine ACall_body tab_ok Try.func6 rfl rfl rfl (by kernel_rfl) (Nat.le_of_ble_eq_true rfl) ?_
  repeat (first | refine AW_seq ?_ | refine det_step rfl ?_ | refine AW_region tab_ok ?_ | refine AW_block ?_ | refine AW_scope ?_ | refine AW_exit ?_ | refine AW_goto ?_ | refine AW_label ?_ | refine AW_skip ?_ | refine ⟨rfl, ?_⟩ | refine ⟨⟨_, rfl⟩, ?_⟩ | refine ⟨⟨Nat.le_of_ble_eq_true rfl, Nat.le_of_ble_eq_true rfl⟩, ?_⟩ | refine ⟨Nat.le_of_ble_eq_true rfl, ?_⟩ | refine ⟨_, _, rfl, ?_⟩ | refine ⟨0, _, rfl, ?_⟩ | refine ⟨1, _, rfl, ?_⟩ | refine ⟨2, _, rfl, ?_⟩ | refine ⟨3, _, rfl, ?_⟩ | refine ⟨4, _, rfl, ?_⟩ | refine ⟨5, _, rfl, ?_⟩ | refine ⟨_, rfl, ?_⟩ | intro _)
  refine Or.inl ⟨⟨_, Try.func10, rfl, rfl⟩, ACall.mono ?_ (shown_ok _)⟩
  rintro _ S1 ⟨rfl, hS1⟩
  subst S1
  repeat (first | refine AW_seq ?_ | refine det_step rfl ?_ | refine AW_region tab_ok ?_ | refine AW_block ?_ | refine AW_scope ?_ | refine AW_exit ?_ | refine AW_goto ?_ | refine AW_label ?_ | refine AW_skip ?_ | refine ⟨rfl, ?_⟩ | refine ⟨⟨_, rfl⟩, ?_⟩ | refine ⟨⟨Nat.le_of_ble_eq_true rfl, Nat.le_of_ble_eq_true rfl⟩, ?_⟩ | refine ⟨Nat.le_of_ble_eq_true rfl, ?_⟩ | refine ⟨_, _, rfl, ?_⟩ | refine ⟨0, _, rfl, ?_⟩ | refine ⟨1, _, rfl, ?_⟩ | refine ⟨2, _, rfl, ?_⟩ | refine ⟨3, _, rfl, ?_⟩ | refine ⟨4, _, rfl, ?_⟩ | refine ⟨5, _, rfl, ?_⟩ | refine ⟨_, rfl, ?_⟩ | intro _)
  refine Or.inl ⟨⟨_, Try.func12, rfl, rfl⟩, ACall.mono ?_ (cut_ok l tl _)⟩
  rintro _ S1 ⟨rfl, hS1⟩
  subst S1
  repeat (first | refine AW_seq ?_ | refine det_step rfl ?_ | refine AW_region tab_ok ?_ | refine AW_block ?_ | refine AW_scope ?_ | refine AW_exit ?_ | refine AW_goto ?_ | refine AW_label ?_ | refine AW_skip ?_ | refine ⟨rfl, ?_⟩ | refine ⟨⟨_, rfl⟩, ?_⟩ | refine ⟨⟨Nat.le_of_ble_eq_true rfl, Nat.le_of_ble_eq_true rfl⟩, ?_⟩ | refine ⟨Nat.le_of_ble_eq_true rfl, ?_⟩ | refine ⟨_, _, rfl, ?_⟩ | refine ⟨0, _, rfl, ?_⟩ | refine ⟨1, _, rfl, ?_⟩ | refine ⟨2, _, rfl, ?_⟩ | refine ⟨3, _, rfl, ?_⟩ | refine ⟨4, _, rfl, ?_⟩ | refine ⟨5, _, rfl, ?_⟩ | refine ⟨_, rfl, ?_⟩ | intro _)
  rw [hx]
  refine Or.inl ⟨⟨_, Try.func17, rfl, rfl⟩, ACall.mono ?_ (match_ok x [a, b] [⟨vs, vn, vt⟩, ⟨ws, wn, wt⟩] _ _ _ _ hl' hr')⟩
  rintro _ S1 ⟨rfl, hS1⟩
  subst S1
  repeat (first | refine AW_seq ?_ | refine det_step rfl ?_ | refine AW_region tab_ok ?_ | refine AW_block ?_ | refine AW_scope ?_ | refine AW_exit ?_ | refine AW_goto ?_ | refine AW_label ?_ | refine AW_skip ?_ | refine ⟨rfl, ?_⟩ | refine ⟨⟨_, rfl⟩, ?_⟩ | refine ⟨⟨Nat.le_of_ble_eq_true rfl, Nat.le_of_ble_eq_true rfl⟩, ?_⟩ | refine ⟨Nat.le_of_ble_eq_true rfl, ?_⟩ | refine ⟨_, _, rfl, ?_⟩ | refine ⟨0, _, rfl, ?_⟩ | refine ⟨1, _, rfl, ?_⟩ | refine ⟨2, _, rfl, ?_⟩ | refine ⟨3, _, rfl, ?_⟩ | refine ⟨4, _, rfl, ?_⟩ | refine ⟨5, _, rfl, ?_⟩ | refine ⟨_, rfl, ?_⟩ | intro _)
  refine AW_draw tab_ok mixed 12 (by first | rfl | kernel_rfl) ?_
  repeat (first | refine AW_seq ?_ | refine det_step rfl ?_ | refine AW_region tab_ok ?_ | refine AW_block ?_ | refine AW_scope ?_ | refine AW_exit ?_ | refine AW_goto ?_ | refine AW_label ?_ | refine AW_skip ?_ | refine ⟨rfl, ?_⟩ | refine ⟨⟨_, rfl⟩, ?_⟩ | refine ⟨⟨Nat.le_of_ble_eq_true rfl, Nat.le_of_ble_eq_true rfl⟩, ?_⟩ | refine ⟨Nat.le_of_ble_eq_true rfl, ?_⟩ | refine ⟨_, _, rfl, ?_⟩ | refine ⟨0, _, rfl, ?_⟩ | refine ⟨1, _, rfl, ?_⟩ | refine ⟨2, _, rfl, ?_⟩ | refine ⟨3, _, rfl, ?_⟩ | refine ⟨4, _, rfl, ?_⟩ | refine ⟨5, _, rfl, ?_⟩ | refine ⟨_, rfl, ?_⟩ | intro _)
  apply call_step
  · rfl
  · exact Or.inl ⟨⟨_, Try.func17, rfl, rfl⟩, match_ok x [a] [⟨vs, vn, vt⟩] _ _ _ _ hl' hr'⟩
  repeat (first | refine AW_seq ?_ | refine det_step rfl ?_ | refine AW_region tab_ok ?_ | refine AW_block ?_ | refine AW_scope ?_ | refine AW_exit ?_ | refine AW_goto ?_ | refine AW_label ?_ | refine AW_skip ?_ | refine ⟨rfl, ?_⟩ | refine ⟨⟨_, rfl⟩, ?_⟩ | refine ⟨⟨Nat.le_of_ble_eq_true rfl, Nat.le_of_ble_eq_true rfl⟩, ?_⟩ | refine ⟨Nat.le_of_ble_eq_true rfl, ?_⟩ | refine ⟨_, _, rfl, ?_⟩ | refine ⟨0, _, rfl, ?_⟩ | refine ⟨1, _, rfl, ?_⟩ | refine ⟨2, _, rfl, ?_⟩ | refine ⟨3, _, rfl, ?_⟩ | refine ⟨4, _, rfl, ?_⟩ | refine ⟨5, _, rfl, ?_⟩ | refine ⟨_, rfl, ?_⟩ | intro _)
  apply call_step
  · rfl
  · exact Or.inl ⟨⟨_, Try.func17, rfl, rfl⟩, match_two x a b ⟨vs, vn, vt⟩ ⟨ws, wn, wt⟩ _ hl' hr'⟩
  repeat (first | refine AW_seq ?_ | refine det_step rfl ?_ | refine AW_region tab_ok ?_ | refine AW_block ?_ | refine AW_scope ?_ | refine AW_exit ?_ | refine AW_goto ?_ | refine AW_label ?_ | refine AW_skip ?_ | refine ⟨rfl, ?_⟩ | refine ⟨⟨_, rfl⟩, ?_⟩ | refine ⟨⟨Nat.le_of_ble_eq_true rfl, Nat.le_of_ble_eq_true rfl⟩, ?_⟩ | refine ⟨Nat.le_of_ble_eq_true rfl, ?_⟩ | refine ⟨_, _, rfl, ?_⟩ | refine ⟨0, _, rfl, ?_⟩ | refine ⟨1, _, rfl, ?_⟩ | refine ⟨2, _, rfl, ?_⟩ | refine ⟨3, _, rfl, ?_⟩ | refine ⟨4, _, rfl, ?_⟩ | refine ⟨5, _, rfl, ?_⟩ | refine ⟨_, rfl, ?_⟩ | intro _)
  refine AW_draw tab_ok mixed 12 (by first | rfl | kernel_rfl) ?_
  repeat (first | refine AW_seq ?_ | refine det_step rfl ?_ | refine AW_region tab_ok ?_ | refine AW_block ?_ | refine AW_scope ?_ | refine AW_exit ?_ | refine AW_goto ?_ | refine AW_label ?_ | refine AW_skip ?_ | refine ⟨rfl, ?_⟩ | refine ⟨⟨_, rfl⟩, ?_⟩ | refine ⟨⟨Nat.le_of_ble_eq_true rfl, Nat.le_of_ble_eq_true rfl⟩, ?_⟩ | refine ⟨Nat.le_of_ble_eq_true rfl, ?_⟩ | refine ⟨_, _, rfl, ?_⟩ | refine ⟨0, _, rfl, ?_⟩ | refine ⟨1, _, rfl, ?_⟩ | refine ⟨2, _, rfl, ?_⟩ | refine ⟨3, _, rfl, ?_⟩ | refine ⟨4, _, rfl, ?_⟩ | refine ⟨5, _, rfl, ?_⟩ | refine ⟨_, rfl, ?_⟩ | intro _)
  apply call_step
  · rfl
  · exact Or.inl ⟨⟨_, Try.func17, rfl, rfl⟩, match_ok x [b] [⟨ws, wn, wt⟩] _ _ _ _ hl' hr'⟩
  repeat (first | refine AW_seq ?_ | refine det_step rfl ?_ | refine AW_region tab_ok ?_ | refine AW_block ?_ | refine AW_scope ?_ | refine AW_exit ?_ | refine AW_goto ?_ | refine AW_label ?_ | refine AW_skip ?_ | refine ⟨rfl, ?_⟩ | refine ⟨⟨_, rfl⟩, ?_⟩ | refine ⟨⟨Nat.le_of_ble_eq_true rfl, Nat.le_of_ble_eq_true rfl⟩, ?_⟩ | refine ⟨Nat.le_of_ble_eq_true rfl, ?_⟩ | refine ⟨_, _, rfl, ?_⟩ | refine ⟨0, _, rfl, ?_⟩ | refine ⟨1, _, rfl, ?_⟩ | refine ⟨2, _, rfl, ?_⟩ | refine ⟨3, _, rfl, ?_⟩ | refine ⟨4, _, rfl, ?_⟩ | refine ⟨5, _, rfl, ?_⟩ | refine ⟨_, rfl, ?_⟩ | intro _)
  apply call_step
  · rfl
  · exact Or.inl ⟨⟨_, Try.func17, rfl, rfl⟩, match_swap x a b ⟨vs, vn, vt⟩ ⟨ws, wn, wt⟩ _ hl' hr'⟩
  repeat (first | refine AW_seq ?_ | refine det_step rfl ?_ | refine AW_region tab_ok ?_ | refine AW_block ?_ | refine AW_scope ?_ | refine AW_exit ?_ | refine AW_goto ?_ | refine AW_label ?_ | refine AW_skip ?_ | refine ⟨rfl, ?_⟩ | refine ⟨⟨_, rfl⟩, ?_⟩ | refine ⟨⟨Nat.le_of_ble_eq_true rfl, Nat.le_of_ble_eq_true rfl⟩, ?_⟩ | refine ⟨Nat.le_of_ble_eq_true rfl, ?_⟩ | refine ⟨_, _, rfl, ?_⟩ | refine ⟨0, _, rfl, ?_⟩ | refine ⟨1, _, rfl, ?_⟩ | refine ⟨2, _, rfl, ?_⟩ | refine ⟨3, _, rfl, ?_⟩ | refine ⟨4, _, rfl, ?_⟩ | refine ⟨5, _, rfl, ?_⟩ | refine ⟨_, rfl, ?_⟩ | intro _)
  refine known_true (b := true) (by first | rfl | (simp; done) | (simp; omega) | decide) ?_
  repeat (first | refine AW_seq ?_ | refine det_step rfl ?_ | refine AW_region tab_ok ?_ | refine AW_block ?_ | refine AW_scope ?_ | refine AW_exit ?_ | refine AW_goto ?_ | refine AW_label ?_ | refine AW_skip ?_ | refine ⟨rfl, ?_⟩ | refine ⟨⟨_, rfl⟩, ?_⟩ | refine ⟨⟨Nat.le_of_ble_eq_true rfl, Nat.le_of_ble_eq_true rfl⟩, ?_⟩ | refine ⟨Nat.le_of_ble_eq_true rfl, ?_⟩ | refine ⟨_, _, rfl, ?_⟩ | refine ⟨0, _, rfl, ?_⟩ | refine ⟨1, _, rfl, ?_⟩ | refine ⟨2, _, rfl, ?_⟩ | refine ⟨3, _, rfl, ?_⟩ | refine ⟨4, _, rfl, ?_⟩ | refine ⟨5, _, rfl, ?_⟩ | refine ⟨_, rfl, ?_⟩ | intro _)
  refine Or.inl ⟨⟨_, Try.func16, rfl, rfl⟩, ACall.mono ?_ (same_ok (mt x [a, b] [⟨vs, vn, vt⟩, ⟨ws, wn, wt⟩]) (mt x [a, b] [⟨vs, vn, vt⟩, ⟨ws, wn, wt⟩]) _ _ _)⟩
  rintro _ S1 ⟨rfl, hS1⟩
  subst S1
  repeat (first | refine AW_seq ?_ | refine det_step rfl ?_ | refine AW_region tab_ok ?_ | refine AW_block ?_ | refine AW_scope ?_ | refine AW_exit ?_ | refine AW_goto ?_ | refine AW_label ?_ | refine AW_skip ?_ | refine ⟨rfl, ?_⟩ | refine ⟨⟨_, rfl⟩, ?_⟩ | refine ⟨⟨Nat.le_of_ble_eq_true rfl, Nat.le_of_ble_eq_true rfl⟩, ?_⟩ | refine ⟨Nat.le_of_ble_eq_true rfl, ?_⟩ | refine ⟨_, _, rfl, ?_⟩ | refine ⟨0, _, rfl, ?_⟩ | refine ⟨1, _, rfl, ?_⟩ | refine ⟨2, _, rfl, ?_⟩ | refine ⟨3, _, rfl, ?_⟩ | refine ⟨4, _, rfl, ?_⟩ | refine ⟨5, _, rfl, ?_⟩ | refine ⟨_, rfl, ?_⟩ | intro _)
  refine known_true (b := decide (mt x [a, b] [⟨vs, vn, vt⟩, ⟨ws, wn, wt⟩] = mt x [a, b] [⟨vs, vn, vt⟩, ⟨ws, wn, wt⟩])) (by first | rfl | (simp; done) | (simp; omega) | decide) ?_
  repeat (first | refine AW_seq ?_ | refine det_step rfl ?_ | refine AW_region tab_ok ?_ | refine AW_block ?_ | refine AW_scope ?_ | refine AW_exit ?_ | refine AW_goto ?_ | refine AW_label ?_ | refine AW_skip ?_ | refine ⟨rfl, ?_⟩ | refine ⟨⟨_, rfl⟩, ?_⟩ | refine ⟨⟨Nat.le_of_ble_eq_true rfl, Nat.le_of_ble_eq_true rfl⟩, ?_⟩ | refine ⟨Nat.le_of_ble_eq_true rfl, ?_⟩ | refine ⟨_, _, rfl, ?_⟩ | refine ⟨0, _, rfl, ?_⟩ | refine ⟨1, _, rfl, ?_⟩ | refine ⟨2, _, rfl, ?_⟩ | refine ⟨3, _, rfl, ?_⟩ | refine ⟨4, _, rfl, ?_⟩ | refine ⟨5, _, rfl, ?_⟩ | refine ⟨_, rfl, ?_⟩ | intro _)
  refine Or.inl ⟨⟨_, Try.func16, rfl, rfl⟩, ACall.mono ?_ (same_ok (mt x [a, b] [⟨vs, vn, vt⟩, ⟨ws, wn, wt⟩]) (mt x [a, b] [⟨vs, vn, vt⟩, ⟨ws, wn, wt⟩]) _ _ _)⟩
  rintro _ S1 ⟨rfl, hS1⟩
  subst S1
  repeat (first | refine AW_seq ?_ | refine det_step rfl ?_ | refine AW_region tab_ok ?_ | refine AW_block ?_ | refine AW_scope ?_ | refine AW_exit ?_ | refine AW_goto ?_ | refine AW_label ?_ | refine AW_skip ?_ | refine ⟨rfl, ?_⟩ | refine ⟨⟨_, rfl⟩, ?_⟩ | refine ⟨⟨Nat.le_of_ble_eq_true rfl, Nat.le_of_ble_eq_true rfl⟩, ?_⟩ | refine ⟨Nat.le_of_ble_eq_true rfl, ?_⟩ | refine ⟨_, _, rfl, ?_⟩ | refine ⟨0, _, rfl, ?_⟩ | refine ⟨1, _, rfl, ?_⟩ | refine ⟨2, _, rfl, ?_⟩ | refine ⟨3, _, rfl, ?_⟩ | refine ⟨4, _, rfl, ?_⟩ | refine ⟨5, _, rfl, ?_⟩ | refine ⟨_, rfl, ?_⟩ | intro _)
  refine known_true (b := decide (mt x [a, b] [⟨vs, vn, vt⟩, ⟨ws, wn, wt⟩] = mt x [a, b] [⟨vs, vn, vt⟩, ⟨ws, wn, wt⟩])) (by first | rfl | (simp; done) | (simp; omega) | decide) ?_
  repeat (first | refine AW_seq ?_ | refine det_step rfl ?_ | refine AW_region tab_ok ?_ | refine AW_block ?_ | refine AW_scope ?_ | refine AW_exit ?_ | refine AW_goto ?_ | refine AW_label ?_ | refine AW_skip ?_ | refine ⟨rfl, ?_⟩ | refine ⟨⟨_, rfl⟩, ?_⟩ | refine ⟨⟨Nat.le_of_ble_eq_true rfl, Nat.le_of_ble_eq_true rfl⟩, ?_⟩ | refine ⟨Nat.le_of_ble_eq_true rfl, ?_⟩ | refine ⟨_, _, rfl, ?_⟩ | refine ⟨0, _, rfl, ?_⟩ | refine ⟨1, _, rfl, ?_⟩ | refine ⟨2, _, rfl, ?_⟩ | refine ⟨3, _, rfl, ?_⟩ | refine ⟨4, _, rfl, ?_⟩ | refine ⟨5, _, rfl, ?_⟩ | refine ⟨_, rfl, ?_⟩ | intro _)
  refine Or.inl ⟨⟨_, Try.func17, rfl, rfl⟩, ACall.mono ?_ (match_none x _ hl' hr')⟩
  rintro _ S1 ⟨rfl, hS1⟩
  subst S1
  repeat (first | refine AW_seq ?_ | refine det_step rfl ?_ | refine AW_region tab_ok ?_ | refine AW_block ?_ | refine AW_scope ?_ | refine AW_exit ?_ | refine AW_goto ?_ | refine AW_label ?_ | refine AW_skip ?_ | refine ⟨rfl, ?_⟩ | refine ⟨⟨_, rfl⟩, ?_⟩ | refine ⟨⟨Nat.le_of_ble_eq_true rfl, Nat.le_of_ble_eq_true rfl⟩, ?_⟩ | refine ⟨Nat.le_of_ble_eq_true rfl, ?_⟩ | refine ⟨_, _, rfl, ?_⟩ | refine ⟨0, _, rfl, ?_⟩ | refine ⟨1, _, rfl, ?_⟩ | refine ⟨2, _, rfl, ?_⟩ | refine ⟨3, _, rfl, ?_⟩ | refine ⟨4, _, rfl, ?_⟩ | refine ⟨5, _, rfl, ?_⟩ | refine ⟨_, rfl, ?_⟩ | intro _)
  refine Or.inl ⟨⟨_, Try.func16, rfl, rfl⟩, ACall.mono ?_ (same_ok x x _ _ _)⟩
  rintro _ S1 ⟨rfl, hS1⟩
  subst S1
  repeat (first | refine AW_seq ?_ | refine det_step rfl ?_ | refine AW_region tab_ok ?_ | refine AW_block ?_ | refine AW_scope ?_ | refine AW_exit ?_ | refine AW_goto ?_ | refine AW_label ?_ | refine AW_skip ?_ | refine ⟨rfl, ?_⟩ | refine ⟨⟨_, rfl⟩, ?_⟩ | refine ⟨⟨Nat.le_of_ble_eq_true rfl, Nat.le_of_ble_eq_true rfl⟩, ?_⟩ | refine ⟨Nat.le_of_ble_eq_true rfl, ?_⟩ | refine ⟨_, _, rfl, ?_⟩ | refine ⟨0, _, rfl, ?_⟩ | refine ⟨1, _, rfl, ?_⟩ | refine ⟨2, _, rfl, ?_⟩ | refine ⟨3, _, rfl, ?_⟩ | refine ⟨4, _, rfl, ?_⟩ | refine ⟨5, _, rfl, ?_⟩ | refine ⟨_, rfl, ?_⟩ | intro _)
  refine AW_ret ?_
  repeat (first | refine ⟨0, rfl, ?_⟩ | refine ⟨1, rfl, ?_⟩ | refine ⟨2, rfl, ?_⟩ | refine ⟨3, rfl, ?_⟩)
  refine ⟨_, R, AVle.eq ?_, (by repeat (first | exact SLe.rfl | refine SLe.tail ?_)), rfl, rfl⟩
  refine congrArg AV.bool ?_
  simp
end Go.Proofs.Ytocbdcgbbdjhlaa

