/-
  Minus, the program's. Own work.
-/
import Derived.Test.YtocbdcgbbdjhlaaR17
namespace Go.Proofs.Ytocbdcgbbdjhlaa
open Go.Aw
set_option maxHeartbeats 4000000

def ownF (x : List V × Bool × Bool) : Bool := x.2.1 && !x.2.2
def minB (a b : List (List V)) : List (List V) := ((bothL a b).filter ownF).map (·.1)

theorem minus_ok (a b : List (List V)) (ta tb : Tk) (R : List En) (ha : a.length ≤ 1000000) (hb : b.length ≤ 1000000) (hra : ∀ r ∈ a, r.length ≤ 16777216) (hrb : ∀ r ∈ b, r.length ≤ 16777216) :
    ACall Try.prog 22 [.sl 1 (a.map encR) ta, .sl 1 (b.map encR) tb] R (fun r S => r = encSet (setsR a b (minB a b)) ∧ S = R) := by
  have hlen := bothL_len a b
  refine ACall_body tab_ok Try.func22 rfl rfl rfl (by kernel_rfl) (Nat.le_of_ble_eq_true rfl) ?_
  repeat (first | refine AW_seq ?_ | refine det_step rfl ?_ | refine AW_region tab_ok ?_ | refine AW_block ?_ | refine AW_scope ?_ | refine AW_exit ?_ | refine AW_goto ?_ | refine AW_label ?_ | refine AW_skip ?_ | refine ⟨rfl, ?_⟩ | refine ⟨⟨_, rfl⟩, ?_⟩ | refine ⟨⟨Nat.le_of_ble_eq_true rfl, Nat.le_of_ble_eq_true rfl⟩, ?_⟩ | refine ⟨Nat.le_of_ble_eq_true rfl, ?_⟩ | refine ⟨_, _, rfl, ?_⟩ | refine ⟨0, _, rfl, ?_⟩ | refine ⟨1, _, rfl, ?_⟩ | refine ⟨2, _, rfl, ?_⟩ | refine ⟨3, _, rfl, ?_⟩ | refine ⟨4, _, rfl, ?_⟩ | refine ⟨5, _, rfl, ?_⟩ | refine ⟨_, rfl, ?_⟩ | intro _)
  refine Or.inl ⟨⟨_, Try.func14, rfl, rfl⟩, ACall.mono ?_ (rise_ok a ta _)⟩
  rintro _ S1 ⟨rfl, hS1⟩
  subst S1
  repeat (first | refine AW_seq ?_ | refine det_step rfl ?_ | refine AW_region tab_ok ?_ | refine AW_block ?_ | refine AW_scope ?_ | refine AW_exit ?_ | refine AW_goto ?_ | refine AW_label ?_ | refine AW_skip ?_ | refine ⟨rfl, ?_⟩ | refine ⟨⟨_, rfl⟩, ?_⟩ | refine ⟨⟨Nat.le_of_ble_eq_true rfl, Nat.le_of_ble_eq_true rfl⟩, ?_⟩ | refine ⟨Nat.le_of_ble_eq_true rfl, ?_⟩ | refine ⟨_, _, rfl, ?_⟩ | refine ⟨0, _, rfl, ?_⟩ | refine ⟨1, _, rfl, ?_⟩ | refine ⟨2, _, rfl, ?_⟩ | refine ⟨3, _, rfl, ?_⟩ | refine ⟨4, _, rfl, ?_⟩ | refine ⟨5, _, rfl, ?_⟩ | refine ⟨_, rfl, ?_⟩ | intro _)
  refine gsplit (riseB a = false) (by first | (simp; done) | (simp <;> omega) | decide) (fun h => ?_) (fun h => ?_)
  · repeat (first | refine AW_seq ?_ | refine det_step rfl ?_ | refine AW_region tab_ok ?_ | refine AW_block ?_ | refine AW_scope ?_ | refine AW_exit ?_ | refine AW_goto ?_ | refine AW_label ?_ | refine AW_skip ?_ | refine ⟨rfl, ?_⟩ | refine ⟨⟨_, rfl⟩, ?_⟩ | refine ⟨⟨Nat.le_of_ble_eq_true rfl, Nat.le_of_ble_eq_true rfl⟩, ?_⟩ | refine ⟨Nat.le_of_ble_eq_true rfl, ?_⟩ | refine ⟨_, _, rfl, ?_⟩ | refine ⟨0, _, rfl, ?_⟩ | refine ⟨1, _, rfl, ?_⟩ | refine ⟨2, _, rfl, ?_⟩ | refine ⟨3, _, rfl, ?_⟩ | refine ⟨4, _, rfl, ?_⟩ | refine ⟨5, _, rfl, ?_⟩ | refine ⟨_, rfl, ?_⟩ | intro _)
    refine AW_true (b := true) rfl (by first | rfl | (simp; done) | (simp; omega) | decide) ?_
    repeat (first | refine AW_seq ?_ | refine det_step rfl ?_ | refine AW_region tab_ok ?_ | refine AW_block ?_ | refine AW_scope ?_ | refine AW_exit ?_ | refine AW_goto ?_ | refine AW_label ?_ | refine AW_skip ?_ | refine ⟨rfl, ?_⟩ | refine ⟨⟨_, rfl⟩, ?_⟩ | refine ⟨⟨Nat.le_of_ble_eq_true rfl, Nat.le_of_ble_eq_true rfl⟩, ?_⟩ | refine ⟨Nat.le_of_ble_eq_true rfl, ?_⟩ | refine ⟨_, _, rfl, ?_⟩ | refine ⟨0, _, rfl, ?_⟩ | refine ⟨1, _, rfl, ?_⟩ | refine ⟨2, _, rfl, ?_⟩ | refine ⟨3, _, rfl, ?_⟩ | refine ⟨4, _, rfl, ?_⟩ | refine ⟨5, _, rfl, ?_⟩ | refine ⟨_, rfl, ?_⟩ | intro _)
    refine AW_ret ?_
    repeat (first | refine ⟨0, rfl, ?_⟩ | refine ⟨1, rfl, ?_⟩ | refine ⟨2, rfl, ?_⟩ | refine ⟨3, rfl, ?_⟩)
    refine ⟨_, R, ?_, (by repeat (first | exact SLe.rfl | refine SLe.tail ?_)), rfl, rfl⟩
    rw [setsR, if_neg (by rw [h]; simp)]
    exact AVle.tup ⟨AVle.nil, AVle.refl _, trivial⟩
  have hia : riseB a = true := by simpa using h
  repeat (first | refine AW_seq ?_ | refine det_step rfl ?_ | refine AW_region tab_ok ?_ | refine AW_block ?_ | refine AW_scope ?_ | refine AW_exit ?_ | refine AW_goto ?_ | refine AW_label ?_ | refine AW_skip ?_ | refine ⟨rfl, ?_⟩ | refine ⟨⟨_, rfl⟩, ?_⟩ | refine ⟨⟨Nat.le_of_ble_eq_true rfl, Nat.le_of_ble_eq_true rfl⟩, ?_⟩ | refine ⟨Nat.le_of_ble_eq_true rfl, ?_⟩ | refine ⟨_, _, rfl, ?_⟩ | refine ⟨0, _, rfl, ?_⟩ | refine ⟨1, _, rfl, ?_⟩ | refine ⟨2, _, rfl, ?_⟩ | refine ⟨3, _, rfl, ?_⟩ | refine ⟨4, _, rfl, ?_⟩ | refine ⟨5, _, rfl, ?_⟩ | refine ⟨_, rfl, ?_⟩ | intro _)
  refine Or.inl ⟨⟨_, Try.func14, rfl, rfl⟩, ACall.mono ?_ (rise_ok b tb _)⟩
  rintro _ S1 ⟨rfl, hS1⟩
  subst S1
  repeat (first | refine AW_seq ?_ | refine det_step rfl ?_ | refine AW_region tab_ok ?_ | refine AW_block ?_ | refine AW_scope ?_ | refine AW_exit ?_ | refine AW_goto ?_ | refine AW_label ?_ | refine AW_skip ?_ | refine ⟨rfl, ?_⟩ | refine ⟨⟨_, rfl⟩, ?_⟩ | refine ⟨⟨Nat.le_of_ble_eq_true rfl, Nat.le_of_ble_eq_true rfl⟩, ?_⟩ | refine ⟨Nat.le_of_ble_eq_true rfl, ?_⟩ | refine ⟨_, _, rfl, ?_⟩ | refine ⟨0, _, rfl, ?_⟩ | refine ⟨1, _, rfl, ?_⟩ | refine ⟨2, _, rfl, ?_⟩ | refine ⟨3, _, rfl, ?_⟩ | refine ⟨4, _, rfl, ?_⟩ | refine ⟨5, _, rfl, ?_⟩ | refine ⟨_, rfl, ?_⟩ | intro _)
  refine AW_cond (b := !riseB b) rfl (fun h => ?_) (fun h => ?_)
  · repeat (first | refine AW_seq ?_ | refine det_step rfl ?_ | refine AW_region tab_ok ?_ | refine AW_block ?_ | refine AW_scope ?_ | refine AW_exit ?_ | refine AW_goto ?_ | refine AW_label ?_ | refine AW_skip ?_ | refine ⟨rfl, ?_⟩ | refine ⟨⟨_, rfl⟩, ?_⟩ | refine ⟨⟨Nat.le_of_ble_eq_true rfl, Nat.le_of_ble_eq_true rfl⟩, ?_⟩ | refine ⟨Nat.le_of_ble_eq_true rfl, ?_⟩ | refine ⟨_, _, rfl, ?_⟩ | refine ⟨0, _, rfl, ?_⟩ | refine ⟨1, _, rfl, ?_⟩ | refine ⟨2, _, rfl, ?_⟩ | refine ⟨3, _, rfl, ?_⟩ | refine ⟨4, _, rfl, ?_⟩ | refine ⟨5, _, rfl, ?_⟩ | refine ⟨_, rfl, ?_⟩ | intro _)
    refine AW_ret ?_
    repeat (first | refine ⟨0, rfl, ?_⟩ | refine ⟨1, rfl, ?_⟩ | refine ⟨2, rfl, ?_⟩ | refine ⟨3, rfl, ?_⟩)
    refine ⟨_, R, ?_, (by repeat (first | exact SLe.rfl | refine SLe.tail ?_)), rfl, rfl⟩
    rw [setsR, if_neg (by simp at h; rw [h]; simp)]
    exact AVle.tup ⟨AVle.nil, AVle.refl _, trivial⟩
  have hib : riseB b = true := by simpa using h
  repeat (first | refine AW_seq ?_ | refine det_step rfl ?_ | refine AW_region tab_ok ?_ | refine AW_block ?_ | refine AW_scope ?_ | refine AW_exit ?_ | refine AW_goto ?_ | refine AW_label ?_ | refine AW_skip ?_ | refine ⟨rfl, ?_⟩ | refine ⟨⟨_, rfl⟩, ?_⟩ | refine ⟨⟨Nat.le_of_ble_eq_true rfl, Nat.le_of_ble_eq_true rfl⟩, ?_⟩ | refine ⟨Nat.le_of_ble_eq_true rfl, ?_⟩ | refine ⟨_, _, rfl, ?_⟩ | refine ⟨0, _, rfl, ?_⟩ | refine ⟨1, _, rfl, ?_⟩ | refine ⟨2, _, rfl, ?_⟩ | refine ⟨3, _, rfl, ?_⟩ | refine ⟨4, _, rfl, ?_⟩ | refine ⟨5, _, rfl, ?_⟩ | refine ⟨_, rfl, ?_⟩ | intro _)
  rename_i b6
  refine Or.inl ⟨⟨_, Try.func36, rfl, rfl⟩, ACall.mono ?_ (both_ok a b ta tb _)⟩
  rintro _ S1 ⟨p, q, rfl, hS1⟩
  subst S1
  repeat (first | refine AW_seq ?_ | refine det_step rfl ?_ | refine AW_region tab_ok ?_ | refine AW_block ?_ | refine AW_scope ?_ | refine AW_exit ?_ | refine AW_goto ?_ | refine AW_label ?_ | refine AW_skip ?_ | refine ⟨rfl, ?_⟩ | refine ⟨⟨_, rfl⟩, ?_⟩ | refine ⟨⟨Nat.le_of_ble_eq_true rfl, Nat.le_of_ble_eq_true rfl⟩, ?_⟩ | refine ⟨Nat.le_of_ble_eq_true rfl, ?_⟩ | refine ⟨_, _, rfl, ?_⟩ | refine ⟨0, _, rfl, ?_⟩ | refine ⟨1, _, rfl, ?_⟩ | refine ⟨2, _, rfl, ?_⟩ | refine ⟨3, _, rfl, ?_⟩ | refine ⟨4, _, rfl, ?_⟩ | refine ⟨5, _, rfl, ?_⟩ | refine ⟨_, rfl, ?_⟩ | intro _)
  refine AW_rangeOut (xs := (bothL a b).map encB) (α := Tk) (st := fun i z => [.cells b6 [.sl 1 ((((bothL a b).take i).filter ownF).map fun x => encR x.1) z], .grow z]) (inv := fun _ _ => True) (Q := fun _ _ => False) ([.cells q [.sl 1 (b.map encR) tb], .cells p [.sl 1 (a.map encR) ta]]) (R) (.full) rfl (both_gen a b ta tb p q) ?_ ?_ ?_ ?_ ?_ ?_
  · refine SW.le ?_
    repeat (first | exact SW.nil | refine SW.cons ?_ | refine SW.cells (by repeat (first | exact trivial | refine ⟨AVle.refl _, ?_⟩ | refine ⟨AVle.nilFull, ?_⟩ | refine ⟨AVle.tk, ?_⟩ | refine ⟨AVle.nil, ?_⟩)) rfl ?_ | refine SW.full ?_ | refine SW.drop ?_)
  · trivial
  · intro i args h
    rw [List.getElem?_map] at h
    obtain ⟨x, _, rfl⟩ := Option.map_eq_some_iff.1 h
    rfl
  · intro lp R1 i args z hl hx _
    rw [List.getElem?_map] at hx
    obtain ⟨x, hx2, rfl⟩ := Option.map_eq_some_iff.1 hx
    obtain ⟨hi, rfl⟩ := List.getElem?_eq_some_iff.1 hx2
    have hm : ((bothL a b)[i]).1.length ≤ 16777216 := by
      rcases bothL_mem (List.getElem_mem hi) with h | h
      · exact hra _ h
      · exact hrb _ h
    have hp : ((bothL a b).take (i + 1)).filter ownF = ((bothL a b).take i).filter ownF ++ if ownF (bothL a b)[i] = true then [(bothL a b)[i]] else [] := filter_take_succ _ _ i hi
    have hfl := List.length_filter_le ownF ((bothL a b).take i)
    rw [List.length_take] at hfl
    generalize (bothL a b)[i] = y at *
    obtain ⟨y, u, v⟩ := y
    repeat (first | refine AW_seq ?_ | refine det_step rfl ?_ | refine AW_region tab_ok ?_ | refine AW_block ?_ | refine AW_scope ?_ | refine AW_exit ?_ | refine AW_goto ?_ | refine AW_label ?_ | refine AW_skip ?_ | refine ⟨rfl, ?_⟩ | refine ⟨⟨_, rfl⟩, ?_⟩ | refine ⟨⟨Nat.le_of_ble_eq_true rfl, Nat.le_of_ble_eq_true rfl⟩, ?_⟩ | refine ⟨Nat.le_of_ble_eq_true rfl, ?_⟩ | refine ⟨_, _, rfl, ?_⟩ | refine ⟨0, _, rfl, ?_⟩ | refine ⟨1, _, rfl, ?_⟩ | refine ⟨2, _, rfl, ?_⟩ | refine ⟨3, _, rfl, ?_⟩ | refine ⟨4, _, rfl, ?_⟩ | refine ⟨5, _, rfl, ?_⟩ | refine ⟨_, rfl, ?_⟩ | intro _)
    rename_i b8
    refine ⟨.cells b8 [.bool u, .bool v] :: [_, _], rfl, fun R2 hR2 => ?_⟩
    repeat (first | refine AW_seq ?_ | refine det_step rfl ?_ | refine AW_region tab_ok ?_ | refine AW_block ?_ | refine AW_scope ?_ | refine AW_exit ?_ | refine AW_goto ?_ | refine AW_label ?_ | refine AW_skip ?_ | refine ⟨rfl, ?_⟩ | refine ⟨⟨_, rfl⟩, ?_⟩ | refine ⟨⟨Nat.le_of_ble_eq_true rfl, Nat.le_of_ble_eq_true rfl⟩, ?_⟩ | refine ⟨Nat.le_of_ble_eq_true rfl, ?_⟩ | refine ⟨_, _, rfl, ?_⟩ | refine ⟨0, _, rfl, ?_⟩ | refine ⟨1, _, rfl, ?_⟩ | refine ⟨2, _, rfl, ?_⟩ | refine ⟨3, _, rfl, ?_⟩ | refine ⟨4, _, rfl, ?_⟩ | refine ⟨5, _, rfl, ?_⟩ | refine ⟨_, rfl, ?_⟩ | intro _)
    refine at_msl (0) (0) (by first | rfl | omega | (rw [wrap_i64 (by first | omega | (simp; omega))]; first | rfl | omega | (simp; omega))) (by first | assumption | omega) (by show _ + _ * 1 = _; omega) ?_
    repeat (first | refine AW_seq ?_ | refine det_step rfl ?_ | refine AW_region tab_ok ?_ | refine AW_block ?_ | refine AW_scope ?_ | refine AW_exit ?_ | refine AW_goto ?_ | refine AW_label ?_ | refine AW_skip ?_ | refine ⟨rfl, ?_⟩ | refine ⟨⟨_, rfl⟩, ?_⟩ | refine ⟨⟨Nat.le_of_ble_eq_true rfl, Nat.le_of_ble_eq_true rfl⟩, ?_⟩ | refine ⟨Nat.le_of_ble_eq_true rfl, ?_⟩ | refine ⟨_, _, rfl, ?_⟩ | refine ⟨0, _, rfl, ?_⟩ | refine ⟨1, _, rfl, ?_⟩ | refine ⟨2, _, rfl, ?_⟩ | refine ⟨3, _, rfl, ?_⟩ | refine ⟨4, _, rfl, ?_⟩ | refine ⟨5, _, rfl, ?_⟩ | refine ⟨_, rfl, ?_⟩ | intro _)
    cases u with
    | false =>
      have hf : ownF (y, false, v) = false := rfl
      rw [hf, if_neg (by simp), List.append_nil] at hp
      refine known_true (b := true) (by first | rfl | (simp; done) | (simp; omega) | decide) ?_
      repeat (first | refine AW_seq ?_ | refine det_step rfl ?_ | refine AW_region tab_ok ?_ | refine AW_block ?_ | refine AW_scope ?_ | refine AW_exit ?_ | refine AW_goto ?_ | refine AW_label ?_ | refine AW_skip ?_ | refine ⟨rfl, ?_⟩ | refine ⟨⟨_, rfl⟩, ?_⟩ | refine ⟨⟨Nat.le_of_ble_eq_true rfl, Nat.le_of_ble_eq_true rfl⟩, ?_⟩ | refine ⟨Nat.le_of_ble_eq_true rfl, ?_⟩ | refine ⟨_, _, rfl, ?_⟩ | refine ⟨0, _, rfl, ?_⟩ | refine ⟨1, _, rfl, ?_⟩ | refine ⟨2, _, rfl, ?_⟩ | refine ⟨3, _, rfl, ?_⟩ | refine ⟨4, _, rfl, ?_⟩ | refine ⟨5, _, rfl, ?_⟩ | refine ⟨_, rfl, ?_⟩ | intro _)
      refine AW_true (b := true) rfl (by first | rfl | (simp; done) | (simp; omega) | decide) ?_
      repeat (first | refine AW_seq ?_ | refine det_step rfl ?_ | refine AW_region tab_ok ?_ | refine AW_block ?_ | refine AW_scope ?_ | refine AW_exit ?_ | refine AW_goto ?_ | refine AW_label ?_ | refine AW_skip ?_ | refine ⟨rfl, ?_⟩ | refine ⟨⟨_, rfl⟩, ?_⟩ | refine ⟨⟨Nat.le_of_ble_eq_true rfl, Nat.le_of_ble_eq_true rfl⟩, ?_⟩ | refine ⟨Nat.le_of_ble_eq_true rfl, ?_⟩ | refine ⟨_, _, rfl, ?_⟩ | refine ⟨0, _, rfl, ?_⟩ | refine ⟨1, _, rfl, ?_⟩ | refine ⟨2, _, rfl, ?_⟩ | refine ⟨3, _, rfl, ?_⟩ | refine ⟨4, _, rfl, ?_⟩ | refine ⟨5, _, rfl, ?_⟩ | refine ⟨_, rfl, ?_⟩ | intro _)
      refine ⟨z, trivial, ?_⟩
      show SLe _ (.cells b6 [.sl 1 ((((bothL a b).take (i + 1)).filter ownF).map fun x => encR x.1) z] :: .grow z :: R2)
      rw [hp]
      refine SW.le ?_
      repeat (first | exact SW.nil | refine SW.cons ?_ | refine SW.cells (by repeat (first | exact trivial | refine ⟨AVle.refl _, ?_⟩ | refine ⟨AVle.nilFull, ?_⟩ | refine ⟨AVle.tk, ?_⟩ | refine ⟨AVle.nil, ?_⟩)) rfl ?_ | refine SW.full ?_ | refine SW.drop ?_)
    | true =>
      refine known_false (b := false) (by first | rfl | (simp; done) | (simp; omega) | decide) ?_
      repeat (first | refine AW_seq ?_ | refine det_step rfl ?_ | refine AW_region tab_ok ?_ | refine AW_block ?_ | refine AW_scope ?_ | refine AW_exit ?_ | refine AW_goto ?_ | refine AW_label ?_ | refine AW_skip ?_ | refine ⟨rfl, ?_⟩ | refine ⟨⟨_, rfl⟩, ?_⟩ | refine ⟨⟨Nat.le_of_ble_eq_true rfl, Nat.le_of_ble_eq_true rfl⟩, ?_⟩ | refine ⟨Nat.le_of_ble_eq_true rfl, ?_⟩ | refine ⟨_, _, rfl, ?_⟩ | refine ⟨0, _, rfl, ?_⟩ | refine ⟨1, _, rfl, ?_⟩ | refine ⟨2, _, rfl, ?_⟩ | refine ⟨3, _, rfl, ?_⟩ | refine ⟨4, _, rfl, ?_⟩ | refine ⟨5, _, rfl, ?_⟩ | refine ⟨_, rfl, ?_⟩ | intro _)
      refine at_msl (1) (1) (by first | rfl | omega | (rw [wrap_i64 (by first | omega | (simp; omega))]; first | rfl | omega | (simp; omega))) (by first | assumption | omega) (by show _ + _ * 1 = _; omega) ?_
      repeat (first | refine AW_seq ?_ | refine det_step rfl ?_ | refine AW_region tab_ok ?_ | refine AW_block ?_ | refine AW_scope ?_ | refine AW_exit ?_ | refine AW_goto ?_ | refine AW_label ?_ | refine AW_skip ?_ | refine ⟨rfl, ?_⟩ | refine ⟨⟨_, rfl⟩, ?_⟩ | refine ⟨⟨Nat.le_of_ble_eq_true rfl, Nat.le_of_ble_eq_true rfl⟩, ?_⟩ | refine ⟨Nat.le_of_ble_eq_true rfl, ?_⟩ | refine ⟨_, _, rfl, ?_⟩ | refine ⟨0, _, rfl, ?_⟩ | refine ⟨1, _, rfl, ?_⟩ | refine ⟨2, _, rfl, ?_⟩ | refine ⟨3, _, rfl, ?_⟩ | refine ⟨4, _, rfl, ?_⟩ | refine ⟨5, _, rfl, ?_⟩ | refine ⟨_, rfl, ?_⟩ | intro _)
      cases v with
      | true =>
        have hf : ownF (y, true, true) = false := rfl
        rw [hf, if_neg (by simp), List.append_nil] at hp
        refine AW_true (b := true) rfl (by first | rfl | (simp; done) | (simp; omega) | decide) ?_
        repeat (first | refine AW_seq ?_ | refine det_step rfl ?_ | refine AW_region tab_ok ?_ | refine AW_block ?_ | refine AW_scope ?_ | refine AW_exit ?_ | refine AW_goto ?_ | refine AW_label ?_ | refine AW_skip ?_ | refine ⟨rfl, ?_⟩ | refine ⟨⟨_, rfl⟩, ?_⟩ | refine ⟨⟨Nat.le_of_ble_eq_true rfl, Nat.le_of_ble_eq_true rfl⟩, ?_⟩ | refine ⟨Nat.le_of_ble_eq_true rfl, ?_⟩ | refine ⟨_, _, rfl, ?_⟩ | refine ⟨0, _, rfl, ?_⟩ | refine ⟨1, _, rfl, ?_⟩ | refine ⟨2, _, rfl, ?_⟩ | refine ⟨3, _, rfl, ?_⟩ | refine ⟨4, _, rfl, ?_⟩ | refine ⟨5, _, rfl, ?_⟩ | refine ⟨_, rfl, ?_⟩ | intro _)
        refine ⟨z, trivial, ?_⟩
        show SLe _ (.cells b6 [.sl 1 ((((bothL a b).take (i + 1)).filter ownF).map fun x => encR x.1) z] :: .grow z :: R2)
        rw [hp]
        refine SW.le ?_
        repeat (first | exact SW.nil | refine SW.cons ?_ | refine SW.cells (by repeat (first | exact trivial | refine ⟨AVle.refl _, ?_⟩ | refine ⟨AVle.nilFull, ?_⟩ | refine ⟨AVle.tk, ?_⟩ | refine ⟨AVle.nil, ?_⟩)) rfl ?_ | refine SW.full ?_ | refine SW.drop ?_)
      | false =>
        have hf : ownF (y, true, false) = true := rfl
        rw [if_pos hf] at hp
        refine AW_false (b := false) rfl (by first | rfl | (simp; done) | (simp; omega) | decide) ?_
        repeat (first | refine AW_seq ?_ | refine det_step rfl ?_ | refine AW_region tab_ok ?_ | refine AW_block ?_ | refine AW_scope ?_ | refine AW_exit ?_ | refine AW_goto ?_ | refine AW_label ?_ | refine AW_skip ?_ | refine ⟨rfl, ?_⟩ | refine ⟨⟨_, rfl⟩, ?_⟩ | refine ⟨⟨Nat.le_of_ble_eq_true rfl, Nat.le_of_ble_eq_true rfl⟩, ?_⟩ | refine ⟨Nat.le_of_ble_eq_true rfl, ?_⟩ | refine ⟨_, _, rfl, ?_⟩ | refine ⟨0, _, rfl, ?_⟩ | refine ⟨1, _, rfl, ?_⟩ | refine ⟨2, _, rfl, ?_⟩ | refine ⟨3, _, rfl, ?_⟩ | refine ⟨4, _, rfl, ?_⟩ | refine ⟨5, _, rfl, ?_⟩ | refine ⟨_, rfl, ?_⟩ | intro _)
        refine AW_draw tab_ok mixed 4 (by first | rfl | kernel_rfl) ?_
        repeat (first | refine AW_seq ?_ | refine det_step rfl ?_ | refine AW_region tab_ok ?_ | refine AW_block ?_ | refine AW_scope ?_ | refine AW_exit ?_ | refine AW_goto ?_ | refine AW_label ?_ | refine AW_skip ?_ | refine ⟨rfl, ?_⟩ | refine ⟨⟨_, rfl⟩, ?_⟩ | refine ⟨⟨Nat.le_of_ble_eq_true rfl, Nat.le_of_ble_eq_true rfl⟩, ?_⟩ | refine ⟨Nat.le_of_ble_eq_true rfl, ?_⟩ | refine ⟨_, _, rfl, ?_⟩ | refine ⟨0, _, rfl, ?_⟩ | refine ⟨1, _, rfl, ?_⟩ | refine ⟨2, _, rfl, ?_⟩ | refine ⟨3, _, rfl, ?_⟩ | refine ⟨4, _, rfl, ?_⟩ | refine ⟨5, _, rfl, ?_⟩ | refine ⟨_, rfl, ?_⟩ | intro _)
        apply call_step
        · rfl
        · exact Or.inl ⟨⟨_, Try.func35, rfl, rfl⟩, clone_row _ .no _ hm⟩
        repeat (first | refine AW_seq ?_ | refine det_step rfl ?_ | refine AW_region tab_ok ?_ | refine AW_block ?_ | refine AW_scope ?_ | refine AW_exit ?_ | refine AW_goto ?_ | refine AW_label ?_ | refine AW_skip ?_ | refine ⟨rfl, ?_⟩ | refine ⟨⟨_, rfl⟩, ?_⟩ | refine ⟨⟨Nat.le_of_ble_eq_true rfl, Nat.le_of_ble_eq_true rfl⟩, ?_⟩ | refine ⟨Nat.le_of_ble_eq_true rfl, ?_⟩ | refine ⟨_, _, rfl, ?_⟩ | refine ⟨0, _, rfl, ?_⟩ | refine ⟨1, _, rfl, ?_⟩ | refine ⟨2, _, rfl, ?_⟩ | refine ⟨3, _, rfl, ?_⟩ | refine ⟨4, _, rfl, ?_⟩ | refine ⟨5, _, rfl, ?_⟩ | refine ⟨_, rfl, ?_⟩ | intro _)
        refine ⟨room (by first | omega | (simp; omega) | (simp at *; omega)) rfl, .inl rfl, .inr (.inl ⟨rfl, 2, rfl, (((bothL a b).take (i + 1)).filter ownF).map (fun x => encR x.1), by rw [hp]; exact snoc_map (f := fun x : List V × Bool × Bool => encR x.1) _ (y, true, false), fun t1 => ?_⟩)⟩
        repeat (first | refine AW_seq ?_ | refine det_step rfl ?_ | refine AW_region tab_ok ?_ | refine AW_block ?_ | refine AW_scope ?_ | refine AW_exit ?_ | refine AW_goto ?_ | refine AW_label ?_ | refine AW_skip ?_ | refine ⟨rfl, ?_⟩ | refine ⟨⟨_, rfl⟩, ?_⟩ | refine ⟨⟨Nat.le_of_ble_eq_true rfl, Nat.le_of_ble_eq_true rfl⟩, ?_⟩ | refine ⟨Nat.le_of_ble_eq_true rfl, ?_⟩ | refine ⟨_, _, rfl, ?_⟩ | refine ⟨0, _, rfl, ?_⟩ | refine ⟨1, _, rfl, ?_⟩ | refine ⟨2, _, rfl, ?_⟩ | refine ⟨3, _, rfl, ?_⟩ | refine ⟨4, _, rfl, ?_⟩ | refine ⟨5, _, rfl, ?_⟩ | refine ⟨_, rfl, ?_⟩ | intro _)
        refine ⟨t1, trivial, ?_⟩
        refine SW.le ?_
        repeat (first | exact SW.nil | refine SW.cons ?_ | refine SW.cells (by repeat (first | exact trivial | refine ⟨AVle.refl _, ?_⟩ | refine ⟨AVle.nilFull, ?_⟩ | refine ⟨AVle.tk, ?_⟩ | refine ⟨AVle.nil, ?_⟩)) rfl ?_ | refine SW.full ?_ | refine SW.drop ?_)
  · intro d z _
    repeat (first | refine AW_seq ?_ | refine det_step rfl ?_ | refine AW_region tab_ok ?_ | refine AW_block ?_ | refine AW_scope ?_ | refine AW_exit ?_ | refine AW_goto ?_ | refine AW_label ?_ | refine AW_skip ?_ | refine ⟨rfl, ?_⟩ | refine ⟨⟨_, rfl⟩, ?_⟩ | refine ⟨⟨Nat.le_of_ble_eq_true rfl, Nat.le_of_ble_eq_true rfl⟩, ?_⟩ | refine ⟨Nat.le_of_ble_eq_true rfl, ?_⟩ | refine ⟨_, _, rfl, ?_⟩ | refine ⟨0, _, rfl, ?_⟩ | refine ⟨1, _, rfl, ?_⟩ | refine ⟨2, _, rfl, ?_⟩ | refine ⟨3, _, rfl, ?_⟩ | refine ⟨4, _, rfl, ?_⟩ | refine ⟨5, _, rfl, ?_⟩ | refine ⟨_, rfl, ?_⟩ | intro _)
    refine AW_ret ?_
    repeat (first | refine ⟨0, rfl, ?_⟩ | refine ⟨1, rfl, ?_⟩ | refine ⟨2, rfl, ?_⟩ | refine ⟨3, rfl, ?_⟩)
    refine ⟨_, R, ?_, (by repeat (first | exact SLe.rfl | refine SLe.tail ?_)), rfl, rfl⟩
    rw [setsR, if_pos ⟨hia, hib⟩]
    refine AVle.tup ⟨?_, AVle.refl _, trivial⟩
    rw [List.length_map]
    show AVle (.sl 1 ((((bothL a b).take (bothL a b).length).filter ownF).map fun x => encR x.1) z) _
    rw [List.take_length]
    show AVle _ (.sl 1 ((minB a b).map encR) .no)
    rw [minB, List.map_map]
    exact AVle.tk
  · intro d x Sc h
    exact h.elim

/-! ### the two ways give the same -/
theorem putR_cons {t x : List V} {l : List (List V)} (h : cmpR x t < 0) : (putR t (x :: l)).1 = x :: (putR t l).1 := by simp [putR, h]
theorem foldPut_cons {x : List V} : ∀ (b a : List (List V)), (∀ t ∈ b, cmpR x t < 0) → foldPut (x :: a) b = x :: foldPut a b
  | [], a, _ => rfl
  | t :: b, a, h => by
    show foldPut (putR t (x :: a)).1 b = _
    rw [putR_cons (h t (by simp)), foldPut_cons b _ (fun t' h' => h t' (by simp [h']))]; rfl
theorem rise_lt {x : List V} : ∀ {l : List (List V)}, riseB (x :: l) = true → ∀ t ∈ l, cmpR x t < 0
  | [], _, t, h => by simp at h
  | y :: l, h, t, ht => by
    simp only [riseB, Bool.and_eq_true, decide_eq_true_eq] at h
    rcases List.mem_cons.1 ht with rfl | ht
    · exact h.1
    · exact lo_row.lt_le h.1 (by have := rise_lt h.2 t ht; omega)
theorem rise_tail {x : List V} {l : List (List V)} (h : riseB (x :: l) = true) : riseB l = true := by
  cases l with
  | nil => rfl
  | cons y l => simp only [riseB, Bool.and_eq_true] at h; exact h.2

theorem uni_fold (a b : List (List V)) (ha : riseB a = true) (hb : riseB b = true) : uniR a b = foldPut a b := by
  revert ha hb
  unfold uniR
  fun_induction bothL a b with
  | case1 => intros; rfl
  | case2 x a ih =>
    intro ha hb
    simp only [List.map_cons]
    rw [ih (rise_tail ha) hb]; rfl
  | case3 y b ih =>
    intro ha hb
    simp only [List.map_cons]
    rw [ih ha (rise_tail hb)]
    show _ = foldPut (putR y []).1 b
    rw [show (putR y []).1 = [y] from rfl, foldPut_cons b [] (rise_lt hb)]
  | case4 x a y b h ih =>
    intro ha hb
    simp only [List.map_cons]
    rw [ih (rise_tail ha) hb, foldPut_cons]
    intro t ht
    rcases List.mem_cons.1 ht with rfl | ht
    · exact h
    · exact lo_row.lt_le h (by have := rise_lt hb t ht; omega)
  | case5 x a y b h1 h2 ih =>
    intro ha hb
    simp only [List.map_cons]
    rw [ih ha (rise_tail hb)]
    show _ = foldPut (putR y (x :: a)).1 b
    have : (putR y (x :: a)).1 = y :: x :: a := by
      simp only [putR]
      rw [if_neg h1, if_pos (by omega)]
    rw [this, foldPut_cons b _ (rise_lt hb)]
  | case6 x a y b h1 h2 ih =>
    intro ha hb
    have h0 : cmpR x y = 0 := by omega
    simp only [List.map_cons]
    rw [ih (rise_tail ha) (rise_tail hb)]
    show _ = foldPut (putR y (x :: a)).1 b
    have : (putR y (x :: a)).1 = x :: a := by simp [putR, h0]
    rw [this, foldPut_cons]
    intro t ht
    have := lo_row.eq_l t h0
    have := rise_lt hb t ht
    omega

theorem inR_false {l : List (List V)} {t : List V} (h : ∀ x ∈ l, cmpR x t ≠ 0) : inR l t = false := by
  simp only [inR, List.any_eq_false, decide_eq_true_eq]
  exact h
theorem inR_cons (x : List V) (l : List (List V)) (t : List V) : inR (x :: l) t = (decide (cmpR x t = 0) || inR l t) := rfl
theorem minusR_skip {y : List V} {b : List (List V)} : ∀ (a : List (List V)), (∀ t ∈ a, cmpR y t ≠ 0) → minusR a (y :: b) = minusR a b
  | [], _ => rfl
  | x :: a, h => by
    have := minusR_skip (b := b) a (fun t ht => h t (by simp [ht]))
    have hx : inR (y :: b) x = inR b x := by rw [inR_cons, decide_eq_false (h x (by simp)), Bool.false_or]
    simp only [minusR] at this ⊢
    simp only [List.filter_cons]
    rw [this, hx]

theorem min_filter (a b : List (List V)) (ha : riseB a = true) (hb : riseB b = true) : minB a b = minusR a b := by
  revert ha hb
  unfold minB
  fun_induction bothL a b with
  | case1 => intros; rfl
  | case2 x a ih =>
    intro ha hb
    have e : minusR (x :: a) [] = x :: minusR a [] := by simp [minusR, inR]
    rw [e, ← ih (rise_tail ha) hb]
    simp [ownF]
  | case3 y b ih =>
    intro ha hb
    have e : minusR [] (y :: b) = minusR [] b := rfl
    rw [e, ← ih ha (rise_tail hb)]
    simp [ownF]
  | case4 x a y b h ih =>
    intro ha hb
    have hx : inR (y :: b) x = false := inR_false (fun t ht => by
      have hxt : cmpR x t < 0 := by
        rcases List.mem_cons.1 ht with rfl | ht
        · exact h
        · exact lo_row.lt_le h (by have := rise_lt hb t ht; omega)
      have := lo_row.anti x t
      omega)
    have e : minusR (x :: a) (y :: b) = x :: minusR a (y :: b) := by simp [minusR, hx]
    rw [e, ← ih (rise_tail ha) hb]
    simp [ownF]
  | case5 x a y b h1 h2 ih =>
    intro ha hb
    have hyx : cmpR y x < 0 := by have := lo_row.anti x y; omega
    rw [minusR_skip, ← ih ha (rise_tail hb)]
    · simp [ownF]
    · intro t ht
      rcases List.mem_cons.1 ht with rfl | ht
      · omega
      · have := lo_row.lt_le hyx (by have := rise_lt ha t ht; omega : cmpR x t ≤ 0)
        omega
  | case6 x a y b h1 h2 ih =>
    intro ha hb
    have h0 : cmpR x y = 0 := by omega
    have hyx : cmpR y x = 0 := by have := lo_row.anti x y; omega
    have hx : inR (y :: b) x = true := by simp [inR, hyx]
    have e : minusR (x :: a) (y :: b) = minusR a (y :: b) := by simp [minusR, hx]
    rw [e, minusR_skip, ← ih (rise_tail ha) (rise_tail hb)]
    · simp [ownF]
    · intro t ht
      have h3 := lo_row.eq_l t h0
      have h4 := rise_lt ha t ht
      omega
end Go.Proofs.Ytocbdcgbbdjhlaa

