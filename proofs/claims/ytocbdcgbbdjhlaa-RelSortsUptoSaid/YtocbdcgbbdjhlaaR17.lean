/-
  Union and Minus, the program's. Own work.
-/
import Derived.Test.YtocbdcgbbdjhlaaR16
namespace Go.Proofs.Ytocbdcgbbdjhlaa
open Go.Aw
set_option maxHeartbeats 4000000

theorem both_ok (a b : List (List V)) (ta tb : Tk) (R : List En) :
    ACall Try.prog 36 [.sl 1 (a.map encR) ta, .sl 1 (b.map encR) tb] R (fun r S => ∃ p q, r = .fn (.func 49) [] [.ptr p 0, .ptr q 0] ∧ S = .cells q [.sl 1 (b.map encR) tb] :: .cells p [.sl 1 (a.map encR) ta] :: R) := by
  refine ACall_body tab_ok Try.func36 rfl rfl rfl (by kernel_rfl) (Nat.le_of_ble_eq_true rfl) ?_
  repeat (first | refine AW_seq ?_ | refine det_step rfl ?_ | refine AW_region tab_ok ?_ | refine AW_block ?_ | refine AW_scope ?_ | refine AW_exit ?_ | refine AW_goto ?_ | refine AW_label ?_ | refine AW_skip ?_ | refine ⟨rfl, ?_⟩ | refine ⟨⟨_, rfl⟩, ?_⟩ | refine ⟨⟨Nat.le_of_ble_eq_true rfl, Nat.le_of_ble_eq_true rfl⟩, ?_⟩ | refine ⟨Nat.le_of_ble_eq_true rfl, ?_⟩ | refine ⟨_, _, rfl, ?_⟩ | refine ⟨0, _, rfl, ?_⟩ | refine ⟨1, _, rfl, ?_⟩ | refine ⟨2, _, rfl, ?_⟩ | refine ⟨3, _, rfl, ?_⟩ | refine ⟨4, _, rfl, ?_⟩ | refine ⟨5, _, rfl, ?_⟩ | refine ⟨_, rfl, ?_⟩ | intro _)
  refine AW_ret ?_
  repeat (first | refine ⟨0, rfl, ?_⟩ | refine ⟨1, rfl, ?_⟩ | refine ⟨2, rfl, ?_⟩ | refine ⟨3, rfl, ?_⟩)
  refine ⟨_, _, AVle.refl _, SLe.rfl, ?_⟩
  exact ⟨_, _, rfl, rfl⟩

def uniR (a b : List (List V)) : List (List V) := (bothL a b).map (·.1)
theorem bothL_len (a b : List (List V)) : (bothL a b).length ≤ a.length + b.length := by
  fun_induction bothL a b <;> simp only [List.length_cons, List.length_nil] at * <;> omega
theorem bothL_mem {a b : List (List V)} {x : List V × Bool × Bool} (h : x ∈ bothL a b) : x.1 ∈ a ∨ x.1 ∈ b := by
  revert h
  fun_induction bothL a b <;> simp <;> grind

theorem union_ok (a b : List (List V)) (ta tb : Tk) (R : List En) (ha : a.length ≤ 1000000) (hb : b.length ≤ 1000000) (hra : ∀ r ∈ a, r.length ≤ 16777216) (hrb : ∀ r ∈ b, r.length ≤ 16777216) :
    ACall Try.prog 20 [.sl 1 (a.map encR) ta, .sl 1 (b.map encR) tb] R (fun r S => r = encSet (setsR a b (uniR a b)) ∧ S = R) := by
  have hlen := bothL_len a b
  refine ACall_body tab_ok Try.func20 rfl rfl rfl (by kernel_rfl) (Nat.le_of_ble_eq_true rfl) ?_
  repeat (first | refine AW_seq ?_ | refine det_step rfl ?_ | refine AW_region tab_ok ?_ | refine AW_block ?_ | refine AW_scope ?_ | refine AW_exit ?_ | refine AW_goto ?_ | refine AW_label ?_ | refine AW_skip ?_ | refine ⟨rfl, ?_⟩ | refine ⟨⟨_, rfl⟩, ?_⟩ | refine ⟨⟨Nat.le_of_ble_eq_true rfl, Nat.le_of_ble_eq_true rfl⟩, ?_⟩ | refine ⟨Nat.le_of_ble_eq_true rfl, ?_⟩ | refine ⟨_, _, rfl, ?_⟩ | refine ⟨0, _, rfl, ?_⟩ | refine ⟨1, _, rfl, ?_⟩ | refine ⟨2, _, rfl, ?_⟩ | refine ⟨3, _, rfl, ?_⟩ | refine ⟨4, _, rfl, ?_⟩ | refine ⟨5, _, rfl, ?_⟩ | refine ⟨_, rfl, ?_⟩ | intro _)
  refine Or.inl ⟨⟨_, Try.func14, rfl, rfl⟩, ACall.mono ?_ (rise_ok a ta _)⟩
  rintro _ S1 ⟨rfl, hS1⟩
  subst S1
  repeat (first | refine AW_seq ?_ | refine det_step rfl ?_ | refine AW_region tab_ok ?_ | refine AW_block ?_ | refine AW_scope ?_ | refine AW_exit ?_ | refine AW_goto ?_ | refine AW_label ?_ | refine AW_skip ?_ | refine ⟨rfl, ?_⟩ | refine ⟨⟨_, rfl⟩, ?_⟩ | refine ⟨⟨Nat.le_of_ble_eq_true rfl, Nat.le_of_ble_eq_true rfl⟩, ?_⟩ | refine ⟨Nat.le_of_ble_eq_true rfl, ?_⟩ | refine ⟨_, _, rfl, ?_⟩ | refine ⟨0, _, rfl, ?_⟩ | refine ⟨1, _, rfl, ?_⟩ | refine ⟨2, _, rfl, ?_⟩ | refine ⟨3, _, rfl, ?_⟩ | refine ⟨4, _, rfl, ?_⟩ | refine ⟨5, _, rfl, ?_⟩ | refine ⟨_, rfl, ?_⟩ | intro _)
  refine gsplit (riseB a = false) (by first | (simp; done) | (simp <;> omega) | decide) (fun h => ?_) (fun h => ?_)
  · repeat (first | refine AW_seq ?_ | refine det_step rfl ?_ | refine AW_region tab_ok ?_ | refine AW_block ?_ | refine AW_scope ?_ | refine AW_exit ?_ | refine AW_goto ?_ | refine AW_label ?_ | refine AW_skip ?_ | refine ⟨rfl, ?_⟩ | refine ⟨⟨_, rfl⟩, ?_⟩ | refine ⟨⟨Nat.le_of_ble_eq_true rfl, Nat.le_of_ble_eq_true rfl⟩, ?_⟩ | refine ⟨Nat.le_of_ble_eq_true rfl, ?_⟩ | refine ⟨_, _, rfl, ?_⟩ | refine ⟨0, _, rfl, ?_⟩ | refine ⟨1, _, rfl, ?_⟩ | refine ⟨2, _, rfl, ?_⟩ | refine ⟨3, _, rfl, ?_⟩ | refine ⟨4, _, rfl, ?_⟩ | refine ⟨5, _, rfl, ?_⟩ | refine ⟨_, rfl, ?_⟩ | intro _)
    refine AW_true (b := true) rfl (by first | rfl | (simp; done) | (simp; omega) | decide) ?_
    repeat (first | refine AW_seq ?_ | refine det_step rfl ?_ | refine AW_region tab_ok ?_ | refine AW_block ?_ | refine AW_scope ?_ | refine AW_exit ?_ | refine AW_goto ?_ | refine AW_label ?_ | refine AW_skip ?_ | refine ⟨rfl, ?_⟩ | refine ⟨⟨_, rfl⟩, ?_⟩ | refine ⟨⟨Nat.le_of_ble_eq_true rfl, Nat.le_of_ble_eq_true rfl⟩, ?_⟩ | refine ⟨Nat.le_of_ble_eq_true rfl, ?_⟩ | refine ⟨_, _, rfl, ?_⟩ | refine ⟨0, _, rfl, ?_⟩ | refine ⟨1, _, rfl, ?_⟩ | refine ⟨2, _, rfl, ?_⟩ | refine ⟨3, _, rfl, ?_⟩ | refine ⟨4, _, rfl, ?_⟩ | refine ⟨5, _, rfl, ?_⟩ | refine ⟨_, rfl, ?_⟩ | intro _)
    refine AW_ret ?_
    repeat (first | refine ⟨0, rfl, ?_⟩ | refine ⟨1, rfl, ?_⟩ | refine ⟨2, rfl, ?_⟩ | refine ⟨3, rfl, ?_⟩)
    refine ⟨_, R, ?_, (by repeat (first | exact SLe.rfl | refine SLe.tail ?_)), rfl, rfl⟩
    rw [setsR, if_neg (by rw [h]; simp)]
    exact AVle.tup ⟨AVle.nil, AVle.refl _, trivial⟩
  have hia : riseB a = true := by simpa using h
  repeat (first | refine AW_seq ?_ | refine det_step rfl ?_ | refine AW_region tab_ok ?_ | refine AW_block ?_ | refine AW_scope ?_ | refine AW_exit ?_ | refine AW_goto ?_ | refine AW_label ?_ | refine AW_skip ?_ | refine ⟨rfl, ?_⟩ | refine ⟨⟨_, rfl⟩, ?_⟩ | refine ⟨⟨Nat.le_of_ble_eq_true rfl, Nat.le_of_ble_eq_true rfl⟩, ?_⟩ | refine ⟨Nat.le_of_ble_eq_true rfl, ?_⟩ | refine ⟨_, _, rfl, ?_⟩ | refine ⟨0, _, rfl, ?_⟩ | refine ⟨1, _, rfl, ?_⟩ | refine ⟨2, _, rfl, ?_⟩ | refine ⟨3, _, rfl, ?_⟩ | refine ⟨4, _, rfl, ?_⟩ | refine ⟨5, _, rfl, ?_⟩ | refine ⟨_, rfl, ?_⟩ | intro _)
  refine Or.inl ⟨⟨_, Try.func14, rfl, rfl⟩, ACall.mono ?_ (rise_ok b tb _)⟩
  rintro _ S1 ⟨rfl, hS1⟩
  subst S1
  repeat (first | refine AW_seq ?_ | refine det_step rfl ?_ | refine AW_region tab_ok ?_ | refine AW_block ?_ | refine AW_scope ?_ | refine AW_exit ?_ | refine AW_goto ?_ | refine AW_label ?_ | refine AW_skip ?_ | refine ⟨rfl, ?_⟩ | refine ⟨⟨_, rfl⟩, ?_⟩ | refine ⟨⟨Nat.le_of_ble_eq_true rfl, Nat.le_of_ble_eq_true rfl⟩, ?_⟩ | refine ⟨Nat.le_of_ble_eq_true rfl, ?_⟩ | refine ⟨_, _, rfl, ?_⟩ | refine ⟨0, _, rfl, ?_⟩ | refine ⟨1, _, rfl, ?_⟩ | refine ⟨2, _, rfl, ?_⟩ | refine ⟨3, _, rfl, ?_⟩ | refine ⟨4, _, rfl, ?_⟩ | refine ⟨5, _, rfl, ?_⟩ | refine ⟨_, rfl, ?_⟩ | intro _)
  refine AW_cond (b := !riseB b) rfl (fun h => ?_) (fun h => ?_)
  · repeat (first | refine AW_seq ?_ | refine det_step rfl ?_ | refine AW_region tab_ok ?_ | refine AW_block ?_ | refine AW_scope ?_ | refine AW_exit ?_ | refine AW_goto ?_ | refine AW_label ?_ | refine AW_skip ?_ | refine ⟨rfl, ?_⟩ | refine ⟨⟨_, rfl⟩, ?_⟩ | refine ⟨⟨Nat.le_of_ble_eq_true rfl, Nat.le_of_ble_eq_true rfl⟩, ?_⟩ | refine ⟨Nat.le_of_ble_eq_true rfl, ?_⟩ | refine ⟨_, _, rfl, ?_⟩ | refine ⟨0, _, rfl, ?_⟩ | refine ⟨1, _, rfl, ?_⟩ | refine ⟨2, _, rfl, ?_⟩ | refine ⟨3, _, rfl, ?_⟩ | refine ⟨4, _, rfl, ?_⟩ | refine ⟨5, _, rfl, ?_⟩ | refine ⟨_, rfl, ?_⟩ | intro _)
    refine AW_ret ?_
    repeat (first | refine ⟨0, rfl, ?_⟩ | refine ⟨1, rfl, ?_⟩ | refine ⟨2, rfl, ?_⟩ | refine ⟨3, rfl, ?_⟩)
    refine ⟨_, R, ?_, (by repeat (first | exact SLe.rfl | refine SLe.tail ?_)), rfl, rfl⟩
    rw [setsR, if_neg (by simp at h; rw [h]; simp)]
    exact AVle.tup ⟨AVle.nil, AVle.refl _, trivial⟩
  have hib : riseB b = true := by simpa using h
  repeat (first | refine AW_seq ?_ | refine det_step rfl ?_ | refine AW_region tab_ok ?_ | refine AW_block ?_ | refine AW_scope ?_ | refine AW_exit ?_ | refine AW_goto ?_ | refine AW_label ?_ | refine AW_skip ?_ | refine ⟨rfl, ?_⟩ | refine ⟨⟨_, rfl⟩, ?_⟩ | refine ⟨⟨Nat.le_of_ble_eq_true rfl, Nat.le_of_ble_eq_true rfl⟩, ?_⟩ | refine ⟨Nat.le_of_ble_eq_true rfl, ?_⟩ | refine ⟨_, _, rfl, ?_⟩ | refine ⟨0, _, rfl, ?_⟩ | refine ⟨1, _, rfl, ?_⟩ | refine ⟨2, _, rfl, ?_⟩ | refine ⟨3, _, rfl, ?_⟩ | refine ⟨4, _, rfl, ?_⟩ | refine ⟨5, _, rfl, ?_⟩ | refine ⟨_, rfl, ?_⟩ | intro _)
  rename_i b6
  refine Or.inl ⟨⟨_, Try.func36, rfl, rfl⟩, ACall.mono ?_ (both_ok a b ta tb _)⟩
  rintro _ S1 ⟨p, q, rfl, hS1⟩
  subst S1
  repeat (first | refine AW_seq ?_ | refine det_step rfl ?_ | refine AW_region tab_ok ?_ | refine AW_block ?_ | refine AW_scope ?_ | refine AW_exit ?_ | refine AW_goto ?_ | refine AW_label ?_ | refine AW_skip ?_ | refine ⟨rfl, ?_⟩ | refine ⟨⟨_, rfl⟩, ?_⟩ | refine ⟨⟨Nat.le_of_ble_eq_true rfl, Nat.le_of_ble_eq_true rfl⟩, ?_⟩ | refine ⟨Nat.le_of_ble_eq_true rfl, ?_⟩ | refine ⟨_, _, rfl, ?_⟩ | refine ⟨0, _, rfl, ?_⟩ | refine ⟨1, _, rfl, ?_⟩ | refine ⟨2, _, rfl, ?_⟩ | refine ⟨3, _, rfl, ?_⟩ | refine ⟨4, _, rfl, ?_⟩ | refine ⟨5, _, rfl, ?_⟩ | refine ⟨_, rfl, ?_⟩ | intro _)
  refine AW_rangeOut (xs := (bothL a b).map encB) (α := Tk) (st := fun i z => [.cells b6 [.sl 1 (((bothL a b).take i).map fun x => encR x.1) z], .grow z]) (inv := fun _ _ => True) (Q := fun _ _ => False) ([.cells q [.sl 1 (b.map encR) tb], .cells p [.sl 1 (a.map encR) ta]]) (R) (.full) rfl (both_gen a b ta tb p q) ?_ ?_ ?_ ?_ ?_ ?_
  · refine SW.le ?_
    repeat (first | exact SW.nil | refine SW.cons ?_ | refine SW.cells (by repeat (first | exact trivial | refine ⟨AVle.refl _, ?_⟩ | refine ⟨AVle.nilFull, ?_⟩ | refine ⟨AVle.tk, ?_⟩ | refine ⟨AVle.nil, ?_⟩)) rfl ?_ | refine SW.full ?_ | refine SW.drop ?_)
  · trivial
  · intro i args h
    rw [List.getElem?_map] at h
    obtain ⟨x, _, rfl⟩ := Option.map_eq_some_iff.1 h
    rfl
  · intro lp R1 i args z hl hx _
    rw [List.getElem?_map] at hx
    obtain ⟨x, hx2, rfl⟩ := Option.map_eq_some_iff.1 hx
    obtain ⟨hi, rfl⟩ := List.getElem?_eq_some_iff.1 hx2
    have hm : ((bothL a b)[i]).1.length ≤ 16777216 := by
      rcases bothL_mem (List.getElem_mem hi) with h | h
      · exact hra _ h
      · exact hrb _ h
    repeat (first | refine AW_seq ?_ | refine det_step rfl ?_ | refine AW_region tab_ok ?_ | refine AW_block ?_ | refine AW_scope ?_ | refine AW_exit ?_ | refine AW_goto ?_ | refine AW_label ?_ | refine AW_skip ?_ | refine ⟨rfl, ?_⟩ | refine ⟨⟨_, rfl⟩, ?_⟩ | refine ⟨⟨Nat.le_of_ble_eq_true rfl, Nat.le_of_ble_eq_true rfl⟩, ?_⟩ | refine ⟨Nat.le_of_ble_eq_true rfl, ?_⟩ | refine ⟨_, _, rfl, ?_⟩ | refine ⟨0, _, rfl, ?_⟩ | refine ⟨1, _, rfl, ?_⟩ | refine ⟨2, _, rfl, ?_⟩ | refine ⟨3, _, rfl, ?_⟩ | refine ⟨4, _, rfl, ?_⟩ | refine ⟨5, _, rfl, ?_⟩ | refine ⟨_, rfl, ?_⟩ | intro _)
    refine AW_draw tab_ok mixed 4 (by first | rfl | kernel_rfl) ?_
    repeat (first | refine AW_seq ?_ | refine det_step rfl ?_ | refine AW_region tab_ok ?_ | refine AW_block ?_ | refine AW_scope ?_ | refine AW_exit ?_ | refine AW_goto ?_ | refine AW_label ?_ | refine AW_skip ?_ | refine ⟨rfl, ?_⟩ | refine ⟨⟨_, rfl⟩, ?_⟩ | refine ⟨⟨Nat.le_of_ble_eq_true rfl, Nat.le_of_ble_eq_true rfl⟩, ?_⟩ | refine ⟨Nat.le_of_ble_eq_true rfl, ?_⟩ | refine ⟨_, _, rfl, ?_⟩ | refine ⟨0, _, rfl, ?_⟩ | refine ⟨1, _, rfl, ?_⟩ | refine ⟨2, _, rfl, ?_⟩ | refine ⟨3, _, rfl, ?_⟩ | refine ⟨4, _, rfl, ?_⟩ | refine ⟨5, _, rfl, ?_⟩ | refine ⟨_, rfl, ?_⟩ | intro _)
    apply call_step
    · rfl
    · exact Or.inl ⟨⟨_, Try.func35, rfl, rfl⟩, clone_row _ .no _ hm⟩
    repeat (first | refine AW_seq ?_ | refine det_step rfl ?_ | refine AW_region tab_ok ?_ | refine AW_block ?_ | refine AW_scope ?_ | refine AW_exit ?_ | refine AW_goto ?_ | refine AW_label ?_ | refine AW_skip ?_ | refine ⟨rfl, ?_⟩ | refine ⟨⟨_, rfl⟩, ?_⟩ | refine ⟨⟨Nat.le_of_ble_eq_true rfl, Nat.le_of_ble_eq_true rfl⟩, ?_⟩ | refine ⟨Nat.le_of_ble_eq_true rfl, ?_⟩ | refine ⟨_, _, rfl, ?_⟩ | refine ⟨0, _, rfl, ?_⟩ | refine ⟨1, _, rfl, ?_⟩ | refine ⟨2, _, rfl, ?_⟩ | refine ⟨3, _, rfl, ?_⟩ | refine ⟨4, _, rfl, ?_⟩ | refine ⟨5, _, rfl, ?_⟩ | refine ⟨_, rfl, ?_⟩ | intro _)
    refine ⟨room (by first | omega | (simp; omega) | (simp at *; omega)) rfl, .inl rfl, .inr (.inl ⟨rfl, 1, rfl, ((bothL a b).take (i + 1)).map (fun x => encR x.1), map_take_succ hi, fun t1 => ?_⟩)⟩
    repeat (first | refine AW_seq ?_ | refine det_step rfl ?_ | refine AW_region tab_ok ?_ | refine AW_block ?_ | refine AW_scope ?_ | refine AW_exit ?_ | refine AW_goto ?_ | refine AW_label ?_ | refine AW_skip ?_ | refine ⟨rfl, ?_⟩ | refine ⟨⟨_, rfl⟩, ?_⟩ | refine ⟨⟨Nat.le_of_ble_eq_true rfl, Nat.le_of_ble_eq_true rfl⟩, ?_⟩ | refine ⟨Nat.le_of_ble_eq_true rfl, ?_⟩ | refine ⟨_, _, rfl, ?_⟩ | refine ⟨0, _, rfl, ?_⟩ | refine ⟨1, _, rfl, ?_⟩ | refine ⟨2, _, rfl, ?_⟩ | refine ⟨3, _, rfl, ?_⟩ | refine ⟨4, _, rfl, ?_⟩ | refine ⟨5, _, rfl, ?_⟩ | refine ⟨_, rfl, ?_⟩ | intro _)
    refine ⟨t1, trivial, ?_⟩
    refine SW.le ?_
    repeat (first | exact SW.nil | refine SW.cons ?_ | refine SW.cells (by repeat (first | exact trivial | refine ⟨AVle.refl _, ?_⟩ | refine ⟨AVle.nilFull, ?_⟩ | refine ⟨AVle.tk, ?_⟩ | refine ⟨AVle.nil, ?_⟩)) rfl ?_ | refine SW.full ?_ | refine SW.drop ?_)
  · intro d z _
    repeat (first | refine AW_seq ?_ | refine det_step rfl ?_ | refine AW_region tab_ok ?_ | refine AW_block ?_ | refine AW_scope ?_ | refine AW_exit ?_ | refine AW_goto ?_ | refine AW_label ?_ | refine AW_skip ?_ | refine ⟨rfl, ?_⟩ | refine ⟨⟨_, rfl⟩, ?_⟩ | refine ⟨⟨Nat.le_of_ble_eq_true rfl, Nat.le_of_ble_eq_true rfl⟩, ?_⟩ | refine ⟨Nat.le_of_ble_eq_true rfl, ?_⟩ | refine ⟨_, _, rfl, ?_⟩ | refine ⟨0, _, rfl, ?_⟩ | refine ⟨1, _, rfl, ?_⟩ | refine ⟨2, _, rfl, ?_⟩ | refine ⟨3, _, rfl, ?_⟩ | refine ⟨4, _, rfl, ?_⟩ | refine ⟨5, _, rfl, ?_⟩ | refine ⟨_, rfl, ?_⟩ | intro _)
    refine AW_ret ?_
    repeat (first | refine ⟨0, rfl, ?_⟩ | refine ⟨1, rfl, ?_⟩ | refine ⟨2, rfl, ?_⟩ | refine ⟨3, rfl, ?_⟩)
    refine ⟨_, R, ?_, (by repeat (first | exact SLe.rfl | refine SLe.tail ?_)), rfl, rfl⟩
    rw [setsR, if_pos ⟨hia, hib⟩]
    refine AVle.tup ⟨?_, AVle.refl _, trivial⟩
    rw [List.length_map]
    show AVle (.sl 1 (((bothL a b).take (bothL a b).length).map fun x => encR x.1) z) _
    rw [List.take_length]
    show AVle _ (.sl 1 ((uniR a b).map encR) .no)
    rw [uniR, List.map_map]
    exact AVle.tk
  · intro d x Sc h
    exact h.elim
end Go.Proofs.Ytocbdcgbbdjhlaa

