/-
  Few rows, sorted; what every law begins with. Own work.
-/
import Derived.Test.YtocbdcgbbdjhlaaR6
namespace Go.Proofs.Ytocbdcgbbdjhlaa
open Go.Aw
set_option maxHeartbeats 4000000

def eqR (a b : List V) : Bool := decide (cmpR a b = 0)
theorem sortEq_ok (x y : List V) (t t' : Tk) (R : List En) : ACall Try.prog 43 [.sl 3 (x.map encV) t, .sl 3 (y.map encV) t'] R (fun r S => r = .bool (eqR x y) ∧ S = R) := by
  refine ACall_body tab_ok Try.func43 rfl rfl rfl (by kernel_rfl) (Nat.le_of_ble_eq_true rfl) ?_
  repeat (first | refine AW_seq ?_ | refine det_step rfl ?_ | refine AW_region tab_ok ?_ | refine AW_block ?_ | refine AW_scope ?_ | refine AW_exit ?_ | refine AW_goto ?_ | refine AW_label ?_ | refine AW_skip ?_ | refine ⟨rfl, ?_⟩ | refine ⟨⟨_, rfl⟩, ?_⟩ | refine ⟨⟨Nat.le_of_ble_eq_true rfl, Nat.le_of_ble_eq_true rfl⟩, ?_⟩ | refine ⟨Nat.le_of_ble_eq_true rfl, ?_⟩ | refine ⟨_, _, rfl, ?_⟩ | refine ⟨0, _, rfl, ?_⟩ | refine ⟨1, _, rfl, ?_⟩ | refine ⟨2, _, rfl, ?_⟩ | refine ⟨3, _, rfl, ?_⟩ | refine ⟨4, _, rfl, ?_⟩ | refine ⟨5, _, rfl, ?_⟩ | refine ⟨_, rfl, ?_⟩ | intro _)
  refine Or.inl ⟨⟨_, Try.func11, rfl, rfl⟩, ACall.mono ?_ (compare_ok x y t t' _)⟩
  rintro _ S1 ⟨rfl, hS1⟩
  subst S1
  repeat (first | refine AW_seq ?_ | refine det_step rfl ?_ | refine AW_region tab_ok ?_ | refine AW_block ?_ | refine AW_scope ?_ | refine AW_exit ?_ | refine AW_goto ?_ | refine AW_label ?_ | refine AW_skip ?_ | refine ⟨rfl, ?_⟩ | refine ⟨⟨_, rfl⟩, ?_⟩ | refine ⟨⟨Nat.le_of_ble_eq_true rfl, Nat.le_of_ble_eq_true rfl⟩, ?_⟩ | refine ⟨Nat.le_of_ble_eq_true rfl, ?_⟩ | refine ⟨_, _, rfl, ?_⟩ | refine ⟨0, _, rfl, ?_⟩ | refine ⟨1, _, rfl, ?_⟩ | refine ⟨2, _, rfl, ?_⟩ | refine ⟨3, _, rfl, ?_⟩ | refine ⟨4, _, rfl, ?_⟩ | refine ⟨5, _, rfl, ?_⟩ | refine ⟨_, rfl, ?_⟩ | intro _)
  refine AW_ret ?_
  repeat (first | refine ⟨0, rfl, ?_⟩ | refine ⟨1, rfl, ?_⟩ | refine ⟨2, rfl, ?_⟩ | refine ⟨3, rfl, ?_⟩)
  refine ⟨_, R, AVle.eq ?_, (by repeat (first | exact SLe.rfl | refine SLe.tail ?_)), rfl, rfl⟩
  rfl
theorem sortEq_call (x y : List V) (S : List En) (k : AV → List En → Prop) (h : k (.bool (eqR x y)) S) : aCallV Try.prog (.fn (.func 43) [] []) [encR x, encR y] S k := by
  refine Or.inl ⟨⟨_, Try.func43, rfl, rfl⟩, ACall.mono ?_ (sortEq_ok x y .no .no S)⟩
  rintro _ S1 ⟨rfl, hS1⟩
  subst S1
  exact h

theorem cptA_mem (eq : List V → List V → Bool) {r : List V} : ∀ (l : List (List V)) (p : List V), r ∈ cptA eq p l → r ∈ l
  | [], _, h => by simp [cptA] at h
  | x :: l, p, h => by
    simp only [cptA] at h
    split at h
    · exact List.mem_cons_of_mem _ (cptA_mem eq l x h)
    · rcases List.mem_cons.1 h with rfl | h
      · exact List.mem_cons_self
      · exact List.mem_cons_of_mem _ (cptA_mem eq l x h)
theorem cpt_mem {eq : List V → List V → Bool} {r : List V} {l : List (List V)} (h : r ∈ cpt eq l) : r ∈ l := by
  cases l with
  | nil => exact h
  | cons a l =>
    rcases List.mem_cons.1 h with rfl | h
    · exact List.mem_cons_self
    · exact List.mem_cons_of_mem _ (cptA_mem eq l a h)
theorem cptA_len (eq : List V → List V → Bool) : ∀ (l : List (List V)) (p : List V), (cptA eq p l).length ≤ l.length
  | [], _ => by simp [cptA]
  | x :: l, p => by
    simp only [cptA]
    split
    · have := cptA_len eq l x; simp; omega
    · have := cptA_len eq l x; simp; omega
theorem cpt_len (eq : List V → List V → Bool) (l : List (List V)) : (cpt eq l).length ≤ l.length := by
  cases l with
  | nil => simp [cpt]
  | cons a l => have := cptA_len eq l a; simp [cpt]; omega
theorem insR_perm (cmp : List V → List V → Int) (x : List V) (l : List (List V)) : (insR cmp x l).Perm (x :: l) := by
  induction l with
  | nil => exact List.Perm.refl _
  | cons y l ih =>
    simp only [insR]
    split
    · exact (ih.cons y).trans (List.Perm.swap x y l)
    · exact List.Perm.refl _
theorem insF_perm (cmp : List V → List V → Int) (l : List (List V)) : (insF cmp l).Perm l := by
  rw [← List.reverse_reverse l]
  generalize l.reverse = r
  induction r with
  | nil => exact List.Perm.refl _
  | cons a r ih =>
    rw [List.reverse_cons, insF_snoc]
    exact (insR_perm cmp a _).trans ((ih.cons a).trans (List.perm_append_singleton a _).symm)
theorem insS_perm (cmp : List V → List V → Int) (l : List (List V)) : (insS cmp l).Perm l := (List.reverse_perm _).trans (insF_perm cmp l)

theorem compare_callR (x y : List V) (S : List En) (k : AV → List En → Prop) (h : k (.int .i64 (cmpR x y)) S) : aCallV Try.prog (.fn (.func 11) [] []) [encR x, encR y] S k :=
  compare_call x y .no .no S k h

theorem sort_few (l : List (List V)) (t : Tk) (R : List En) (hl : l.length < 20) (hr : ∀ r ∈ l, r.length ≤ 16777216) : ACall Try.prog 24 [.sl 1 (l.map encR) t] R (fun r S => r = encL (cpt eqR (insS cmpR l)) ∧ S = R) := by
  have hp := insS_perm cmpR l
  have hpl := hp.length_eq
  refine ACall_body tab_ok Try.func24 rfl rfl rfl (by kernel_rfl) (Nat.le_of_ble_eq_true rfl) ?_
  repeat (first | refine AW_seq ?_ | refine det_step rfl ?_ | refine AW_region tab_ok ?_ | refine AW_block ?_ | refine AW_scope ?_ | refine AW_exit ?_ | refine AW_goto ?_ | refine AW_label ?_ | refine AW_skip ?_ | refine ⟨rfl, ?_⟩ | refine ⟨⟨_, rfl⟩, ?_⟩ | refine ⟨⟨Nat.le_of_ble_eq_true rfl, Nat.le_of_ble_eq_true rfl⟩, ?_⟩ | refine ⟨Nat.le_of_ble_eq_true rfl, ?_⟩ | refine ⟨_, _, rfl, ?_⟩ | refine ⟨0, _, rfl, ?_⟩ | refine ⟨1, _, rfl, ?_⟩ | refine ⟨2, _, rfl, ?_⟩ | refine ⟨3, _, rfl, ?_⟩ | refine ⟨4, _, rfl, ?_⟩ | refine ⟨5, _, rfl, ?_⟩ | refine ⟨_, rfl, ?_⟩ | intro _)
  refine Or.inl ⟨⟨_, Try.func39, rfl, rfl⟩, ACall.mono ?_ (clone_rows l t R (by omega))⟩
  rintro _ S1 ⟨b, cap, rest, rfl, hcap, hS1⟩
  subst S1
  repeat (first | refine AW_seq ?_ | refine det_step rfl ?_ | refine AW_region tab_ok ?_ | refine AW_block ?_ | refine AW_scope ?_ | refine AW_exit ?_ | refine AW_goto ?_ | refine AW_label ?_ | refine AW_skip ?_ | refine ⟨rfl, ?_⟩ | refine ⟨⟨_, rfl⟩, ?_⟩ | refine ⟨⟨Nat.le_of_ble_eq_true rfl, Nat.le_of_ble_eq_true rfl⟩, ?_⟩ | refine ⟨Nat.le_of_ble_eq_true rfl, ?_⟩ | refine ⟨_, _, rfl, ?_⟩ | refine ⟨0, _, rfl, ?_⟩ | refine ⟨1, _, rfl, ?_⟩ | refine ⟨2, _, rfl, ?_⟩ | refine ⟨3, _, rfl, ?_⟩ | refine ⟨4, _, rfl, ?_⟩ | refine ⟨5, _, rfl, ?_⟩ | refine ⟨_, rfl, ?_⟩ | intro _)
  refine Or.inl ⟨⟨_, Try.func40, rfl, rfl⟩, ACall.mono ?_ (sortStable_few (.fn (.func 11) [] []) cmpR (fun a b S k h => compare_callR a b S k h) l b cap rest hl R)⟩
  rintro _ S1 ⟨rfl, hS1⟩
  subst S1
  repeat (first | refine AW_seq ?_ | refine det_step rfl ?_ | refine AW_region tab_ok ?_ | refine AW_block ?_ | refine AW_scope ?_ | refine AW_exit ?_ | refine AW_goto ?_ | refine AW_label ?_ | refine AW_skip ?_ | refine ⟨rfl, ?_⟩ | refine ⟨⟨_, rfl⟩, ?_⟩ | refine ⟨⟨Nat.le_of_ble_eq_true rfl, Nat.le_of_ble_eq_true rfl⟩, ?_⟩ | refine ⟨Nat.le_of_ble_eq_true rfl, ?_⟩ | refine ⟨_, _, rfl, ?_⟩ | refine ⟨0, _, rfl, ?_⟩ | refine ⟨1, _, rfl, ?_⟩ | refine ⟨2, _, rfl, ?_⟩ | refine ⟨3, _, rfl, ?_⟩ | refine ⟨4, _, rfl, ?_⟩ | refine ⟨5, _, rfl, ?_⟩ | refine ⟨_, rfl, ?_⟩ | intro _)
  rw [← hpl]
  refine Or.inl ⟨⟨_, Try.func42, rfl, rfl⟩, ACall.mono ?_ (compact_ok (.fn (.func 43) [] []) eqR (fun a b S k h => sortEq_call a b S k h) (insS cmpR l) b cap rest (by omega) R)⟩
  rintro _ S1 ⟨rfl, hS1⟩
  subst S1
  repeat (first | refine AW_seq ?_ | refine det_step rfl ?_ | refine AW_region tab_ok ?_ | refine AW_block ?_ | refine AW_scope ?_ | refine AW_exit ?_ | refine AW_goto ?_ | refine AW_label ?_ | refine AW_skip ?_ | refine ⟨rfl, ?_⟩ | refine ⟨⟨_, rfl⟩, ?_⟩ | refine ⟨⟨Nat.le_of_ble_eq_true rfl, Nat.le_of_ble_eq_true rfl⟩, ?_⟩ | refine ⟨Nat.le_of_ble_eq_true rfl, ?_⟩ | refine ⟨_, _, rfl, ?_⟩ | refine ⟨0, _, rfl, ?_⟩ | refine ⟨1, _, rfl, ?_⟩ | refine ⟨2, _, rfl, ?_⟩ | refine ⟨3, _, rfl, ?_⟩ | refine ⟨4, _, rfl, ?_⟩ | refine ⟨5, _, rfl, ?_⟩ | refine ⟨_, rfl, ?_⟩ | intro _)
  refine Or.inl ⟨⟨_, Try.func41, rfl, rfl⟩, ACall.mono ?_ (copied_ok (cpt eqR (insS cmpR l)) .no R (by have := cpt_len eqR (insS cmpR l); omega) (fun r h => hr r (hp.mem_iff.1 (cpt_mem h))))⟩
  rintro _ S1 ⟨rfl, hS1⟩
  subst S1
  repeat (first | refine AW_seq ?_ | refine det_step rfl ?_ | refine AW_region tab_ok ?_ | refine AW_block ?_ | refine AW_scope ?_ | refine AW_exit ?_ | refine AW_goto ?_ | refine AW_label ?_ | refine AW_skip ?_ | refine ⟨rfl, ?_⟩ | refine ⟨⟨_, rfl⟩, ?_⟩ | refine ⟨⟨Nat.le_of_ble_eq_true rfl, Nat.le_of_ble_eq_true rfl⟩, ?_⟩ | refine ⟨Nat.le_of_ble_eq_true rfl, ?_⟩ | refine ⟨_, _, rfl, ?_⟩ | refine ⟨0, _, rfl, ?_⟩ | refine ⟨1, _, rfl, ?_⟩ | refine ⟨2, _, rfl, ?_⟩ | refine ⟨3, _, rfl, ?_⟩ | refine ⟨4, _, rfl, ?_⟩ | refine ⟨5, _, rfl, ?_⟩ | refine ⟨_, rfl, ?_⟩ | intro _)
  refine AW_ret ?_
  repeat (first | refine ⟨0, rfl, ?_⟩ | refine ⟨1, rfl, ?_⟩ | refine ⟨2, rfl, ?_⟩ | refine ⟨3, rfl, ?_⟩)
  refine ⟨_, R, AVle.eq ?_, (by repeat (first | exact SLe.rfl | refine SLe.tail ?_)), rfl, rfl⟩
  rfl
end Go.Proofs.Ytocbdcgbbdjhlaa

