/-
  Names. Own work.
-/
import Derived.Test.YtkmalncnaodkiaaDoorT3
set_option linter.all false
namespace Go.Proofs.YtkmalncnaodkiaaDoor
open Go.Aw
set_option maxHeartbeats 4000000

def okAt (j : Nat) (c : UInt8) : Bool := letterB c || (!decide (j = 0) && digitB c)
def nameB (s : List UInt8) : Bool := decide (1 ≤ s.length) && decide (s.length ≤ 40) && !decide (s = [95]) && (List.range s.length).all fun j => okAt j (s.getD j 0)
theorem name_false_at {s : List UInt8} {j : Nat} (h : j < s.length) (hb : okAt j s[j] = false) : nameB s = false := by
  have : ((List.range s.length).all fun j => okAt j (s.getD j 0)) = false := by
    rw [List.all_eq_false]
    exact ⟨j, List.mem_range.2 h, by rw [List.getD_eq_getElem?_getD, List.getElem?_eq_getElem h]; simpa using hb⟩
  rw [nameB, this]; simp
theorem name_true {s : List UInt8} (h1 : 1 ≤ s.length) (h2 : s.length ≤ 40) (h3 : s ≠ [95]) (h : ∀ (j : Nat) (hj : j < s.length), okAt j s[j] = true) : nameB s = true := by
  have : ((List.range s.length).all fun j => okAt j (s.getD j 0)) = true := by
    rw [List.all_eq_true]
    intro j hj
    have hj' := List.mem_range.1 hj
    rw [List.getD_eq_getElem?_getD, List.getElem?_eq_getElem hj']; exact h j hj'
  rw [nameB, this]; simp [h1, h2, h3]
theorem name_out {s : List UInt8} (h : s.length < 1 ∨ 40 < s.length ∨ s = [95]) : nameB s = false := by
  rcases h with h | h | h
  · simp [nameB, show ¬ 1 ≤ s.length by omega]
  · simp [nameB, show ¬ s.length ≤ 40 by omega]
  · simp [nameB, h]

theorem refName_ok (s : List UInt8) (R : List En) : ACall Tryd.prog 76 [.str s] R (fun r S => r = .bool (nameB s) ∧ S = R) := by
  refine ACall_body tab_ok Tryd.func76 rfl rfl rfl (by kernel_rfl) (Nat.le_of_ble_eq_true rfl) ?_
  all_goals (repeat (first | refine ga_ ?_ | intro _))
  all_goals (try (first | refine AW_cond rfl (fun h => ?_) (fun h => ?_) | refine ⟨fun h => ?_, fun h => ?_⟩))
  all_goals (try (repeat (first | refine ga_ ?_ | intro _)))
  all_goals (try (first | refine AW_cond rfl (fun h => ?_) (fun h => ?_) | refine ⟨fun h => ?_, fun h => ?_⟩))
  all_goals (try (repeat (first | refine ga_ ?_ | intro _)))
  all_goals (try (first | refine AW_cond rfl (fun h => ?_) (fun h => ?_) | refine ⟨fun h => ?_, fun h => ?_⟩))
  all_goals (try (repeat (first | refine ga_ ?_ | intro _)))
  · refine AW_ret ?_
    repeat (first | refine ⟨0, rfl, ?_⟩ | refine ⟨1, rfl, ?_⟩ | refine ⟨2, rfl, ?_⟩ | refine ⟨3, rfl, ?_⟩ | refine ⟨4, rfl, ?_⟩ | refine ⟨5, rfl, ?_⟩ | refine ⟨6, rfl, ?_⟩)
    refine ⟨_, R, AVle.eq ?_, (by repeat (first | exact SLe.rfl | refine SLe.tail ?_)), rfl, rfl⟩
    rw [name_out (.inl (by simp at h; omega))]; rfl
  · refine AW_ret ?_
    repeat (first | refine ⟨0, rfl, ?_⟩ | refine ⟨1, rfl, ?_⟩ | refine ⟨2, rfl, ?_⟩ | refine ⟨3, rfl, ?_⟩ | refine ⟨4, rfl, ?_⟩ | refine ⟨5, rfl, ?_⟩ | refine ⟨6, rfl, ?_⟩)
    refine ⟨_, R, AVle.eq ?_, (by repeat (first | exact SLe.rfl | refine SLe.tail ?_)), rfl, rfl⟩
    rw [name_out (.inr (.inl (by simp at h; omega)))]; rfl
  · refine AW_ret ?_
    repeat (first | refine ⟨0, rfl, ?_⟩ | refine ⟨1, rfl, ?_⟩ | refine ⟨2, rfl, ?_⟩ | refine ⟨3, rfl, ?_⟩ | refine ⟨4, rfl, ?_⟩ | refine ⟨5, rfl, ?_⟩ | refine ⟨6, rfl, ?_⟩)
    refine ⟨_, R, AVle.eq ?_, (by repeat (first | exact SLe.rfl | refine SLe.tail ?_)), rfl, rfl⟩
    rw [name_out (.inr (.inr (of_decide_eq_true h)))]; rfl
  rename_i h1 h2
  have h1' : 1 ≤ s.length := by simp at h1; omega
  have h2' : s.length ≤ 40 := by simp at h2; omega
  have h3' : s ≠ [95] := of_decide_eq_false h
  refine AW_for (α := Nat) (fun z => ⟨[(0, .str s), (3, .int .i64 (z : Nat))], []⟩) (fun z => R) (fun z => s.length - z) (fun z => z ≤ s.length ∧ ∀ (j : Nat) (hj : j < s.length), j < z → okAt j s[j] = true) (0) ?_ (weak_of ?_ rfl ?_) (fun z hz => ?_)
  · exact ⟨by omega, fun j _ h => absurd h (by simp)⟩
  · repeat (first | exact trivial | refine ⟨AVle.refl _, ?_⟩ | refine ⟨AVle.tk, ?_⟩ | refine ⟨AVle.nil, ?_⟩ | refine ⟨AVle.nilFull, ?_⟩ | refine ⟨AVle.eq (congrArg (AV.int .i64) (by first | (simp; done) | (simp; omega) | (rw [wrap_i64 (by first | omega | (simp; omega))]; first | rfl | omega | (simp; done) | (simp; omega)))), ?_⟩)
  · repeat (first | exact SLe.rfl | refine SLe.tail ?_ | refine SLe.full ?_)
  obtain ⟨hz, hok⟩ := hz
  repeat (first | refine go_ ?_ | intro _)
  refine AW_iff (z < s.length) rfl (by first | (simp; done) | (simp <;> omega) | decide) (fun h => ?_) (fun h => ?_)
  · have hlt := h
    repeat (first | refine go_ ?_ | intro _)
    refine at_list (z) (by first | rfl | omega | (rw [wrap_i64 (by omega)]; omega)) (by first | assumption | omega) ?_
    repeat (first | refine go_ ?_ | intro _)
    refine Or.inl ⟨⟨_, Tryd.func89, rfl, rfl⟩, ACall.mono ?_ (letter_ok s[z] _)⟩
    rintro _ S1 ⟨rfl, hS1⟩
    subst S1
    repeat (first | refine go_ ?_ | intro _)
    refine at_list (z) (by first | rfl | omega | (rw [wrap_i64 (by omega)]; omega)) (by first | assumption | omega) ?_
    repeat (first | refine go_ ?_ | intro _)
    refine Or.inl ⟨⟨_, Tryd.func90, rfl, rfl⟩, ACall.mono ?_ (digit_ok s[z] _)⟩
    rintro _ S1 ⟨rfl, hS1⟩
    subst S1
    repeat (first | refine go_ ?_ | intro _)
    have hb : okAt z s[z] = (letterB s[z] || (!decide (z = 0) && digitB s[z])) := rfl
    generalize letterB s[z] = lb at hb ⊢
    generalize digitB s[z] = db at hb ⊢
    have hnx : okAt z s[z] = true → ∀ (j : Nat) (hj : j < s.length), j < z + 1 → okAt j s[j] = true := fun ho j hj hjz => by
      by_cases e : j = z
      · subst e; exact ho
      · exact hok j hj (by omega)
    all_goals (repeat (first | refine ga_ ?_ | intro _))
    all_goals (try (first | refine AW_cond rfl (fun h => ?_) (fun h => ?_) | refine ⟨fun h => ?_, fun h => ?_⟩))
    all_goals (try (repeat (first | refine ga_ ?_ | intro _)))
    all_goals (try (first | refine AW_cond rfl (fun h => ?_) (fun h => ?_) | refine ⟨fun h => ?_, fun h => ?_⟩))
    all_goals (try (repeat (first | refine ga_ ?_ | intro _)))
    all_goals (try (first | refine AW_cond rfl (fun h => ?_) (fun h => ?_) | refine ⟨fun h => ?_, fun h => ?_⟩))
    all_goals (try (repeat (first | refine ga_ ?_ | intro _)))
    all_goals (try (first | refine AW_cond rfl (fun h => ?_) (fun h => ?_) | refine ⟨fun h => ?_, fun h => ?_⟩))
    all_goals (try (repeat (first | refine ga_ ?_ | intro _)))
    all_goals (try (first | refine AW_cond rfl (fun h => ?_) (fun h => ?_) | refine ⟨fun h => ?_, fun h => ?_⟩))
    all_goals (try (repeat (first | refine ga_ ?_ | intro _)))
    all_goals (try (refine AW_ret ?_; refine ⟨_, R, AVle.eq ?_, (by repeat (first | exact SLe.rfl | refine SLe.tail ?_)), rfl, rfl⟩; (rw [name_false_at hlt (by rw [hb]; simp at *; simp [*])]; rfl)))
    all_goals (refine ⟨z + 1, (by first | omega | (simp; omega)), ⟨by omega, hnx (by rw [hb]; simp at *; simp [*])⟩, weak_of (by repeat (first | exact trivial | refine ⟨AVle.refl _, ?_⟩ | refine ⟨AVle.tk, ?_⟩ | refine ⟨AVle.nil, ?_⟩ | refine ⟨AVle.nilFull, ?_⟩ | refine ⟨AVle.eq (congrArg (AV.int .i64) (by first | (simp; done) | (simp; omega) | (rw [wrap_i64 (by first | omega | (simp; omega))]; first | rfl | omega | (simp; done) | (simp; omega)))), ?_⟩)) rfl (by repeat (first | exact SLe.rfl | refine SLe.tail ?_ | refine SLe.full ?_))⟩)
  · repeat (first | refine go_ ?_ | intro _)
    refine AW_ret ?_
    repeat (first | refine ⟨0, rfl, ?_⟩ | refine ⟨1, rfl, ?_⟩ | refine ⟨2, rfl, ?_⟩ | refine ⟨3, rfl, ?_⟩ | refine ⟨4, rfl, ?_⟩ | refine ⟨5, rfl, ?_⟩ | refine ⟨6, rfl, ?_⟩)
    refine ⟨_, R, AVle.eq ?_, (by repeat (first | exact SLe.rfl | refine SLe.tail ?_)), rfl, rfl⟩
    rw [name_true h1' h2' h3' (fun j hj => hok j hj (by omega))]; rfl

def letN (c : Nat) : Bool := decide (97 ≤ c) && decide (c ≤ 122) || decide (65 ≤ c) && decide (c ≤ 90) || decide (c = 95)
def digN (c : Nat) : Bool := decide (48 ≤ c) && decide (c ≤ 57)
theorem name_ok (s : List UInt8) (R : List En) : ACall Tryd.prog 80 [.str s] R (fun r S => r = .bool (nameB s) ∧ S = R) := by
  refine ACall_body tab_ok Tryd.func80 rfl rfl rfl (by kernel_rfl) (Nat.le_of_ble_eq_true rfl) ?_
  all_goals (repeat (first | refine ga_ ?_ | intro _))
  all_goals (try (first | refine AW_cond rfl (fun h => ?_) (fun h => ?_) | refine ⟨fun h => ?_, fun h => ?_⟩))
  all_goals (try (repeat (first | refine ga_ ?_ | intro _)))
  all_goals (try (first | refine AW_cond rfl (fun h => ?_) (fun h => ?_) | refine ⟨fun h => ?_, fun h => ?_⟩))
  all_goals (try (repeat (first | refine ga_ ?_ | intro _)))
  all_goals (try (first | refine AW_cond rfl (fun h => ?_) (fun h => ?_) | refine ⟨fun h => ?_, fun h => ?_⟩))
  all_goals (try (repeat (first | refine ga_ ?_ | intro _)))
  · refine AW_ret ?_
    repeat (first | refine ⟨0, rfl, ?_⟩ | refine ⟨1, rfl, ?_⟩ | refine ⟨2, rfl, ?_⟩ | refine ⟨3, rfl, ?_⟩ | refine ⟨4, rfl, ?_⟩ | refine ⟨5, rfl, ?_⟩ | refine ⟨6, rfl, ?_⟩)
    refine ⟨_, R, AVle.eq ?_, (by repeat (first | exact SLe.rfl | refine SLe.tail ?_)), rfl, rfl⟩
    have e : s = [] := by have := of_decide_eq_true h; simpa using this
    rw [name_out (.inl (by rw [e]; simp))]; rfl
  · refine AW_ret ?_
    repeat (first | refine ⟨0, rfl, ?_⟩ | refine ⟨1, rfl, ?_⟩ | refine ⟨2, rfl, ?_⟩ | refine ⟨3, rfl, ?_⟩ | refine ⟨4, rfl, ?_⟩ | refine ⟨5, rfl, ?_⟩ | refine ⟨6, rfl, ?_⟩)
    refine ⟨_, R, AVle.eq ?_, (by repeat (first | exact SLe.rfl | refine SLe.tail ?_)), rfl, rfl⟩
    rw [name_out (.inr (.inr (of_decide_eq_true h)))]; rfl
  · refine AW_ret ?_
    repeat (first | refine ⟨0, rfl, ?_⟩ | refine ⟨1, rfl, ?_⟩ | refine ⟨2, rfl, ?_⟩ | refine ⟨3, rfl, ?_⟩ | refine ⟨4, rfl, ?_⟩ | refine ⟨5, rfl, ?_⟩ | refine ⟨6, rfl, ?_⟩)
    refine ⟨_, R, AVle.eq ?_, (by repeat (first | exact SLe.rfl | refine SLe.tail ?_)), rfl, rfl⟩
    rw [name_out (.inr (.inl (by simp at h; omega)))]; rfl
  rename_i h1 h2 b
  have h1' : 1 ≤ s.length := by
    have : s ≠ [] := of_decide_eq_false h1
    exact List.length_pos_iff.2 this
  have h2' : s.length ≤ 40 := by simp at h; omega
  have h3' : s ≠ [95] := of_decide_eq_false h2
  refine AW_for (α := Nat) (fun z => ⟨[(0, .str s), (18, .ptr b 0)], []⟩) (fun z => .obj b (.stringIter ⟨s.toArray⟩ z) :: R) (fun z => s.length - z) (fun z => z ≤ s.length ∧ ∀ (j : Nat) (hj : j < s.length), j < z → okAt j s[j] = true) (0) ?_ (weak_of ?_ rfl ?_) (fun z hz => ?_)
  · exact ⟨by omega, fun j _ h => absurd h (by simp)⟩
  · repeat (first | exact trivial | refine ⟨AVle.refl _, ?_⟩ | refine ⟨AVle.tk, ?_⟩ | refine ⟨AVle.nil, ?_⟩ | refine ⟨AVle.nilFull, ?_⟩ | refine ⟨AVle.eq (congrArg (AV.int .i64) (by first | (simp; done) | (simp; omega) | (rw [wrap_i64 (by first | omega | (simp; omega))]; first | rfl | omega | (simp; done) | (simp; omega)))), ?_⟩)
  · repeat (first | exact SLe.rfl | refine SLe.tail ?_ | refine SLe.full ?_)
  obtain ⟨hz, hok⟩ := hz
  obtain ⟨i, hiz⟩ : ∃ i, i = z := ⟨z, rfl⟩
  subst hiz
  repeat (first | refine go_ ?_ | intro _)
  refine ⟨0, s, i, rfl, hz, le_maxLen.2 (by omega), fun hlt c wd hc1 hc2 hw hcm => ?_, fun hze => ?_⟩
  · have hnx : okAt i s[i] = true → ∀ (j : Nat) (hj : j < s.length), j < i + 1 → okAt j s[j] = true := fun ho j hj hjz => by
      by_cases e : j = i
      · subst e; exact ho
      · exact hok j hj (by omega)
    have hb : okAt i s[i] = (letN c || (!decide (i = 0) && digN c)) ∧ (okAt i s[i] = true → wd = 1) := by
      have e0 : okAt i s[i] = (letN s[i].toNat || (!decide (i = 0) && digN s[i].toNat)) := rfl
      by_cases h7 : s[i].toNat < 128
      · obtain ⟨rfl, rfl⟩ := hc1 h7
        exact ⟨e0, fun _ => rfl⟩
      · have hc := hc2 (by omega)
        have e1 : letN c = false := by simp [letN]; omega
        have e2 : digN c = false := by simp [digN]; omega
        have e3 : letN s[i].toNat = false := by simp [letN]; omega
        have e4 : digN s[i].toNat = false := by simp [digN]; omega
        rw [e0, e1, e2, e3, e4]
        exact ⟨by simp, fun h => by simp at h⟩
    obtain ⟨hb, hw1⟩ := hb
    clear hc1 hc2 h
    repeat (first | refine go_ ?_ | intro _)
    refine AW_true (b := true) rfl (by first | rfl | (simp; done) | (simp; omega) | decide) ?_
    refine AW_skip ?_
    refine AW_block ?_
    refine AW_cut2 (α := Unit) (fun z => ⟨[(0, .str s), (3, .int .i64 (i : Nat)), (4, .int .i32 (c : Nat)), (5, .bool (letN c)), (18, .ptr b 0)], []⟩) (fun z => .obj b (.stringIter ⟨s.toArray⟩ (i + wd)) :: R) (fun z => True) ?_ (fun z hz => ?_)
    · all_goals (repeat (first | refine ga_ ?_ | intro _))
      all_goals (try (first | refine AW_cond rfl (fun h => ?_) (fun h => ?_) | refine ⟨fun h => ?_, fun h => ?_⟩))
      all_goals (try (repeat (first | refine ga_ ?_ | intro _)))
      all_goals (try (first | refine AW_cond rfl (fun h => ?_) (fun h => ?_) | refine ⟨fun h => ?_, fun h => ?_⟩))
      all_goals (try (repeat (first | refine ga_ ?_ | intro _)))
      all_goals (try (first | refine AW_cond rfl (fun h => ?_) (fun h => ?_) | refine ⟨fun h => ?_, fun h => ?_⟩))
      all_goals (try (repeat (first | refine ga_ ?_ | intro _)))
      all_goals (try (first | refine AW_cond rfl (fun h => ?_) (fun h => ?_) | refine ⟨fun h => ?_, fun h => ?_⟩))
      all_goals (try (repeat (first | refine ga_ ?_ | intro _)))
      all_goals (try (first | refine AW_cond rfl (fun h => ?_) (fun h => ?_) | refine ⟨fun h => ?_, fun h => ?_⟩))
      all_goals (try (repeat (first | refine ga_ ?_ | intro _)))
      all_goals (try (first | refine AW_cond rfl (fun h => ?_) (fun h => ?_) | refine ⟨fun h => ?_, fun h => ?_⟩))
      all_goals (try (repeat (first | refine ga_ ?_ | intro _)))
      all_goals (try (first | refine AW_cond rfl (fun h => ?_) (fun h => ?_) | refine ⟨fun h => ?_, fun h => ?_⟩))
      all_goals (try (repeat (first | refine ga_ ?_ | intro _)))
      all_goals (refine ⟨(), trivial, weak_of ?_ rfl SLe.rfl⟩)
      all_goals (refine ⟨AVle.refl _, AVle.refl _, AVle.refl _, AVle.eq (congrArg AV.bool ?_), AVle.refl _, trivial⟩)
      all_goals (rw [Bool.eq_iff_iff]; simp [letN] at *; omega)
    · generalize letN c = lb at *
      clear hz
      all_goals (repeat (first | refine ga_ ?_ | intro _))
      all_goals (try (first | refine AW_cond rfl (fun h => ?_) (fun h => ?_) | refine ⟨fun h => ?_, fun h => ?_⟩))
      all_goals (try (repeat (first | refine ga_ ?_ | intro _)))
      all_goals (try (first | refine AW_cond rfl (fun h => ?_) (fun h => ?_) | refine ⟨fun h => ?_, fun h => ?_⟩))
      all_goals (try (repeat (first | refine ga_ ?_ | intro _)))
      all_goals (try (first | refine AW_cond rfl (fun h => ?_) (fun h => ?_) | refine ⟨fun h => ?_, fun h => ?_⟩))
      all_goals (try (repeat (first | refine ga_ ?_ | intro _)))
      all_goals (try (first | refine AW_cond rfl (fun h => ?_) (fun h => ?_) | refine ⟨fun h => ?_, fun h => ?_⟩))
      all_goals (try (repeat (first | refine ga_ ?_ | intro _)))
      all_goals (try (first | refine AW_cond rfl (fun h => ?_) (fun h => ?_) | refine ⟨fun h => ?_, fun h => ?_⟩))
      all_goals (try (repeat (first | refine ga_ ?_ | intro _)))
      all_goals (try (first | refine AW_cond rfl (fun h => ?_) (fun h => ?_) | refine ⟨fun h => ?_, fun h => ?_⟩))
      all_goals (try (repeat (first | refine ga_ ?_ | intro _)))
      all_goals (try (first | refine AW_cond rfl (fun h => ?_) (fun h => ?_) | refine ⟨fun h => ?_, fun h => ?_⟩))
      all_goals (try (repeat (first | refine ga_ ?_ | intro _)))
      all_goals (try (refine AW_ret ?_; refine ⟨_, R, AVle.eq ?_, (by repeat (first | exact SLe.rfl | refine SLe.tail ?_)), rfl, rfl⟩; (rw [name_false_at hlt (by rw [hb]; simp [digN] at *; first | done | omega | (simp [*]; done) | (simp [*]; omega))]; rfl)))
      all_goals (obtain rfl := hw1 (by rw [hb]; simp [digN] at *; first | done | omega | (simp [*]; done) | (simp [*]; omega)))
      all_goals (refine ⟨i + 1, (by first | omega | (simp; omega)), ⟨by omega, hnx (by rw [hb]; simp [digN] at *; first | done | omega | (simp [*]; done) | (simp [*]; omega))⟩, weak_of (by repeat (first | exact trivial | refine ⟨AVle.refl _, ?_⟩ | refine ⟨AVle.tk, ?_⟩ | refine ⟨AVle.nil, ?_⟩ | refine ⟨AVle.nilFull, ?_⟩ | refine ⟨AVle.eq (congrArg (AV.int .i64) (by first | (simp; done) | (simp; omega) | (rw [wrap_i64 (by first | omega | (simp; omega))]; first | rfl | omega | (simp; done) | (simp; omega)))), ?_⟩)) rfl (by repeat (first | exact SLe.rfl | refine SLe.tail ?_ | refine SLe.full ?_))⟩)
  · repeat (first | refine go_ ?_ | intro _)
    refine AW_false (b := false) rfl (by first | rfl | (simp; done) | (simp; omega) | decide) ?_
    repeat (first | refine go_ ?_ | intro _)
    refine AW_ret ?_
    repeat (first | refine ⟨0, rfl, ?_⟩ | refine ⟨1, rfl, ?_⟩ | refine ⟨2, rfl, ?_⟩ | refine ⟨3, rfl, ?_⟩ | refine ⟨4, rfl, ?_⟩ | refine ⟨5, rfl, ?_⟩ | refine ⟨6, rfl, ?_⟩)
    refine ⟨_, R, AVle.eq ?_, (by repeat (first | exact SLe.rfl | refine SLe.tail ?_)), rfl, rfl⟩
    rw [name_true h1' h2' h3' (fun j hj => hok j hj (by omega))]; rfl
end Go.Proofs.YtkmalncnaodkiaaDoor

