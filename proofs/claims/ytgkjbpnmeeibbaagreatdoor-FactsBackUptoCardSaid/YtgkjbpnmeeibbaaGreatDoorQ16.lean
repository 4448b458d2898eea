/-
  Which terms, atoms and parts may be, by the book. Own work.
-/
import Derived.Test.YtgkjbpnmeeibbaaGreatDoorQ8
set_option linter.all false
namespace Go.Proofs.YtgkjbpnmeeibbaaGreatDoor.Tree
open Go.Aw Go.RowKit
set_option maxHeartbeats 4000000
set_option maxRecDepth 4000

theorem refLeaf_ok (t : T) (R : List En) : ACall Tryz.prog 141 [encU t] R (fun r S => r = .bool (leafB t) ∧ S = R) := by
  have kn := refName_ok t.s
  refine ACall_body tab_ok Tryz.func141 rfl rfl rfl (by kernel_rfl) (Nat.le_of_ble_eq_true rfl) ?_
  repeat (first | refine go_ ?_ | intro _)
  refine Or.inl ⟨⟨_, Tryz.func95, rfl, rfl⟩, ACall.mono ?_ (kn _)⟩
  rintro _ S1 ⟨rfl, hS1⟩
  subst S1
  repeat (first | refine go_ ?_ | intro _)
  refine AW_iff (t.op = 1) rfl (by first | (simp; done) | (simp <;> omega) | decide) (fun h => ?_) (fun h => ?_)
  · have h1 := h
    all_goals (repeat (first | refine ga_ ?_ | intro _))
    all_goals (try (first | refine AW_cond rfl (fun h => ?_) (fun h => ?_) | refine ⟨fun h => ?_, fun h => ?_⟩))
    all_goals (try (repeat (first | refine ga_ ?_ | intro _)))
    all_goals (try (first | refine AW_cond rfl (fun h => ?_) (fun h => ?_) | refine ⟨fun h => ?_, fun h => ?_⟩))
    all_goals (try (repeat (first | refine ga_ ?_ | intro _)))
    all_goals (try (first | refine AW_cond rfl (fun h => ?_) (fun h => ?_) | refine ⟨fun h => ?_, fun h => ?_⟩))
    all_goals (try (repeat (first | refine ga_ ?_ | intro _)))
    all_goals (refine AW_ret ?_)
    all_goals (refine ⟨_, R, AVle.eq ?_, sle_, rfl, rfl⟩)
    all_goals (show AV.bool _ = AV.bool _; congr 1; rw [leafB, bareB, if_pos h1]; simp_all)
  have h1 := h
  repeat (first | refine go_ ?_ | intro _)
  refine AW_iff (t.op = 2) rfl (by first | (simp; done) | (simp <;> omega) | decide) (fun h => ?_) (fun h => ?_)
  · have h2 := h
    all_goals (repeat (first | refine ga_ ?_ | intro _))
    all_goals (try (first | refine AW_cond rfl (fun h => ?_) (fun h => ?_) | refine ⟨fun h => ?_, fun h => ?_⟩))
    all_goals (try (repeat (first | refine ga_ ?_ | intro _)))
    all_goals (try (first | refine AW_cond rfl (fun h => ?_) (fun h => ?_) | refine ⟨fun h => ?_, fun h => ?_⟩))
    all_goals (try (repeat (first | refine ga_ ?_ | intro _)))
    all_goals (try (first | refine AW_cond rfl (fun h => ?_) (fun h => ?_) | refine ⟨fun h => ?_, fun h => ?_⟩))
    all_goals (try (repeat (first | refine ga_ ?_ | intro _)))
    all_goals (refine AW_ret ?_)
    all_goals (refine ⟨_, R, AVle.eq ?_, sle_, rfl, rfl⟩)
    all_goals (show AV.bool _ = AV.bool _; congr 1; rw [leafB, bareB, if_neg h1, if_pos h2]; simp_all)
  have h2 := h
  repeat (first | refine go_ ?_ | intro _)
  refine AW_iff (t.op = 3) rfl (by first | (simp; done) | (simp <;> omega) | decide) (fun h => ?_) (fun h => ?_)
  · have h3 := h
    all_goals (repeat (first | refine ga_ ?_ | intro _))
    all_goals (try (first | refine AW_cond rfl (fun h => ?_) (fun h => ?_) | refine ⟨fun h => ?_, fun h => ?_⟩))
    all_goals (try (repeat (first | refine ga_ ?_ | intro _)))
    all_goals (try (first | refine AW_cond rfl (fun h => ?_) (fun h => ?_) | refine ⟨fun h => ?_, fun h => ?_⟩))
    all_goals (try (repeat (first | refine ga_ ?_ | intro _)))
    all_goals (try (first | refine AW_cond rfl (fun h => ?_) (fun h => ?_) | refine ⟨fun h => ?_, fun h => ?_⟩))
    all_goals (try (repeat (first | refine ga_ ?_ | intro _)))
    all_goals (refine AW_ret ?_)
    all_goals (refine ⟨_, R, AVle.eq ?_, sle_, rfl, rfl⟩)
    all_goals (show AV.bool _ = AV.bool _; congr 1; rw [leafB, bareB, if_neg h1, if_neg h2, if_pos h3]; simp_all)
  have h3 := h
  repeat (first | refine go_ ?_ | intro _)
  refine AW_iff (t.op = 4) rfl (by first | (simp; done) | (simp <;> omega) | decide) (fun h => ?_) (fun h => ?_)
  · have h4 := h
    all_goals (repeat (first | refine ga_ ?_ | intro _))
    all_goals (try (first | refine AW_cond rfl (fun h => ?_) (fun h => ?_) | refine ⟨fun h => ?_, fun h => ?_⟩))
    all_goals (try (repeat (first | refine ga_ ?_ | intro _)))
    all_goals (try (first | refine AW_cond rfl (fun h => ?_) (fun h => ?_) | refine ⟨fun h => ?_, fun h => ?_⟩))
    all_goals (try (repeat (first | refine ga_ ?_ | intro _)))
    all_goals (try (first | refine AW_cond rfl (fun h => ?_) (fun h => ?_) | refine ⟨fun h => ?_, fun h => ?_⟩))
    all_goals (try (repeat (first | refine ga_ ?_ | intro _)))
    all_goals (refine AW_ret ?_)
    all_goals (refine ⟨_, R, AVle.eq ?_, sle_, rfl, rfl⟩)
    all_goals (show AV.bool _ = AV.bool _; congr 1; rw [leafB, bareB, if_neg h1, if_neg h2, if_neg h3, if_pos (.inl h4)]; simp_all)
  have h4 := h
  repeat (first | refine go_ ?_ | intro _)
  refine AW_ret ?_
  repeat refine mk_ ?_
  refine ⟨_, R, AVle.eq ?_, sle_, rfl, rfl⟩
  refine congrArg AV.bool (show false = leafB t from ?_)
  by_cases h0 : t.op = 0
  · rw [leafB, decide_eq_true h0]; rfl
  · rw [leafB, bareB, if_neg h1, if_neg h2, if_neg h3, if_neg (by omega)]; simp

theorem refTerm_ok : ∀ (h : Nat) (t : T) (R : List En), h ≤ 1000 → ACall Tryz.prog 121 [encU t, .int .i64 (h : Nat)] R (fun r S => r = .bool (rightT t h) ∧ S = R)
  | 0, t, R, _ => by
    refine ACall_body tab_ok Tryz.func121 rfl rfl rfl (by kernel_rfl) (Nat.le_of_ble_eq_true rfl) ?_
    repeat (first | refine ga_ ?_ | intro _)
    refine AW_ret ?_
    repeat refine mk_ ?_
    refine ⟨_, R, AVle.eq ?_, sle_, rfl, rfl⟩
    rw [rightT]; rfl
  | m + 1, t, R, hm => by
    have k2 := refTwo_ok t.op
    have kb := refLeaf_ok t
    refine ACall_body tab_ok Tryz.func121 rfl rfl rfl (by kernel_rfl) (Nat.le_of_ble_eq_true rfl) ?_
    repeat (first | refine go_ ?_ | intro _)
    rename_i p
    refine AW_iff (((m + 1 : Nat) : Int) < 1) rfl (by first | (simp; done) | (simp <;> omega) | decide) (fun h => ?_) (fun h => ?_)
    · omega
    repeat (first | refine go_ ?_ | intro _)
    refine Or.inl ⟨⟨_, Tryz.func97, rfl, rfl⟩, ACall.mono ?_ (k2 _)⟩
    rintro _ S1 ⟨rfl, hS1⟩
    subst S1
    repeat (first | refine go_ ?_ | intro _)
    refine AW_cond (b := !twoB t.op) rfl (fun h => ?_) (fun h => ?_)
    · have h2 : twoB t.op = false := by simpa using h
      repeat (first | refine go_ ?_ | intro _)
      refine Or.inl ⟨⟨_, Tryz.func141, rfl, rfl⟩, ACall.mono ?_ (kb _)⟩
      rintro _ S1 ⟨rfl, hS1⟩
      subst S1
      repeat (first | refine go_ ?_ | intro _)
      refine AW_ret ?_
      repeat refine mk_ ?_
      refine ⟨_, R, AVle.eq ?_, sle_, rfl, rfl⟩
      rw [rightT, if_pos h2]; rfl
    have h2 : ¬ twoB t.op = false := by simpa using h
    repeat (first | refine go_ ?_ | intro _)
    refine gsplit (t.s ≠ []) (by first | (simp; done) | (simp <;> omega) | decide) (fun h => ?_) (fun h => ?_)
    · have e : rightT t (m + 1) = false := by rw [rightT, if_neg h2]; simp [h]
      repeat (first | refine ga_ ?_ | intro _)
      refine AW_ret ?_
      repeat refine mk_ ?_
      refine ⟨_, R, AVle.eq ?_, sle_, rfl, rfl⟩
      rw [e]; rfl
    have h3 : t.s = [] := Decidable.not_not.1 h
    repeat (first | refine ga_ ?_ | intro _)
    refine gsplit (t.n ≠ 0) (by first | (simp; done) | (simp <;> omega) | decide) (fun h => ?_) (fun h => ?_)
    · have e : rightT t (m + 1) = false := by rw [rightT, if_neg h2]; simp [h]
      repeat (first | refine ga_ ?_ | intro _)
      refine AW_ret ?_
      repeat refine mk_ ?_
      refine ⟨_, R, AVle.eq ?_, sle_, rfl, rfl⟩
      rw [e]; rfl
    have h4 : t.n = 0 := Decidable.not_not.1 h
    repeat (first | refine ga_ ?_ | intro _)
    refine AW_iff (t.l.length ≠ 2) rfl (by first | (simp; done) | (simp <;> omega) | decide) (fun h => ?_) (fun h => ?_)
    · have e : rightT t (m + 1) = false := by rw [rightT, if_neg h2]; simp [h]
      repeat (first | refine ga_ ?_ | intro _)
      refine AW_ret ?_
      repeat refine mk_ ?_
      refine ⟨_, R, AVle.eq ?_, sle_, rfl, rfl⟩
      rw [e]; rfl
    have h5 : t.l.length = 2 := Decidable.not_not.1 h
    have e0 : rightT t (m + 1) = t.l.all fun x => !decide (x.op = 3) && (!decide (x.op = 4) && rightT x m) := by rw [rightT, if_neg h2]; simp [h3, h4, h5]
    repeat (first | refine go_ ?_ | intro _)
    refine AW_for (α := Nat) (fun z => ⟨[(1, .int .i64 ((m + 1 : Nat) : Int)), (2, .ptr p 0), (5, .int .i64 (z : Nat))], []⟩) (fun z => .cells p (cT t) :: R) (fun z => 2 - z) (fun z => z ≤ 2 ∧ ∀ (i : Nat) (hi : i < t.l.length), i < z → (!decide (t.l[i].op = 3) && (!decide (t.l[i].op = 4) && rightT t.l[i] m)) = true) (0) ?_ (weak_of ?_ rfl ?_) (fun z hz => ?_)
    · exact ⟨by omega, fun i _ h => by omega⟩
    · repeat (first | exact trivial | refine env_ ?_)
    · repeat (first | exact SLe.rfl | refine SLe.tail ?_ | refine SLe.full ?_)
    obtain ⟨i1, i2⟩ := hz
    repeat (first | refine go_ ?_ | intro _)
    refine AW_iff (z < 2) rfl (by first | (simp; done) | (simp <;> omega) | decide) (fun h => ?_) (fun h => ?_)
    · have hlt : z < t.l.length := by omega
      obtain ⟨x, hx⟩ : ∃ x, x = t.l[z] := ⟨_, rfl⟩
      have kt := fun R => refTerm_ok m x R (by omega)
      have bad : (!decide (x.op = 3) && (!decide (x.op = 4) && rightT x m)) = false → rightT t (m + 1) = false := fun hb => by
        rw [e0, List.all_eq_false]
        exact ⟨_, List.getElem_mem hlt, by rw [← hx, hb]; simp⟩
      repeat (first | refine go_ ?_ | intro _)
      refine at_get (z) (encU x) (by first | rfl | omega | (rw [wrap_i64 (by omega)]; omega)) (by rw [hx]; exact encTs_get hlt) ?_
      repeat (first | refine go_ ?_ | intro _)
      refine gsplit (x.op = 3) (by first | (simp; done) | (simp <;> omega) | decide) (fun h => ?_) (fun h => ?_)
      · repeat (first | refine ga_ ?_ | intro _)
        refine AW_ret ?_
        repeat refine mk_ ?_
        refine ⟨_, R, AVle.eq ?_, sle_, rfl, rfl⟩
        rw [bad (by simp [h])]; rfl
      have hx3 := h
      repeat (first | refine ga_ ?_ | intro _)
      refine at_get (z) (encU x) (by first | rfl | omega | (rw [wrap_i64 (by omega)]; omega)) (by rw [hx]; exact encTs_get hlt) ?_
      repeat (first | refine go_ ?_ | intro _)
      refine gsplit (x.op = 4) (by first | (simp; done) | (simp <;> omega) | decide) (fun h => ?_) (fun h => ?_)
      · repeat (first | refine ga_ ?_ | intro _)
        refine AW_ret ?_
        repeat refine mk_ ?_
        refine ⟨_, R, AVle.eq ?_, sle_, rfl, rfl⟩
        rw [bad (by simp [h])]; rfl
      have hx4 := h
      repeat (first | refine ga_ ?_ | intro _)
      refine at_get (z) (encU x) (by first | rfl | omega | (rw [wrap_i64 (by omega)]; omega)) (by rw [hx]; exact encTs_get hlt) ?_
      repeat (first | refine go_ ?_ | intro _)
      refine Or.inl ⟨⟨_, Tryz.func121, rfl, rfl⟩, ACall_args (ACall.mono ?_ (kt _)) ⟨AVle.refl _, AVle.eq (congrArg (AV.int .i64) (by rw [wrap_i64 (by omega)]; omega)), trivial⟩⟩
      rintro _ S1 ⟨rfl, hS1⟩
      subst S1
      repeat (first | refine go_ ?_ | intro _)
      refine AW_cond (b := !rightT x m) rfl (fun h => ?_) (fun h => ?_)
      · repeat (first | refine ga_ ?_ | intro _)
        refine AW_ret ?_
        repeat refine mk_ ?_
        refine ⟨_, R, AVle.eq ?_, sle_, rfl, rfl⟩
        rw [bad (by simp at h; simp [h])]; rfl
      · have hr : rightT x m = true := by simpa using h
        repeat (first | refine go_ ?_ | intro _)
        refine ⟨z + 1, ?_, ?_, weak_of ?_ rfl ?_⟩
        · omega
        · refine ⟨by omega, fun i hi hiz => ?_⟩
          by_cases hc : i < z
          · exact i2 i hi hc
          · obtain rfl : i = z := by omega
            rw [← hx, hr]; simp [hx3, hx4]
        · repeat (first | exact trivial | refine env_ ?_)
        · refine SW.le ?_
          repeat (first | exact SW.nil | refine sw_ ?_)
    · have e : rightT t (m + 1) = true := by
        rw [e0, List.all_eq_true]
        intro x hx
        obtain ⟨i, hi, rfl⟩ := List.mem_iff_getElem.1 hx
        exact i2 i hi (by omega)
      repeat (first | refine go_ ?_ | intro _)
      refine AW_ret ?_
      repeat refine mk_ ?_
      refine ⟨_, R, AVle.eq ?_, sle_, rfl, rfl⟩
      rw [e]; rfl
end Go.Proofs.YtgkjbpnmeeibbaaGreatDoor.Tree
/-
  Which atoms, parts, rules, relations and programs may be, by the book. Own work.
-/
namespace Go.Proofs.YtgkjbpnmeeibbaaGreatDoor.Tree
open Go.Aw Go.RowKit
set_option maxHeartbeats 4000000
set_option maxRecDepth 4000

theorem refNoTerm_ok (t : T) (R : List En) : ACall Tryz.prog 122 [encU t] R (fun r S => r = .bool (noT t) ∧ S = R) := by
  refine ACall_body tab_ok Tryz.func122 rfl rfl rfl (by kernel_rfl) (Nat.le_of_ble_eq_true rfl) ?_
  all_goals (repeat (first | refine ga_ ?_ | intro _))
  all_goals (try (first | refine AW_cond rfl (fun h => ?_) (fun h => ?_) | refine ⟨fun h => ?_, fun h => ?_⟩))
  all_goals (try (repeat (first | refine ga_ ?_ | intro _)))
  all_goals (try (first | refine AW_cond rfl (fun h => ?_) (fun h => ?_) | refine ⟨fun h => ?_, fun h => ?_⟩))
  all_goals (try (repeat (first | refine ga_ ?_ | intro _)))
  all_goals (try (first | refine AW_cond rfl (fun h => ?_) (fun h => ?_) | refine ⟨fun h => ?_, fun h => ?_⟩))
  all_goals (try (repeat (first | refine ga_ ?_ | intro _)))
  all_goals (try (first | refine AW_cond rfl (fun h => ?_) (fun h => ?_) | refine ⟨fun h => ?_, fun h => ?_⟩))
  all_goals (try (repeat (first | refine ga_ ?_ | intro _)))
  all_goals (refine AW_ret ?_)
  all_goals (refine ⟨_, R, AVle.eq ?_, sle_, rfl, rfl⟩)
  all_goals (show AV.bool _ = AV.bool _; congr 1; rw [noT, bareB]; simp_all)
theorem refNoAtom_ok (a : At) (R : List En) : ACall Tryz.prog 123 [encA a] R (fun r S => r = .bool (noA a) ∧ S = R) := by
  refine ACall_body tab_ok Tryz.func123 rfl rfl rfl (by kernel_rfl) (Nat.le_of_ble_eq_true rfl) ?_
  all_goals (repeat (first | refine ga_ ?_ | intro _))
  all_goals (try (first | refine AW_cond rfl (fun h => ?_) (fun h => ?_) | refine ⟨fun h => ?_, fun h => ?_⟩))
  all_goals (try (repeat (first | refine ga_ ?_ | intro _)))
  all_goals (try (first | refine AW_cond rfl (fun h => ?_) (fun h => ?_) | refine ⟨fun h => ?_, fun h => ?_⟩))
  all_goals (try (repeat (first | refine ga_ ?_ | intro _)))
  all_goals (try (first | refine AW_cond rfl (fun h => ?_) (fun h => ?_) | refine ⟨fun h => ?_, fun h => ?_⟩))
  all_goals (try (repeat (first | refine ga_ ?_ | intro _)))
  all_goals (try (first | refine AW_cond rfl (fun h => ?_) (fun h => ?_) | refine ⟨fun h => ?_, fun h => ?_⟩))
  all_goals (try (repeat (first | refine ga_ ?_ | intro _)))
  all_goals (refine AW_ret ?_)
  all_goals (refine ⟨_, R, AVle.eq ?_, sle_, rfl, rfl⟩)
  all_goals (show AV.bool _ = AV.bool _; congr 1; rw [noA]; simp_all)
theorem refAtom_ok (a : At) (R : List En) : ACall Tryz.prog 96 [encA a] R (fun r S => r = .bool (rightA a) ∧ S = R) := by
  have kn := refName_ok a.rel
  refine ACall_body tab_ok Tryz.func96 rfl rfl rfl (by kernel_rfl) (Nat.le_of_ble_eq_true rfl) ?_
  repeat (first | refine go_ ?_ | intro _)
  rename_i p
  refine Or.inl ⟨⟨_, Tryz.func95, rfl, rfl⟩, ACall.mono ?_ (kn _)⟩
  rintro _ S1 ⟨rfl, hS1⟩
  subst S1
  repeat (first | refine go_ ?_ | intro _)
  refine gsplit (nameB a.rel = false) (by first | (simp; done) | (simp <;> omega) | decide) (fun h => ?_) (fun h => ?_)
  · have e : rightA a = false := by simp [rightA, h]
    repeat (first | refine ga_ ?_ | intro _)
    refine AW_ret ?_
    repeat refine mk_ ?_
    refine ⟨_, R, AVle.eq ?_, sle_, rfl, rfl⟩
    rw [e]; rfl
  have h1 : nameB a.rel = true := by simpa using h
  repeat (first | refine ga_ ?_ | intro _)
  refine gsplit (a.l.length < 1) (by rw [encTs_len, decide_eq_true_eq]; omega) (fun h => ?_) (fun h => ?_)
  · have e : rightA a = false := by simp [rightA, show a.l.length = 0 by omega]
    repeat (first | refine ga_ ?_ | intro _)
    refine AW_ret ?_
    repeat refine mk_ ?_
    refine ⟨_, R, AVle.eq ?_, sle_, rfl, rfl⟩
    rw [e]; rfl
  have h2 : ¬ a.l.length = 0 := by omega
  repeat (first | refine ga_ ?_ | intro _)
  refine AW_iff (8 < a.l.length) rfl (by first | (simp; done) | (simp <;> omega) | decide) (fun h => ?_) (fun h => ?_)
  · have e : rightA a = false := by simp [rightA, h]
    repeat (first | refine ga_ ?_ | intro _)
    refine AW_ret ?_
    repeat refine mk_ ?_
    refine ⟨_, R, AVle.eq ?_, sle_, rfl, rfl⟩
    rw [e]; rfl
  have h3 := h
  have e0 : rightA a = a.l.all fun x => rightT x 20 := by rw [rightA, h1, decide_eq_false h2, decide_eq_false h3]; simp
  repeat (first | refine go_ ?_ | intro _)
  refine AW_for (α := Nat) (fun z => ⟨[(1, .ptr p 0), (4, .int .i64 (z : Nat))], []⟩) (fun z => .cells p (cA a) :: R) (fun z => a.l.length - z) (fun z => z ≤ a.l.length ∧ ∀ (i : Nat) (hi : i < a.l.length), i < z → rightT a.l[i] 20 = true) (0) ?_ (weak_of ?_ rfl ?_) (fun z hz => ?_)
  · exact ⟨by omega, fun i _ h => by omega⟩
  · repeat (first | exact trivial | refine env_ ?_)
  · repeat (first | exact SLe.rfl | refine SLe.tail ?_ | refine SLe.full ?_)
  obtain ⟨i1, i2⟩ := hz
  repeat (first | refine go_ ?_ | intro _)
  refine AW_iff (z < a.l.length) rfl (by first | (simp; done) | (simp <;> omega) | decide) (fun h => ?_) (fun h => ?_)
  · have hlt := h
    obtain ⟨x, hx⟩ : ∃ x, x = a.l[z] := ⟨_, rfl⟩
    have kt := fun R => refTerm_ok 20 x R (by omega)
    repeat (first | refine go_ ?_ | intro _)
    refine at_get (z) (encU x) (by first | rfl | omega | (rw [wrap_i64 (by omega)]; omega)) (by rw [hx]; exact encTs_get hlt) ?_
    repeat (first | refine go_ ?_ | intro _)
    refine Or.inl ⟨⟨_, Tryz.func121, rfl, rfl⟩, ACall.mono ?_ (kt _)⟩
    rintro _ S1 ⟨rfl, hS1⟩
    subst S1
    repeat (first | refine go_ ?_ | intro _)
    refine AW_cond (b := !rightT x 20) rfl (fun h => ?_) (fun h => ?_)
    · have e : rightA a = false := by
        rw [e0, List.all_eq_false]
        exact ⟨_, List.getElem_mem hlt, by simp at h; rw [← hx, h]; simp⟩
      repeat (first | refine go_ ?_ | intro _)
      refine AW_ret ?_
      repeat refine mk_ ?_
      refine ⟨_, R, AVle.eq ?_, sle_, rfl, rfl⟩
      rw [e]; rfl
    · have hr : rightT x 20 = true := by simpa using h
      repeat (first | refine go_ ?_ | intro _)
      refine ⟨z + 1, ?_, ?_, weak_of ?_ rfl ?_⟩
      · omega
      · refine ⟨by omega, fun i hi hiz => ?_⟩
        by_cases hc : i < z
        · exact i2 i hi hc
        · obtain rfl : i = z := by omega
          rw [← hx, hr]
      · repeat (first | exact trivial | refine env_ ?_)
      · repeat (first | exact SLe.rfl | refine SLe.tail ?_ | refine SLe.full ?_)
  · have e : rightA a = true := by
      rw [e0, List.all_eq_true]
      intro x hx
      obtain ⟨i, hi, rfl⟩ := List.mem_iff_getElem.1 hx
      exact i2 i hi (by omega)
    repeat (first | refine go_ ?_ | intro _)
    refine AW_ret ?_
    repeat refine mk_ ?_
    refine ⟨_, R, AVle.eq ?_, sle_, rfl, rfl⟩
    rw [e]; rfl

end Go.Proofs.YtgkjbpnmeeibbaaGreatDoor.Tree
/-
  Which parts of bodies may be, by the book. Own work.
-/
namespace Go.Proofs.YtgkjbpnmeeibbaaGreatDoor.Tree
open Go.Aw Go.RowKit
set_option maxHeartbeats 16000000
set_option maxRecDepth 4000

theorem refLit_ok (l : Li) (R : List En) : ACall Tryz.prog 98 [encL l] R (fun r S => r = .bool (rightL l) ∧ S = R) := by
  obtain ⟨op, a, x, y⟩ := l
  have ka := refAtom_ok a
  have kx := refNoTerm_ok x
  have ky := refNoTerm_ok y
  have kna := refNoAtom_ok a
  have kt := fun R => refTerm_ok 20 x R (by omega)
  have ku := fun R => refTerm_ok 20 y R (by omega)
  refine ACall_body tab_ok Tryz.func98 rfl rfl rfl (by kernel_rfl) (Nat.le_of_ble_eq_true rfl) ?_
  repeat (first | refine go_ ?_ | intro _)
  rename_i p
  refine Or.inl ⟨⟨_, Tryz.func121, rfl, rfl⟩, ACall.mono ?_ (kt _)⟩
  rintro _ S1 ⟨rfl, hS1⟩
  subst S1
  repeat (first | refine go_ ?_ | intro _)
  refine Or.inl ⟨⟨_, Tryz.func121, rfl, rfl⟩, ACall.mono ?_ (ku _)⟩
  rintro _ S1 ⟨rfl, hS1⟩
  subst S1
  repeat (first | refine go_ ?_ | intro _)
  refine Or.inl ⟨⟨_, Tryz.func96, rfl, rfl⟩, ACall.mono ?_ (ka _)⟩
  rintro _ S1 ⟨rfl, hS1⟩
  subst S1
  repeat (first | refine det_step rfl ?_ | refine ⟨rfl, ?_⟩ | refine ⟨⟨_, rfl⟩, ?_⟩ | refine ⟨⟨_, rfl, rfl⟩, ?_⟩ | refine ⟨⟨rfl, rfl⟩, ?_⟩ | refine ⟨⟨Nat.le_of_ble_eq_true rfl, Nat.le_of_ble_eq_true rfl⟩, ?_⟩ | refine ⟨Nat.le_of_ble_eq_true rfl, ?_⟩ | refine ⟨_, _, rfl, ?_⟩ | refine ⟨0, _, rfl, ?_⟩ | refine ⟨1, _, rfl, ?_⟩ | refine ⟨2, _, rfl, ?_⟩ | refine ⟨3, _, rfl, ?_⟩ | refine ⟨4, _, rfl, ?_⟩ | refine ⟨5, _, rfl, ?_⟩ | refine ⟨_, rfl, ?_⟩ | intro _)
  refine AW_weak (weak_of (l := [(1, .ptr p 0), (3, .bool (rightT x 20)), (4, .bool (rightT y 20)), (5, .bool (rightA a))]) (m := []) (S' := .cells p (cL ⟨op, a, x, y⟩) :: R) ?_ rfl ?_) ?_
  · repeat (first | exact trivial | refine env_ ?_)
  · refine SW.le ?_
    repeat (first | exact SW.nil | refine sw_ ?_)
  by_cases ho : op = 1 ∨ op = 2
  · have e : rightL ⟨op, a, x, y⟩ = (rightA a && (noT x && noT y)) := by rw [rightL, if_pos ho]
    rcases ho with rfl | rfl
    · repeat (first | refine ga_ ?_ | intro _)
      refine gsplit (rightA a = true) (by first | (simp; done) | (simp <;> omega) | decide) (fun h => ?_) (fun h => ?_)
      · have ha := h
        repeat (first | refine go_ ?_ | intro _)
        refine Or.inl ⟨⟨_, Tryz.func122, rfl, rfl⟩, ACall.mono ?_ (kx _)⟩
        rintro _ S1 ⟨rfl, hS1⟩
        subst S1
        repeat (first | refine go_ ?_ | intro _)
        refine gsplit (noT x = true) (by first | (simp; done) | (simp <;> omega) | decide) (fun h => ?_) (fun h => ?_)
        · have hx := h
          repeat (first | refine go_ ?_ | intro _)
          refine Or.inl ⟨⟨_, Tryz.func122, rfl, rfl⟩, ACall.mono ?_ (ky _)⟩
          rintro _ S1 ⟨rfl, hS1⟩
          subst S1
          repeat (first | refine go_ ?_ | intro _)
          refine AW_ret ?_
          repeat refine mk_ ?_
          refine ⟨_, R, AVle.eq ?_, sle_, rfl, rfl⟩
          rw [e, ha, hx]; rfl
        · have hx := h
          repeat (first | refine ga_ ?_ | intro _)
          refine AW_ret ?_
          repeat refine mk_ ?_
          refine ⟨_, R, AVle.eq ?_, sle_, rfl, rfl⟩
          rw [e]; exact congrArg AV.bool (by simp [hx])
      · have ha := h
        repeat (first | refine ga_ ?_ | intro _)
        refine AW_ret ?_
        repeat refine mk_ ?_
        refine ⟨_, R, AVle.eq ?_, sle_, rfl, rfl⟩
        rw [e]; exact congrArg AV.bool (by simp [ha])
    · repeat (first | refine ga_ ?_ | intro _)
      refine gsplit (rightA a = true) (by first | (simp; done) | (simp <;> omega) | decide) (fun h => ?_) (fun h => ?_)
      · have ha := h
        repeat (first | refine go_ ?_ | intro _)
        refine Or.inl ⟨⟨_, Tryz.func122, rfl, rfl⟩, ACall.mono ?_ (kx _)⟩
        rintro _ S1 ⟨rfl, hS1⟩
        subst S1
        repeat (first | refine go_ ?_ | intro _)
        refine gsplit (noT x = true) (by first | (simp; done) | (simp <;> omega) | decide) (fun h => ?_) (fun h => ?_)
        · have hx := h
          repeat (first | refine go_ ?_ | intro _)
          refine Or.inl ⟨⟨_, Tryz.func122, rfl, rfl⟩, ACall.mono ?_ (ky _)⟩
          rintro _ S1 ⟨rfl, hS1⟩
          subst S1
          repeat (first | refine go_ ?_ | intro _)
          refine AW_ret ?_
          repeat refine mk_ ?_
          refine ⟨_, R, AVle.eq ?_, sle_, rfl, rfl⟩
          rw [e, ha, hx]; rfl
        · have hx := h
          repeat (first | refine ga_ ?_ | intro _)
          refine AW_ret ?_
          repeat refine mk_ ?_
          refine ⟨_, R, AVle.eq ?_, sle_, rfl, rfl⟩
          rw [e]; exact congrArg AV.bool (by simp [hx])
      · have ha := h
        repeat (first | refine ga_ ?_ | intro _)
        refine AW_ret ?_
        repeat refine mk_ ?_
        refine ⟨_, R, AVle.eq ?_, sle_, rfl, rfl⟩
        rw [e]; exact congrArg AV.bool (by simp [ha])
  by_cases hp : op = 3 ∨ op = 4 ∨ op = 5 ∨ op = 6
  · have e : rightL ⟨op, a, x, y⟩ = ((noA a && (!decide (x.op = 4) && !decide (y.op = 4))) && (rightT x 20 && rightT y 20)) := by rw [rightL, if_neg ho, if_pos (show 3 ≤ op ∧ op ≤ 6 by omega)]
    rcases hp with rfl | rfl | rfl | rfl
    · repeat (first | refine ga_ ?_ | intro _)
      refine Or.inl ⟨⟨_, Tryz.func123, rfl, rfl⟩, ACall.mono ?_ (kna _)⟩
      rintro _ S1 ⟨rfl, hS1⟩
      subst S1
      all_goals (repeat (first | refine ga_ ?_ | intro _))
      all_goals (try (first | refine AW_cond rfl (fun h => ?_) (fun h => ?_) | refine ⟨fun h => ?_, fun h => ?_⟩))
      all_goals (try (repeat (first | refine ga_ ?_ | intro _)))
      all_goals (try (first | refine AW_cond rfl (fun h => ?_) (fun h => ?_) | refine ⟨fun h => ?_, fun h => ?_⟩))
      all_goals (try (repeat (first | refine ga_ ?_ | intro _)))
      all_goals (try (first | refine AW_cond rfl (fun h => ?_) (fun h => ?_) | refine ⟨fun h => ?_, fun h => ?_⟩))
      all_goals (try (repeat (first | refine ga_ ?_ | intro _)))
      all_goals (try (first | refine AW_cond rfl (fun h => ?_) (fun h => ?_) | refine ⟨fun h => ?_, fun h => ?_⟩))
      all_goals (try (repeat (first | refine ga_ ?_ | intro _)))
      all_goals (refine AW_ret ?_)
      all_goals (refine ⟨_, R, AVle.eq ?_, sle_, rfl, rfl⟩)
      all_goals (clear ka kx ky kna kt ku; show AV.bool _ = AV.bool _; congr 1; rw [e]; clear e; simp_all)
    · repeat (first | refine ga_ ?_ | intro _)
      refine Or.inl ⟨⟨_, Tryz.func123, rfl, rfl⟩, ACall.mono ?_ (kna _)⟩
      rintro _ S1 ⟨rfl, hS1⟩
      subst S1
      all_goals (repeat (first | refine ga_ ?_ | intro _))
      all_goals (try (first | refine AW_cond rfl (fun h => ?_) (fun h => ?_) | refine ⟨fun h => ?_, fun h => ?_⟩))
      all_goals (try (repeat (first | refine ga_ ?_ | intro _)))
      all_goals (try (first | refine AW_cond rfl (fun h => ?_) (fun h => ?_) | refine ⟨fun h => ?_, fun h => ?_⟩))
      all_goals (try (repeat (first | refine ga_ ?_ | intro _)))
      all_goals (try (first | refine AW_cond rfl (fun h => ?_) (fun h => ?_) | refine ⟨fun h => ?_, fun h => ?_⟩))
      all_goals (try (repeat (first | refine ga_ ?_ | intro _)))
      all_goals (try (first | refine AW_cond rfl (fun h => ?_) (fun h => ?_) | refine ⟨fun h => ?_, fun h => ?_⟩))
      all_goals (try (repeat (first | refine ga_ ?_ | intro _)))
      all_goals (refine AW_ret ?_)
      all_goals (refine ⟨_, R, AVle.eq ?_, sle_, rfl, rfl⟩)
      all_goals (clear ka kx ky kna kt ku; show AV.bool _ = AV.bool _; congr 1; rw [e]; clear e; simp_all)
    · repeat (first | refine ga_ ?_ | intro _)
      refine Or.inl ⟨⟨_, Tryz.func123, rfl, rfl⟩, ACall.mono ?_ (kna _)⟩
      rintro _ S1 ⟨rfl, hS1⟩
      subst S1
      all_goals (repeat (first | refine ga_ ?_ | intro _))
      all_goals (try (first | refine AW_cond rfl (fun h => ?_) (fun h => ?_) | refine ⟨fun h => ?_, fun h => ?_⟩))
      all_goals (try (repeat (first | refine ga_ ?_ | intro _)))
      all_goals (try (first | refine AW_cond rfl (fun h => ?_) (fun h => ?_) | refine ⟨fun h => ?_, fun h => ?_⟩))
      all_goals (try (repeat (first | refine ga_ ?_ | intro _)))
      all_goals (try (first | refine AW_cond rfl (fun h => ?_) (fun h => ?_) | refine ⟨fun h => ?_, fun h => ?_⟩))
      all_goals (try (repeat (first | refine ga_ ?_ | intro _)))
      all_goals (try (first | refine AW_cond rfl (fun h => ?_) (fun h => ?_) | refine ⟨fun h => ?_, fun h => ?_⟩))
      all_goals (try (repeat (first | refine ga_ ?_ | intro _)))
      all_goals (refine AW_ret ?_)
      all_goals (refine ⟨_, R, AVle.eq ?_, sle_, rfl, rfl⟩)
      all_goals (clear ka kx ky kna kt ku; show AV.bool _ = AV.bool _; congr 1; rw [e]; clear e; simp_all)
    · repeat (first | refine ga_ ?_ | intro _)
      refine Or.inl ⟨⟨_, Tryz.func123, rfl, rfl⟩, ACall.mono ?_ (kna _)⟩
      rintro _ S1 ⟨rfl, hS1⟩
      subst S1
      all_goals (repeat (first | refine ga_ ?_ | intro _))
      all_goals (try (first | refine AW_cond rfl (fun h => ?_) (fun h => ?_) | refine ⟨fun h => ?_, fun h => ?_⟩))
      all_goals (try (repeat (first | refine ga_ ?_ | intro _)))
      all_goals (try (first | refine AW_cond rfl (fun h => ?_) (fun h => ?_) | refine ⟨fun h => ?_, fun h => ?_⟩))
      all_goals (try (repeat (first | refine ga_ ?_ | intro _)))
      all_goals (try (first | refine AW_cond rfl (fun h => ?_) (fun h => ?_) | refine ⟨fun h => ?_, fun h => ?_⟩))
      all_goals (try (repeat (first | refine ga_ ?_ | intro _)))
      all_goals (try (first | refine AW_cond rfl (fun h => ?_) (fun h => ?_) | refine ⟨fun h => ?_, fun h => ?_⟩))
      all_goals (try (repeat (first | refine ga_ ?_ | intro _)))
      all_goals (refine AW_ret ?_)
      all_goals (refine ⟨_, R, AVle.eq ?_, sle_, rfl, rfl⟩)
      all_goals (clear ka kx ky kna kt ku; show AV.bool _ = AV.bool _; congr 1; rw [e]; clear e; simp_all)
  by_cases hq : op = 7
  · have e : rightL ⟨op, a, x, y⟩ = (rightA a && ((isX x && noT y) && rightT x 20)) := by rw [rightL, if_neg ho, if_neg (show ¬ (3 ≤ op ∧ op ≤ 6) by omega), if_pos hq]
    subst hq
    repeat (first | refine ga_ ?_ | intro _)
    refine gsplit (rightA a = true) (by first | (simp; done) | (simp <;> omega) | decide) (fun h => ?_) (fun h => ?_)
    rotate_left
    · have ha := h
      repeat (first | refine ga_ ?_ | intro _)
      refine AW_ret ?_
      repeat refine mk_ ?_
      refine ⟨_, R, AVle.eq ?_, sle_, rfl, rfl⟩
      rw [e]; exact congrArg AV.bool (by simp [ha])
    have ha := h
    repeat (first | refine go_ ?_ | intro _)
    refine gsplit (rightT x 20 = true) (by first | (simp; done) | (simp <;> omega) | decide) (fun h => ?_) (fun h => ?_)
    rotate_left
    · have ht := h
      repeat (first | refine ga_ ?_ | intro _)
      refine AW_ret ?_
      repeat refine mk_ ?_
      refine ⟨_, R, AVle.eq ?_, sle_, rfl, rfl⟩
      rw [e]; exact congrArg AV.bool (by simp [ht])
    have ht := h
    repeat (first | refine go_ ?_ | intro _)
    refine gsplit (x.op = 1) (by first | (simp; done) | (simp <;> omega) | decide) (fun h => ?_) (fun h => ?_)
    · have hx : isX x = true := by simp [isX, h]
      repeat (first | refine ga_ ?_ | intro _)
      refine Or.inl ⟨⟨_, Tryz.func122, rfl, rfl⟩, ACall.mono ?_ (ky _)⟩
      rintro _ S1 ⟨rfl, hS1⟩
      subst S1
      repeat (first | refine go_ ?_ | intro _)
      refine AW_ret ?_
      repeat refine mk_ ?_
      refine ⟨_, R, AVle.eq ?_, sle_, rfl, rfl⟩
      rw [e, ha, hx, ht]; exact congrArg AV.bool (by simp)
    have hx1 := h
    repeat (first | refine go_ ?_ | intro _)
    refine gsplit (x.op = 2) (by first | (simp; done) | (simp <;> omega) | decide) (fun h => ?_) (fun h => ?_)
    · have hx : isX x = true := by simp [isX, h]
      repeat (first | refine ga_ ?_ | intro _)
      refine Or.inl ⟨⟨_, Tryz.func122, rfl, rfl⟩, ACall.mono ?_ (ky _)⟩
      rintro _ S1 ⟨rfl, hS1⟩
      subst S1
      repeat (first | refine go_ ?_ | intro _)
      refine AW_ret ?_
      repeat refine mk_ ?_
      refine ⟨_, R, AVle.eq ?_, sle_, rfl, rfl⟩
      rw [e, ha, hx, ht]; exact congrArg AV.bool (by simp)
    have hx : isX x = false := by simp [isX, h, hx1]
    repeat (first | refine ga_ ?_ | intro _)
    refine AW_ret ?_
    repeat refine mk_ ?_
    refine ⟨_, R, AVle.eq ?_, sle_, rfl, rfl⟩
    rw [e, hx]; exact congrArg AV.bool (by simp)
  by_cases hr : op = 8 ∨ op = 9 ∨ op = 10
  · have e : rightL ⟨op, a, x, y⟩ = (rightA a && ((isX x && decide (y.op = 1)) && (rightT x 20 && rightT y 20))) := by rw [rightL, if_neg ho, if_neg (show ¬ (3 ≤ op ∧ op ≤ 6) by omega), if_neg hq, if_pos (show 8 ≤ op ∧ op ≤ 10 by omega)]
    rcases hr with rfl | rfl | rfl
    · repeat (first | refine ga_ ?_ | intro _)
      all_goals (repeat (first | refine ga_ ?_ | intro _))
      all_goals (try (first | refine AW_cond rfl (fun h => ?_) (fun h => ?_) | refine ⟨fun h => ?_, fun h => ?_⟩))
      all_goals (try (repeat (first | refine ga_ ?_ | intro _)))
      all_goals (try (first | refine AW_cond rfl (fun h => ?_) (fun h => ?_) | refine ⟨fun h => ?_, fun h => ?_⟩))
      all_goals (try (repeat (first | refine ga_ ?_ | intro _)))
      all_goals (try (first | refine AW_cond rfl (fun h => ?_) (fun h => ?_) | refine ⟨fun h => ?_, fun h => ?_⟩))
      all_goals (try (repeat (first | refine ga_ ?_ | intro _)))
      all_goals (try (first | refine AW_cond rfl (fun h => ?_) (fun h => ?_) | refine ⟨fun h => ?_, fun h => ?_⟩))
      all_goals (try (repeat (first | refine ga_ ?_ | intro _)))
      all_goals (try (first | refine AW_cond rfl (fun h => ?_) (fun h => ?_) | refine ⟨fun h => ?_, fun h => ?_⟩))
      all_goals (try (repeat (first | refine ga_ ?_ | intro _)))
      all_goals (try (first | refine AW_cond rfl (fun h => ?_) (fun h => ?_) | refine ⟨fun h => ?_, fun h => ?_⟩))
      all_goals (try (repeat (first | refine ga_ ?_ | intro _)))
      all_goals (refine AW_ret ?_)
      all_goals (refine ⟨_, R, AVle.eq ?_, sle_, rfl, rfl⟩)
      all_goals (clear ka kx ky kna kt ku; show AV.bool _ = AV.bool _; congr 1; rw [e, isX]; clear e; simp_all)
    · repeat (first | refine ga_ ?_ | intro _)
      all_goals (repeat (first | refine ga_ ?_ | intro _))
      all_goals (try (first | refine AW_cond rfl (fun h => ?_) (fun h => ?_) | refine ⟨fun h => ?_, fun h => ?_⟩))
      all_goals (try (repeat (first | refine ga_ ?_ | intro _)))
      all_goals (try (first | refine AW_cond rfl (fun h => ?_) (fun h => ?_) | refine ⟨fun h => ?_, fun h => ?_⟩))
      all_goals (try (repeat (first | refine ga_ ?_ | intro _)))
      all_goals (try (first | refine AW_cond rfl (fun h => ?_) (fun h => ?_) | refine ⟨fun h => ?_, fun h => ?_⟩))
      all_goals (try (repeat (first | refine ga_ ?_ | intro _)))
      all_goals (try (first | refine AW_cond rfl (fun h => ?_) (fun h => ?_) | refine ⟨fun h => ?_, fun h => ?_⟩))
      all_goals (try (repeat (first | refine ga_ ?_ | intro _)))
      all_goals (try (first | refine AW_cond rfl (fun h => ?_) (fun h => ?_) | refine ⟨fun h => ?_, fun h => ?_⟩))
      all_goals (try (repeat (first | refine ga_ ?_ | intro _)))
      all_goals (try (first | refine AW_cond rfl (fun h => ?_) (fun h => ?_) | refine ⟨fun h => ?_, fun h => ?_⟩))
      all_goals (try (repeat (first | refine ga_ ?_ | intro _)))
      all_goals (refine AW_ret ?_)
      all_goals (refine ⟨_, R, AVle.eq ?_, sle_, rfl, rfl⟩)
      all_goals (clear ka kx ky kna kt ku; show AV.bool _ = AV.bool _; congr 1; rw [e, isX]; clear e; simp_all)
    · repeat (first | refine ga_ ?_ | intro _)
      all_goals (repeat (first | refine ga_ ?_ | intro _))
      all_goals (try (first | refine AW_cond rfl (fun h => ?_) (fun h => ?_) | refine ⟨fun h => ?_, fun h => ?_⟩))
      all_goals (try (repeat (first | refine ga_ ?_ | intro _)))
      all_goals (try (first | refine AW_cond rfl (fun h => ?_) (fun h => ?_) | refine ⟨fun h => ?_, fun h => ?_⟩))
      all_goals (try (repeat (first | refine ga_ ?_ | intro _)))
      all_goals (try (first | refine AW_cond rfl (fun h => ?_) (fun h => ?_) | refine ⟨fun h => ?_, fun h => ?_⟩))
      all_goals (try (repeat (first | refine ga_ ?_ | intro _)))
      all_goals (try (first | refine AW_cond rfl (fun h => ?_) (fun h => ?_) | refine ⟨fun h => ?_, fun h => ?_⟩))
      all_goals (try (repeat (first | refine ga_ ?_ | intro _)))
      all_goals (try (first | refine AW_cond rfl (fun h => ?_) (fun h => ?_) | refine ⟨fun h => ?_, fun h => ?_⟩))
      all_goals (try (repeat (first | refine ga_ ?_ | intro _)))
      all_goals (try (first | refine AW_cond rfl (fun h => ?_) (fun h => ?_) | refine ⟨fun h => ?_, fun h => ?_⟩))
      all_goals (try (repeat (first | refine ga_ ?_ | intro _)))
      all_goals (refine AW_ret ?_)
      all_goals (refine ⟨_, R, AVle.eq ?_, sle_, rfl, rfl⟩)
      all_goals (clear ka kx ky kna kt ku; show AV.bool _ = AV.bool _; congr 1; rw [e, isX]; clear e; simp_all)
  have e : rightL ⟨op, a, x, y⟩ = false := by rw [rightL, if_neg ho, if_neg (show ¬ (3 ≤ op ∧ op ≤ 6) by omega), if_neg hq, if_neg (show ¬ (8 ≤ op ∧ op ≤ 10) by omega)]
  repeat (first | refine ga_ ?_ | intro _)
  refine AW_false (b := decide (op = 1)) rfl (by exact decide_eq_false (by omega)) ?_
  repeat (first | refine ga_ ?_ | intro _)
  refine AW_false (b := decide (op = 2)) rfl (by exact decide_eq_false (by omega)) ?_
  repeat (first | refine ga_ ?_ | intro _)
  refine AW_false (b := decide (op = 3)) rfl (by exact decide_eq_false (by omega)) ?_
  repeat (first | refine ga_ ?_ | intro _)
  refine AW_false (b := decide (op = 4)) rfl (by exact decide_eq_false (by omega)) ?_
  repeat (first | refine ga_ ?_ | intro _)
  refine AW_false (b := decide (op = 5)) rfl (by exact decide_eq_false (by omega)) ?_
  repeat (first | refine ga_ ?_ | intro _)
  refine AW_false (b := decide (op = 6)) rfl (by exact decide_eq_false (by omega)) ?_
  repeat (first | refine ga_ ?_ | intro _)
  refine AW_false (b := decide (op = 7)) rfl (by exact decide_eq_false (by omega)) ?_
  repeat (first | refine ga_ ?_ | intro _)
  refine AW_false (b := decide (op = 8)) rfl (by exact decide_eq_false (by omega)) ?_
  repeat (first | refine ga_ ?_ | intro _)
  refine AW_false (b := decide (op = 9)) rfl (by exact decide_eq_false (by omega)) ?_
  repeat (first | refine ga_ ?_ | intro _)
  refine AW_false (b := decide (op = 10)) rfl (by exact decide_eq_false (by omega)) ?_
  repeat (first | refine ga_ ?_ | intro _)
  refine AW_ret ?_
  repeat refine mk_ ?_
  refine ⟨_, R, AVle.eq ?_, sle_, rfl, rfl⟩
  rw [e]; rfl
end Go.Proofs.YtgkjbpnmeeibbaaGreatDoor.Tree
/-
  Which rules, relations and programs may be, by the book. Own work.
-/
namespace Go.Proofs.YtgkjbpnmeeibbaaGreatDoor.Tree
open Go.Aw Go.RowKit
set_option maxHeartbeats 4000000
set_option maxRecDepth 4000

theorem rightR_head {r : Ru} (h : rightA r.head = false) : rightR r = false := by simp [rightR, partsL, h]
theorem rightR_len {r : Ru} (h : 20 < r.body.length) : rightR r = false := by
  rw [rightR, partsL]; simp only [List.all_cons]
  rw [decide_eq_false (show ¬ r.body.length ≤ 20 by omega)]; simp
theorem rightR_at {r : Ru} {i : Nat} (h : i < r.head.l.length) (hb : headB r.body.length r.head.l[i] = false) : rightR r = false := by
  rw [rightR, List.all_eq_false]
  exact ⟨_, List.mem_of_getElem? (pl2 h), by rw [hb]; simp⟩
theorem rightR_lit {r : Ru} {i : Nat} (h : i < r.body.length) (hb : rightL r.body[i] = false) : rightR r = false := by
  rw [rightR, List.all_eq_false]
  exact ⟨_, List.mem_of_getElem? (pl3 h), by rw [hb]; simp⟩
theorem rightR_true {r : Ru} (h1 : rightA r.head = true) (h2 : r.body.length ≤ 20) (h3 : ∀ (i : Nat) (h : i < r.head.l.length), headB r.body.length r.head.l[i] = true) (h4 : ∀ (i : Nat) (h : i < r.body.length), rightL r.body[i] = true) : rightR r = true := by
  rw [rightR, partsL]
  simp only [List.all_cons, List.all_append, List.all_map, Bool.and_eq_true]
  refine ⟨h1, decide_eq_true h2, ?_, ?_⟩
  · rw [List.all_eq_true]
    intro x hx
    obtain ⟨i, hi, rfl⟩ := List.mem_iff_getElem.1 hx
    exact h3 i hi
  · rw [List.all_eq_true]
    intro x hx
    obtain ⟨i, hi, rfl⟩ := List.mem_iff_getElem.1 hx
    exact h4 i hi

theorem refRule_ok (r : Ru) (R : List En) : ACall Tryz.prog 66 [encRu r] R (fun v S => v = .bool (rightR r) ∧ S = R) := by
  have ka := refAtom_ok r.head
  refine ACall_body tab_ok Tryz.func66 rfl rfl rfl (by kernel_rfl) (Nat.le_of_ble_eq_true rfl) ?_
  repeat (first | refine go_ ?_ | intro _)
  rename_i p
  refine Or.inl ⟨⟨_, Tryz.func96, rfl, rfl⟩, ACall.mono ?_ (ka _)⟩
  rintro _ S1 ⟨rfl, hS1⟩
  subst S1
  repeat (first | refine go_ ?_ | intro _)
  refine gsplit (rightA r.head = false) (by first | (simp; done) | (simp <;> omega) | decide) (fun h => ?_) (fun h => ?_)
  · repeat (first | refine ga_ ?_ | intro _)
    refine AW_ret ?_
    repeat refine mk_ ?_
    refine ⟨_, R, AVle.eq ?_, sle_, rfl, rfl⟩
    rw [rightR_head h]; rfl
  have h1 : rightA r.head = true := by simpa using h
  have hl : r.head.l.length ≤ 8 := by
    simp [rightA] at h1; omega
  repeat (first | refine ga_ ?_ | intro _)
  refine AW_iff (20 < r.body.length) rfl (by first | (simp; done) | (simp <;> omega) | decide) (fun h => ?_) (fun h => ?_)
  · repeat (first | refine ga_ ?_ | intro _)
    refine AW_ret ?_
    repeat refine mk_ ?_
    refine ⟨_, R, AVle.eq ?_, sle_, rfl, rfl⟩
    rw [rightR_len h]; rfl
  have h2 : r.body.length ≤ 20 := by omega
  repeat (first | refine go_ ?_ | intro _)
  refine AW_for (α := Nat) (fun z => ⟨[(1, .ptr p 0), (4, .int .i64 (z : Nat))], []⟩) (fun z => .cells p (cRu r) :: R) (fun z => r.head.l.length - z) (fun z => z ≤ r.head.l.length ∧ ∀ (i : Nat) (hi : i < r.head.l.length), i < z → headB r.body.length r.head.l[i] = true) (0) ?_ (weak_of ?_ rfl ?_) (fun z hz => ?_)
  · exact ⟨by omega, fun i _ h => by omega⟩
  · repeat (first | exact trivial | refine env_ ?_)
  · repeat (first | exact SLe.rfl | refine SLe.tail ?_ | refine SLe.full ?_)
  obtain ⟨i1, i2⟩ := hz
  repeat (first | refine go_ ?_ | intro _)
  refine AW_iff (z < r.head.l.length) rfl (by first | (simp; done) | (simp <;> omega) | decide) (fun h => ?_) (fun h => ?_)
  · have hlt := h
    obtain ⟨x, hx⟩ : ∃ x, x = r.head.l[z] := ⟨_, rfl⟩
    have k2 := refTwo_ok x.op
    have bad : headB r.body.length x = false → rightR r = false := fun hb => rightR_at hlt (by rw [← hx]; exact hb)
    repeat (first | refine go_ ?_ | intro _)
    refine at_get (z) (encU x) (by first | rfl | omega | (rw [wrap_i64 (by omega)]; omega)) (by rw [hx]; exact encTs_get hlt) ?_
    repeat (first | refine go_ ?_ | intro _)
    refine gsplit (x.op = 4) (by first | (simp; done) | (simp <;> omega) | decide) (fun h => ?_) (fun h => ?_)
    · repeat (first | refine ga_ ?_ | intro _)
      refine AW_ret ?_
      repeat refine mk_ ?_
      refine ⟨_, R, AVle.eq ?_, sle_, rfl, rfl⟩
      rw [bad (by simp [headB, h])]; rfl
    have h4 := h
    repeat (first | refine ga_ ?_ | intro _)
    refine Or.inl ⟨⟨_, Tryz.func97, rfl, rfl⟩, ACall.mono ?_ (k2 _)⟩
    rintro _ S1 ⟨rfl, hS1⟩
    subst S1
    repeat (first | refine go_ ?_ | intro _)
    refine gsplit (twoB x.op = true) (by first | (simp; done) | (simp <;> omega) | decide) (fun h => ?_) (fun h => ?_)
    · repeat (first | refine ga_ ?_ | intro _)
      refine AW_ret ?_
      repeat refine mk_ ?_
      refine ⟨_, R, AVle.eq ?_, sle_, rfl, rfl⟩
      rw [bad (by simp [headB, h])]; rfl
    have h5 : twoB x.op = false := by simpa using h
    repeat (first | refine ga_ ?_ | intro _)
    refine gsplit (x.op = 1) (by first | (simp; done) | (simp <;> omega) | decide) (fun h => ?_) (fun h => ?_)
    · have h6 := h
      repeat (first | refine go_ ?_ | intro _)
      refine AW_iff (r.body.length = 0) rfl (by first | (simp; done) | (simp <;> omega) | decide) (fun h => ?_) (fun h => ?_)
      · repeat (first | refine go_ ?_ | intro _)
        refine AW_ret ?_
        repeat refine mk_ ?_
        refine ⟨_, R, AVle.eq ?_, sle_, rfl, rfl⟩
        rw [bad (by rw [headB, h5, decide_eq_false h4, decide_eq_true h6, h]; rfl)]; rfl
      · have h7 := h
        repeat (first | refine go_ ?_ | intro _)
        refine ⟨z + 1, ?_, ?_, weak_of ?_ rfl ?_⟩
        · omega
        · refine ⟨by omega, fun i hi hiz => ?_⟩
          by_cases hc : i < z
          · exact i2 i hi hc
          · obtain rfl : i = z := by omega
            rw [← hx]; exact (by rw [headB, h5, decide_eq_false h4, decide_eq_true h6, decide_eq_true (show 0 < r.body.length by omega)]; rfl)
        · repeat (first | exact trivial | refine env_ ?_)
        · refine SW.le ?_
          repeat (first | exact SW.nil | refine sw_ ?_)
    · have h6 := h
      repeat (first | refine ga_ ?_ | intro _)
      refine ⟨z + 1, ?_, ?_, weak_of ?_ rfl ?_⟩
      · omega
      · refine ⟨by omega, fun i hi hiz => ?_⟩
        by_cases hc : i < z
        · exact i2 i hi hc
        · obtain rfl : i = z := by omega
          rw [← hx]; exact (by rw [headB, h5, decide_eq_false h4, decide_eq_false h6]; rfl)
      · repeat (first | exact trivial | refine env_ ?_)
      · refine SW.le ?_
        repeat (first | exact SW.nil | refine sw_ ?_)
  · have h3 : ∀ (i : Nat) (h : i < r.head.l.length), headB r.body.length r.head.l[i] = true := fun i hi => i2 i hi (by omega)
    repeat (first | refine go_ ?_ | intro _)
    refine AW_for (α := Nat) (fun z => ⟨[(1, .ptr p 0), (6, .int .i64 (z : Nat))], []⟩) (fun z => .cells p (cRu r) :: R) (fun z => r.body.length - z) (fun z => z ≤ r.body.length ∧ ∀ (i : Nat) (hi : i < r.body.length), i < z → rightL r.body[i] = true) (0) ?_ (weak_of ?_ rfl ?_) (fun z hz => ?_)
    · exact ⟨by omega, fun i _ h => by omega⟩
    · repeat (first | exact trivial | refine env_ ?_)
    · repeat (first | exact SLe.rfl | refine SLe.tail ?_ | refine SLe.full ?_)
    obtain ⟨j1, j2⟩ := hz
    repeat (first | refine go_ ?_ | intro _)
    refine AW_iff (z < r.body.length) rfl (by first | (simp; done) | (simp <;> omega) | decide) (fun h => ?_) (fun h => ?_)
    · have hlt := h
      obtain ⟨x, hx⟩ : ∃ x, x = r.body[z] := ⟨_, rfl⟩
      have kl := refLit_ok x
      repeat (first | refine go_ ?_ | intro _)
      refine at_map (z) (by first | rfl | omega | (rw [wrap_i64 (by omega)]; omega)) (by first | assumption | omega) ?_
      rw [← hx]
      repeat (first | refine go_ ?_ | intro _)
      refine Or.inl ⟨⟨_, Tryz.func98, rfl, rfl⟩, ACall.mono ?_ (kl _)⟩
      rintro _ S1 ⟨rfl, hS1⟩
      subst S1
      repeat (first | refine go_ ?_ | intro _)
      refine AW_cond (b := !rightL x) rfl (fun h => ?_) (fun h => ?_)
      · repeat (first | refine go_ ?_ | intro _)
        refine AW_ret ?_
        repeat refine mk_ ?_
        refine ⟨_, R, AVle.eq ?_, sle_, rfl, rfl⟩
        rw [rightR_lit hlt (by rw [← hx]; simpa using h)]; rfl
      · have hq : rightL x = true := by simpa using h
        repeat (first | refine go_ ?_ | intro _)
        refine ⟨z + 1, ?_, ?_, weak_of ?_ rfl ?_⟩
        · omega
        · refine ⟨by omega, fun i hi hiz => ?_⟩
          by_cases hc : i < z
          · exact j2 i hi hc
          · obtain rfl : i = z := by omega
            rw [← hx]; exact hq
        · repeat (first | exact trivial | refine env_ ?_)
        · repeat (first | exact SLe.rfl | refine SLe.tail ?_ | refine SLe.full ?_)
    · repeat (first | refine go_ ?_ | intro _)
      refine AW_ret ?_
      repeat refine mk_ ?_
      refine ⟨_, R, AVle.eq ?_, sle_, rfl, rfl⟩
      rw [rightR_true h1 h2 h3 (fun i hi => j2 i hi (by omega))]; rfl
end Go.Proofs.YtgkjbpnmeeibbaaGreatDoor.Tree
/-
  Which relations and programs may be, by the book. Own work.
-/
namespace Go.Proofs.YtgkjbpnmeeibbaaGreatDoor.Tree
open Go.Aw Go.RowKit
set_option maxHeartbeats 4000000
set_option maxRecDepth 4000

theorem refDecl_ok (d : De) (R : List En) : ACall Tryz.prog 65 [encD d] R (fun v S => v = .bool (rightD d) ∧ S = R) := by
  have kn := refName_ok d.rel
  refine ACall_body tab_ok Tryz.func65 rfl rfl rfl (by kernel_rfl) (Nat.le_of_ble_eq_true rfl) ?_
  repeat (first | refine go_ ?_ | intro _)
  rename_i p
  refine Or.inl ⟨⟨_, Tryz.func95, rfl, rfl⟩, ACall.mono ?_ (kn _)⟩
  rintro _ S1 ⟨rfl, hS1⟩
  subst S1
  repeat (first | refine go_ ?_ | intro _)
  refine gsplit (nameB d.rel = false) (by first | (simp; done) | (simp <;> omega) | decide) (fun h => ?_) (fun h => ?_)
  · repeat (first | refine ga_ ?_ | intro _)
    refine AW_ret ?_
    repeat refine mk_ ?_
    refine ⟨_, R, AVle.eq ?_, sle_, rfl, rfl⟩
    exact congrArg AV.bool (by simp [rightD, h])
  have h1 : nameB d.rel = true := by simpa using h
  repeat (first | refine ga_ ?_ | intro _)
  refine gsplit (d.names.length < 1) (by rw [List.length_map, decide_eq_true_eq]; omega) (fun h => ?_) (fun h => ?_)
  · repeat (first | refine ga_ ?_ | intro _)
    refine AW_ret ?_
    repeat refine mk_ ?_
    refine ⟨_, R, AVle.eq ?_, sle_, rfl, rfl⟩
    exact congrArg AV.bool (by simp [rightD, show d.names.length = 0 by omega])
  have h2 : ¬ d.names.length = 0 := by omega
  repeat (first | refine ga_ ?_ | intro _)
  refine gsplit (8 < d.names.length) (by first | (simp; done) | (simp <;> omega) | decide) (fun h => ?_) (fun h => ?_)
  · repeat (first | refine ga_ ?_ | intro _)
    refine AW_ret ?_
    repeat refine mk_ ?_
    refine ⟨_, R, AVle.eq ?_, sle_, rfl, rfl⟩
    exact congrArg AV.bool (by simp [rightD, h])
  have h3 := h
  repeat (first | refine ga_ ?_ | intro _)
  refine AW_iff (¬ d.types.length = d.names.length) rfl (by first | (simp; done) | (simp <;> omega) | decide) (fun h => ?_) (fun h => ?_)
  · repeat (first | refine ga_ ?_ | intro _)
    refine AW_ret ?_
    repeat refine mk_ ?_
    refine ⟨_, R, AVle.eq ?_, sle_, rfl, rfl⟩
    exact congrArg AV.bool (by simp [rightD, h])
  have h4 : d.types.length = d.names.length := Decidable.not_not.1 h
  have e0 : rightD d = (d.names.zip d.types).all fun x => nameB x.1 && typeB x.2 := by rw [rightD, h1, decide_eq_false h2, decide_eq_false h3, decide_eq_true h4]; simp
  have hzl : (d.names.zip d.types).length = d.names.length := by simp [h4]
  repeat (first | refine go_ ?_ | intro _)
  refine AW_for (α := Nat) (fun z => ⟨[(1, .ptr p 0), (4, .int .i64 (z : Nat))], []⟩) (fun z => .cells p (cD d) :: R) (fun z => d.names.length - z) (fun z => z ≤ d.names.length ∧ ∀ (i : Nat) (hi : i < (d.names.zip d.types).length), i < z → (nameB (d.names.zip d.types)[i].1 && typeB (d.names.zip d.types)[i].2) = true) (0) ?_ (weak_of ?_ rfl ?_) (fun z hz => ?_)
  · exact ⟨by omega, fun i _ h => by omega⟩
  · repeat (first | exact trivial | refine env_ ?_)
  · repeat (first | exact SLe.rfl | refine SLe.tail ?_ | refine SLe.full ?_)
  obtain ⟨i1, i2⟩ := hz
  repeat (first | refine go_ ?_ | intro _)
  refine AW_iff (z < d.names.length) rfl (by first | (simp; done) | (simp <;> omega) | decide) (fun h => ?_) (fun h => ?_)
  · have hlt := h
    have hlt2 : z < d.types.length := by omega
    have hlt3 : z < (d.names.zip d.types).length := by omega
    obtain ⟨x, hx⟩ : ∃ x, x = d.names[z] := ⟨_, rfl⟩
    obtain ⟨y, hy⟩ : ∃ x, x = d.types[z] := ⟨_, rfl⟩
    have hxy : (d.names.zip d.types)[z] = (x, y) := by rw [List.getElem_zip, hx, hy]
    have kx := refName_ok x
    have bad : (nameB x && typeB y) = false → rightD d = false := fun hb => by
      rw [e0, List.all_eq_false]
      exact ⟨_, List.getElem_mem hlt3, by rw [hxy]; simp only []; rw [hb]; simp⟩
    repeat (first | refine go_ ?_ | intro _)
    refine at_map (z) (by first | rfl | omega | (rw [wrap_i64 (by omega)]; omega)) (by first | assumption | omega) ?_
    rw [← hx]
    repeat (first | refine go_ ?_ | intro _)
    refine Or.inl ⟨⟨_, Tryz.func95, rfl, rfl⟩, ACall.mono ?_ (kx _)⟩
    rintro _ S1 ⟨rfl, hS1⟩
    subst S1
    repeat (first | refine go_ ?_ | intro _)
    refine gsplit (nameB x = false) (by first | (simp; done) | (simp <;> omega) | decide) (fun h => ?_) (fun h => ?_)
    · repeat (first | refine ga_ ?_ | intro _)
      refine AW_ret ?_
      repeat refine mk_ ?_
      refine ⟨_, R, AVle.eq ?_, sle_, rfl, rfl⟩
      rw [bad (by rw [h]; rfl)]; rfl
    have h5 : nameB x = true := by simpa using h
    repeat (first | refine ga_ ?_ | intro _)
    refine at_map (z) (by first | rfl | omega | (rw [wrap_i64 (by omega)]; omega)) (by first | assumption | omega) ?_
    rw [← hy]
    show (fun n : Int => _) y
    repeat (first | refine go_ ?_ | intro _)
    refine gsplit (¬ y = 1) (by first | (simp; done) | (simp <;> omega) | decide) (fun h => ?_) (fun h => ?_)
    · have h6 := h
      repeat (first | refine go_ ?_ | intro _)
      refine at_map (z) (by first | rfl | omega | (rw [wrap_i64 (by omega)]; omega)) (by first | assumption | omega) ?_
      rw [← hy]
      show (fun n : Int => _) y
      repeat (first | refine go_ ?_ | intro _)
      refine AW_iff (¬ y = 2) rfl (by first | (simp; done) | (simp <;> omega) | decide) (fun h => ?_) (fun h => ?_)
      · repeat (first | refine ga_ ?_ | intro _)
        refine AW_ret ?_
        repeat refine mk_ ?_
        refine ⟨_, R, AVle.eq ?_, sle_, rfl, rfl⟩
        rw [bad (by rw [typeB, decide_eq_false h6, decide_eq_false h]; simp)]; rfl
      · have h7 : y = 2 := Decidable.not_not.1 h
        repeat (first | refine go_ ?_ | intro _)
        refine ⟨z + 1, ?_, ?_, weak_of ?_ rfl ?_⟩
        · omega
        · refine ⟨by omega, fun i hi hiz => ?_⟩
          by_cases hc : i < z
          · exact i2 i hi hc
          · obtain rfl : i = z := by omega
            rw [hxy]; simp [h5, typeB, h7]
        · repeat (first | exact trivial | refine env_ ?_)
        · repeat (first | exact SLe.rfl | refine SLe.tail ?_ | refine SLe.full ?_)
    · have h7 : y = 1 := Decidable.not_not.1 h
      repeat (first | refine ga_ ?_ | intro _)
      refine ⟨z + 1, ?_, ?_, weak_of ?_ rfl ?_⟩
      · omega
      · refine ⟨by omega, fun i hi hiz => ?_⟩
        by_cases hc : i < z
        · exact i2 i hi hc
        · obtain rfl : i = z := by omega
          rw [hxy]; simp [h5, typeB, h7]
      · repeat (first | exact trivial | refine env_ ?_)
      · repeat (first | exact SLe.rfl | refine SLe.tail ?_ | refine SLe.full ?_)
  · have e : rightD d = true := by
      rw [e0, List.all_eq_true]
      intro x hx
      obtain ⟨i, hi, rfl⟩ := List.mem_iff_getElem.1 hx
      exact i2 i hi (by omega)
    repeat (first | refine go_ ?_ | intro _)
    refine AW_ret ?_
    repeat refine mk_ ?_
    refine ⟨_, R, AVle.eq ?_, sle_, rfl, rfl⟩
    rw [e]; rfl

theorem refRight_ok (p : Pr) (R : List En) : ACall Tryz.prog 30 [encP p] R (fun v S => v = .bool (rightP p) ∧ S = R) := by
  refine ACall_body tab_ok Tryz.func30 rfl rfl rfl (by kernel_rfl) (Nat.le_of_ble_eq_true rfl) ?_
  repeat (first | refine go_ ?_ | intro _)
  rename_i q
  refine gsplit (60 < p.decls.length) (by first | (simp; done) | (simp <;> omega) | decide) (fun h => ?_) (fun h => ?_)
  · repeat (first | refine ga_ ?_ | intro _)
    refine AW_ret ?_
    repeat refine mk_ ?_
    refine ⟨_, R, AVle.eq ?_, sle_, rfl, rfl⟩
    exact congrArg AV.bool (by simp [rightP, h])
  have h1 := h
  repeat (first | refine ga_ ?_ | intro _)
  refine AW_iff (200 < p.rules.length) rfl (by first | (simp; done) | (simp <;> omega) | decide) (fun h => ?_) (fun h => ?_)
  · repeat (first | refine ga_ ?_ | intro _)
    refine AW_ret ?_
    repeat refine mk_ ?_
    refine ⟨_, R, AVle.eq ?_, sle_, rfl, rfl⟩
    exact congrArg AV.bool (by simp [rightP, h])
  have h2 := h
  repeat (first | refine go_ ?_ | intro _)
  refine AW_for (α := Nat) (fun z => ⟨[(1, .ptr q 0), (3, .int .i64 (z : Nat))], []⟩) (fun z => .cells q [.sl 6 (p.decls.map encD) .no, .sl 4 (p.rules.map encRu) .no] :: R) (fun z => p.decls.length - z) (fun z => z ≤ p.decls.length ∧ ∀ (i : Nat) (hi : i < p.decls.length), i < z → rightD p.decls[i] = true) (0) ?_ (weak_of ?_ rfl ?_) (fun z hz => ?_)
  · exact ⟨by omega, fun i _ h => by omega⟩
  · repeat (first | exact trivial | refine env_ ?_)
  · repeat (first | exact SLe.rfl | refine SLe.tail ?_ | refine SLe.full ?_)
  obtain ⟨i1, i2⟩ := hz
  repeat (first | refine go_ ?_ | intro _)
  refine AW_iff (z < p.decls.length) rfl (by first | (simp; done) | (simp <;> omega) | decide) (fun h => ?_) (fun h => ?_)
  · have hlt := h
    obtain ⟨d, hd⟩ : ∃ x, x = p.decls[z] := ⟨_, rfl⟩
    have kd := refDecl_ok d
    repeat (first | refine go_ ?_ | intro _)
    refine at_map (z) (by first | rfl | omega | (rw [wrap_i64 (by omega)]; omega)) (by first | assumption | omega) ?_
    rw [← hd]
    repeat (first | refine go_ ?_ | intro _)
    refine Or.inl ⟨⟨_, Tryz.func65, rfl, rfl⟩, ACall.mono ?_ (kd _)⟩
    rintro _ S1 ⟨rfl, hS1⟩
    subst S1
    repeat (first | refine go_ ?_ | intro _)
    refine AW_cond (b := !rightD d) rfl (fun h => ?_) (fun h => ?_)
    · have e : rightP p = false := by
        have : p.decls.all rightD = false := List.all_eq_false.2 ⟨_, List.getElem_mem hlt, by rw [← hd]; simpa using h⟩
        rw [rightP, this]; simp
      repeat (first | refine go_ ?_ | intro _)
      refine AW_ret ?_
      repeat refine mk_ ?_
      refine ⟨_, R, AVle.eq ?_, sle_, rfl, rfl⟩
      rw [e]; rfl
    · have hq : rightD d = true := by simpa using h
      repeat (first | refine go_ ?_ | intro _)
      refine ⟨z + 1, ?_, ?_, weak_of ?_ rfl ?_⟩
      · omega
      · refine ⟨by omega, fun i hi hiz => ?_⟩
        by_cases hc : i < z
        · exact i2 i hi hc
        · obtain rfl : i = z := by omega
          rw [← hd]; exact hq
      · repeat (first | exact trivial | refine env_ ?_)
      · repeat (first | exact SLe.rfl | refine SLe.tail ?_ | refine SLe.full ?_)
  have hld : p.decls.all rightD = true := by
    rw [List.all_eq_true]
    intro x hx
    obtain ⟨i, hi, rfl⟩ := List.mem_iff_getElem.1 hx
    exact i2 i hi (by omega)
  clear i1 i2
  repeat (first | refine go_ ?_ | intro _)
  refine AW_for (α := Nat) (fun z => ⟨[(1, .ptr q 0), (5, .int .i64 (z : Nat))], []⟩) (fun z => .cells q [.sl 6 (p.decls.map encD) .no, .sl 4 (p.rules.map encRu) .no] :: R) (fun z => p.rules.length - z) (fun z => z ≤ p.rules.length ∧ ∀ (i : Nat) (hi : i < p.rules.length), i < z → rightR p.rules[i] = true) (0) ?_ (weak_of ?_ rfl ?_) (fun z hz => ?_)
  · exact ⟨by omega, fun i _ h => by omega⟩
  · repeat (first | exact trivial | refine env_ ?_)
  · repeat (first | exact SLe.rfl | refine SLe.tail ?_ | refine SLe.full ?_)
  obtain ⟨i1, i2⟩ := hz
  repeat (first | refine go_ ?_ | intro _)
  refine AW_iff (z < p.rules.length) rfl (by first | (simp; done) | (simp <;> omega) | decide) (fun h => ?_) (fun h => ?_)
  · have hlt := h
    obtain ⟨d, hd⟩ : ∃ x, x = p.rules[z] := ⟨_, rfl⟩
    have kd := refRule_ok d
    repeat (first | refine go_ ?_ | intro _)
    refine at_map (z) (by first | rfl | omega | (rw [wrap_i64 (by omega)]; omega)) (by first | assumption | omega) ?_
    rw [← hd]
    repeat (first | refine go_ ?_ | intro _)
    refine Or.inl ⟨⟨_, Tryz.func66, rfl, rfl⟩, ACall.mono ?_ (kd _)⟩
    rintro _ S1 ⟨rfl, hS1⟩
    subst S1
    repeat (first | refine go_ ?_ | intro _)
    refine AW_cond (b := !rightR d) rfl (fun h => ?_) (fun h => ?_)
    · have e : rightP p = false := by
        have : p.rules.all rightR = false := List.all_eq_false.2 ⟨_, List.getElem_mem hlt, by rw [← hd]; simpa using h⟩
        rw [rightP, this]; simp
      repeat (first | refine go_ ?_ | intro _)
      refine AW_ret ?_
      repeat refine mk_ ?_
      refine ⟨_, R, AVle.eq ?_, sle_, rfl, rfl⟩
      rw [e]; rfl
    · have hq : rightR d = true := by simpa using h
      repeat (first | refine go_ ?_ | intro _)
      refine ⟨z + 1, ?_, ?_, weak_of ?_ rfl ?_⟩
      · omega
      · refine ⟨by omega, fun i hi hiz => ?_⟩
        by_cases hc : i < z
        · exact i2 i hi hc
        · obtain rfl : i = z := by omega
          rw [← hd]; exact hq
      · repeat (first | exact trivial | refine env_ ?_)
      · repeat (first | exact SLe.rfl | refine SLe.tail ?_ | refine SLe.full ?_)
  · have hlr : p.rules.all rightR = true := by
      rw [List.all_eq_true]
      intro x hx
      obtain ⟨i, hi, rfl⟩ := List.mem_iff_getElem.1 hx
      exact i2 i hi (by omega)
    have e : rightP p = true := by rw [rightP, hld, hlr, decide_eq_false h1, decide_eq_false h2]; rfl
    repeat (first | refine go_ ?_ | intro _)
    refine AW_ret ?_
    repeat refine mk_ ?_
    refine ⟨_, R, AVle.eq ?_, sle_, rfl, rfl⟩
    rw [e]; rfl
end Go.Proofs.YtgkjbpnmeeibbaaGreatDoor.Tree
