/-
  Which relations and programs are alike, by the book. Own work.
-/
import Derived.Test.YtljdbkieofhblaaDoorP9
import Derived.Test.YtljdbkieofhblaaDoorP8
namespace Go.Proofs.YtljdbkieofhblaaDoor
open Go.Aw Go.RowKit
set_option maxHeartbeats 4000000

theorem refSameDecl_ok (a b : De) (R : List En) (n1 : a.names.length ≤ 9223372036854775807) (n2 : a.types.length ≤ 9223372036854775807) : ACall Tryd.prog 48 [encD a, encD b] R (fun v S => v = .bool (isB (likeD a b)) ∧ S = R) := by
  refine ACall_body tab_ok Tryd.func48 rfl rfl rfl (by kernel_rfl) (Nat.le_of_ble_eq_true rfl) ?_
  repeat (first | refine go_ ?_ | intro _)
  rename_i p q
  refine gsplit (¬ a.rel = b.rel) (by first | (simp; done) | (simp <;> omega) | decide) (fun h => ?_) (fun h => ?_)
  · have hq := h
    repeat (first | refine ga_ ?_ | intro _)
    refine AW_ret ?_
    repeat (first | refine ⟨0, rfl, ?_⟩ | refine ⟨1, rfl, ?_⟩ | refine ⟨2, rfl, ?_⟩ | refine ⟨3, rfl, ?_⟩ | refine ⟨4, rfl, ?_⟩ | refine ⟨5, rfl, ?_⟩ | refine ⟨6, rfl, ?_⟩)
    refine ⟨_, R, AVle.eq ?_, (by repeat (first | exact SLe.rfl | refine SLe.tail ?_)), rfl, rfl⟩
    exact congrArg AV.bool (isB_f (fun e => hq e.1)).symm
  have h1 : a.rel = b.rel := Decidable.not_not.1 h
  repeat (first | refine ga_ ?_ | intro _)
  refine gsplit (¬ a.inp = b.inp) (by first | (simp; done) | (simp <;> omega) | decide) (fun h => ?_) (fun h => ?_)
  · have hq := h
    repeat (first | refine ga_ ?_ | intro _)
    refine AW_ret ?_
    repeat (first | refine ⟨0, rfl, ?_⟩ | refine ⟨1, rfl, ?_⟩ | refine ⟨2, rfl, ?_⟩ | refine ⟨3, rfl, ?_⟩ | refine ⟨4, rfl, ?_⟩ | refine ⟨5, rfl, ?_⟩ | refine ⟨6, rfl, ?_⟩)
    refine ⟨_, R, AVle.eq ?_, (by repeat (first | exact SLe.rfl | refine SLe.tail ?_)), rfl, rfl⟩
    exact congrArg AV.bool (isB_f (fun e => hq e.2.2.2.1)).symm
  have h2 : a.inp = b.inp := Decidable.not_not.1 h
  repeat (first | refine ga_ ?_ | intro _)
  refine gsplit (¬ a.out = b.out) (by first | (simp; done) | (simp <;> omega) | decide) (fun h => ?_) (fun h => ?_)
  · have hq := h
    repeat (first | refine ga_ ?_ | intro _)
    refine AW_ret ?_
    repeat (first | refine ⟨0, rfl, ?_⟩ | refine ⟨1, rfl, ?_⟩ | refine ⟨2, rfl, ?_⟩ | refine ⟨3, rfl, ?_⟩ | refine ⟨4, rfl, ?_⟩ | refine ⟨5, rfl, ?_⟩ | refine ⟨6, rfl, ?_⟩)
    refine ⟨_, R, AVle.eq ?_, (by repeat (first | exact SLe.rfl | refine SLe.tail ?_)), rfl, rfl⟩
    exact congrArg AV.bool (isB_f (fun e => hq e.2.2.2.2)).symm
  have h3 : a.out = b.out := Decidable.not_not.1 h
  repeat (first | refine ga_ ?_ | intro _)
  refine gsplit (¬ a.names.length = b.names.length) (by first | (simp; done) | (simp <;> omega) | decide) (fun h => ?_) (fun h => ?_)
  · have hq := h
    repeat (first | refine ga_ ?_ | intro _)
    refine AW_ret ?_
    repeat (first | refine ⟨0, rfl, ?_⟩ | refine ⟨1, rfl, ?_⟩ | refine ⟨2, rfl, ?_⟩ | refine ⟨3, rfl, ?_⟩ | refine ⟨4, rfl, ?_⟩ | refine ⟨5, rfl, ?_⟩ | refine ⟨6, rfl, ?_⟩)
    refine ⟨_, R, AVle.eq ?_, (by repeat (first | exact SLe.rfl | refine SLe.tail ?_)), rfl, rfl⟩
    exact congrArg AV.bool (isB_f (fun e => hq (by rw [e.2.1]))).symm
  have l1 : a.names.length = b.names.length := Decidable.not_not.1 h
  repeat (first | refine ga_ ?_ | intro _)
  refine AW_iff (¬ a.types.length = b.types.length) rfl (by first | (simp; done) | (simp <;> omega) | decide) (fun h => ?_) (fun h => ?_)
  · have hq := h
    repeat (first | refine ga_ ?_ | intro _)
    refine AW_ret ?_
    repeat (first | refine ⟨0, rfl, ?_⟩ | refine ⟨1, rfl, ?_⟩ | refine ⟨2, rfl, ?_⟩ | refine ⟨3, rfl, ?_⟩ | refine ⟨4, rfl, ?_⟩ | refine ⟨5, rfl, ?_⟩ | refine ⟨6, rfl, ?_⟩)
    refine ⟨_, R, AVle.eq ?_, (by repeat (first | exact SLe.rfl | refine SLe.tail ?_)), rfl, rfl⟩
    exact congrArg AV.bool (isB_f (fun e => hq (by rw [e.2.2.1]))).symm
  have l2 : a.types.length = b.types.length := Decidable.not_not.1 h
  repeat (first | refine go_ ?_ | intro _)
  refine AW_for (α := Nat) (fun z => ⟨[(2, .ptr p 0), (3, .ptr q 0), (5, .int .i64 (z : Nat))], []⟩) (fun z => .cells q (cD b) :: .cells p (cD a) :: R) (fun z => (De.names a).length - z) (fun z => z ≤ (De.names a).length ∧ ∀ (i : Nat) (h : i < (De.names a).length) (h' : i < (De.names b).length), i < z → (De.names a)[i] = (De.names b)[i]) (0) ?_ (weak_of ?_ rfl ?_) (fun z hz => ?_)
  · exact ⟨by omega, fun i _ _ h => by omega⟩
  · repeat (first | exact trivial | refine ⟨AVle.refl _, ?_⟩ | refine ⟨AVle.tk, ?_⟩ | refine ⟨AVle.nil, ?_⟩ | refine ⟨AVle.nilFull, ?_⟩ | refine ⟨AVle.eq (congrArg (AV.int .i64) (by first | (simp; done) | (simp; omega) | (rw [wrap_i64 (by first | omega | (simp; omega))]; first | rfl | omega | (simp; done) | (simp; omega)))), ?_⟩)
  · refine SW.le ?_
    repeat (first | exact SW.nil | refine SW.cons ?_ | refine SW.cells (by repeat (first | exact trivial | refine ⟨AVle.refl _, ?_⟩ | refine ⟨AVle.nilFull, ?_⟩ | refine ⟨AVle.tk, ?_⟩ | refine ⟨AVle.nil, ?_⟩)) rfl ?_ | refine SW.full ?_ | refine SW.drop ?_)
  obtain ⟨i1, i2⟩ := hz
  repeat (first | refine go_ ?_ | intro _)
  refine AW_iff (z < (De.names a).length) rfl (by first | (simp; done) | (simp <;> omega) | decide) (fun h => ?_) (fun h => ?_)
  · have hlt := h
    have hlt2 : z < (De.names b).length := by omega
    obtain ⟨x, hx⟩ : ∃ x, x = (De.names a)[z] := ⟨_, rfl⟩
    obtain ⟨y, hy⟩ : ∃ x, x = (De.names b)[z] := ⟨_, rfl⟩
    repeat (first | refine go_ ?_ | intro _)
    refine AW_draw tab_ok mixed 11 (by first | rfl | kernel_rfl) ?_
    repeat (first | refine go_ ?_ | intro _)
    refine at_get (z) (AV.str x) (by first | rfl | omega | (rw [wrap_i64 (by omega)]; omega)) (by rw [List.getElem?_map, List.getElem?_eq_getElem hlt, hx]; rfl) ?_
    repeat (first | refine go_ ?_ | intro _)
    refine at_get (z) (AV.str y) (by first | rfl | omega | (rw [wrap_i64 (by omega)]; omega)) (by rw [List.getElem?_map, List.getElem?_eq_getElem hlt2, hy]; rfl) ?_
    repeat (first | refine go_ ?_ | intro _)
    refine AW_iff (¬ x = y) rfl (by first | (simp; done) | (simp <;> omega) | decide) (fun h => ?_) (fun h => ?_)
    · have hq := h
      repeat (first | refine go_ ?_ | intro _)
      refine AW_ret ?_
      repeat (first | refine ⟨0, rfl, ?_⟩ | refine ⟨1, rfl, ?_⟩ | refine ⟨2, rfl, ?_⟩ | refine ⟨3, rfl, ?_⟩ | refine ⟨4, rfl, ?_⟩ | refine ⟨5, rfl, ?_⟩ | refine ⟨6, rfl, ?_⟩)
      refine ⟨_, R, AVle.eq ?_, (by repeat (first | exact SLe.rfl | refine SLe.tail ?_)), rfl, rfl⟩
      exact congrArg AV.bool (isB_f (fun ha => hq (by have e := ha.2.1; rw [hx, hy]; simp only [e]))).symm
    · have hq : x = y := Decidable.not_not.1 h
      repeat (first | refine go_ ?_ | intro _)
      refine ⟨z + 1, ?_, ?_, weak_of ?_ rfl ?_⟩
      · omega
      · refine ⟨by omega, fun i h h' hi => ?_⟩
        by_cases hc : i < z
        · exact i2 i h h' hc
        · obtain rfl : i = z := by omega
          rw [← hx, ← hy]; exact hq
      · repeat (first | exact trivial | refine ⟨AVle.refl _, ?_⟩ | refine ⟨AVle.tk, ?_⟩ | refine ⟨AVle.nil, ?_⟩ | refine ⟨AVle.nilFull, ?_⟩ | refine ⟨AVle.eq (congrArg (AV.int .i64) (by first | (simp; done) | (simp; omega) | (rw [wrap_i64 (by first | omega | (simp; omega))]; first | rfl | omega | (simp; done) | (simp; omega)))), ?_⟩)
      · refine SW.le ?_
        repeat (first | exact SW.nil | refine SW.cons ?_ | refine SW.cells (by repeat (first | exact trivial | refine ⟨AVle.refl _, ?_⟩ | refine ⟨AVle.nilFull, ?_⟩ | refine ⟨AVle.tk, ?_⟩ | refine ⟨AVle.nil, ?_⟩)) rfl ?_ | refine SW.full ?_ | refine SW.drop ?_)
  have h4 : a.names = b.names := List.ext_getElem l1 fun i h h' => i2 i h h' (by omega)
  clear i1 i2
  repeat (first | refine go_ ?_ | intro _)
  refine AW_for (α := Nat) (fun z => ⟨[(2, .ptr p 0), (3, .ptr q 0), (6, .int .i64 (z : Nat))], []⟩) (fun z => .cells q (cD b) :: .cells p (cD a) :: R) (fun z => (De.types a).length - z) (fun z => z ≤ (De.types a).length ∧ ∀ (i : Nat) (h : i < (De.types a).length) (h' : i < (De.types b).length), i < z → (De.types a)[i] = (De.types b)[i]) (0) ?_ (weak_of ?_ rfl ?_) (fun z hz => ?_)
  · exact ⟨by omega, fun i _ _ h => by omega⟩
  · repeat (first | exact trivial | refine ⟨AVle.refl _, ?_⟩ | refine ⟨AVle.tk, ?_⟩ | refine ⟨AVle.nil, ?_⟩ | refine ⟨AVle.nilFull, ?_⟩ | refine ⟨AVle.eq (congrArg (AV.int .i64) (by first | (simp; done) | (simp; omega) | (rw [wrap_i64 (by first | omega | (simp; omega))]; first | rfl | omega | (simp; done) | (simp; omega)))), ?_⟩)
  · refine SW.le ?_
    repeat (first | exact SW.nil | refine SW.cons ?_ | refine SW.cells (by repeat (first | exact trivial | refine ⟨AVle.refl _, ?_⟩ | refine ⟨AVle.nilFull, ?_⟩ | refine ⟨AVle.tk, ?_⟩ | refine ⟨AVle.nil, ?_⟩)) rfl ?_ | refine SW.full ?_ | refine SW.drop ?_)
  obtain ⟨i1, i2⟩ := hz
  repeat (first | refine go_ ?_ | intro _)
  refine AW_iff (z < (De.types a).length) rfl (by first | (simp; done) | (simp <;> omega) | decide) (fun h => ?_) (fun h => ?_)
  · have hlt := h
    have hlt2 : z < (De.types b).length := by omega
    obtain ⟨x, hx⟩ : ∃ x, x = (De.types a)[z] := ⟨_, rfl⟩
    obtain ⟨y, hy⟩ : ∃ x, x = (De.types b)[z] := ⟨_, rfl⟩
    repeat (first | refine go_ ?_ | intro _)
    refine AW_draw tab_ok mixed 11 (by first | rfl | kernel_rfl) ?_
    repeat (first | refine go_ ?_ | intro _)
    refine at_get (z) (encI x) (by first | rfl | omega | (rw [wrap_i64 (by omega)]; omega)) (by rw [List.getElem?_map, List.getElem?_eq_getElem hlt, hx]; rfl) ?_
    repeat (first | refine go_ ?_ | intro _)
    refine at_get (z) (encI y) (by first | rfl | omega | (rw [wrap_i64 (by omega)]; omega)) (by rw [List.getElem?_map, List.getElem?_eq_getElem hlt2, hy]; rfl) ?_
    repeat (first | refine go_ ?_ | intro _)
    refine AW_iff (¬ x = y) rfl (by first | (simp; done) | (simp <;> omega) | decide) (fun h => ?_) (fun h => ?_)
    · have hq := h
      repeat (first | refine go_ ?_ | intro _)
      refine AW_ret ?_
      repeat (first | refine ⟨0, rfl, ?_⟩ | refine ⟨1, rfl, ?_⟩ | refine ⟨2, rfl, ?_⟩ | refine ⟨3, rfl, ?_⟩ | refine ⟨4, rfl, ?_⟩ | refine ⟨5, rfl, ?_⟩ | refine ⟨6, rfl, ?_⟩)
      refine ⟨_, R, AVle.eq ?_, (by repeat (first | exact SLe.rfl | refine SLe.tail ?_)), rfl, rfl⟩
      exact congrArg AV.bool (isB_f (fun ha => hq (by have e := ha.2.2.1; rw [hx, hy]; simp only [e]))).symm
    · have hq : x = y := Decidable.not_not.1 h
      repeat (first | refine go_ ?_ | intro _)
      refine ⟨z + 1, ?_, ?_, weak_of ?_ rfl ?_⟩
      · omega
      · refine ⟨by omega, fun i h h' hi => ?_⟩
        by_cases hc : i < z
        · exact i2 i h h' hc
        · obtain rfl : i = z := by omega
          rw [← hx, ← hy]; exact hq
      · repeat (first | exact trivial | refine ⟨AVle.refl _, ?_⟩ | refine ⟨AVle.tk, ?_⟩ | refine ⟨AVle.nil, ?_⟩ | refine ⟨AVle.nilFull, ?_⟩ | refine ⟨AVle.eq (congrArg (AV.int .i64) (by first | (simp; done) | (simp; omega) | (rw [wrap_i64 (by first | omega | (simp; omega))]; first | rfl | omega | (simp; done) | (simp; omega)))), ?_⟩)
      · refine SW.le ?_
        repeat (first | exact SW.nil | refine SW.cons ?_ | refine SW.cells (by repeat (first | exact trivial | refine ⟨AVle.refl _, ?_⟩ | refine ⟨AVle.nilFull, ?_⟩ | refine ⟨AVle.tk, ?_⟩ | refine ⟨AVle.nil, ?_⟩)) rfl ?_ | refine SW.full ?_ | refine SW.drop ?_)
  have h5 : a.types = b.types := List.ext_getElem l2 fun i h h' => i2 i h h' (by omega)
  repeat (first | refine go_ ?_ | intro _)
  refine AW_ret ?_
  repeat (first | refine ⟨0, rfl, ?_⟩ | refine ⟨1, rfl, ?_⟩ | refine ⟨2, rfl, ?_⟩ | refine ⟨3, rfl, ?_⟩ | refine ⟨4, rfl, ?_⟩ | refine ⟨5, rfl, ?_⟩ | refine ⟨6, rfl, ?_⟩)
  refine ⟨_, R, AVle.eq ?_, (by repeat (first | exact SLe.rfl | refine SLe.tail ?_)), rfl, rfl⟩
  exact congrArg AV.bool (isB_t ⟨h1, h4, h5, h2, h3⟩).symm
theorem refSame_ok (a b : Pr) (R : List En) (hp : okP a) (hs : okS a) (h3 : a.rules.length ≤ 300) : ACall Tryd.prog 20 [encP a, encP b] R (fun v S => v = .bool (isB (likeP a b)) ∧ S = R) := by
  have kd : ∀ x ∈ a.decls, ∀ (y : De) (R : List En), ACall Tryd.prog 48 [encD x, encD y] R (fun v S => v = .bool (isB (likeD x y)) ∧ S = R) := fun x hx y R => refSameDecl_ok x y R (hp.2 x hx).1 (hp.2 x hx).2
  have kr : ∀ x ∈ a.rules, ∀ (y : Ru) (R : List En), ACall Tryd.prog 49 [encRu x, encRu y] R (fun v S => v = .bool (isB (likeR x y)) ∧ S = R) := fun x hx y R => refSameRule_ok x y R (by have := cntRs_at hx; have := hs.2.2; omega)
  have hd := hp.1
  refine ACall_body tab_ok Tryd.func20 rfl rfl rfl (by kernel_rfl) (Nat.le_of_ble_eq_true rfl) ?_
  repeat (first | refine go_ ?_ | intro _)
  rename_i p q
  refine gsplit (¬ a.decls.length = b.decls.length) (by first | (simp; done) | (simp <;> omega) | decide) (fun h => ?_) (fun h => ?_)
  · have hq := h
    repeat (first | refine ga_ ?_ | intro _)
    refine AW_ret ?_
    repeat (first | refine ⟨0, rfl, ?_⟩ | refine ⟨1, rfl, ?_⟩ | refine ⟨2, rfl, ?_⟩ | refine ⟨3, rfl, ?_⟩ | refine ⟨4, rfl, ?_⟩ | refine ⟨5, rfl, ?_⟩ | refine ⟨6, rfl, ?_⟩)
    refine ⟨_, R, AVle.eq ?_, (by repeat (first | exact SLe.rfl | refine SLe.tail ?_)), rfl, rfl⟩
    exact congrArg AV.bool (isB_f (fun e => hq (allQ_D.2 e.1).1)).symm
  have l1 : a.decls.length = b.decls.length := Decidable.not_not.1 h
  repeat (first | refine ga_ ?_ | intro _)
  refine AW_iff (¬ a.rules.length = b.rules.length) rfl (by first | (simp; done) | (simp <;> omega) | decide) (fun h => ?_) (fun h => ?_)
  · have hq := h
    repeat (first | refine ga_ ?_ | intro _)
    refine AW_ret ?_
    repeat (first | refine ⟨0, rfl, ?_⟩ | refine ⟨1, rfl, ?_⟩ | refine ⟨2, rfl, ?_⟩ | refine ⟨3, rfl, ?_⟩ | refine ⟨4, rfl, ?_⟩ | refine ⟨5, rfl, ?_⟩ | refine ⟨6, rfl, ?_⟩)
    refine ⟨_, R, AVle.eq ?_, (by repeat (first | exact SLe.rfl | refine SLe.tail ?_)), rfl, rfl⟩
    exact congrArg AV.bool (isB_f (fun e => hq (allQ_R.2 e.2).1)).symm
  have l2 : a.rules.length = b.rules.length := Decidable.not_not.1 h
  repeat (first | refine go_ ?_ | intro _)
  refine AW_for (α := Nat) (fun z => ⟨[(2, .ptr p 0), (3, .ptr q 0), (5, .int .i64 (z : Nat))], []⟩) (fun z => .cells q [.sl 6 (b.decls.map encD) .no, .sl 4 (b.rules.map encRu) .no] :: .cells p [.sl 6 (a.decls.map encD) .no, .sl 4 (a.rules.map encRu) .no] :: R) (fun z => (Pr.decls a).length - z) (fun z => z ≤ (Pr.decls a).length ∧ ∀ (i : Nat) (h : i < (Pr.decls a).length) (h' : i < (Pr.decls b).length), i < z → likeD (Pr.decls a)[i] (Pr.decls b)[i]) (0) ?_ (weak_of ?_ rfl ?_) (fun z hz => ?_)
  · exact ⟨by omega, fun i _ _ h => by omega⟩
  · repeat (first | exact trivial | refine ⟨AVle.refl _, ?_⟩ | refine ⟨AVle.tk, ?_⟩ | refine ⟨AVle.nil, ?_⟩ | refine ⟨AVle.nilFull, ?_⟩ | refine ⟨AVle.eq (congrArg (AV.int .i64) (by first | (simp; done) | (simp; omega) | (rw [wrap_i64 (by first | omega | (simp; omega))]; first | rfl | omega | (simp; done) | (simp; omega)))), ?_⟩)
  · refine SW.le ?_
    repeat (first | exact SW.nil | refine SW.cons ?_ | refine SW.cells (by repeat (first | exact trivial | refine ⟨AVle.refl _, ?_⟩ | refine ⟨AVle.nilFull, ?_⟩ | refine ⟨AVle.tk, ?_⟩ | refine ⟨AVle.nil, ?_⟩)) rfl ?_ | refine SW.full ?_ | refine SW.drop ?_)
  obtain ⟨i1, i2⟩ := hz
  repeat (first | refine go_ ?_ | intro _)
  refine AW_iff (z < (Pr.decls a).length) rfl (by first | (simp; done) | (simp <;> omega) | decide) (fun h => ?_) (fun h => ?_)
  · have hlt := h
    have hlt2 : z < (Pr.decls b).length := by omega
    obtain ⟨x, hx⟩ : ∃ x, x = (Pr.decls a)[z] := ⟨_, rfl⟩
    obtain ⟨y, hy⟩ : ∃ x, x = (Pr.decls b)[z] := ⟨_, rfl⟩
    repeat (first | refine go_ ?_ | intro _)
    refine AW_draw tab_ok mixed 12 (by first | rfl | kernel_rfl) ?_
    repeat (first | refine go_ ?_ | intro _)
    refine at_get (z) (encD x) (by first | rfl | omega | (rw [wrap_i64 (by omega)]; omega)) (by rw [List.getElem?_map, List.getElem?_eq_getElem hlt, hx]; rfl) ?_
    repeat (first | refine go_ ?_ | intro _)
    refine at_get (z) (encD y) (by first | rfl | omega | (rw [wrap_i64 (by omega)]; omega)) (by rw [List.getElem?_map, List.getElem?_eq_getElem hlt2, hy]; rfl) ?_
    repeat (first | refine go_ ?_ | intro _)
    apply call_step
    · rfl
    · exact Or.inl ⟨⟨_, Tryd.func48, rfl, rfl⟩, kd x (hx ▸ List.getElem_mem hlt) y _⟩
    repeat (first | refine go_ ?_ | intro _)
    refine AW_cond (b := !isB (likeD x y)) rfl (fun h => ?_) (fun h => ?_)
    · have hq : ¬ likeD x y := isB_not.1 (by simpa using h)
      repeat (first | refine go_ ?_ | intro _)
      refine AW_ret ?_
      repeat (first | refine ⟨0, rfl, ?_⟩ | refine ⟨1, rfl, ?_⟩ | refine ⟨2, rfl, ?_⟩ | refine ⟨3, rfl, ?_⟩ | refine ⟨4, rfl, ?_⟩ | refine ⟨5, rfl, ?_⟩ | refine ⟨6, rfl, ?_⟩)
      refine ⟨_, R, AVle.eq ?_, (by repeat (first | exact SLe.rfl | refine SLe.tail ?_)), rfl, rfl⟩
      exact congrArg AV.bool (isB_f (fun ha => hq (by rw [hx, hy]; exact (allQ_D.2 ha.1).2 z hlt hlt2))).symm
    · have hq : likeD x y := isB_iff.1 (by simpa using h)
      repeat (first | refine go_ ?_ | intro _)
      refine ⟨z + 1, ?_, ?_, weak_of ?_ rfl ?_⟩
      · omega
      · refine ⟨by omega, fun i h h' hi => ?_⟩
        by_cases hc : i < z
        · exact i2 i h h' hc
        · obtain rfl : i = z := by omega
          rw [← hx, ← hy]; exact hq
      · repeat (first | exact trivial | refine ⟨AVle.refl _, ?_⟩ | refine ⟨AVle.tk, ?_⟩ | refine ⟨AVle.nil, ?_⟩ | refine ⟨AVle.nilFull, ?_⟩ | refine ⟨AVle.eq (congrArg (AV.int .i64) (by first | (simp; done) | (simp; omega) | (rw [wrap_i64 (by first | omega | (simp; omega))]; first | rfl | omega | (simp; done) | (simp; omega)))), ?_⟩)
      · refine SW.le ?_
        repeat (first | exact SW.nil | refine SW.cons ?_ | refine SW.cells (by repeat (first | exact trivial | refine ⟨AVle.refl _, ?_⟩ | refine ⟨AVle.nilFull, ?_⟩ | refine ⟨AVle.tk, ?_⟩ | refine ⟨AVle.nil, ?_⟩)) rfl ?_ | refine SW.full ?_ | refine SW.drop ?_)
  have h4 : likeDs a.decls b.decls := allQ_D.1 ⟨l1, fun i h h' => i2 i h h' (by omega)⟩
  clear i1 i2
  repeat (first | refine go_ ?_ | intro _)
  refine AW_for (α := Nat) (fun z => ⟨[(2, .ptr p 0), (3, .ptr q 0), (7, .int .i64 (z : Nat))], []⟩) (fun z => .cells q [.sl 6 (b.decls.map encD) .no, .sl 4 (b.rules.map encRu) .no] :: .cells p [.sl 6 (a.decls.map encD) .no, .sl 4 (a.rules.map encRu) .no] :: R) (fun z => (Pr.rules a).length - z) (fun z => z ≤ (Pr.rules a).length ∧ ∀ (i : Nat) (h : i < (Pr.rules a).length) (h' : i < (Pr.rules b).length), i < z → likeR (Pr.rules a)[i] (Pr.rules b)[i]) (0) ?_ (weak_of ?_ rfl ?_) (fun z hz => ?_)
  · exact ⟨by omega, fun i _ _ h => by omega⟩
  · repeat (first | exact trivial | refine ⟨AVle.refl _, ?_⟩ | refine ⟨AVle.tk, ?_⟩ | refine ⟨AVle.nil, ?_⟩ | refine ⟨AVle.nilFull, ?_⟩ | refine ⟨AVle.eq (congrArg (AV.int .i64) (by first | (simp; done) | (simp; omega) | (rw [wrap_i64 (by first | omega | (simp; omega))]; first | rfl | omega | (simp; done) | (simp; omega)))), ?_⟩)
  · refine SW.le ?_
    repeat (first | exact SW.nil | refine SW.cons ?_ | refine SW.cells (by repeat (first | exact trivial | refine ⟨AVle.refl _, ?_⟩ | refine ⟨AVle.nilFull, ?_⟩ | refine ⟨AVle.tk, ?_⟩ | refine ⟨AVle.nil, ?_⟩)) rfl ?_ | refine SW.full ?_ | refine SW.drop ?_)
  obtain ⟨i1, i2⟩ := hz
  repeat (first | refine go_ ?_ | intro _)
  refine AW_iff (z < (Pr.rules a).length) rfl (by first | (simp; done) | (simp <;> omega) | decide) (fun h => ?_) (fun h => ?_)
  · have hlt := h
    have hlt2 : z < (Pr.rules b).length := by omega
    obtain ⟨x, hx⟩ : ∃ x, x = (Pr.rules a)[z] := ⟨_, rfl⟩
    obtain ⟨y, hy⟩ : ∃ x, x = (Pr.rules b)[z] := ⟨_, rfl⟩
    repeat (first | refine go_ ?_ | intro _)
    refine AW_draw tab_ok mixed 12 (by first | rfl | kernel_rfl) ?_
    repeat (first | refine go_ ?_ | intro _)
    refine at_get (z) (encRu x) (by first | rfl | omega | (rw [wrap_i64 (by omega)]; omega)) (by rw [List.getElem?_map, List.getElem?_eq_getElem hlt, hx]; rfl) ?_
    repeat (first | refine go_ ?_ | intro _)
    refine at_get (z) (encRu y) (by first | rfl | omega | (rw [wrap_i64 (by omega)]; omega)) (by rw [List.getElem?_map, List.getElem?_eq_getElem hlt2, hy]; rfl) ?_
    repeat (first | refine go_ ?_ | intro _)
    apply call_step
    · rfl
    · exact Or.inl ⟨⟨_, Tryd.func49, rfl, rfl⟩, kr x (hx ▸ List.getElem_mem hlt) y _⟩
    repeat (first | refine go_ ?_ | intro _)
    refine AW_cond (b := !isB (likeR x y)) rfl (fun h => ?_) (fun h => ?_)
    · have hq : ¬ likeR x y := isB_not.1 (by simpa using h)
      repeat (first | refine go_ ?_ | intro _)
      refine AW_ret ?_
      repeat (first | refine ⟨0, rfl, ?_⟩ | refine ⟨1, rfl, ?_⟩ | refine ⟨2, rfl, ?_⟩ | refine ⟨3, rfl, ?_⟩ | refine ⟨4, rfl, ?_⟩ | refine ⟨5, rfl, ?_⟩ | refine ⟨6, rfl, ?_⟩)
      refine ⟨_, R, AVle.eq ?_, (by repeat (first | exact SLe.rfl | refine SLe.tail ?_)), rfl, rfl⟩
      exact congrArg AV.bool (isB_f (fun ha => hq (by rw [hx, hy]; exact (allQ_R.2 ha.2).2 z hlt hlt2))).symm
    · have hq : likeR x y := isB_iff.1 (by simpa using h)
      repeat (first | refine go_ ?_ | intro _)
      refine ⟨z + 1, ?_, ?_, weak_of ?_ rfl ?_⟩
      · omega
      · refine ⟨by omega, fun i h h' hi => ?_⟩
        by_cases hc : i < z
        · exact i2 i h h' hc
        · obtain rfl : i = z := by omega
          rw [← hx, ← hy]; exact hq
      · repeat (first | exact trivial | refine ⟨AVle.refl _, ?_⟩ | refine ⟨AVle.tk, ?_⟩ | refine ⟨AVle.nil, ?_⟩ | refine ⟨AVle.nilFull, ?_⟩ | refine ⟨AVle.eq (congrArg (AV.int .i64) (by first | (simp; done) | (simp; omega) | (rw [wrap_i64 (by first | omega | (simp; omega))]; first | rfl | omega | (simp; done) | (simp; omega)))), ?_⟩)
      · refine SW.le ?_
        repeat (first | exact SW.nil | refine SW.cons ?_ | refine SW.cells (by repeat (first | exact trivial | refine ⟨AVle.refl _, ?_⟩ | refine ⟨AVle.nilFull, ?_⟩ | refine ⟨AVle.tk, ?_⟩ | refine ⟨AVle.nil, ?_⟩)) rfl ?_ | refine SW.full ?_ | refine SW.drop ?_)
  have h5 : likeRs a.rules b.rules := allQ_R.1 ⟨l2, fun i h h' => i2 i h h' (by omega)⟩
  repeat (first | refine go_ ?_ | intro _)
  refine AW_ret ?_
  repeat (first | refine ⟨0, rfl, ?_⟩ | refine ⟨1, rfl, ?_⟩ | refine ⟨2, rfl, ?_⟩ | refine ⟨3, rfl, ?_⟩ | refine ⟨4, rfl, ?_⟩ | refine ⟨5, rfl, ?_⟩ | refine ⟨6, rfl, ?_⟩)
  refine ⟨_, R, AVle.eq ?_, (by repeat (first | exact SLe.rfl | refine SLe.tail ?_)), rfl, rfl⟩
  exact congrArg AV.bool (isB_t ⟨h4, h5⟩).symm
end Go.Proofs.YtljdbkieofhblaaDoor
/-
  DtreeSames, DtreeApart, DtreeParts: the walks. Own work.
-/
namespace Go.Proofs.YtljdbkieofhblaaDoor
open Go.Aw Go.ChangeShapes Go.WideShapes Go.ChangeAt Go.RowKit
set_option maxHeartbeats 4000000

theorem likeRs_refl : ∀ l : List Ru, likeRs l l
  | [] => trivial
  | r :: l => ⟨⟨rfl, rfl⟩, likeRs_refl l⟩
theorem likeDs_refl : ∀ l : List De, likeDs l l
  | [] => trivial
  | r :: l => ⟨⟨rfl, rfl, rfl, rfl, rfl⟩, likeDs_refl l⟩
theorem likeP_refl (p : Pr) : likeP p p := ⟨likeDs_refl _, likeRs_refl _⟩

theorem dtreeSames_ok (p q : Pr) (R : List En) (hG : NumG R) (b o : Nat) (hE : En.glob 0 [errE b o] ∈ R) : ACall Tryd.prog 6 [encP p, encP q] R (fun r S => r = .bool true ∧ S = R) := by
  refine ACall_sat fun hs => ?_
  have hp := hs _ (.head _)
  have hq := hs _ (.tail _ (.head _))
  have hP := okP_of p hp
  have hn := nP_of p hp
  have ks := fun R => small_ok p R hP
  have kt := fun R => small_ok q R (okP_of q hq)
  by_cases hb : smallB p = true
  · rw [smallI_1 hb] at ks
    by_cases hc : smallB q = true
    · rw [smallI_1 hc] at kt
      obtain ⟨hS, _, h3⟩ := small_S hb hn
      refine ACall_body tab_ok Tryd.func6 rfl rfl rfl (by kernel_rfl) (Nat.le_of_ble_eq_true rfl) ?_
      repeat (first | refine go_ ?_ | intro _)
      refine Or.inl ⟨⟨_, Tryd.func9, rfl, rfl⟩, ACall.mono ?_ (shown_ok b o _ (.tail _ (.tail _ hE)) hG.cons.cons)⟩
      rintro _ S1 ⟨rfl, hS1⟩
      subst S1
      repeat (first | refine go_ ?_ | intro _)
      refine Or.inl ⟨⟨_, Tryd.func10, rfl, rfl⟩, ACall.mono ?_ (ks _)⟩
      rintro _ S1 ⟨rfl, hS1⟩
      subst S1
      repeat (first | refine ga_ ?_ | intro _)
      refine Or.inl ⟨⟨_, Tryd.func10, rfl, rfl⟩, ACall.mono ?_ (kt _)⟩
      rintro _ S1 ⟨rfl, hS1⟩
      subst S1
      repeat (first | refine ga_ ?_ | intro _)
      refine AW_draw tab_ok mixed 11 (by first | rfl | kernel_rfl) ?_
      repeat (first | refine ga_ ?_ | intro _)
      apply call_step
      · rfl
      · exact Or.inl ⟨⟨_, Tryd.func19, rfl, rfl⟩, same_ok p q _ hP hS h3⟩
      repeat (first | refine go_ ?_ | intro _)
      apply call_step
      · rfl
      · exact Or.inl ⟨⟨_, Tryd.func20, rfl, rfl⟩, refSame_ok p q _ hP hS h3⟩
      repeat (first | refine go_ ?_ | intro _)
      refine AW_ret ?_
      repeat (first | refine ⟨0, rfl, ?_⟩ | refine ⟨1, rfl, ?_⟩ | refine ⟨2, rfl, ?_⟩ | refine ⟨3, rfl, ?_⟩ | refine ⟨4, rfl, ?_⟩ | refine ⟨5, rfl, ?_⟩ | refine ⟨6, rfl, ?_⟩)
      refine ⟨_, R, AVle.eq ?_, (by repeat (first | exact SLe.rfl | refine SLe.tail ?_)), rfl, rfl⟩
      exact congrArg AV.bool (by simp)
    · rw [smallI_0 (by simpa using hc)] at kt
      refine ACall_body tab_ok Tryd.func6 rfl rfl rfl (by kernel_rfl) (Nat.le_of_ble_eq_true rfl) ?_
      repeat (first | refine go_ ?_ | intro _)
      refine Or.inl ⟨⟨_, Tryd.func9, rfl, rfl⟩, ACall.mono ?_ (shown_ok b o _ (.tail _ (.tail _ hE)) hG.cons.cons)⟩
      rintro _ S1 ⟨rfl, hS1⟩
      subst S1
      repeat (first | refine go_ ?_ | intro _)
      refine Or.inl ⟨⟨_, Tryd.func10, rfl, rfl⟩, ACall.mono ?_ (ks _)⟩
      rintro _ S1 ⟨rfl, hS1⟩
      subst S1
      repeat (first | refine ga_ ?_ | intro _)
      refine Or.inl ⟨⟨_, Tryd.func10, rfl, rfl⟩, ACall.mono ?_ (kt _)⟩
      rintro _ S1 ⟨rfl, hS1⟩
      subst S1
      repeat (first | refine ga_ ?_ | intro _)
      refine AW_ret ?_
      repeat (first | refine ⟨0, rfl, ?_⟩ | refine ⟨1, rfl, ?_⟩ | refine ⟨2, rfl, ?_⟩ | refine ⟨3, rfl, ?_⟩ | refine ⟨4, rfl, ?_⟩ | refine ⟨5, rfl, ?_⟩ | refine ⟨6, rfl, ?_⟩)
      refine ⟨_, R, AVle.eq ?_, (by repeat (first | exact SLe.rfl | refine SLe.tail ?_)), rfl, rfl⟩
      rfl
  · rw [smallI_0 (by simpa using hb)] at ks
    refine ACall_body tab_ok Tryd.func6 rfl rfl rfl (by kernel_rfl) (Nat.le_of_ble_eq_true rfl) ?_
    repeat (first | refine go_ ?_ | intro _)
    refine Or.inl ⟨⟨_, Tryd.func9, rfl, rfl⟩, ACall.mono ?_ (shown_ok b o _ (.tail _ (.tail _ hE)) hG.cons.cons)⟩
    rintro _ S1 ⟨rfl, hS1⟩
    subst S1
    repeat (first | refine go_ ?_ | intro _)
    refine Or.inl ⟨⟨_, Tryd.func10, rfl, rfl⟩, ACall.mono ?_ (ks _)⟩
    rintro _ S1 ⟨rfl, hS1⟩
    subst S1
    repeat (first | refine ga_ ?_ | intro _)
    refine AW_ret ?_
    repeat (first | refine ⟨0, rfl, ?_⟩ | refine ⟨1, rfl, ?_⟩ | refine ⟨2, rfl, ?_⟩ | refine ⟨3, rfl, ?_⟩ | refine ⟨4, rfl, ?_⟩ | refine ⟨5, rfl, ?_⟩ | refine ⟨6, rfl, ?_⟩)
    refine ⟨_, R, AVle.eq ?_, (by repeat (first | exact SLe.rfl | refine SLe.tail ?_)), rfl, rfl⟩
    rfl

theorem dtreeApart_ok (p q : Pr) (R : List En) (hG : NumG R) (b o : Nat) (hE : En.glob 0 [errE b o] ∈ R) : ACall Tryd.prog 7 [encP p, encP q] R (fun r S => r = .bool true ∧ S = R) := by
  refine ACall_sat fun hs => ?_
  have hp := hs _ (.head _)
  have hq := hs _ (.tail _ (.head _))
  have hP := okP_of p hp
  have hn := nP_of p hp
  have hm := nP_of q hq
  have ks := fun R => small_ok p R hP
  have kt := fun R => small_ok q R (okP_of q hq)
  by_cases hb : smallB p = true
  · rw [smallI_1 hb] at ks
    by_cases hc : smallB q = true
    · rw [smallI_1 hc] at kt
      obtain ⟨hS, _, h3⟩ := small_S hb hn
      obtain ⟨hS', _, _⟩ := small_S hc hm
      have k1 := fun R hE hG => show_ok b o p R hE hS hG
      have k2 := fun R hE hG => show_ok b o q R hE hS' hG
      have k3 := fun R => same_ok p p R hP hS h3
      have k4 := fun R => same_ok p q R hP hS h3
      rw [isB_t (likeP_refl p)] at k3
      refine ACall_body tab_ok Tryd.func7 rfl rfl rfl (by kernel_rfl) (Nat.le_of_ble_eq_true rfl) ?_
      repeat (first | refine go_ ?_ | intro _)
      refine Or.inl ⟨⟨_, Tryd.func9, rfl, rfl⟩, ACall.mono ?_ (shown_ok b o _ (.tail _ (.tail _ hE)) hG.cons.cons)⟩
      rintro _ S1 ⟨rfl, hS1⟩
      subst S1
      repeat (first | refine go_ ?_ | intro _)
      refine Or.inl ⟨⟨_, Tryd.func10, rfl, rfl⟩, ACall.mono ?_ (ks _)⟩
      rintro _ S1 ⟨rfl, hS1⟩
      subst S1
      repeat (first | refine ga_ ?_ | intro _)
      refine Or.inl ⟨⟨_, Tryd.func10, rfl, rfl⟩, ACall.mono ?_ (kt _)⟩
      rintro _ S1 ⟨rfl, hS1⟩
      subst S1
      repeat (first | refine ga_ ?_ | intro _)
      by_cases rp : rightP p = true
      · rw [shownP_t rp] at k1
        refine Or.inl ⟨⟨_, Tryd.func18, rfl, rfl⟩, ACall.mono ?_ (k1 _ (.tail _ (.tail _ hE)) hG.cons.cons)⟩
        rintro _ S1 ⟨rfl, hS1⟩
        subst S1
        repeat (first | refine ga_ ?_ | intro _)
        by_cases rq : rightP q = true
        · rw [shownP_t rq] at k2
          obtain ⟨x, hx⟩ : ∃ x, x = showP p := ⟨_, rfl⟩
          obtain ⟨y, hy⟩ : ∃ x, x = showP q := ⟨_, rfl⟩
          have e : (decide (x = y) == isB (likeP p q)) = true := by
            by_cases h : likeP p q
            · rw [isB_t h, hx, hy, like_showP h]; simp
            · rw [isB_f h, hx, hy, decide_eq_false (fun e => h (showP_inj rp rq hn hm e))]; rfl
          rw [hx, hy] at e
          refine Or.inl ⟨⟨_, Tryd.func18, rfl, rfl⟩, ACall.mono ?_ (k2 _ (.tail _ (.tail _ hE)) hG.cons.cons)⟩
          rintro _ S1 ⟨rfl, hS1⟩
          subst S1
          repeat (first | refine ga_ ?_ | intro _)
          refine Or.inl ⟨⟨_, Tryd.func19, rfl, rfl⟩, ACall.mono ?_ (k3 _)⟩
          rintro _ S1 ⟨rfl, hS1⟩
          subst S1
          repeat (first | refine ga_ ?_ | intro _)
          refine Or.inl ⟨⟨_, Tryd.func19, rfl, rfl⟩, ACall.mono ?_ (k4 _)⟩
          rintro _ S1 ⟨rfl, hS1⟩
          subst S1
          repeat (first | refine ga_ ?_ | intro _)
          refine AW_ret ?_
          repeat (first | refine ⟨0, rfl, ?_⟩ | refine ⟨1, rfl, ?_⟩ | refine ⟨2, rfl, ?_⟩ | refine ⟨3, rfl, ?_⟩ | refine ⟨4, rfl, ?_⟩ | refine ⟨5, rfl, ?_⟩ | refine ⟨6, rfl, ?_⟩)
          refine ⟨_, R, AVle.eq ?_, (by repeat (first | exact SLe.rfl | refine SLe.tail ?_)), rfl, rfl⟩
          exact congrArg AV.bool e
        · rw [shownP_f (by simpa using rq)] at k2
          refine Or.inl ⟨⟨_, Tryd.func18, rfl, rfl⟩, ACall.mono ?_ (k2 _ (.tail _ (.tail _ hE)) hG.cons.cons)⟩
          rintro _ S1 ⟨rfl, hS1⟩
          subst S1
          repeat (first | refine ga_ ?_ | intro _)
          refine Or.inl ⟨⟨_, Tryd.func19, rfl, rfl⟩, ACall.mono ?_ (k3 _)⟩
          rintro _ S1 ⟨rfl, hS1⟩
          subst S1
          repeat (first | refine ga_ ?_ | intro _)
          refine AW_ret ?_
          repeat (first | refine ⟨0, rfl, ?_⟩ | refine ⟨1, rfl, ?_⟩ | refine ⟨2, rfl, ?_⟩ | refine ⟨3, rfl, ?_⟩ | refine ⟨4, rfl, ?_⟩ | refine ⟨5, rfl, ?_⟩ | refine ⟨6, rfl, ?_⟩)
          refine ⟨_, R, AVle.eq ?_, (by repeat (first | exact SLe.rfl | refine SLe.tail ?_)), rfl, rfl⟩
          rfl
      · rw [shownP_f (by simpa using rp)] at k1
        obtain ⟨s, e, hse⟩ : ∃ s e, shownP q = .tup [.str s, .int .i64 e] := ⟨_, _, rfl⟩
        rw [hse] at k2
        refine Or.inl ⟨⟨_, Tryd.func18, rfl, rfl⟩, ACall.mono ?_ (k1 _ (.tail _ (.tail _ hE)) hG.cons.cons)⟩
        rintro _ S1 ⟨rfl, hS1⟩
        subst S1
        repeat (first | refine ga_ ?_ | intro _)
        refine Or.inl ⟨⟨_, Tryd.func18, rfl, rfl⟩, ACall.mono ?_ (k2 _ (.tail _ (.tail _ hE)) hG.cons.cons)⟩
        rintro _ S1 ⟨rfl, hS1⟩
        subst S1
        repeat (first | refine ga_ ?_ | intro _)
        refine Or.inl ⟨⟨_, Tryd.func19, rfl, rfl⟩, ACall.mono ?_ (k3 _)⟩
        rintro _ S1 ⟨rfl, hS1⟩
        subst S1
        repeat (first | refine ga_ ?_ | intro _)
        refine AW_ret ?_
        repeat (first | refine ⟨0, rfl, ?_⟩ | refine ⟨1, rfl, ?_⟩ | refine ⟨2, rfl, ?_⟩ | refine ⟨3, rfl, ?_⟩ | refine ⟨4, rfl, ?_⟩ | refine ⟨5, rfl, ?_⟩ | refine ⟨6, rfl, ?_⟩)
        refine ⟨_, R, AVle.eq ?_, (by repeat (first | exact SLe.rfl | refine SLe.tail ?_)), rfl, rfl⟩
        rfl
    · rw [smallI_0 (by simpa using hc)] at kt
      refine ACall_body tab_ok Tryd.func7 rfl rfl rfl (by kernel_rfl) (Nat.le_of_ble_eq_true rfl) ?_
      repeat (first | refine go_ ?_ | intro _)
      refine Or.inl ⟨⟨_, Tryd.func9, rfl, rfl⟩, ACall.mono ?_ (shown_ok b o _ (.tail _ (.tail _ hE)) hG.cons.cons)⟩
      rintro _ S1 ⟨rfl, hS1⟩
      subst S1
      repeat (first | refine go_ ?_ | intro _)
      refine Or.inl ⟨⟨_, Tryd.func10, rfl, rfl⟩, ACall.mono ?_ (ks _)⟩
      rintro _ S1 ⟨rfl, hS1⟩
      subst S1
      repeat (first | refine ga_ ?_ | intro _)
      refine Or.inl ⟨⟨_, Tryd.func10, rfl, rfl⟩, ACall.mono ?_ (kt _)⟩
      rintro _ S1 ⟨rfl, hS1⟩
      subst S1
      repeat (first | refine ga_ ?_ | intro _)
      refine AW_ret ?_
      repeat (first | refine ⟨0, rfl, ?_⟩ | refine ⟨1, rfl, ?_⟩ | refine ⟨2, rfl, ?_⟩ | refine ⟨3, rfl, ?_⟩ | refine ⟨4, rfl, ?_⟩ | refine ⟨5, rfl, ?_⟩ | refine ⟨6, rfl, ?_⟩)
      refine ⟨_, R, AVle.eq ?_, (by repeat (first | exact SLe.rfl | refine SLe.tail ?_)), rfl, rfl⟩
      rfl
  · rw [smallI_0 (by simpa using hb)] at ks
    refine ACall_body tab_ok Tryd.func7 rfl rfl rfl (by kernel_rfl) (Nat.le_of_ble_eq_true rfl) ?_
    repeat (first | refine go_ ?_ | intro _)
    refine Or.inl ⟨⟨_, Tryd.func9, rfl, rfl⟩, ACall.mono ?_ (shown_ok b o _ (.tail _ (.tail _ hE)) hG.cons.cons)⟩
    rintro _ S1 ⟨rfl, hS1⟩
    subst S1
    repeat (first | refine go_ ?_ | intro _)
    refine Or.inl ⟨⟨_, Tryd.func10, rfl, rfl⟩, ACall.mono ?_ (ks _)⟩
    rintro _ S1 ⟨rfl, hS1⟩
    subst S1
    repeat (first | refine ga_ ?_ | intro _)
    refine AW_ret ?_
    repeat (first | refine ⟨0, rfl, ?_⟩ | refine ⟨1, rfl, ?_⟩ | refine ⟨2, rfl, ?_⟩ | refine ⟨3, rfl, ?_⟩ | refine ⟨4, rfl, ?_⟩ | refine ⟨5, rfl, ?_⟩ | refine ⟨6, rfl, ?_⟩)
    refine ⟨_, R, AVle.eq ?_, (by repeat (first | exact SLe.rfl | refine SLe.tail ?_)), rfl, rfl⟩
    rfl

theorem dtreeParts_ok (p : Pr) (R : List En) (hG : NumG R) (b o : Nat) (hE : En.glob 0 [errE b o] ∈ R) : ACall Tryd.prog 5 [encP p] R (fun r S => r = .bool true ∧ S = R) := by
  refine ACall_sat fun hs => ?_
  have hs := hs _ (.head _)
  have hP := okP_of p hs
  have hn := nP_of p hs
  have ks := fun R => small_ok p R hP
  by_cases hb : smallB p = true
  · rw [smallI_1 hb] at ks
    obtain ⟨hS, _, h3⟩ := small_S hb hn
    have k1 := fun R hE hG => show_ok b o p R hE hS hG
    by_cases rp : rightP p = true
    · rw [shownP_t rp] at k1
      obtain ⟨r1, r2, r3, r4⟩ := rightP_all rp
      have rd : rightP ⟨p.decls, []⟩ = true := by
        unfold rightP at rp ⊢
        simp only [Bool.and_eq_true] at rp ⊢
        exact ⟨rp.1, rfl, rp.2.2.1, rfl⟩
      have k2 := fun R hE hG => show_ok b o ⟨p.decls, []⟩ R hE ⟨hS.1, by simp, by simp [cntRs]⟩ hG
      rw [shownP_t rd] at k2
      have hDl : (showDs p.decls).length ≤ 12000 * 60 := by
        have := showDs_len p.decls fun d hd => ⟨hS.1 d hd, (rightD_all (r3 d hd)).2.2.1⟩
        omega
      have hRl : ∀ z, (showRs (p.rules.take z)).length ≤ 5002 * 2000 := fun z => by
        have h1 := showRs_len (p.rules.take z) fun d hd => hS.2.1 d (List.mem_of_mem_take hd)
        have h2 := cntRs_take p.rules z
        have := hS.2.2
        omega
      refine ACall_body tab_ok Tryd.func5 rfl rfl rfl (by kernel_rfl) (Nat.le_of_ble_eq_true rfl) ?_
      repeat (first | refine go_ ?_ | intro _)
      rename_i a
      refine Or.inl ⟨⟨_, Tryd.func9, rfl, rfl⟩, ACall.mono ?_ (shown_ok b o _ (.tail _ hE) hG.cons)⟩
      rintro _ S1 ⟨rfl, hS1⟩
      subst S1
      repeat (first | refine go_ ?_ | intro _)
      refine Or.inl ⟨⟨_, Tryd.func10, rfl, rfl⟩, ACall.mono ?_ (ks _)⟩
      rintro _ S1 ⟨rfl, hS1⟩
      subst S1
      repeat (first | refine ga_ ?_ | intro _)
      refine Or.inl ⟨⟨_, Tryd.func18, rfl, rfl⟩, ACall.mono ?_ (k1 _ (.tail _ hE) hG.cons)⟩
      rintro _ S1 ⟨rfl, hS1⟩
      subst S1
      repeat (first | refine ga_ ?_ | intro _)
      refine Or.inl ⟨⟨_, Tryd.func18, rfl, rfl⟩, ACall_args (ACall.mono ?_ (k2 _ (.tail _ hE) hG.cons)) ⟨AVle.agg (bs := [.sl 6 (p.decls.map encD) .no, .sl 4 [] .no]) ⟨AVle.refl _, AVle.nil, trivial⟩ (by simp [AV.one]), trivial⟩⟩
      rintro _ S1 ⟨rfl, hS1⟩
      subst S1
      repeat (first | refine ga_ ?_ | intro _)
      refine AW_for (α := Nat) (fun z => ⟨[(1, .ptr a 0), (3, .bool true), (4, .str (showP p)), (6, .str (showDs p.decls ++ showRs (p.rules.take z))), (7, .int .i64 0), (8, .int .i64 (z : Nat))], []⟩) (fun z => .cells a [.sl 6 (p.decls.map encD) .no, .sl 4 (p.rules.map encRu) .no] :: R) (fun z => p.rules.length - z) (fun z => z ≤ p.rules.length) (0) ?_ (weak_of ?_ rfl ?_) (fun z hz => ?_)
      · exact Nat.zero_le _
      · repeat (first | exact trivial | refine ⟨AVle.refl _, ?_⟩ | refine ⟨AVle.tk, ?_⟩ | refine ⟨AVle.nil, ?_⟩ | refine ⟨AVle.nilFull, ?_⟩ | refine ⟨AVle.eq (congrArg (AV.int .i64) (by first | (simp; done) | (simp; omega) | (rw [wrap_i64 (by first | omega | (simp; omega))]; first | rfl | omega | (simp; done) | (simp; omega)))), ?_⟩)
      · refine SW.le ?_
        repeat (first | exact SW.nil | refine SW.cons ?_ | refine SW.cells (by repeat (first | exact trivial | refine ⟨AVle.refl _, ?_⟩ | refine ⟨AVle.nilFull, ?_⟩ | refine ⟨AVle.tk, ?_⟩ | refine ⟨AVle.nil, ?_⟩)) rfl ?_ | refine SW.full ?_ | refine SW.drop ?_)
      replace hz : z ≤ p.rules.length := hz
      have hR0 := hRl z
      have hR1 := hRl (z + 1)
      repeat (first | refine go_ ?_ | intro _)
      refine AW_iff (z < p.rules.length) rfl (by first | (simp; done) | (simp <;> omega) | decide) (fun h => ?_) (fun h => ?_)
      · have hlt := h
        obtain ⟨r, hd⟩ : ∃ x, x = p.rules[z] := ⟨_, rfl⟩
        have hm : r ∈ p.rules := hd ▸ List.getElem_mem hlt
        have hk := okS_R hS r hm
        have kr : ∀ R, En.glob 0 [errE b o] ∈ R → NumG R → ACall Tryd.prog 14 [encRu r] R (fun v S => v = .tup [.str (showR r), .int .i64 0] ∧ S = R) := fun R hE hG => by
          have := showRule_ok b o r R hE (hS.2.1 r hm) (by have := cntRs_at hm; have := hS.2.2; omega) hG
          rwa [shownR_t (r4 r hm)] at this
        have kq : ∀ R, En.glob 0 [errE b o] ∈ R → ACall Tryd.prog 16 [encRu r] R (fun v S => v = .bool true ∧ S = R) := fun R hE => by
          have := rightRule_ok b o r R hE hk.1 hk.2
          rwa [r4 r hm] at this
        have e' : (showDs p.decls ++ showRs (p.rules.take z)) ++ (showR r ++ [10]) = showDs p.decls ++ showRs (p.rules.take (z + 1)) := by rw [showRs_take hlt hd, List.append_assoc]
        have el : (showRs (p.rules.take z)).length + ((showR r).length + 1) = (showRs (p.rules.take (z + 1))).length := by rw [showRs_take hlt hd]; simp
        repeat (first | refine ga_ ?_ | intro _)
        refine at_get (z) (encRu r) (by first | rfl | omega | (rw [wrap_i64 (by omega)]; omega)) (by rw [List.getElem?_map, List.getElem?_eq_getElem hlt, hd]; rfl) ?_
        repeat (first | refine ga_ ?_ | intro _)
        refine Or.inl ⟨⟨_, Tryd.func14, rfl, rfl⟩, ACall.mono ?_ (kr _ (.tail _ hE) hG.cons)⟩
        rintro _ S1 ⟨rfl, hS1⟩
        subst S1
        repeat (first | refine ga_ ?_ | intro _)
        refine at_get (z) (encRu r) (by first | rfl | omega | (rw [wrap_i64 (by omega)]; omega)) (by rw [List.getElem?_map, List.getElem?_eq_getElem hlt, hd]; rfl) ?_
        repeat (first | refine ga_ ?_ | intro _)
        refine Or.inl ⟨⟨_, Tryd.func16, rfl, rfl⟩, ACall.mono ?_ (kq _ (.tail _ hE))⟩
        rintro _ S1 ⟨rfl, hS1⟩
        subst S1
        repeat (first | refine ga_ ?_ | intro _)
        refine cat_ ?_
        repeat (first | refine ga_ ?_ | intro _)
        refine cat_ ?_
        repeat (first | refine ga_ ?_ | intro _)
        refine ⟨z + 1, ?_, ?_, weak_of ?_ rfl ?_⟩
        · omega
        · exact hlt
        · repeat (first | exact trivial | refine ⟨(AVle.eq (congrArg AV.str (show ((showDs p.decls ++ showRs (p.rules.take z)) ++ showR r) ++ [10] = _ by rw [← e']; simp))), ?_⟩ | refine ⟨AVle.refl _, ?_⟩ | refine ⟨AVle.tk, ?_⟩ | refine ⟨AVle.nil, ?_⟩ | refine ⟨AVle.nilFull, ?_⟩ | refine ⟨AVle.eq (congrArg (AV.int .i64) (by first | (simp; done) | (simp; omega) | (rw [wrap_i64 (by first | omega | (simp; omega))]; first | rfl | omega | (simp; done) | (simp; omega)))), ?_⟩)
        · refine SW.le ?_
          repeat (first | exact SW.nil | refine SW.cons ?_ | refine SW.cells (by repeat (first | exact trivial | refine ⟨AVle.refl _, ?_⟩ | refine ⟨AVle.nilFull, ?_⟩ | refine ⟨AVle.tk, ?_⟩ | refine ⟨AVle.nil, ?_⟩)) rfl ?_ | refine SW.full ?_ | refine SW.drop ?_)
      · have hz' : z = p.rules.length := by omega
        have e : showP p = showDs p.decls ++ showRs (p.rules.take z) := by rw [hz', List.take_length]; rfl
        repeat (first | refine ga_ ?_ | intro _)
        refine AW_ret ?_
        repeat (first | refine ⟨0, rfl, ?_⟩ | refine ⟨1, rfl, ?_⟩ | refine ⟨2, rfl, ?_⟩ | refine ⟨3, rfl, ?_⟩ | refine ⟨4, rfl, ?_⟩ | refine ⟨5, rfl, ?_⟩ | refine ⟨6, rfl, ?_⟩)
        refine ⟨_, R, AVle.eq ?_, (by repeat (first | exact SLe.rfl | refine SLe.tail ?_)), rfl, rfl⟩
        exact congrArg AV.bool (decide_eq_true e)
    · rw [shownP_f (by simpa using rp)] at k1
      have kq : ∀ R, En.glob 0 [errE b o] ∈ R → ACall Tryd.prog 11 [encP p] R (fun v S => v = .bool false ∧ S = R) := fun R hE => by
        have := right_ok b o p R hE (okS_R hS)
        rwa [show rightP p = false by simpa using rp] at this
      refine ACall_body tab_ok Tryd.func5 rfl rfl rfl (by kernel_rfl) (Nat.le_of_ble_eq_true rfl) ?_
      repeat (first | refine go_ ?_ | intro _)
      refine Or.inl ⟨⟨_, Tryd.func9, rfl, rfl⟩, ACall.mono ?_ (shown_ok b o _ (.tail _ hE) hG.cons)⟩
      rintro _ S1 ⟨rfl, hS1⟩
      subst S1
      repeat (first | refine go_ ?_ | intro _)
      refine Or.inl ⟨⟨_, Tryd.func10, rfl, rfl⟩, ACall.mono ?_ (ks _)⟩
      rintro _ S1 ⟨rfl, hS1⟩
      subst S1
      repeat (first | refine ga_ ?_ | intro _)
      refine Or.inl ⟨⟨_, Tryd.func18, rfl, rfl⟩, ACall.mono ?_ (k1 _ (.tail _ hE) hG.cons)⟩
      rintro _ S1 ⟨rfl, hS1⟩
      subst S1
      repeat (first | refine ga_ ?_ | intro _)
      refine Or.inl ⟨⟨_, Tryd.func11, rfl, rfl⟩, ACall.mono ?_ (kq _ (.tail _ hE))⟩
      rintro _ S1 ⟨rfl, hS1⟩
      subst S1
      repeat (first | refine ga_ ?_ | intro _)
      refine AW_ret ?_
      repeat (first | refine ⟨0, rfl, ?_⟩ | refine ⟨1, rfl, ?_⟩ | refine ⟨2, rfl, ?_⟩ | refine ⟨3, rfl, ?_⟩ | refine ⟨4, rfl, ?_⟩ | refine ⟨5, rfl, ?_⟩ | refine ⟨6, rfl, ?_⟩)
      refine ⟨_, R, AVle.eq ?_, (by repeat (first | exact SLe.rfl | refine SLe.tail ?_)), rfl, rfl⟩
      rfl
  · rw [smallI_0 (by simpa using hb)] at ks
    refine ACall_body tab_ok Tryd.func5 rfl rfl rfl (by kernel_rfl) (Nat.le_of_ble_eq_true rfl) ?_
    repeat (first | refine go_ ?_ | intro _)
    refine Or.inl ⟨⟨_, Tryd.func9, rfl, rfl⟩, ACall.mono ?_ (shown_ok b o _ (.tail _ hE) hG.cons)⟩
    rintro _ S1 ⟨rfl, hS1⟩
    subst S1
    repeat (first | refine go_ ?_ | intro _)
    refine Or.inl ⟨⟨_, Tryd.func10, rfl, rfl⟩, ACall.mono ?_ (ks _)⟩
    rintro _ S1 ⟨rfl, hS1⟩
    subst S1
    repeat (first | refine ga_ ?_ | intro _)
    refine AW_ret ?_
    repeat (first | refine ⟨0, rfl, ?_⟩ | refine ⟨1, rfl, ?_⟩ | refine ⟨2, rfl, ?_⟩ | refine ⟨3, rfl, ?_⟩ | refine ⟨4, rfl, ?_⟩ | refine ⟨5, rfl, ?_⟩ | refine ⟨6, rfl, ?_⟩)
    refine ⟨_, R, AVle.eq ?_, (by repeat (first | exact SLe.rfl | refine SLe.tail ?_)), rfl, rfl⟩
    rfl
end Go.Proofs.YtljdbkieofhblaaDoor
