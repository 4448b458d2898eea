/-
  Which files are alike: the program's answer, for lists. Own work.
-/
import Derived.Test.YtnkmjbjpmocnbaaDoorP10
set_option linter.all false
namespace Go.Proofs.YtnkmjbjpmocnbaaDoor
open Go.Aw Go.RowKit
set_option maxHeartbeats 4000000

/-- whether a statement holds, as a truth value -/
noncomputable def isB (p : Prop) : Bool := @decide p (Classical.propDecidable p)
theorem isB_t {p : Prop} (h : p) : isB p = true := @decide_eq_true p (Classical.propDecidable p) h
theorem isB_f {p : Prop} (h : ¬ p) : isB p = false := @decide_eq_false p (Classical.propDecidable p) h
@[simp] theorem isB_iff {p : Prop} : isB p = true ↔ p := ⟨fun h => @of_decide_eq_true p (Classical.propDecidable p) h, isB_t⟩
@[simp] theorem isB_not {p : Prop} : isB p = false ↔ ¬ p := by
  constructor
  · intro h hp
    rw [isB_t hp] at h; cases h
  · exact isB_f
theorem isB_eq {p q : Prop} (h : p ↔ q) : isB p = isB q := by rw [propext h]
def allQ {α : Type} (Q : α → α → Prop) (l m : List α) : Prop := l.length = m.length ∧ ∀ (i : Nat) (h : i < l.length) (h' : i < m.length), Q l[i] m[i]
theorem allQ_eq {α : Type} {l m : List α} : allQ Eq l m ↔ l = m := ⟨fun h => List.ext_getElem h.1 h.2, fun h => by subst h; exact ⟨rfl, fun _ _ _ => rfl⟩⟩
theorem allQ_cons {α : Type} {Q : α → α → Prop} {a b : α} {l m : List α} : allQ Q (a :: l) (b :: m) ↔ Q a b ∧ allQ Q l m := by
  constructor
  · rintro ⟨h1, h2⟩
    refine ⟨h2 0 (by simp) (by simp), by simpa using h1, fun i h h' => ?_⟩
    have := h2 (i + 1) (by simpa using h) (by simpa using h')
    simpa using this
  · rintro ⟨h1, h2, h3⟩
    refine ⟨by simp [h2], fun i h h' => ?_⟩
    cases i with
    | zero => exact h1
    | succ i => simpa using h3 i (by simpa using h) (by simpa using h')
theorem T_ext {t u : T} : t = u ↔ t.op = u.op ∧ t.s = u.s ∧ t.n = u.n ∧ t.l = u.l := by
  obtain ⟨a, b, c, d⟩ := t
  obtain ⟨e, f, g, h⟩ := u
  rw [T.mk.injEq]; rfl
theorem Y_ext {t u : Y} : t = u ↔ t.op = u.op ∧ t.s = u.s ∧ t.l = u.l := by
  obtain ⟨a, b, d⟩ := t
  obtain ⟨e, f, h⟩ := u
  rw [Y.mk.injEq]; rfl
theorem Z_ext {t u : Z} : t = u ↔ t.op = u.op ∧ t.s = u.s ∧ t.t = u.t ∧ t.x = u.x ∧ t.y = u.y ∧ t.l = u.l ∧ t.m = u.m := by
  obtain ⟨a, b, c, d, e, f, g⟩ := t
  obtain ⟨h, i, j, k, l, m, n⟩ := u
  rw [Z.mk.injEq]; rfl
theorem Sc_ext {a b : Sc} : a = b ↔ a.s = b.s ∧ a.names = b.names ∧ a.types = b.types := by
  obtain ⟨c, d, e⟩ := a
  obtain ⟨f, g, h⟩ := b
  rw [Sc.mk.injEq]
theorem Fn_ext {a b : Fn} : a = b ↔ a.s = b.s ∧ a.names = b.names ∧ a.types = b.types ∧ a.ret = b.ret ∧ a.l = b.l := by
  obtain ⟨c, d, e, i, j⟩ := a
  obtain ⟨f, g, h, k, l⟩ := b
  rw [Fn.mk.injEq]
theorem Fi_ext {a b : Fi} : a = b ↔ a.structs = b.structs ∧ a.funcs = b.funcs := by
  obtain ⟨c, d⟩ := a
  obtain ⟨f, g⟩ := b
  rw [Fi.mk.injEq]

theorem eqT_ok (l m : List T) (hl : l.length ≤ 9223372036854775807) (hk : ∀ x ∈ l, ∀ (y : T) (R : List En), ACall Tryd.prog 92 [encU x, encU y] R (fun r S => r = .bool (isB (x = y)) ∧ S = R)) (R : List En) : ACall Tryd.prog 107 [.sl 4 (encTs l) .no, .sl 4 (encTs m) .no, .fn (.func 92) [] []] R (fun r S => r = .bool (isB (allQ Eq l m)) ∧ S = R) := by
  refine ACall_body tab_ok Tryd.func107 rfl rfl rfl (by kernel_rfl) (Nat.le_of_ble_eq_true rfl) ?_
  repeat (first | refine go_ ?_ | intro _)
  refine AW_iff (¬ l.length = m.length) rfl (by first | (simp; done) | (simp <;> omega) | decide) (fun h => ?_) (fun h => ?_)
  · repeat (first | refine go_ ?_ | intro _)
    refine AW_ret ?_
    repeat (first | refine ⟨0, rfl, ?_⟩ | refine ⟨1, rfl, ?_⟩ | refine ⟨2, rfl, ?_⟩ | refine ⟨3, rfl, ?_⟩ | refine ⟨4, rfl, ?_⟩ | refine ⟨5, rfl, ?_⟩ | refine ⟨6, rfl, ?_⟩)
    refine ⟨_, R, AVle.eq ?_, (by repeat (first | exact SLe.rfl | refine SLe.tail ?_)), rfl, rfl⟩
    exact congrArg AV.bool (isB_f (fun hq => h hq.1)).symm
  have hlen : l.length = m.length := Decidable.not_not.1 h
  repeat (first | refine go_ ?_ | intro _)
  refine AW_for (α := Nat) (fun z => ⟨[(0, .sl 4 (encTs l) .no), (1, .sl 4 (encTs m) .no), (2, .fn (.func 92) [] []), (15, .sl 4 (encTs l) .no), (16, .int .i64 (l.length : Nat)), (17, .int .i64 (z : Nat))], []⟩) (fun z => R) (fun z => l.length - z) (fun z => z ≤ l.length ∧ ∀ (i : Nat) (h : i < l.length) (h' : i < m.length), i < z → Eq l[i] m[i]) (0) ?_ (weak_of ?_ rfl ?_) (fun z hz => ?_)
  · exact ⟨by omega, fun i _ _ h => by omega⟩
  · repeat (first | exact trivial | refine ⟨(AVle.eq (congrArg (AV.int .i64) (by simp))), ?_⟩ | refine ⟨AVle.refl _, ?_⟩ | refine ⟨AVle.tk, ?_⟩ | refine ⟨AVle.nil, ?_⟩ | refine ⟨AVle.nilFull, ?_⟩ | refine ⟨AVle.eq (congrArg (AV.int .i64) (by first | (simp; done) | (simp; omega) | (rw [wrap_i64 (by first | omega | (simp; omega))]; first | rfl | omega | (simp; done) | (simp; omega)))), ?_⟩)
  · repeat (first | exact SLe.rfl | refine SLe.tail ?_ | refine SLe.full ?_)
  obtain ⟨i1, i2⟩ := hz
  repeat (first | refine go_ ?_ | intro _)
  refine AW_iff (z < l.length) rfl (by first | (simp; done) | (simp <;> omega) | decide) (fun h => ?_) (fun h => ?_)
  · have hlt := h
    have hlt2 : z < m.length := by omega
    obtain ⟨x, hx⟩ : ∃ x, x = l[z] := ⟨_, rfl⟩
    obtain ⟨y, hy⟩ : ∃ x, x = m[z] := ⟨_, rfl⟩
    repeat (first | refine go_ ?_ | intro _)
    refine at_get (z) (encU x) (by first | rfl | omega | (rw [wrap_i64 (by omega)]; omega)) (by rw [hx]; exact encTs_get hlt) ?_
    repeat (first | refine go_ ?_ | intro _)
    refine at_get (z) (encU y) (by first | rfl | omega | (rw [wrap_i64 (by omega)]; omega)) (by rw [hy]; exact encTs_get hlt2) ?_
    repeat (first | refine go_ ?_ | intro _)
    refine Or.inl ⟨⟨_, Tryd.func92, rfl, rfl⟩, ACall.mono ?_ (hk x (hx ▸ List.getElem_mem hlt) y _)⟩
    rintro _ S1 ⟨rfl, hS1⟩
    subst S1
    repeat (first | refine go_ ?_ | intro _)
    refine AW_cond (b := !isB (Eq x y)) rfl (fun h => ?_) (fun h => ?_)
    · have hq : ¬ Eq x y := isB_not.1 (by simpa using h)
      repeat (first | refine go_ ?_ | intro _)
      refine AW_ret ?_
      repeat (first | refine ⟨0, rfl, ?_⟩ | refine ⟨1, rfl, ?_⟩ | refine ⟨2, rfl, ?_⟩ | refine ⟨3, rfl, ?_⟩ | refine ⟨4, rfl, ?_⟩ | refine ⟨5, rfl, ?_⟩ | refine ⟨6, rfl, ?_⟩)
      refine ⟨_, R, AVle.eq ?_, (by repeat (first | exact SLe.rfl | refine SLe.tail ?_)), rfl, rfl⟩
      exact congrArg AV.bool (isB_f (fun ha => hq (by rw [hx, hy]; exact ha.2 z hlt hlt2))).symm
    · have hq : Eq x y := isB_iff.1 (by simpa using h)
      repeat (first | refine go_ ?_ | intro _)
      refine ⟨z + 1, ?_, ?_, weak_of ?_ rfl ?_⟩
      · omega
      · refine ⟨by omega, fun i h h' hi => ?_⟩
        by_cases hc : i < z
        · exact i2 i h h' hc
        · obtain rfl : i = z := by omega
          rw [← hx, ← hy]; exact hq
      · repeat (first | exact trivial | refine ⟨AVle.refl _, ?_⟩ | refine ⟨AVle.tk, ?_⟩ | refine ⟨AVle.nil, ?_⟩ | refine ⟨AVle.nilFull, ?_⟩ | refine ⟨AVle.eq (congrArg (AV.int .i64) (by first | (simp; done) | (simp; omega) | (rw [wrap_i64 (by first | omega | (simp; omega))]; first | rfl | omega | (simp; done) | (simp; omega)))), ?_⟩)
      · repeat (first | exact SLe.rfl | refine SLe.tail ?_ | refine SLe.full ?_)
  · repeat (first | refine go_ ?_ | intro _)
    refine AW_ret ?_
    repeat (first | refine ⟨0, rfl, ?_⟩ | refine ⟨1, rfl, ?_⟩ | refine ⟨2, rfl, ?_⟩ | refine ⟨3, rfl, ?_⟩ | refine ⟨4, rfl, ?_⟩ | refine ⟨5, rfl, ?_⟩ | refine ⟨6, rfl, ?_⟩)
    refine ⟨_, R, AVle.eq ?_, (by repeat (first | exact SLe.rfl | refine SLe.tail ?_)), rfl, rfl⟩
    exact congrArg AV.bool (isB_t ⟨hlen, fun i h h' => i2 i h h' (by omega)⟩).symm
theorem eqY_ok (l m : List Y) (hl : l.length ≤ 9223372036854775807) (hk : ∀ x ∈ l, ∀ (y : Y) (R : List En), ACall Tryd.prog 68 [encV x, encV y] R (fun r S => r = .bool (isB (x = y)) ∧ S = R)) (R : List En) : ACall Tryd.prog 67 [.sl 3 (encYs l) .no, .sl 3 (encYs m) .no, .fn (.func 68) [] []] R (fun r S => r = .bool (isB (allQ Eq l m)) ∧ S = R) := by
  refine ACall_body tab_ok Tryd.func67 rfl rfl rfl (by kernel_rfl) (Nat.le_of_ble_eq_true rfl) ?_
  repeat (first | refine go_ ?_ | intro _)
  refine AW_iff (¬ l.length = m.length) rfl (by first | (simp; done) | (simp <;> omega) | decide) (fun h => ?_) (fun h => ?_)
  · repeat (first | refine go_ ?_ | intro _)
    refine AW_ret ?_
    repeat (first | refine ⟨0, rfl, ?_⟩ | refine ⟨1, rfl, ?_⟩ | refine ⟨2, rfl, ?_⟩ | refine ⟨3, rfl, ?_⟩ | refine ⟨4, rfl, ?_⟩ | refine ⟨5, rfl, ?_⟩ | refine ⟨6, rfl, ?_⟩)
    refine ⟨_, R, AVle.eq ?_, (by repeat (first | exact SLe.rfl | refine SLe.tail ?_)), rfl, rfl⟩
    exact congrArg AV.bool (isB_f (fun hq => h hq.1)).symm
  have hlen : l.length = m.length := Decidable.not_not.1 h
  repeat (first | refine go_ ?_ | intro _)
  refine AW_for (α := Nat) (fun z => ⟨[(0, .sl 3 (encYs l) .no), (1, .sl 3 (encYs m) .no), (2, .fn (.func 68) [] []), (15, .sl 3 (encYs l) .no), (16, .int .i64 (l.length : Nat)), (17, .int .i64 (z : Nat))], []⟩) (fun z => R) (fun z => l.length - z) (fun z => z ≤ l.length ∧ ∀ (i : Nat) (h : i < l.length) (h' : i < m.length), i < z → Eq l[i] m[i]) (0) ?_ (weak_of ?_ rfl ?_) (fun z hz => ?_)
  · exact ⟨by omega, fun i _ _ h => by omega⟩
  · repeat (first | exact trivial | refine ⟨(AVle.eq (congrArg (AV.int .i64) (by simp))), ?_⟩ | refine ⟨AVle.refl _, ?_⟩ | refine ⟨AVle.tk, ?_⟩ | refine ⟨AVle.nil, ?_⟩ | refine ⟨AVle.nilFull, ?_⟩ | refine ⟨AVle.eq (congrArg (AV.int .i64) (by first | (simp; done) | (simp; omega) | (rw [wrap_i64 (by first | omega | (simp; omega))]; first | rfl | omega | (simp; done) | (simp; omega)))), ?_⟩)
  · repeat (first | exact SLe.rfl | refine SLe.tail ?_ | refine SLe.full ?_)
  obtain ⟨i1, i2⟩ := hz
  repeat (first | refine go_ ?_ | intro _)
  refine AW_iff (z < l.length) rfl (by first | (simp; done) | (simp <;> omega) | decide) (fun h => ?_) (fun h => ?_)
  · have hlt := h
    have hlt2 : z < m.length := by omega
    obtain ⟨x, hx⟩ : ∃ x, x = l[z] := ⟨_, rfl⟩
    obtain ⟨y, hy⟩ : ∃ x, x = m[z] := ⟨_, rfl⟩
    repeat (first | refine go_ ?_ | intro _)
    refine at_get (z) (encV x) (by first | rfl | omega | (rw [wrap_i64 (by omega)]; omega)) (by rw [hx]; exact encYs_get hlt) ?_
    repeat (first | refine go_ ?_ | intro _)
    refine at_get (z) (encV y) (by first | rfl | omega | (rw [wrap_i64 (by omega)]; omega)) (by rw [hy]; exact encYs_get hlt2) ?_
    repeat (first | refine go_ ?_ | intro _)
    refine Or.inl ⟨⟨_, Tryd.func68, rfl, rfl⟩, ACall.mono ?_ (hk x (hx ▸ List.getElem_mem hlt) y _)⟩
    rintro _ S1 ⟨rfl, hS1⟩
    subst S1
    repeat (first | refine go_ ?_ | intro _)
    refine AW_cond (b := !isB (Eq x y)) rfl (fun h => ?_) (fun h => ?_)
    · have hq : ¬ Eq x y := isB_not.1 (by simpa using h)
      repeat (first | refine go_ ?_ | intro _)
      refine AW_ret ?_
      repeat (first | refine ⟨0, rfl, ?_⟩ | refine ⟨1, rfl, ?_⟩ | refine ⟨2, rfl, ?_⟩ | refine ⟨3, rfl, ?_⟩ | refine ⟨4, rfl, ?_⟩ | refine ⟨5, rfl, ?_⟩ | refine ⟨6, rfl, ?_⟩)
      refine ⟨_, R, AVle.eq ?_, (by repeat (first | exact SLe.rfl | refine SLe.tail ?_)), rfl, rfl⟩
      exact congrArg AV.bool (isB_f (fun ha => hq (by rw [hx, hy]; exact ha.2 z hlt hlt2))).symm
    · have hq : Eq x y := isB_iff.1 (by simpa using h)
      repeat (first | refine go_ ?_ | intro _)
      refine ⟨z + 1, ?_, ?_, weak_of ?_ rfl ?_⟩
      · omega
      · refine ⟨by omega, fun i h h' hi => ?_⟩
        by_cases hc : i < z
        · exact i2 i h h' hc
        · obtain rfl : i = z := by omega
          rw [← hx, ← hy]; exact hq
      · repeat (first | exact trivial | refine ⟨AVle.refl _, ?_⟩ | refine ⟨AVle.tk, ?_⟩ | refine ⟨AVle.nil, ?_⟩ | refine ⟨AVle.nilFull, ?_⟩ | refine ⟨AVle.eq (congrArg (AV.int .i64) (by first | (simp; done) | (simp; omega) | (rw [wrap_i64 (by first | omega | (simp; omega))]; first | rfl | omega | (simp; done) | (simp; omega)))), ?_⟩)
      · repeat (first | exact SLe.rfl | refine SLe.tail ?_ | refine SLe.full ?_)
  · repeat (first | refine go_ ?_ | intro _)
    refine AW_ret ?_
    repeat (first | refine ⟨0, rfl, ?_⟩ | refine ⟨1, rfl, ?_⟩ | refine ⟨2, rfl, ?_⟩ | refine ⟨3, rfl, ?_⟩ | refine ⟨4, rfl, ?_⟩ | refine ⟨5, rfl, ?_⟩ | refine ⟨6, rfl, ?_⟩)
    refine ⟨_, R, AVle.eq ?_, (by repeat (first | exact SLe.rfl | refine SLe.tail ?_)), rfl, rfl⟩
    exact congrArg AV.bool (isB_t ⟨hlen, fun i h h' => i2 i h h' (by omega)⟩).symm
theorem eqZ_ok (l m : List Z) (hl : l.length ≤ 9223372036854775807) (hk : ∀ x ∈ l, ∀ (y : Z) (R : List En), ACall Tryd.prog 70 [encSt x, encSt y] R (fun r S => r = .bool (isB (x = y)) ∧ S = R)) (R : List En) : ACall Tryd.prog 69 [.sl 15 (encZs l) .no, .sl 15 (encZs m) .no, .fn (.func 70) [] []] R (fun r S => r = .bool (isB (allQ Eq l m)) ∧ S = R) := by
  refine ACall_body tab_ok Tryd.func69 rfl rfl rfl (by kernel_rfl) (Nat.le_of_ble_eq_true rfl) ?_
  repeat (first | refine go_ ?_ | intro _)
  refine AW_iff (¬ l.length = m.length) rfl (by first | (simp; done) | (simp <;> omega) | decide) (fun h => ?_) (fun h => ?_)
  · repeat (first | refine go_ ?_ | intro _)
    refine AW_ret ?_
    repeat (first | refine ⟨0, rfl, ?_⟩ | refine ⟨1, rfl, ?_⟩ | refine ⟨2, rfl, ?_⟩ | refine ⟨3, rfl, ?_⟩ | refine ⟨4, rfl, ?_⟩ | refine ⟨5, rfl, ?_⟩ | refine ⟨6, rfl, ?_⟩)
    refine ⟨_, R, AVle.eq ?_, (by repeat (first | exact SLe.rfl | refine SLe.tail ?_)), rfl, rfl⟩
    exact congrArg AV.bool (isB_f (fun hq => h hq.1)).symm
  have hlen : l.length = m.length := Decidable.not_not.1 h
  repeat (first | refine go_ ?_ | intro _)
  refine AW_for (α := Nat) (fun z => ⟨[(0, .sl 15 (encZs l) .no), (1, .sl 15 (encZs m) .no), (2, .fn (.func 70) [] []), (15, .sl 15 (encZs l) .no), (16, .int .i64 (l.length : Nat)), (17, .int .i64 (z : Nat))], []⟩) (fun z => R) (fun z => l.length - z) (fun z => z ≤ l.length ∧ ∀ (i : Nat) (h : i < l.length) (h' : i < m.length), i < z → Eq l[i] m[i]) (0) ?_ (weak_of ?_ rfl ?_) (fun z hz => ?_)
  · exact ⟨by omega, fun i _ _ h => by omega⟩
  · repeat (first | exact trivial | refine ⟨(AVle.eq (congrArg (AV.int .i64) (by simp))), ?_⟩ | refine ⟨AVle.refl _, ?_⟩ | refine ⟨AVle.tk, ?_⟩ | refine ⟨AVle.nil, ?_⟩ | refine ⟨AVle.nilFull, ?_⟩ | refine ⟨AVle.eq (congrArg (AV.int .i64) (by first | (simp; done) | (simp; omega) | (rw [wrap_i64 (by first | omega | (simp; omega))]; first | rfl | omega | (simp; done) | (simp; omega)))), ?_⟩)
  · repeat (first | exact SLe.rfl | refine SLe.tail ?_ | refine SLe.full ?_)
  obtain ⟨i1, i2⟩ := hz
  repeat (first | refine go_ ?_ | intro _)
  refine AW_iff (z < l.length) rfl (by first | (simp; done) | (simp <;> omega) | decide) (fun h => ?_) (fun h => ?_)
  · have hlt := h
    have hlt2 : z < m.length := by omega
    obtain ⟨x, hx⟩ : ∃ x, x = l[z] := ⟨_, rfl⟩
    obtain ⟨y, hy⟩ : ∃ x, x = m[z] := ⟨_, rfl⟩
    repeat (first | refine go_ ?_ | intro _)
    refine at_get (z) (encSt x) (by first | rfl | omega | (rw [wrap_i64 (by omega)]; omega)) (by rw [hx]; exact encZs_get hlt) ?_
    repeat (first | refine go_ ?_ | intro _)
    refine at_get (z) (encSt y) (by first | rfl | omega | (rw [wrap_i64 (by omega)]; omega)) (by rw [hy]; exact encZs_get hlt2) ?_
    repeat (first | refine go_ ?_ | intro _)
    refine Or.inl ⟨⟨_, Tryd.func70, rfl, rfl⟩, ACall.mono ?_ (hk x (hx ▸ List.getElem_mem hlt) y _)⟩
    rintro _ S1 ⟨rfl, hS1⟩
    subst S1
    repeat (first | refine go_ ?_ | intro _)
    refine AW_cond (b := !isB (Eq x y)) rfl (fun h => ?_) (fun h => ?_)
    · have hq : ¬ Eq x y := isB_not.1 (by simpa using h)
      repeat (first | refine go_ ?_ | intro _)
      refine AW_ret ?_
      repeat (first | refine ⟨0, rfl, ?_⟩ | refine ⟨1, rfl, ?_⟩ | refine ⟨2, rfl, ?_⟩ | refine ⟨3, rfl, ?_⟩ | refine ⟨4, rfl, ?_⟩ | refine ⟨5, rfl, ?_⟩ | refine ⟨6, rfl, ?_⟩)
      refine ⟨_, R, AVle.eq ?_, (by repeat (first | exact SLe.rfl | refine SLe.tail ?_)), rfl, rfl⟩
      exact congrArg AV.bool (isB_f (fun ha => hq (by rw [hx, hy]; exact ha.2 z hlt hlt2))).symm
    · have hq : Eq x y := isB_iff.1 (by simpa using h)
      repeat (first | refine go_ ?_ | intro _)
      refine ⟨z + 1, ?_, ?_, weak_of ?_ rfl ?_⟩
      · omega
      · refine ⟨by omega, fun i h h' hi => ?_⟩
        by_cases hc : i < z
        · exact i2 i h h' hc
        · obtain rfl : i = z := by omega
          rw [← hx, ← hy]; exact hq
      · repeat (first | exact trivial | refine ⟨AVle.refl _, ?_⟩ | refine ⟨AVle.tk, ?_⟩ | refine ⟨AVle.nil, ?_⟩ | refine ⟨AVle.nilFull, ?_⟩ | refine ⟨AVle.eq (congrArg (AV.int .i64) (by first | (simp; done) | (simp; omega) | (rw [wrap_i64 (by first | omega | (simp; omega))]; first | rfl | omega | (simp; done) | (simp; omega)))), ?_⟩)
      · repeat (first | exact SLe.rfl | refine SLe.tail ?_ | refine SLe.full ?_)
  · repeat (first | refine go_ ?_ | intro _)
    refine AW_ret ?_
    repeat (first | refine ⟨0, rfl, ?_⟩ | refine ⟨1, rfl, ?_⟩ | refine ⟨2, rfl, ?_⟩ | refine ⟨3, rfl, ?_⟩ | refine ⟨4, rfl, ?_⟩ | refine ⟨5, rfl, ?_⟩ | refine ⟨6, rfl, ?_⟩)
    refine ⟨_, R, AVle.eq ?_, (by repeat (first | exact SLe.rfl | refine SLe.tail ?_)), rfl, rfl⟩
    exact congrArg AV.bool (isB_t ⟨hlen, fun i h h' => i2 i h h' (by omega)⟩).symm
theorem eqSc_ok (l m : List Sc) (hl : l.length ≤ 9223372036854775807) (hk : ∀ x ∈ l, ∀ (y : Sc) (R : List En), ACall Tryd.prog 35 [encSc x, encSc y] R (fun r S => r = .bool (isB (x = y)) ∧ S = R)) (R : List En) : ACall Tryd.prog 34 [.sl 3 (List.map encSc l) .no, .sl 3 (List.map encSc m) .no, .fn (.func 35) [] []] R (fun r S => r = .bool (isB (allQ Eq l m)) ∧ S = R) := by
  refine ACall_body tab_ok Tryd.func34 rfl rfl rfl (by kernel_rfl) (Nat.le_of_ble_eq_true rfl) ?_
  repeat (first | refine go_ ?_ | intro _)
  refine AW_iff (¬ l.length = m.length) rfl (by first | (simp; done) | (simp <;> omega) | decide) (fun h => ?_) (fun h => ?_)
  · repeat (first | refine go_ ?_ | intro _)
    refine AW_ret ?_
    repeat (first | refine ⟨0, rfl, ?_⟩ | refine ⟨1, rfl, ?_⟩ | refine ⟨2, rfl, ?_⟩ | refine ⟨3, rfl, ?_⟩ | refine ⟨4, rfl, ?_⟩ | refine ⟨5, rfl, ?_⟩ | refine ⟨6, rfl, ?_⟩)
    refine ⟨_, R, AVle.eq ?_, (by repeat (first | exact SLe.rfl | refine SLe.tail ?_)), rfl, rfl⟩
    exact congrArg AV.bool (isB_f (fun hq => h hq.1)).symm
  have hlen : l.length = m.length := Decidable.not_not.1 h
  repeat (first | refine go_ ?_ | intro _)
  refine AW_for (α := Nat) (fun z => ⟨[(0, .sl 3 (List.map encSc l) .no), (1, .sl 3 (List.map encSc m) .no), (2, .fn (.func 35) [] []), (15, .sl 3 (List.map encSc l) .no), (16, .int .i64 (l.length : Nat)), (17, .int .i64 (z : Nat))], []⟩) (fun z => R) (fun z => l.length - z) (fun z => z ≤ l.length ∧ ∀ (i : Nat) (h : i < l.length) (h' : i < m.length), i < z → Eq l[i] m[i]) (0) ?_ (weak_of ?_ rfl ?_) (fun z hz => ?_)
  · exact ⟨by omega, fun i _ _ h => by omega⟩
  · repeat (first | exact trivial | refine ⟨(AVle.eq (congrArg (AV.int .i64) (by simp))), ?_⟩ | refine ⟨AVle.refl _, ?_⟩ | refine ⟨AVle.tk, ?_⟩ | refine ⟨AVle.nil, ?_⟩ | refine ⟨AVle.nilFull, ?_⟩ | refine ⟨AVle.eq (congrArg (AV.int .i64) (by first | (simp; done) | (simp; omega) | (rw [wrap_i64 (by first | omega | (simp; omega))]; first | rfl | omega | (simp; done) | (simp; omega)))), ?_⟩)
  · repeat (first | exact SLe.rfl | refine SLe.tail ?_ | refine SLe.full ?_)
  obtain ⟨i1, i2⟩ := hz
  repeat (first | refine go_ ?_ | intro _)
  refine AW_iff (z < l.length) rfl (by first | (simp; done) | (simp <;> omega) | decide) (fun h => ?_) (fun h => ?_)
  · have hlt := h
    have hlt2 : z < m.length := by omega
    obtain ⟨x, hx⟩ : ∃ x, x = l[z] := ⟨_, rfl⟩
    obtain ⟨y, hy⟩ : ∃ x, x = m[z] := ⟨_, rfl⟩
    repeat (first | refine go_ ?_ | intro _)
    refine at_get (z) (encSc x) (by first | rfl | omega | (rw [wrap_i64 (by omega)]; omega)) (by rw [List.getElem?_map, List.getElem?_eq_getElem hlt, hx]; rfl) ?_
    repeat (first | refine go_ ?_ | intro _)
    refine at_get (z) (encSc y) (by first | rfl | omega | (rw [wrap_i64 (by omega)]; omega)) (by rw [List.getElem?_map, List.getElem?_eq_getElem hlt2, hy]; rfl) ?_
    repeat (first | refine go_ ?_ | intro _)
    refine Or.inl ⟨⟨_, Tryd.func35, rfl, rfl⟩, ACall.mono ?_ (hk x (hx ▸ List.getElem_mem hlt) y _)⟩
    rintro _ S1 ⟨rfl, hS1⟩
    subst S1
    repeat (first | refine go_ ?_ | intro _)
    refine AW_cond (b := !isB (Eq x y)) rfl (fun h => ?_) (fun h => ?_)
    · have hq : ¬ Eq x y := isB_not.1 (by simpa using h)
      repeat (first | refine go_ ?_ | intro _)
      refine AW_ret ?_
      repeat (first | refine ⟨0, rfl, ?_⟩ | refine ⟨1, rfl, ?_⟩ | refine ⟨2, rfl, ?_⟩ | refine ⟨3, rfl, ?_⟩ | refine ⟨4, rfl, ?_⟩ | refine ⟨5, rfl, ?_⟩ | refine ⟨6, rfl, ?_⟩)
      refine ⟨_, R, AVle.eq ?_, (by repeat (first | exact SLe.rfl | refine SLe.tail ?_)), rfl, rfl⟩
      exact congrArg AV.bool (isB_f (fun ha => hq (by rw [hx, hy]; exact ha.2 z hlt hlt2))).symm
    · have hq : Eq x y := isB_iff.1 (by simpa using h)
      repeat (first | refine go_ ?_ | intro _)
      refine ⟨z + 1, ?_, ?_, weak_of ?_ rfl ?_⟩
      · omega
      · refine ⟨by omega, fun i h h' hi => ?_⟩
        by_cases hc : i < z
        · exact i2 i h h' hc
        · obtain rfl : i = z := by omega
          rw [← hx, ← hy]; exact hq
      · repeat (first | exact trivial | refine ⟨AVle.refl _, ?_⟩ | refine ⟨AVle.tk, ?_⟩ | refine ⟨AVle.nil, ?_⟩ | refine ⟨AVle.nilFull, ?_⟩ | refine ⟨AVle.eq (congrArg (AV.int .i64) (by first | (simp; done) | (simp; omega) | (rw [wrap_i64 (by first | omega | (simp; omega))]; first | rfl | omega | (simp; done) | (simp; omega)))), ?_⟩)
      · repeat (first | exact SLe.rfl | refine SLe.tail ?_ | refine SLe.full ?_)
  · repeat (first | refine go_ ?_ | intro _)
    refine AW_ret ?_
    repeat (first | refine ⟨0, rfl, ?_⟩ | refine ⟨1, rfl, ?_⟩ | refine ⟨2, rfl, ?_⟩ | refine ⟨3, rfl, ?_⟩ | refine ⟨4, rfl, ?_⟩ | refine ⟨5, rfl, ?_⟩ | refine ⟨6, rfl, ?_⟩)
    refine ⟨_, R, AVle.eq ?_, (by repeat (first | exact SLe.rfl | refine SLe.tail ?_)), rfl, rfl⟩
    exact congrArg AV.bool (isB_t ⟨hlen, fun i h h' => i2 i h h' (by omega)⟩).symm
theorem eqFn_ok (l m : List Fn) (hl : l.length ≤ 9223372036854775807) (hk : ∀ x ∈ l, ∀ (y : Fn) (R : List En), ACall Tryd.prog 37 [encFn x, encFn y] R (fun r S => r = .bool (isB (x = y)) ∧ S = R)) (R : List En) : ACall Tryd.prog 36 [.sl 7 (List.map encFn l) .no, .sl 7 (List.map encFn m) .no, .fn (.func 37) [] []] R (fun r S => r = .bool (isB (allQ Eq l m)) ∧ S = R) := by
  refine ACall_body tab_ok Tryd.func36 rfl rfl rfl (by kernel_rfl) (Nat.le_of_ble_eq_true rfl) ?_
  repeat (first | refine go_ ?_ | intro _)
  refine AW_iff (¬ l.length = m.length) rfl (by first | (simp; done) | (simp <;> omega) | decide) (fun h => ?_) (fun h => ?_)
  · repeat (first | refine go_ ?_ | intro _)
    refine AW_ret ?_
    repeat (first | refine ⟨0, rfl, ?_⟩ | refine ⟨1, rfl, ?_⟩ | refine ⟨2, rfl, ?_⟩ | refine ⟨3, rfl, ?_⟩ | refine ⟨4, rfl, ?_⟩ | refine ⟨5, rfl, ?_⟩ | refine ⟨6, rfl, ?_⟩)
    refine ⟨_, R, AVle.eq ?_, (by repeat (first | exact SLe.rfl | refine SLe.tail ?_)), rfl, rfl⟩
    exact congrArg AV.bool (isB_f (fun hq => h hq.1)).symm
  have hlen : l.length = m.length := Decidable.not_not.1 h
  repeat (first | refine go_ ?_ | intro _)
  refine AW_for (α := Nat) (fun z => ⟨[(0, .sl 7 (List.map encFn l) .no), (1, .sl 7 (List.map encFn m) .no), (2, .fn (.func 37) [] []), (15, .sl 7 (List.map encFn l) .no), (16, .int .i64 (l.length : Nat)), (17, .int .i64 (z : Nat))], []⟩) (fun z => R) (fun z => l.length - z) (fun z => z ≤ l.length ∧ ∀ (i : Nat) (h : i < l.length) (h' : i < m.length), i < z → Eq l[i] m[i]) (0) ?_ (weak_of ?_ rfl ?_) (fun z hz => ?_)
  · exact ⟨by omega, fun i _ _ h => by omega⟩
  · repeat (first | exact trivial | refine ⟨(AVle.eq (congrArg (AV.int .i64) (by simp))), ?_⟩ | refine ⟨AVle.refl _, ?_⟩ | refine ⟨AVle.tk, ?_⟩ | refine ⟨AVle.nil, ?_⟩ | refine ⟨AVle.nilFull, ?_⟩ | refine ⟨AVle.eq (congrArg (AV.int .i64) (by first | (simp; done) | (simp; omega) | (rw [wrap_i64 (by first | omega | (simp; omega))]; first | rfl | omega | (simp; done) | (simp; omega)))), ?_⟩)
  · repeat (first | exact SLe.rfl | refine SLe.tail ?_ | refine SLe.full ?_)
  obtain ⟨i1, i2⟩ := hz
  repeat (first | refine go_ ?_ | intro _)
  refine AW_iff (z < l.length) rfl (by first | (simp; done) | (simp <;> omega) | decide) (fun h => ?_) (fun h => ?_)
  · have hlt := h
    have hlt2 : z < m.length := by omega
    obtain ⟨x, hx⟩ : ∃ x, x = l[z] := ⟨_, rfl⟩
    obtain ⟨y, hy⟩ : ∃ x, x = m[z] := ⟨_, rfl⟩
    repeat (first | refine go_ ?_ | intro _)
    refine at_get (z) (encFn x) (by first | rfl | omega | (rw [wrap_i64 (by omega)]; omega)) (by rw [List.getElem?_map, List.getElem?_eq_getElem hlt, hx]; rfl) ?_
    repeat (first | refine go_ ?_ | intro _)
    refine at_get (z) (encFn y) (by first | rfl | omega | (rw [wrap_i64 (by omega)]; omega)) (by rw [List.getElem?_map, List.getElem?_eq_getElem hlt2, hy]; rfl) ?_
    repeat (first | refine go_ ?_ | intro _)
    refine Or.inl ⟨⟨_, Tryd.func37, rfl, rfl⟩, ACall.mono ?_ (hk x (hx ▸ List.getElem_mem hlt) y _)⟩
    rintro _ S1 ⟨rfl, hS1⟩
    subst S1
    repeat (first | refine go_ ?_ | intro _)
    refine AW_cond (b := !isB (Eq x y)) rfl (fun h => ?_) (fun h => ?_)
    · have hq : ¬ Eq x y := isB_not.1 (by simpa using h)
      repeat (first | refine go_ ?_ | intro _)
      refine AW_ret ?_
      repeat (first | refine ⟨0, rfl, ?_⟩ | refine ⟨1, rfl, ?_⟩ | refine ⟨2, rfl, ?_⟩ | refine ⟨3, rfl, ?_⟩ | refine ⟨4, rfl, ?_⟩ | refine ⟨5, rfl, ?_⟩ | refine ⟨6, rfl, ?_⟩)
      refine ⟨_, R, AVle.eq ?_, (by repeat (first | exact SLe.rfl | refine SLe.tail ?_)), rfl, rfl⟩
      exact congrArg AV.bool (isB_f (fun ha => hq (by rw [hx, hy]; exact ha.2 z hlt hlt2))).symm
    · have hq : Eq x y := isB_iff.1 (by simpa using h)
      repeat (first | refine go_ ?_ | intro _)
      refine ⟨z + 1, ?_, ?_, weak_of ?_ rfl ?_⟩
      · omega
      · refine ⟨by omega, fun i h h' hi => ?_⟩
        by_cases hc : i < z
        · exact i2 i h h' hc
        · obtain rfl : i = z := by omega
          rw [← hx, ← hy]; exact hq
      · repeat (first | exact trivial | refine ⟨AVle.refl _, ?_⟩ | refine ⟨AVle.tk, ?_⟩ | refine ⟨AVle.nil, ?_⟩ | refine ⟨AVle.nilFull, ?_⟩ | refine ⟨AVle.eq (congrArg (AV.int .i64) (by first | (simp; done) | (simp; omega) | (rw [wrap_i64 (by first | omega | (simp; omega))]; first | rfl | omega | (simp; done) | (simp; omega)))), ?_⟩)
      · repeat (first | exact SLe.rfl | refine SLe.tail ?_ | refine SLe.full ?_)
  · repeat (first | refine go_ ?_ | intro _)
    refine AW_ret ?_
    repeat (first | refine ⟨0, rfl, ?_⟩ | refine ⟨1, rfl, ?_⟩ | refine ⟨2, rfl, ?_⟩ | refine ⟨3, rfl, ?_⟩ | refine ⟨4, rfl, ?_⟩ | refine ⟨5, rfl, ?_⟩ | refine ⟨6, rfl, ?_⟩)
    refine ⟨_, R, AVle.eq ?_, (by repeat (first | exact SLe.rfl | refine SLe.tail ?_)), rfl, rfl⟩
    exact congrArg AV.bool (isB_t ⟨hlen, fun i h h' => i2 i h h' (by omega)⟩).symm
theorem eqS_ok (l m : List (List UInt8)) (hl : l.length ≤ 9223372036854775807) (R : List En) : ACall Tryd.prog 66 [.sl 1 (l.map AV.str) .no, .sl 1 (m.map AV.str) .no] R (fun r S => r = .bool (isB (l = m)) ∧ S = R) := by
  refine ACall_body tab_ok Tryd.func66 rfl rfl rfl (by kernel_rfl) (Nat.le_of_ble_eq_true rfl) ?_
  repeat (first | refine go_ ?_ | intro _)
  refine AW_iff (¬ l.length = m.length) rfl (by first | (simp; done) | (simp <;> omega) | decide) (fun h => ?_) (fun h => ?_)
  · repeat (first | refine go_ ?_ | intro _)
    refine AW_ret ?_
    repeat (first | refine ⟨0, rfl, ?_⟩ | refine ⟨1, rfl, ?_⟩ | refine ⟨2, rfl, ?_⟩ | refine ⟨3, rfl, ?_⟩ | refine ⟨4, rfl, ?_⟩ | refine ⟨5, rfl, ?_⟩ | refine ⟨6, rfl, ?_⟩)
    refine ⟨_, R, AVle.eq ?_, (by repeat (first | exact SLe.rfl | refine SLe.tail ?_)), rfl, rfl⟩
    exact congrArg AV.bool (isB_f (fun hq => h (by rw [hq]))).symm
  have hlen : l.length = m.length := Decidable.not_not.1 h
  repeat (first | refine go_ ?_ | intro _)
  refine AW_for (α := Nat) (fun z => ⟨[(0, .sl 1 (l.map AV.str) .no), (1, .sl 1 (m.map AV.str) .no), (12, .int .i64 (l.length : Nat)), (13, .int .i64 (z : Nat))], []⟩) (fun z => R) (fun z => l.length - z) (fun z => z ≤ l.length ∧ ∀ (i : Nat) (h : i < l.length) (h' : i < m.length), i < z → l[i] = m[i]) (0) ?_ (weak_of ?_ rfl ?_) (fun z hz => ?_)
  · exact ⟨by omega, fun i _ _ h => by omega⟩
  · repeat (first | exact trivial | refine ⟨(AVle.eq (congrArg (AV.int .i64) (by simp))), ?_⟩ | refine ⟨AVle.refl _, ?_⟩ | refine ⟨AVle.tk, ?_⟩ | refine ⟨AVle.nil, ?_⟩ | refine ⟨AVle.nilFull, ?_⟩ | refine ⟨AVle.eq (congrArg (AV.int .i64) (by first | (simp; done) | (simp; omega) | (rw [wrap_i64 (by first | omega | (simp; omega))]; first | rfl | omega | (simp; done) | (simp; omega)))), ?_⟩)
  · repeat (first | exact SLe.rfl | refine SLe.tail ?_ | refine SLe.full ?_)
  obtain ⟨i1, i2⟩ := hz
  repeat (first | refine go_ ?_ | intro _)
  refine AW_iff (z < l.length) rfl (by first | (simp; done) | (simp <;> omega) | decide) (fun h => ?_) (fun h => ?_)
  · have hlt := h
    have hlt2 : z < m.length := by omega
    obtain ⟨x, hx⟩ : ∃ x, x = l[z] := ⟨_, rfl⟩
    obtain ⟨y, hy⟩ : ∃ x, x = m[z] := ⟨_, rfl⟩
    repeat (first | refine go_ ?_ | intro _)
    refine AW_draw tab_ok mixed 9 (by first | rfl | kernel_rfl) ?_
    repeat (first | refine go_ ?_ | intro _)
    refine at_get (z) (AV.str x) (by first | rfl | omega | (rw [wrap_i64 (by omega)]; omega)) (by rw [List.getElem?_map, List.getElem?_eq_getElem hlt, hx]; rfl) ?_
    repeat (first | refine go_ ?_ | intro _)
    refine at_get (z) (AV.str y) (by first | rfl | omega | (rw [wrap_i64 (by omega)]; omega)) (by rw [List.getElem?_map, List.getElem?_eq_getElem hlt2, hy]; rfl) ?_
    repeat (first | refine go_ ?_ | intro _)
    refine AW_iff (¬ x = y) rfl (by first | (simp; done) | (simp <;> omega) | decide) (fun h => ?_) (fun h => ?_)
    · have hq := h
      repeat (first | refine go_ ?_ | intro _)
      refine AW_ret ?_
      repeat (first | refine ⟨0, rfl, ?_⟩ | refine ⟨1, rfl, ?_⟩ | refine ⟨2, rfl, ?_⟩ | refine ⟨3, rfl, ?_⟩ | refine ⟨4, rfl, ?_⟩ | refine ⟨5, rfl, ?_⟩ | refine ⟨6, rfl, ?_⟩)
      refine ⟨_, R, AVle.eq ?_, (by repeat (first | exact SLe.rfl | refine SLe.tail ?_)), rfl, rfl⟩
      exact congrArg AV.bool (isB_f (fun ha => hq (by subst ha; rw [hx, hy]))).symm
    · have hq : x = y := Decidable.not_not.1 h
      repeat (first | refine go_ ?_ | intro _)
      refine ⟨z + 1, ?_, ?_, weak_of ?_ rfl ?_⟩
      · omega
      · refine ⟨by omega, fun i h h' hi => ?_⟩
        by_cases hc : i < z
        · exact i2 i h h' hc
        · obtain rfl : i = z := by omega
          rw [← hx, ← hy]; exact hq
      · repeat (first | exact trivial | refine ⟨AVle.refl _, ?_⟩ | refine ⟨AVle.tk, ?_⟩ | refine ⟨AVle.nil, ?_⟩ | refine ⟨AVle.nilFull, ?_⟩ | refine ⟨AVle.eq (congrArg (AV.int .i64) (by first | (simp; done) | (simp; omega) | (rw [wrap_i64 (by first | omega | (simp; omega))]; first | rfl | omega | (simp; done) | (simp; omega)))), ?_⟩)
      · repeat (first | exact SLe.rfl | refine SLe.tail ?_ | refine SLe.full ?_)
  · repeat (first | refine go_ ?_ | intro _)
    refine AW_ret ?_
    repeat (first | refine ⟨0, rfl, ?_⟩ | refine ⟨1, rfl, ?_⟩ | refine ⟨2, rfl, ?_⟩ | refine ⟨3, rfl, ?_⟩ | refine ⟨4, rfl, ?_⟩ | refine ⟨5, rfl, ?_⟩ | refine ⟨6, rfl, ?_⟩)
    refine ⟨_, R, AVle.eq ?_, (by repeat (first | exact SLe.rfl | refine SLe.tail ?_)), rfl, rfl⟩
    exact congrArg AV.bool (isB_t (List.ext_getElem hlen fun i h h' => i2 i h h' (by omega))).symm
end Go.Proofs.YtnkmjbjpmocnbaaDoor
/-
  Which files are alike: the program's answer. Own work.
-/
namespace Go.Proofs.YtnkmjbjpmocnbaaDoor
open Go.Aw Go.RowKit
set_option maxHeartbeats 4000000

theorem cntT_eq (t : T) : cntT t = cntTs t.l + 1 := by cases t; rw [cntT]; rfl
theorem cntY_eq (t : Y) : cntY t = cntYs t.l + 1 := by cases t; rw [cntY]; rfl
theorem cntZ_eq (z : Z) : cntZ z = cntY z.t + cntT z.x + cntT z.y + cntZs z.l + cntZs z.m + 1 := by cases z; rw [cntZ]; rfl
theorem sameExpr_ok : ∀ (n : Nat) (t : T), cntT t ≤ n → n ≤ 3000 → ∀ (u : T) (R : List En), ACall Tryd.prog 92 [encU t, encU u] R (fun r S => r = .bool (isB (t = u)) ∧ S = R)
  | 0, t, hn, _, u, R => by have := cntT_pos t; omega
  | n + 1, t, hn, hm, u, R => by
    have hc : cntTs t.l ≤ n := by rw [cntT_eq] at hn; omega
    have hl := len_cntTs t.l
    have kl := fun R => eqT_ok t.l u.l (by omega) (fun x hx => sameExpr_ok n x (by have := cntTs_mem hx; omega) (by omega)) R
    rw [isB_eq allQ_eq] at kl
    refine ACall_body tab_ok Tryd.func92 rfl rfl rfl (by kernel_rfl) (Nat.le_of_ble_eq_true rfl) ?_
    repeat (first | refine go_ ?_ | intro _)
    refine gsplit (t.op = u.op) (by first | (simp; done) | (simp <;> omega) | decide) (fun h => ?_) (fun h => ?_)
    · have h1 := h
      repeat (first | refine ga_ ?_ | intro _)
      refine gsplit (t.s = u.s) (by first | (simp; done) | (simp <;> omega) | decide) (fun h => ?_) (fun h => ?_)
      · have h2 := h
        repeat (first | refine ga_ ?_ | intro _)
        refine gsplit (t.n = u.n) (by first | (simp; done) | (simp <;> omega) | decide) (fun h => ?_) (fun h => ?_)
        · have h3 := h
          repeat (first | refine ga_ ?_ | intro _)
          refine Or.inl ⟨⟨_, Tryd.func107, rfl, rfl⟩, ACall.mono ?_ (kl _)⟩
          rintro _ S1 ⟨rfl, hS1⟩
          subst S1
          repeat (first | refine ga_ ?_ | intro _)
          refine AW_ret ?_
          repeat (first | refine ⟨0, rfl, ?_⟩ | refine ⟨1, rfl, ?_⟩ | refine ⟨2, rfl, ?_⟩ | refine ⟨3, rfl, ?_⟩ | refine ⟨4, rfl, ?_⟩ | refine ⟨5, rfl, ?_⟩ | refine ⟨6, rfl, ?_⟩)
          refine ⟨_, R, AVle.eq ?_, (by repeat (first | exact SLe.rfl | refine SLe.tail ?_)), rfl, rfl⟩
          exact congrArg AV.bool (isB_eq ⟨fun h => T_ext.2 ⟨h1, h2, h3, h⟩, fun h => (T_ext.1 h).2.2.2⟩)
        · have hq := h
          repeat (first | refine ga_ ?_ | intro _)
          refine AW_ret ?_
          repeat (first | refine ⟨0, rfl, ?_⟩ | refine ⟨1, rfl, ?_⟩ | refine ⟨2, rfl, ?_⟩ | refine ⟨3, rfl, ?_⟩ | refine ⟨4, rfl, ?_⟩ | refine ⟨5, rfl, ?_⟩ | refine ⟨6, rfl, ?_⟩)
          refine ⟨_, R, AVle.eq ?_, (by repeat (first | exact SLe.rfl | refine SLe.tail ?_)), rfl, rfl⟩
          exact congrArg AV.bool (isB_f (fun e => hq (T_ext.1 e).2.2.1)).symm
      · have hq := h
        repeat (first | refine ga_ ?_ | intro _)
        refine AW_ret ?_
        repeat (first | refine ⟨0, rfl, ?_⟩ | refine ⟨1, rfl, ?_⟩ | refine ⟨2, rfl, ?_⟩ | refine ⟨3, rfl, ?_⟩ | refine ⟨4, rfl, ?_⟩ | refine ⟨5, rfl, ?_⟩ | refine ⟨6, rfl, ?_⟩)
        refine ⟨_, R, AVle.eq ?_, (by repeat (first | exact SLe.rfl | refine SLe.tail ?_)), rfl, rfl⟩
        exact congrArg AV.bool (isB_f (fun e => hq (T_ext.1 e).2.1)).symm
    · have hq := h
      repeat (first | refine ga_ ?_ | intro _)
      refine AW_ret ?_
      repeat (first | refine ⟨0, rfl, ?_⟩ | refine ⟨1, rfl, ?_⟩ | refine ⟨2, rfl, ?_⟩ | refine ⟨3, rfl, ?_⟩ | refine ⟨4, rfl, ?_⟩ | refine ⟨5, rfl, ?_⟩ | refine ⟨6, rfl, ?_⟩)
      refine ⟨_, R, AVle.eq ?_, (by repeat (first | exact SLe.rfl | refine SLe.tail ?_)), rfl, rfl⟩
      exact congrArg AV.bool (isB_f (fun e => hq (T_ext.1 e).1)).symm
theorem sameType_ok : ∀ (n : Nat) (t : Y), cntY t ≤ n → n ≤ 3000 → ∀ (u : Y) (R : List En), ACall Tryd.prog 68 [encV t, encV u] R (fun r S => r = .bool (isB (t = u)) ∧ S = R)
  | 0, t, hn, _, u, R => by have := cntY_pos t; omega
  | n + 1, t, hn, hm, u, R => by
    have hc : cntYs t.l ≤ n := by rw [cntY_eq] at hn; omega
    have hl := len_cntYs t.l
    have kl := fun R => eqY_ok t.l u.l (by omega) (fun x hx => sameType_ok n x (by have := cntYs_mem hx; omega) (by omega)) R
    rw [isB_eq allQ_eq] at kl
    refine ACall_body tab_ok Tryd.func68 rfl rfl rfl (by kernel_rfl) (Nat.le_of_ble_eq_true rfl) ?_
    repeat (first | refine go_ ?_ | intro _)
    refine gsplit (t.op = u.op) (by first | (simp; done) | (simp <;> omega) | decide) (fun h => ?_) (fun h => ?_)
    · have h1 := h
      repeat (first | refine ga_ ?_ | intro _)
      refine gsplit (t.s = u.s) (by first | (simp; done) | (simp <;> omega) | decide) (fun h => ?_) (fun h => ?_)
      · have h2 := h
        repeat (first | refine ga_ ?_ | intro _)
        refine Or.inl ⟨⟨_, Tryd.func67, rfl, rfl⟩, ACall.mono ?_ (kl _)⟩
        rintro _ S1 ⟨rfl, hS1⟩
        subst S1
        repeat (first | refine ga_ ?_ | intro _)
        refine AW_ret ?_
        repeat (first | refine ⟨0, rfl, ?_⟩ | refine ⟨1, rfl, ?_⟩ | refine ⟨2, rfl, ?_⟩ | refine ⟨3, rfl, ?_⟩ | refine ⟨4, rfl, ?_⟩ | refine ⟨5, rfl, ?_⟩ | refine ⟨6, rfl, ?_⟩)
        refine ⟨_, R, AVle.eq ?_, (by repeat (first | exact SLe.rfl | refine SLe.tail ?_)), rfl, rfl⟩
        exact congrArg AV.bool (isB_eq ⟨fun h => Y_ext.2 ⟨h1, h2, h⟩, fun h => (Y_ext.1 h).2.2⟩)
      · have hq := h
        repeat (first | refine ga_ ?_ | intro _)
        refine AW_ret ?_
        repeat (first | refine ⟨0, rfl, ?_⟩ | refine ⟨1, rfl, ?_⟩ | refine ⟨2, rfl, ?_⟩ | refine ⟨3, rfl, ?_⟩ | refine ⟨4, rfl, ?_⟩ | refine ⟨5, rfl, ?_⟩ | refine ⟨6, rfl, ?_⟩)
        refine ⟨_, R, AVle.eq ?_, (by repeat (first | exact SLe.rfl | refine SLe.tail ?_)), rfl, rfl⟩
        exact congrArg AV.bool (isB_f (fun e => hq (Y_ext.1 e).2.1)).symm
    · have hq := h
      repeat (first | refine ga_ ?_ | intro _)
      refine AW_ret ?_
      repeat (first | refine ⟨0, rfl, ?_⟩ | refine ⟨1, rfl, ?_⟩ | refine ⟨2, rfl, ?_⟩ | refine ⟨3, rfl, ?_⟩ | refine ⟨4, rfl, ?_⟩ | refine ⟨5, rfl, ?_⟩ | refine ⟨6, rfl, ?_⟩)
      refine ⟨_, R, AVle.eq ?_, (by repeat (first | exact SLe.rfl | refine SLe.tail ?_)), rfl, rfl⟩
      exact congrArg AV.bool (isB_f (fun e => hq (Y_ext.1 e).1)).symm
theorem sameStmt_ok : ∀ (n : Nat) (t : Z), cntZ t ≤ n → n ≤ 3000 → ∀ (u : Z) (R : List En), ACall Tryd.prog 70 [encSt t, encSt u] R (fun r S => r = .bool (isB (t = u)) ∧ S = R)
  | 0, t, hn, _, u, R => by have := cntZ_pos t; omega
  | n + 1, t, hn, hm, u, R => by
    rw [cntZ_eq] at hn
    have hl := len_cntZs t.l
    have hm' := len_cntZs t.m
    have kt := fun R => sameType_ok 3000 t.t (by omega) (by omega) u.t R
    have kx := fun R => sameExpr_ok 3000 t.x (by omega) (by omega) u.x R
    have ky := fun R => sameExpr_ok 3000 t.y (by omega) (by omega) u.y R
    have kl := fun R => eqZ_ok t.l u.l (by omega) (fun x hx => sameStmt_ok n x (by have := cntZs_mem hx; omega) (by omega)) R
    have km := fun R => eqZ_ok t.m u.m (by omega) (fun x hx => sameStmt_ok n x (by have := cntZs_mem hx; omega) (by omega)) R
    rw [isB_eq allQ_eq] at kl km
    refine ACall_body tab_ok Tryd.func70 rfl rfl rfl (by kernel_rfl) (Nat.le_of_ble_eq_true rfl) ?_
    repeat (first | refine go_ ?_ | intro _)
    refine gsplit (t.op = u.op) (by first | (simp; done) | (simp <;> omega) | decide) (fun h => ?_) (fun h => ?_)
    · have h1 := h
      repeat (first | refine ga_ ?_ | intro _)
      refine gsplit (t.s = u.s) (by first | (simp; done) | (simp <;> omega) | decide) (fun h => ?_) (fun h => ?_)
      · have h2 := h
        repeat (first | refine ga_ ?_ | intro _)
        refine Or.inl ⟨⟨_, Tryd.func68, rfl, rfl⟩, ACall.mono ?_ (kt _)⟩
        rintro _ S1 ⟨rfl, hS1⟩
        subst S1
        repeat (first | refine ga_ ?_ | intro _)
        refine gsplit (t.t = u.t) (by first | (simp; done) | (simp <;> omega) | decide) (fun h => ?_) (fun h => ?_)
        · have h3 := h
          repeat (first | refine ga_ ?_ | intro _)
          refine Or.inl ⟨⟨_, Tryd.func92, rfl, rfl⟩, ACall.mono ?_ (kx _)⟩
          rintro _ S1 ⟨rfl, hS1⟩
          subst S1
          repeat (first | refine ga_ ?_ | intro _)
          refine gsplit (t.x = u.x) (by first | (simp; done) | (simp <;> omega) | decide) (fun h => ?_) (fun h => ?_)
          · have h4 := h
            repeat (first | refine ga_ ?_ | intro _)
            refine Or.inl ⟨⟨_, Tryd.func92, rfl, rfl⟩, ACall.mono ?_ (ky _)⟩
            rintro _ S1 ⟨rfl, hS1⟩
            subst S1
            repeat (first | refine ga_ ?_ | intro _)
            refine gsplit (t.y = u.y) (by first | (simp; done) | (simp <;> omega) | decide) (fun h => ?_) (fun h => ?_)
            · have h5 := h
              repeat (first | refine ga_ ?_ | intro _)
              refine Or.inl ⟨⟨_, Tryd.func69, rfl, rfl⟩, ACall.mono ?_ (kl _)⟩
              rintro _ S1 ⟨rfl, hS1⟩
              subst S1
              repeat (first | refine ga_ ?_ | intro _)
              refine gsplit (t.l = u.l) (by first | (simp; done) | (simp <;> omega) | decide) (fun h => ?_) (fun h => ?_)
              · have h6 := h
                repeat (first | refine ga_ ?_ | intro _)
                refine Or.inl ⟨⟨_, Tryd.func69, rfl, rfl⟩, ACall.mono ?_ (km _)⟩
                rintro _ S1 ⟨rfl, hS1⟩
                subst S1
                repeat (first | refine ga_ ?_ | intro _)
                refine AW_ret ?_
                repeat (first | refine ⟨0, rfl, ?_⟩ | refine ⟨1, rfl, ?_⟩ | refine ⟨2, rfl, ?_⟩ | refine ⟨3, rfl, ?_⟩ | refine ⟨4, rfl, ?_⟩ | refine ⟨5, rfl, ?_⟩ | refine ⟨6, rfl, ?_⟩)
                refine ⟨_, R, AVle.eq ?_, (by repeat (first | exact SLe.rfl | refine SLe.tail ?_)), rfl, rfl⟩
                exact congrArg AV.bool (isB_eq ⟨fun h => Z_ext.2 ⟨h1, h2, h3, h4, h5, h6, h⟩, fun h => (Z_ext.1 h).2.2.2.2.2.2⟩)
              · have hq := h
                repeat (first | refine ga_ ?_ | intro _)
                refine AW_ret ?_
                repeat (first | refine ⟨0, rfl, ?_⟩ | refine ⟨1, rfl, ?_⟩ | refine ⟨2, rfl, ?_⟩ | refine ⟨3, rfl, ?_⟩ | refine ⟨4, rfl, ?_⟩ | refine ⟨5, rfl, ?_⟩ | refine ⟨6, rfl, ?_⟩)
                refine ⟨_, R, AVle.eq ?_, (by repeat (first | exact SLe.rfl | refine SLe.tail ?_)), rfl, rfl⟩
                exact congrArg AV.bool (isB_f (fun e => hq (Z_ext.1 e).2.2.2.2.2.1)).symm
            · have hq := h
              repeat (first | refine ga_ ?_ | intro _)
              refine AW_ret ?_
              repeat (first | refine ⟨0, rfl, ?_⟩ | refine ⟨1, rfl, ?_⟩ | refine ⟨2, rfl, ?_⟩ | refine ⟨3, rfl, ?_⟩ | refine ⟨4, rfl, ?_⟩ | refine ⟨5, rfl, ?_⟩ | refine ⟨6, rfl, ?_⟩)
              refine ⟨_, R, AVle.eq ?_, (by repeat (first | exact SLe.rfl | refine SLe.tail ?_)), rfl, rfl⟩
              exact congrArg AV.bool (isB_f (fun e => hq (Z_ext.1 e).2.2.2.2.1)).symm
          · have hq := h
            repeat (first | refine ga_ ?_ | intro _)
            refine AW_ret ?_
            repeat (first | refine ⟨0, rfl, ?_⟩ | refine ⟨1, rfl, ?_⟩ | refine ⟨2, rfl, ?_⟩ | refine ⟨3, rfl, ?_⟩ | refine ⟨4, rfl, ?_⟩ | refine ⟨5, rfl, ?_⟩ | refine ⟨6, rfl, ?_⟩)
            refine ⟨_, R, AVle.eq ?_, (by repeat (first | exact SLe.rfl | refine SLe.tail ?_)), rfl, rfl⟩
            exact congrArg AV.bool (isB_f (fun e => hq (Z_ext.1 e).2.2.2.1)).symm
        · have hq := h
          repeat (first | refine ga_ ?_ | intro _)
          refine AW_ret ?_
          repeat (first | refine ⟨0, rfl, ?_⟩ | refine ⟨1, rfl, ?_⟩ | refine ⟨2, rfl, ?_⟩ | refine ⟨3, rfl, ?_⟩ | refine ⟨4, rfl, ?_⟩ | refine ⟨5, rfl, ?_⟩ | refine ⟨6, rfl, ?_⟩)
          refine ⟨_, R, AVle.eq ?_, (by repeat (first | exact SLe.rfl | refine SLe.tail ?_)), rfl, rfl⟩
          exact congrArg AV.bool (isB_f (fun e => hq (Z_ext.1 e).2.2.1)).symm
      · have hq := h
        repeat (first | refine ga_ ?_ | intro _)
        refine AW_ret ?_
        repeat (first | refine ⟨0, rfl, ?_⟩ | refine ⟨1, rfl, ?_⟩ | refine ⟨2, rfl, ?_⟩ | refine ⟨3, rfl, ?_⟩ | refine ⟨4, rfl, ?_⟩ | refine ⟨5, rfl, ?_⟩ | refine ⟨6, rfl, ?_⟩)
        refine ⟨_, R, AVle.eq ?_, (by repeat (first | exact SLe.rfl | refine SLe.tail ?_)), rfl, rfl⟩
        exact congrArg AV.bool (isB_f (fun e => hq (Z_ext.1 e).2.1)).symm
    · have hq := h
      repeat (first | refine ga_ ?_ | intro _)
      refine AW_ret ?_
      repeat (first | refine ⟨0, rfl, ?_⟩ | refine ⟨1, rfl, ?_⟩ | refine ⟨2, rfl, ?_⟩ | refine ⟨3, rfl, ?_⟩ | refine ⟨4, rfl, ?_⟩ | refine ⟨5, rfl, ?_⟩ | refine ⟨6, rfl, ?_⟩)
      refine ⟨_, R, AVle.eq ?_, (by repeat (first | exact SLe.rfl | refine SLe.tail ?_)), rfl, rfl⟩
      exact congrArg AV.bool (isB_f (fun e => hq (Z_ext.1 e).1)).symm
theorem sameStruct_ok (a b : Sc) (R : List En) (hc : cntSc a ≤ 3000) : ACall Tryd.prog 35 [encSc a, encSc b] R (fun r S => r = .bool (isB (a = b)) ∧ S = R) := by
  unfold cntSc at hc
  have hl := len_cntYs a.types
  have kn := fun R => eqS_ok a.names b.names (by omega) R
  have kt := fun R => eqY_ok a.types b.types (by omega) (fun x hx => sameType_ok 3000 x (by have := cntYs_mem hx; omega) (by omega)) R
  rw [isB_eq allQ_eq] at kt
  refine ACall_body tab_ok Tryd.func35 rfl rfl rfl (by kernel_rfl) (Nat.le_of_ble_eq_true rfl) ?_
  repeat (first | refine go_ ?_ | intro _)
  refine gsplit (a.s = b.s) (by first | (simp; done) | (simp <;> omega) | decide) (fun h => ?_) (fun h => ?_)
  · have h1 := h
    repeat (first | refine ga_ ?_ | intro _)
    refine Or.inl ⟨⟨_, Tryd.func66, rfl, rfl⟩, ACall.mono ?_ (kn _)⟩
    rintro _ S1 ⟨rfl, hS1⟩
    subst S1
    repeat (first | refine ga_ ?_ | intro _)
    refine gsplit (a.names = b.names) (by first | (simp; done) | (simp <;> omega) | decide) (fun h => ?_) (fun h => ?_)
    · have h2 := h
      repeat (first | refine ga_ ?_ | intro _)
      refine Or.inl ⟨⟨_, Tryd.func67, rfl, rfl⟩, ACall.mono ?_ (kt _)⟩
      rintro _ S1 ⟨rfl, hS1⟩
      subst S1
      repeat (first | refine ga_ ?_ | intro _)
      refine AW_ret ?_
      repeat (first | refine ⟨0, rfl, ?_⟩ | refine ⟨1, rfl, ?_⟩ | refine ⟨2, rfl, ?_⟩ | refine ⟨3, rfl, ?_⟩ | refine ⟨4, rfl, ?_⟩ | refine ⟨5, rfl, ?_⟩ | refine ⟨6, rfl, ?_⟩)
      refine ⟨_, R, AVle.eq ?_, (by repeat (first | exact SLe.rfl | refine SLe.tail ?_)), rfl, rfl⟩
      exact congrArg AV.bool (isB_eq ⟨fun h => Sc_ext.2 ⟨h1, h2, h⟩, fun h => (Sc_ext.1 h).2.2⟩)
    · have hq := h
      repeat (first | refine ga_ ?_ | intro _)
      refine AW_ret ?_
      repeat (first | refine ⟨0, rfl, ?_⟩ | refine ⟨1, rfl, ?_⟩ | refine ⟨2, rfl, ?_⟩ | refine ⟨3, rfl, ?_⟩ | refine ⟨4, rfl, ?_⟩ | refine ⟨5, rfl, ?_⟩ | refine ⟨6, rfl, ?_⟩)
      refine ⟨_, R, AVle.eq ?_, (by repeat (first | exact SLe.rfl | refine SLe.tail ?_)), rfl, rfl⟩
      exact congrArg AV.bool (isB_f (fun e => hq (Sc_ext.1 e).2.1)).symm
  · have hq := h
    repeat (first | refine ga_ ?_ | intro _)
    refine AW_ret ?_
    repeat (first | refine ⟨0, rfl, ?_⟩ | refine ⟨1, rfl, ?_⟩ | refine ⟨2, rfl, ?_⟩ | refine ⟨3, rfl, ?_⟩ | refine ⟨4, rfl, ?_⟩ | refine ⟨5, rfl, ?_⟩ | refine ⟨6, rfl, ?_⟩)
    refine ⟨_, R, AVle.eq ?_, (by repeat (first | exact SLe.rfl | refine SLe.tail ?_)), rfl, rfl⟩
    exact congrArg AV.bool (isB_f (fun e => hq (Sc_ext.1 e).1)).symm
theorem sameFunc_ok (a b : Fn) (R : List En) (hc : cntFn a ≤ 3000) : ACall Tryd.prog 37 [encFn a, encFn b] R (fun r S => r = .bool (isB (a = b)) ∧ S = R) := by
  unfold cntFn at hc
  have hl := len_cntYs a.types
  have hz := len_cntZs a.l
  have kn := fun R => eqS_ok a.names b.names (by omega) R
  have kt := fun R => eqY_ok a.types b.types (by omega) (fun x hx => sameType_ok 3000 x (by have := cntYs_mem hx; omega) (by omega)) R
  have kr := fun R => sameType_ok 3000 a.ret (by omega) (by omega) b.ret R
  have kz := fun R => eqZ_ok a.l b.l (by omega) (fun x hx => sameStmt_ok 3000 x (by have := cntZs_mem hx; omega) (by omega)) R
  rw [isB_eq allQ_eq] at kt kz
  refine ACall_body tab_ok Tryd.func37 rfl rfl rfl (by kernel_rfl) (Nat.le_of_ble_eq_true rfl) ?_
  repeat (first | refine go_ ?_ | intro _)
  refine gsplit (a.s = b.s) (by first | (simp; done) | (simp <;> omega) | decide) (fun h => ?_) (fun h => ?_)
  · have h1 := h
    repeat (first | refine ga_ ?_ | intro _)
    refine Or.inl ⟨⟨_, Tryd.func66, rfl, rfl⟩, ACall.mono ?_ (kn _)⟩
    rintro _ S1 ⟨rfl, hS1⟩
    subst S1
    repeat (first | refine ga_ ?_ | intro _)
    refine gsplit (a.names = b.names) (by first | (simp; done) | (simp <;> omega) | decide) (fun h => ?_) (fun h => ?_)
    · have h2 := h
      repeat (first | refine ga_ ?_ | intro _)
      refine Or.inl ⟨⟨_, Tryd.func67, rfl, rfl⟩, ACall.mono ?_ (kt _)⟩
      rintro _ S1 ⟨rfl, hS1⟩
      subst S1
      repeat (first | refine ga_ ?_ | intro _)
      refine gsplit (a.types = b.types) (by first | (simp; done) | (simp <;> omega) | decide) (fun h => ?_) (fun h => ?_)
      · have h3 := h
        repeat (first | refine ga_ ?_ | intro _)
        refine Or.inl ⟨⟨_, Tryd.func68, rfl, rfl⟩, ACall.mono ?_ (kr _)⟩
        rintro _ S1 ⟨rfl, hS1⟩
        subst S1
        repeat (first | refine ga_ ?_ | intro _)
        refine gsplit (a.ret = b.ret) (by first | (simp; done) | (simp <;> omega) | decide) (fun h => ?_) (fun h => ?_)
        · have h4 := h
          repeat (first | refine ga_ ?_ | intro _)
          refine Or.inl ⟨⟨_, Tryd.func69, rfl, rfl⟩, ACall.mono ?_ (kz _)⟩
          rintro _ S1 ⟨rfl, hS1⟩
          subst S1
          repeat (first | refine ga_ ?_ | intro _)
          refine AW_ret ?_
          repeat (first | refine ⟨0, rfl, ?_⟩ | refine ⟨1, rfl, ?_⟩ | refine ⟨2, rfl, ?_⟩ | refine ⟨3, rfl, ?_⟩ | refine ⟨4, rfl, ?_⟩ | refine ⟨5, rfl, ?_⟩ | refine ⟨6, rfl, ?_⟩)
          refine ⟨_, R, AVle.eq ?_, (by repeat (first | exact SLe.rfl | refine SLe.tail ?_)), rfl, rfl⟩
          exact congrArg AV.bool (isB_eq ⟨fun h => Fn_ext.2 ⟨h1, h2, h3, h4, h⟩, fun h => (Fn_ext.1 h).2.2.2.2⟩)
        · have hq := h
          repeat (first | refine ga_ ?_ | intro _)
          refine AW_ret ?_
          repeat (first | refine ⟨0, rfl, ?_⟩ | refine ⟨1, rfl, ?_⟩ | refine ⟨2, rfl, ?_⟩ | refine ⟨3, rfl, ?_⟩ | refine ⟨4, rfl, ?_⟩ | refine ⟨5, rfl, ?_⟩ | refine ⟨6, rfl, ?_⟩)
          refine ⟨_, R, AVle.eq ?_, (by repeat (first | exact SLe.rfl | refine SLe.tail ?_)), rfl, rfl⟩
          exact congrArg AV.bool (isB_f (fun e => hq (Fn_ext.1 e).2.2.2.1)).symm
      · have hq := h
        repeat (first | refine ga_ ?_ | intro _)
        refine AW_ret ?_
        repeat (first | refine ⟨0, rfl, ?_⟩ | refine ⟨1, rfl, ?_⟩ | refine ⟨2, rfl, ?_⟩ | refine ⟨3, rfl, ?_⟩ | refine ⟨4, rfl, ?_⟩ | refine ⟨5, rfl, ?_⟩ | refine ⟨6, rfl, ?_⟩)
        refine ⟨_, R, AVle.eq ?_, (by repeat (first | exact SLe.rfl | refine SLe.tail ?_)), rfl, rfl⟩
        exact congrArg AV.bool (isB_f (fun e => hq (Fn_ext.1 e).2.2.1)).symm
    · have hq := h
      repeat (first | refine ga_ ?_ | intro _)
      refine AW_ret ?_
      repeat (first | refine ⟨0, rfl, ?_⟩ | refine ⟨1, rfl, ?_⟩ | refine ⟨2, rfl, ?_⟩ | refine ⟨3, rfl, ?_⟩ | refine ⟨4, rfl, ?_⟩ | refine ⟨5, rfl, ?_⟩ | refine ⟨6, rfl, ?_⟩)
      refine ⟨_, R, AVle.eq ?_, (by repeat (first | exact SLe.rfl | refine SLe.tail ?_)), rfl, rfl⟩
      exact congrArg AV.bool (isB_f (fun e => hq (Fn_ext.1 e).2.1)).symm
  · have hq := h
    repeat (first | refine ga_ ?_ | intro _)
    refine AW_ret ?_
    repeat (first | refine ⟨0, rfl, ?_⟩ | refine ⟨1, rfl, ?_⟩ | refine ⟨2, rfl, ?_⟩ | refine ⟨3, rfl, ?_⟩ | refine ⟨4, rfl, ?_⟩ | refine ⟨5, rfl, ?_⟩ | refine ⟨6, rfl, ?_⟩)
    refine ⟨_, R, AVle.eq ?_, (by repeat (first | exact SLe.rfl | refine SLe.tail ?_)), rfl, rfl⟩
    exact congrArg AV.bool (isB_f (fun e => hq (Fn_ext.1 e).1)).symm
theorem same_ok (a b : Fi) (R : List En) (hc : cntFi a ≤ 3000) : ACall Tryd.prog 17 [encFi a, encFi b] R (fun r S => r = .bool (isB (a = b)) ∧ S = R) := by
  unfold cntFi at hc
  have h1 := len_cntScs a.structs
  have h2 := len_cntFns a.funcs
  have k1 := fun R => eqSc_ok a.structs b.structs (by omega) (fun x hx y R => sameStruct_ok x y R (by have := cntScs_mem hx; omega)) R
  have k2 := fun R => eqFn_ok a.funcs b.funcs (by omega) (fun x hx y R => sameFunc_ok x y R (by have := cntFns_mem hx; omega)) R
  rw [isB_eq allQ_eq] at k1 k2
  refine ACall_body tab_ok Tryd.func17 rfl rfl rfl (by kernel_rfl) (Nat.le_of_ble_eq_true rfl) ?_
  repeat (first | refine go_ ?_ | intro _)
  refine Or.inl ⟨⟨_, Tryd.func34, rfl, rfl⟩, ACall.mono ?_ (k1 _)⟩
  rintro _ S1 ⟨rfl, hS1⟩
  subst S1
  repeat (first | refine ga_ ?_ | intro _)
  refine gsplit (a.structs = b.structs) (by first | (simp; done) | (simp <;> omega) | decide) (fun h => ?_) (fun h => ?_)
  · have h1 := h
    repeat (first | refine ga_ ?_ | intro _)
    refine Or.inl ⟨⟨_, Tryd.func36, rfl, rfl⟩, ACall.mono ?_ (k2 _)⟩
    rintro _ S1 ⟨rfl, hS1⟩
    subst S1
    repeat (first | refine ga_ ?_ | intro _)
    refine AW_ret ?_
    repeat (first | refine ⟨0, rfl, ?_⟩ | refine ⟨1, rfl, ?_⟩ | refine ⟨2, rfl, ?_⟩ | refine ⟨3, rfl, ?_⟩ | refine ⟨4, rfl, ?_⟩ | refine ⟨5, rfl, ?_⟩ | refine ⟨6, rfl, ?_⟩)
    refine ⟨_, R, AVle.eq ?_, (by repeat (first | exact SLe.rfl | refine SLe.tail ?_)), rfl, rfl⟩
    exact congrArg AV.bool (isB_eq ⟨fun h => Fi_ext.2 ⟨h1, h⟩, fun h => (Fi_ext.1 h).2⟩)
  · have hq := h
    repeat (first | refine ga_ ?_ | intro _)
    refine AW_ret ?_
    repeat (first | refine ⟨0, rfl, ?_⟩ | refine ⟨1, rfl, ?_⟩ | refine ⟨2, rfl, ?_⟩ | refine ⟨3, rfl, ?_⟩ | refine ⟨4, rfl, ?_⟩ | refine ⟨5, rfl, ?_⟩ | refine ⟨6, rfl, ?_⟩)
    refine ⟨_, R, AVle.eq ?_, (by repeat (first | exact SLe.rfl | refine SLe.tail ?_)), rfl, rfl⟩
    exact congrArg AV.bool (isB_f (fun e => hq (Fi_ext.1 e).1)).symm
end Go.Proofs.YtnkmjbjpmocnbaaDoor
