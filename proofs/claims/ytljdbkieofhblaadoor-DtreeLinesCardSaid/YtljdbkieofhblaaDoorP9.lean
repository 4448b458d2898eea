/-
  Which programs are alike: the program's answer. Own work.
-/
import Derived.Test.YtljdbkieofhblaaDoorP7
namespace Go.Proofs.YtljdbkieofhblaaDoor
open Go.Aw Go.RowKit
set_option maxHeartbeats 4000000

/-- whether a statement holds, as a truth value -/
noncomputable def isB (p : Prop) : Bool := @decide p (Classical.propDecidable p)
theorem isB_t {p : Prop} (h : p) : isB p = true := @decide_eq_true p (Classical.propDecidable p) h
theorem isB_f {p : Prop} (h : ¬ p) : isB p = false := @decide_eq_false p (Classical.propDecidable p) h
@[simp] theorem isB_iff {p : Prop} : isB p = true ↔ p := ⟨fun h => @of_decide_eq_true p (Classical.propDecidable p) h, isB_t⟩
@[simp] theorem isB_not {p : Prop} : isB p = false ↔ ¬ p := by
  constructor
  · intro h hp
    rw [isB_t hp] at h; cases h
  · exact isB_f
theorem isB_eq {p q : Prop} (h : p ↔ q) : isB p = isB q := by rw [propext h]
def allQ {α : Type} (Q : α → α → Prop) (l m : List α) : Prop := l.length = m.length ∧ ∀ (i : Nat) (h : i < l.length) (h' : i < m.length), Q l[i] m[i]
theorem allQ_eq {α : Type} {l m : List α} : allQ Eq l m ↔ l = m := ⟨fun h => List.ext_getElem h.1 h.2, fun h => by subst h; exact ⟨rfl, fun _ _ _ => rfl⟩⟩
theorem allQ_cons {α : Type} {Q : α → α → Prop} {a b : α} {l m : List α} : allQ Q (a :: l) (b :: m) ↔ Q a b ∧ allQ Q l m := by
  constructor
  · rintro ⟨h1, h2⟩
    refine ⟨h2 0 (by simp) (by simp), by simpa using h1, fun i h h' => ?_⟩
    have := h2 (i + 1) (by simpa using h) (by simpa using h')
    simpa using this
  · rintro ⟨h1, h2, h3⟩
    refine ⟨by simp [h2], fun i h h' => ?_⟩
    cases i with
    | zero => exact h1
    | succ i => simpa using h3 i (by simpa using h) (by simpa using h')
theorem allQ_R : ∀ {l m : List Ru}, allQ likeR l m ↔ likeRs l m
  | [], [] => ⟨fun _ => trivial, fun _ => ⟨rfl, fun i h => by simp at h⟩⟩
  | [], _ :: _ => ⟨fun h => by have := h.1; simp at this, fun h => h.elim⟩
  | _ :: _, [] => ⟨fun h => by have := h.1; simp at this, fun h => h.elim⟩
  | r :: l, q :: m => by rw [allQ_cons, allQ_R]; rfl
theorem allQ_D : ∀ {l m : List De}, allQ likeD l m ↔ likeDs l m
  | [], [] => ⟨fun _ => trivial, fun _ => ⟨rfl, fun i h => by simp at h⟩⟩
  | [], _ :: _ => ⟨fun h => by have := h.1; simp at this, fun h => h.elim⟩
  | _ :: _, [] => ⟨fun h => by have := h.1; simp at this, fun h => h.elim⟩
  | r :: l, q :: m => by rw [allQ_cons, allQ_D]; rfl
theorem T_ext {t u : T} : t = u ↔ t.op = u.op ∧ t.s = u.s ∧ t.n = u.n ∧ t.l = u.l := by
  obtain ⟨a, b, c, d⟩ := t
  obtain ⟨e, f, g, h⟩ := u
  rw [T.mk.injEq]; rfl
theorem At_ext {a b : At} : a = b ↔ a.rel = b.rel ∧ a.l = b.l := by
  obtain ⟨c, d⟩ := a
  obtain ⟨e, f⟩ := b
  rw [At.mk.injEq]
theorem Li_ext {a b : Li} : a = b ↔ a.op = b.op ∧ a.a = b.a ∧ a.x = b.x ∧ a.y = b.y := by
  obtain ⟨c, d, e, f⟩ := a
  obtain ⟨g, h, i, j⟩ := b
  rw [Li.mk.injEq]

theorem eqT_ok (l m : List T) (hl : l.length ≤ 9223372036854775807) (hk : ∀ x ∈ l, ∀ (y : T) (R : List En), ACall Tryd.prog 89 [encU x, encU y] R (fun r S => r = .bool (isB (x = y)) ∧ S = R)) (R : List En) : ACall Tryd.prog 88 [.sl 4 (encTs l) .no, .sl 4 (encTs m) .no, .fn (.func 89) [] []] R (fun r S => r = .bool (isB (allQ Eq l m)) ∧ S = R) := by
  refine ACall_body tab_ok Tryd.func88 rfl rfl rfl (by kernel_rfl) (Nat.le_of_ble_eq_true rfl) ?_
  repeat (first | refine go_ ?_ | intro _)
  refine AW_iff (¬ l.length = m.length) rfl (by first | (simp; done) | (simp <;> omega) | decide) (fun h => ?_) (fun h => ?_)
  · repeat (first | refine go_ ?_ | intro _)
    refine AW_ret ?_
    repeat (first | refine ⟨0, rfl, ?_⟩ | refine ⟨1, rfl, ?_⟩ | refine ⟨2, rfl, ?_⟩ | refine ⟨3, rfl, ?_⟩ | refine ⟨4, rfl, ?_⟩ | refine ⟨5, rfl, ?_⟩ | refine ⟨6, rfl, ?_⟩)
    refine ⟨_, R, AVle.eq ?_, (by repeat (first | exact SLe.rfl | refine SLe.tail ?_)), rfl, rfl⟩
    exact congrArg AV.bool (isB_f (fun hq => h hq.1)).symm
  have hlen : l.length = m.length := Decidable.not_not.1 h
  repeat (first | refine go_ ?_ | intro _)
  refine AW_for (α := Nat) (fun z => ⟨[(0, .sl 4 (encTs l) .no), (1, .sl 4 (encTs m) .no), (2, .fn (.func 89) [] []), (15, .sl 4 (encTs l) .no), (16, .int .i64 (l.length : Nat)), (17, .int .i64 (z : Nat))], []⟩) (fun z => R) (fun z => l.length - z) (fun z => z ≤ l.length ∧ ∀ (i : Nat) (h : i < l.length) (h' : i < m.length), i < z → Eq l[i] m[i]) (0) ?_ (weak_of ?_ rfl ?_) (fun z hz => ?_)
  · exact ⟨by omega, fun i _ _ h => by omega⟩
  · repeat (first | exact trivial | refine ⟨(AVle.eq (congrArg (AV.int .i64) (by simp))), ?_⟩ | refine ⟨AVle.refl _, ?_⟩ | refine ⟨AVle.tk, ?_⟩ | refine ⟨AVle.nil, ?_⟩ | refine ⟨AVle.nilFull, ?_⟩ | refine ⟨AVle.eq (congrArg (AV.int .i64) (by first | (simp; done) | (simp; omega) | (rw [wrap_i64 (by first | omega | (simp; omega))]; first | rfl | omega | (simp; done) | (simp; omega)))), ?_⟩)
  · repeat (first | exact SLe.rfl | refine SLe.tail ?_ | refine SLe.full ?_)
  obtain ⟨i1, i2⟩ := hz
  repeat (first | refine go_ ?_ | intro _)
  refine AW_iff (z < l.length) rfl (by first | (simp; done) | (simp <;> omega) | decide) (fun h => ?_) (fun h => ?_)
  · have hlt := h
    have hlt2 : z < m.length := by omega
    obtain ⟨x, hx⟩ : ∃ x, x = l[z] := ⟨_, rfl⟩
    obtain ⟨y, hy⟩ : ∃ x, x = m[z] := ⟨_, rfl⟩
    repeat (first | refine go_ ?_ | intro _)
    refine at_get (z) (encU x) (by first | rfl | omega | (rw [wrap_i64 (by omega)]; omega)) (by rw [hx]; exact encTs_get hlt) ?_
    repeat (first | refine go_ ?_ | intro _)
    refine at_get (z) (encU y) (by first | rfl | omega | (rw [wrap_i64 (by omega)]; omega)) (by rw [hy]; exact encTs_get hlt2) ?_
    repeat (first | refine go_ ?_ | intro _)
    refine Or.inl ⟨⟨_, Tryd.func89, rfl, rfl⟩, ACall.mono ?_ (hk x (hx ▸ List.getElem_mem hlt) y _)⟩
    rintro _ S1 ⟨rfl, hS1⟩
    subst S1
    repeat (first | refine go_ ?_ | intro _)
    refine AW_cond (b := !isB (Eq x y)) rfl (fun h => ?_) (fun h => ?_)
    · have hq : ¬ Eq x y := isB_not.1 (by simpa using h)
      repeat (first | refine go_ ?_ | intro _)
      refine AW_ret ?_
      repeat (first | refine ⟨0, rfl, ?_⟩ | refine ⟨1, rfl, ?_⟩ | refine ⟨2, rfl, ?_⟩ | refine ⟨3, rfl, ?_⟩ | refine ⟨4, rfl, ?_⟩ | refine ⟨5, rfl, ?_⟩ | refine ⟨6, rfl, ?_⟩)
      refine ⟨_, R, AVle.eq ?_, (by repeat (first | exact SLe.rfl | refine SLe.tail ?_)), rfl, rfl⟩
      exact congrArg AV.bool (isB_f (fun ha => hq (by rw [hx, hy]; exact ha.2 z hlt hlt2))).symm
    · have hq : Eq x y := isB_iff.1 (by simpa using h)
      repeat (first | refine go_ ?_ | intro _)
      refine ⟨z + 1, ?_, ?_, weak_of ?_ rfl ?_⟩
      · omega
      · refine ⟨by omega, fun i h h' hi => ?_⟩
        by_cases hc : i < z
        · exact i2 i h h' hc
        · obtain rfl : i = z := by omega
          rw [← hx, ← hy]; exact hq
      · repeat (first | exact trivial | refine ⟨AVle.refl _, ?_⟩ | refine ⟨AVle.tk, ?_⟩ | refine ⟨AVle.nil, ?_⟩ | refine ⟨AVle.nilFull, ?_⟩ | refine ⟨AVle.eq (congrArg (AV.int .i64) (by first | (simp; done) | (simp; omega) | (rw [wrap_i64 (by first | omega | (simp; omega))]; first | rfl | omega | (simp; done) | (simp; omega)))), ?_⟩)
      · repeat (first | exact SLe.rfl | refine SLe.tail ?_ | refine SLe.full ?_)
  · repeat (first | refine go_ ?_ | intro _)
    refine AW_ret ?_
    repeat (first | refine ⟨0, rfl, ?_⟩ | refine ⟨1, rfl, ?_⟩ | refine ⟨2, rfl, ?_⟩ | refine ⟨3, rfl, ?_⟩ | refine ⟨4, rfl, ?_⟩ | refine ⟨5, rfl, ?_⟩ | refine ⟨6, rfl, ?_⟩)
    refine ⟨_, R, AVle.eq ?_, (by repeat (first | exact SLe.rfl | refine SLe.tail ?_)), rfl, rfl⟩
    exact congrArg AV.bool (isB_t ⟨hlen, fun i h h' => i2 i h h' (by omega)⟩).symm
theorem eqL_ok (l m : List Li) (hl : l.length ≤ 9223372036854775807) (hk : ∀ x ∈ l, ∀ (y : Li) (R : List En), ACall Tryd.prog 72 [encL x, encL y] R (fun r S => r = .bool (isB (x = y)) ∧ S = R)) (R : List En) : ACall Tryd.prog 71 [.sl 11 (l.map encL) .no, .sl 11 (m.map encL) .no, .fn (.func 72) [] []] R (fun r S => r = .bool (isB (allQ Eq l m)) ∧ S = R) := by
  refine ACall_body tab_ok Tryd.func71 rfl rfl rfl (by kernel_rfl) (Nat.le_of_ble_eq_true rfl) ?_
  repeat (first | refine go_ ?_ | intro _)
  refine AW_iff (¬ l.length = m.length) rfl (by first | (simp; done) | (simp <;> omega) | decide) (fun h => ?_) (fun h => ?_)
  · repeat (first | refine go_ ?_ | intro _)
    refine AW_ret ?_
    repeat (first | refine ⟨0, rfl, ?_⟩ | refine ⟨1, rfl, ?_⟩ | refine ⟨2, rfl, ?_⟩ | refine ⟨3, rfl, ?_⟩ | refine ⟨4, rfl, ?_⟩ | refine ⟨5, rfl, ?_⟩ | refine ⟨6, rfl, ?_⟩)
    refine ⟨_, R, AVle.eq ?_, (by repeat (first | exact SLe.rfl | refine SLe.tail ?_)), rfl, rfl⟩
    exact congrArg AV.bool (isB_f (fun hq => h hq.1)).symm
  have hlen : l.length = m.length := Decidable.not_not.1 h
  repeat (first | refine go_ ?_ | intro _)
  refine AW_for (α := Nat) (fun z => ⟨[(0, .sl 11 (List.map encL l) .no), (1, .sl 11 (List.map encL m) .no), (2, .fn (.func 72) [] []), (15, .sl 11 (List.map encL l) .no), (16, .int .i64 (l.length : Nat)), (17, .int .i64 (z : Nat))], []⟩) (fun z => R) (fun z => l.length - z) (fun z => z ≤ l.length ∧ ∀ (i : Nat) (h : i < l.length) (h' : i < m.length), i < z → Eq l[i] m[i]) (0) ?_ (weak_of ?_ rfl ?_) (fun z hz => ?_)
  · exact ⟨by omega, fun i _ _ h => by omega⟩
  · repeat (first | exact trivial | refine ⟨(AVle.eq (congrArg (AV.int .i64) (by simp))), ?_⟩ | refine ⟨AVle.refl _, ?_⟩ | refine ⟨AVle.tk, ?_⟩ | refine ⟨AVle.nil, ?_⟩ | refine ⟨AVle.nilFull, ?_⟩ | refine ⟨AVle.eq (congrArg (AV.int .i64) (by first | (simp; done) | (simp; omega) | (rw [wrap_i64 (by first | omega | (simp; omega))]; first | rfl | omega | (simp; done) | (simp; omega)))), ?_⟩)
  · repeat (first | exact SLe.rfl | refine SLe.tail ?_ | refine SLe.full ?_)
  obtain ⟨i1, i2⟩ := hz
  repeat (first | refine go_ ?_ | intro _)
  refine AW_iff (z < l.length) rfl (by first | (simp; done) | (simp <;> omega) | decide) (fun h => ?_) (fun h => ?_)
  · have hlt := h
    have hlt2 : z < m.length := by omega
    obtain ⟨x, hx⟩ : ∃ x, x = l[z] := ⟨_, rfl⟩
    obtain ⟨y, hy⟩ : ∃ x, x = m[z] := ⟨_, rfl⟩
    repeat (first | refine go_ ?_ | intro _)
    refine at_get (z) (encL x) (by first | rfl | omega | (rw [wrap_i64 (by omega)]; omega)) (by rw [List.getElem?_map, List.getElem?_eq_getElem hlt, hx]; rfl) ?_
    repeat (first | refine go_ ?_ | intro _)
    refine at_get (z) (encL y) (by first | rfl | omega | (rw [wrap_i64 (by omega)]; omega)) (by rw [List.getElem?_map, List.getElem?_eq_getElem hlt2, hy]; rfl) ?_
    repeat (first | refine go_ ?_ | intro _)
    refine Or.inl ⟨⟨_, Tryd.func72, rfl, rfl⟩, ACall.mono ?_ (hk x (hx ▸ List.getElem_mem hlt) y _)⟩
    rintro _ S1 ⟨rfl, hS1⟩
    subst S1
    repeat (first | refine go_ ?_ | intro _)
    refine AW_cond (b := !isB (Eq x y)) rfl (fun h => ?_) (fun h => ?_)
    · have hq : ¬ Eq x y := isB_not.1 (by simpa using h)
      repeat (first | refine go_ ?_ | intro _)
      refine AW_ret ?_
      repeat (first | refine ⟨0, rfl, ?_⟩ | refine ⟨1, rfl, ?_⟩ | refine ⟨2, rfl, ?_⟩ | refine ⟨3, rfl, ?_⟩ | refine ⟨4, rfl, ?_⟩ | refine ⟨5, rfl, ?_⟩ | refine ⟨6, rfl, ?_⟩)
      refine ⟨_, R, AVle.eq ?_, (by repeat (first | exact SLe.rfl | refine SLe.tail ?_)), rfl, rfl⟩
      exact congrArg AV.bool (isB_f (fun ha => hq (by rw [hx, hy]; exact ha.2 z hlt hlt2))).symm
    · have hq : Eq x y := isB_iff.1 (by simpa using h)
      repeat (first | refine go_ ?_ | intro _)
      refine ⟨z + 1, ?_, ?_, weak_of ?_ rfl ?_⟩
      · omega
      · refine ⟨by omega, fun i h h' hi => ?_⟩
        by_cases hc : i < z
        · exact i2 i h h' hc
        · obtain rfl : i = z := by omega
          rw [← hx, ← hy]; exact hq
      · repeat (first | exact trivial | refine ⟨AVle.refl _, ?_⟩ | refine ⟨AVle.tk, ?_⟩ | refine ⟨AVle.nil, ?_⟩ | refine ⟨AVle.nilFull, ?_⟩ | refine ⟨AVle.eq (congrArg (AV.int .i64) (by first | (simp; done) | (simp; omega) | (rw [wrap_i64 (by first | omega | (simp; omega))]; first | rfl | omega | (simp; done) | (simp; omega)))), ?_⟩)
      · repeat (first | exact SLe.rfl | refine SLe.tail ?_ | refine SLe.full ?_)
  · repeat (first | refine go_ ?_ | intro _)
    refine AW_ret ?_
    repeat (first | refine ⟨0, rfl, ?_⟩ | refine ⟨1, rfl, ?_⟩ | refine ⟨2, rfl, ?_⟩ | refine ⟨3, rfl, ?_⟩ | refine ⟨4, rfl, ?_⟩ | refine ⟨5, rfl, ?_⟩ | refine ⟨6, rfl, ?_⟩)
    refine ⟨_, R, AVle.eq ?_, (by repeat (first | exact SLe.rfl | refine SLe.tail ?_)), rfl, rfl⟩
    exact congrArg AV.bool (isB_t ⟨hlen, fun i h h' => i2 i h h' (by omega)⟩).symm
theorem eqR_ok (l m : List Ru) (hl : l.length ≤ 9223372036854775807) (hk : ∀ x ∈ l, ∀ (y : Ru) (R : List En), ACall Tryd.prog 47 [encRu x, encRu y] R (fun r S => r = .bool (isB (likeR x y)) ∧ S = R)) (R : List En) : ACall Tryd.prog 46 [.sl 4 (l.map encRu) .no, .sl 4 (m.map encRu) .no, .fn (.func 47) [] []] R (fun r S => r = .bool (isB (allQ likeR l m)) ∧ S = R) := by
  refine ACall_body tab_ok Tryd.func46 rfl rfl rfl (by kernel_rfl) (Nat.le_of_ble_eq_true rfl) ?_
  repeat (first | refine go_ ?_ | intro _)
  refine AW_iff (¬ l.length = m.length) rfl (by first | (simp; done) | (simp <;> omega) | decide) (fun h => ?_) (fun h => ?_)
  · repeat (first | refine go_ ?_ | intro _)
    refine AW_ret ?_
    repeat (first | refine ⟨0, rfl, ?_⟩ | refine ⟨1, rfl, ?_⟩ | refine ⟨2, rfl, ?_⟩ | refine ⟨3, rfl, ?_⟩ | refine ⟨4, rfl, ?_⟩ | refine ⟨5, rfl, ?_⟩ | refine ⟨6, rfl, ?_⟩)
    refine ⟨_, R, AVle.eq ?_, (by repeat (first | exact SLe.rfl | refine SLe.tail ?_)), rfl, rfl⟩
    exact congrArg AV.bool (isB_f (fun hq => h hq.1)).symm
  have hlen : l.length = m.length := Decidable.not_not.1 h
  repeat (first | refine go_ ?_ | intro _)
  refine AW_for (α := Nat) (fun z => ⟨[(0, .sl 4 (List.map encRu l) .no), (1, .sl 4 (List.map encRu m) .no), (2, .fn (.func 47) [] []), (15, .sl 4 (List.map encRu l) .no), (16, .int .i64 (l.length : Nat)), (17, .int .i64 (z : Nat))], []⟩) (fun z => R) (fun z => l.length - z) (fun z => z ≤ l.length ∧ ∀ (i : Nat) (h : i < l.length) (h' : i < m.length), i < z → likeR l[i] m[i]) (0) ?_ (weak_of ?_ rfl ?_) (fun z hz => ?_)
  · exact ⟨by omega, fun i _ _ h => by omega⟩
  · repeat (first | exact trivial | refine ⟨(AVle.eq (congrArg (AV.int .i64) (by simp))), ?_⟩ | refine ⟨AVle.refl _, ?_⟩ | refine ⟨AVle.tk, ?_⟩ | refine ⟨AVle.nil, ?_⟩ | refine ⟨AVle.nilFull, ?_⟩ | refine ⟨AVle.eq (congrArg (AV.int .i64) (by first | (simp; done) | (simp; omega) | (rw [wrap_i64 (by first | omega | (simp; omega))]; first | rfl | omega | (simp; done) | (simp; omega)))), ?_⟩)
  · repeat (first | exact SLe.rfl | refine SLe.tail ?_ | refine SLe.full ?_)
  obtain ⟨i1, i2⟩ := hz
  repeat (first | refine go_ ?_ | intro _)
  refine AW_iff (z < l.length) rfl (by first | (simp; done) | (simp <;> omega) | decide) (fun h => ?_) (fun h => ?_)
  · have hlt := h
    have hlt2 : z < m.length := by omega
    obtain ⟨x, hx⟩ : ∃ x, x = l[z] := ⟨_, rfl⟩
    obtain ⟨y, hy⟩ : ∃ x, x = m[z] := ⟨_, rfl⟩
    repeat (first | refine go_ ?_ | intro _)
    refine at_get (z) (encRu x) (by first | rfl | omega | (rw [wrap_i64 (by omega)]; omega)) (by rw [List.getElem?_map, List.getElem?_eq_getElem hlt, hx]; rfl) ?_
    repeat (first | refine go_ ?_ | intro _)
    refine at_get (z) (encRu y) (by first | rfl | omega | (rw [wrap_i64 (by omega)]; omega)) (by rw [List.getElem?_map, List.getElem?_eq_getElem hlt2, hy]; rfl) ?_
    repeat (first | refine go_ ?_ | intro _)
    refine Or.inl ⟨⟨_, Tryd.func47, rfl, rfl⟩, ACall.mono ?_ (hk x (hx ▸ List.getElem_mem hlt) y _)⟩
    rintro _ S1 ⟨rfl, hS1⟩
    subst S1
    repeat (first | refine go_ ?_ | intro _)
    refine AW_cond (b := !isB (likeR x y)) rfl (fun h => ?_) (fun h => ?_)
    · have hq : ¬ likeR x y := isB_not.1 (by simpa using h)
      repeat (first | refine go_ ?_ | intro _)
      refine AW_ret ?_
      repeat (first | refine ⟨0, rfl, ?_⟩ | refine ⟨1, rfl, ?_⟩ | refine ⟨2, rfl, ?_⟩ | refine ⟨3, rfl, ?_⟩ | refine ⟨4, rfl, ?_⟩ | refine ⟨5, rfl, ?_⟩ | refine ⟨6, rfl, ?_⟩)
      refine ⟨_, R, AVle.eq ?_, (by repeat (first | exact SLe.rfl | refine SLe.tail ?_)), rfl, rfl⟩
      exact congrArg AV.bool (isB_f (fun ha => hq (by rw [hx, hy]; exact ha.2 z hlt hlt2))).symm
    · have hq : likeR x y := isB_iff.1 (by simpa using h)
      repeat (first | refine go_ ?_ | intro _)
      refine ⟨z + 1, ?_, ?_, weak_of ?_ rfl ?_⟩
      · omega
      · refine ⟨by omega, fun i h h' hi => ?_⟩
        by_cases hc : i < z
        · exact i2 i h h' hc
        · obtain rfl : i = z := by omega
          rw [← hx, ← hy]; exact hq
      · repeat (first | exact trivial | refine ⟨AVle.refl _, ?_⟩ | refine ⟨AVle.tk, ?_⟩ | refine ⟨AVle.nil, ?_⟩ | refine ⟨AVle.nilFull, ?_⟩ | refine ⟨AVle.eq (congrArg (AV.int .i64) (by first | (simp; done) | (simp; omega) | (rw [wrap_i64 (by first | omega | (simp; omega))]; first | rfl | omega | (simp; done) | (simp; omega)))), ?_⟩)
      · repeat (first | exact SLe.rfl | refine SLe.tail ?_ | refine SLe.full ?_)
  · repeat (first | refine go_ ?_ | intro _)
    refine AW_ret ?_
    repeat (first | refine ⟨0, rfl, ?_⟩ | refine ⟨1, rfl, ?_⟩ | refine ⟨2, rfl, ?_⟩ | refine ⟨3, rfl, ?_⟩ | refine ⟨4, rfl, ?_⟩ | refine ⟨5, rfl, ?_⟩ | refine ⟨6, rfl, ?_⟩)
    refine ⟨_, R, AVle.eq ?_, (by repeat (first | exact SLe.rfl | refine SLe.tail ?_)), rfl, rfl⟩
    exact congrArg AV.bool (isB_t ⟨hlen, fun i h h' => i2 i h h' (by omega)⟩).symm
theorem eqD_ok (l m : List De) (hl : l.length ≤ 9223372036854775807) (hk : ∀ x ∈ l, ∀ (y : De) (R : List En), ACall Tryd.prog 45 [encD x, encD y] R (fun r S => r = .bool (isB (likeD x y)) ∧ S = R)) (R : List En) : ACall Tryd.prog 44 [.sl 6 (l.map encD) .no, .sl 6 (m.map encD) .no, .fn (.func 45) [] []] R (fun r S => r = .bool (isB (allQ likeD l m)) ∧ S = R) := by
  refine ACall_body tab_ok Tryd.func44 rfl rfl rfl (by kernel_rfl) (Nat.le_of_ble_eq_true rfl) ?_
  repeat (first | refine go_ ?_ | intro _)
  refine AW_iff (¬ l.length = m.length) rfl (by first | (simp; done) | (simp <;> omega) | decide) (fun h => ?_) (fun h => ?_)
  · repeat (first | refine go_ ?_ | intro _)
    refine AW_ret ?_
    repeat (first | refine ⟨0, rfl, ?_⟩ | refine ⟨1, rfl, ?_⟩ | refine ⟨2, rfl, ?_⟩ | refine ⟨3, rfl, ?_⟩ | refine ⟨4, rfl, ?_⟩ | refine ⟨5, rfl, ?_⟩ | refine ⟨6, rfl, ?_⟩)
    refine ⟨_, R, AVle.eq ?_, (by repeat (first | exact SLe.rfl | refine SLe.tail ?_)), rfl, rfl⟩
    exact congrArg AV.bool (isB_f (fun hq => h hq.1)).symm
  have hlen : l.length = m.length := Decidable.not_not.1 h
  repeat (first | refine go_ ?_ | intro _)
  refine AW_for (α := Nat) (fun z => ⟨[(0, .sl 6 (List.map encD l) .no), (1, .sl 6 (List.map encD m) .no), (2, .fn (.func 45) [] []), (15, .sl 6 (List.map encD l) .no), (16, .int .i64 (l.length : Nat)), (17, .int .i64 (z : Nat))], []⟩) (fun z => R) (fun z => l.length - z) (fun z => z ≤ l.length ∧ ∀ (i : Nat) (h : i < l.length) (h' : i < m.length), i < z → likeD l[i] m[i]) (0) ?_ (weak_of ?_ rfl ?_) (fun z hz => ?_)
  · exact ⟨by omega, fun i _ _ h => by omega⟩
  · repeat (first | exact trivial | refine ⟨(AVle.eq (congrArg (AV.int .i64) (by simp))), ?_⟩ | refine ⟨AVle.refl _, ?_⟩ | refine ⟨AVle.tk, ?_⟩ | refine ⟨AVle.nil, ?_⟩ | refine ⟨AVle.nilFull, ?_⟩ | refine ⟨AVle.eq (congrArg (AV.int .i64) (by first | (simp; done) | (simp; omega) | (rw [wrap_i64 (by first | omega | (simp; omega))]; first | rfl | omega | (simp; done) | (simp; omega)))), ?_⟩)
  · repeat (first | exact SLe.rfl | refine SLe.tail ?_ | refine SLe.full ?_)
  obtain ⟨i1, i2⟩ := hz
  repeat (first | refine go_ ?_ | intro _)
  refine AW_iff (z < l.length) rfl (by first | (simp; done) | (simp <;> omega) | decide) (fun h => ?_) (fun h => ?_)
  · have hlt := h
    have hlt2 : z < m.length := by omega
    obtain ⟨x, hx⟩ : ∃ x, x = l[z] := ⟨_, rfl⟩
    obtain ⟨y, hy⟩ : ∃ x, x = m[z] := ⟨_, rfl⟩
    repeat (first | refine go_ ?_ | intro _)
    refine at_get (z) (encD x) (by first | rfl | omega | (rw [wrap_i64 (by omega)]; omega)) (by rw [List.getElem?_map, List.getElem?_eq_getElem hlt, hx]; rfl) ?_
    repeat (first | refine go_ ?_ | intro _)
    refine at_get (z) (encD y) (by first | rfl | omega | (rw [wrap_i64 (by omega)]; omega)) (by rw [List.getElem?_map, List.getElem?_eq_getElem hlt2, hy]; rfl) ?_
    repeat (first | refine go_ ?_ | intro _)
    refine Or.inl ⟨⟨_, Tryd.func45, rfl, rfl⟩, ACall.mono ?_ (hk x (hx ▸ List.getElem_mem hlt) y _)⟩
    rintro _ S1 ⟨rfl, hS1⟩
    subst S1
    repeat (first | refine go_ ?_ | intro _)
    refine AW_cond (b := !isB (likeD x y)) rfl (fun h => ?_) (fun h => ?_)
    · have hq : ¬ likeD x y := isB_not.1 (by simpa using h)
      repeat (first | refine go_ ?_ | intro _)
      refine AW_ret ?_
      repeat (first | refine ⟨0, rfl, ?_⟩ | refine ⟨1, rfl, ?_⟩ | refine ⟨2, rfl, ?_⟩ | refine ⟨3, rfl, ?_⟩ | refine ⟨4, rfl, ?_⟩ | refine ⟨5, rfl, ?_⟩ | refine ⟨6, rfl, ?_⟩)
      refine ⟨_, R, AVle.eq ?_, (by repeat (first | exact SLe.rfl | refine SLe.tail ?_)), rfl, rfl⟩
      exact congrArg AV.bool (isB_f (fun ha => hq (by rw [hx, hy]; exact ha.2 z hlt hlt2))).symm
    · have hq : likeD x y := isB_iff.1 (by simpa using h)
      repeat (first | refine go_ ?_ | intro _)
      refine ⟨z + 1, ?_, ?_, weak_of ?_ rfl ?_⟩
      · omega
      · refine ⟨by omega, fun i h h' hi => ?_⟩
        by_cases hc : i < z
        · exact i2 i h h' hc
        · obtain rfl : i = z := by omega
          rw [← hx, ← hy]; exact hq
      · repeat (first | exact trivial | refine ⟨AVle.refl _, ?_⟩ | refine ⟨AVle.tk, ?_⟩ | refine ⟨AVle.nil, ?_⟩ | refine ⟨AVle.nilFull, ?_⟩ | refine ⟨AVle.eq (congrArg (AV.int .i64) (by first | (simp; done) | (simp; omega) | (rw [wrap_i64 (by first | omega | (simp; omega))]; first | rfl | omega | (simp; done) | (simp; omega)))), ?_⟩)
      · repeat (first | exact SLe.rfl | refine SLe.tail ?_ | refine SLe.full ?_)
  · repeat (first | refine go_ ?_ | intro _)
    refine AW_ret ?_
    repeat (first | refine ⟨0, rfl, ?_⟩ | refine ⟨1, rfl, ?_⟩ | refine ⟨2, rfl, ?_⟩ | refine ⟨3, rfl, ?_⟩ | refine ⟨4, rfl, ?_⟩ | refine ⟨5, rfl, ?_⟩ | refine ⟨6, rfl, ?_⟩)
    refine ⟨_, R, AVle.eq ?_, (by repeat (first | exact SLe.rfl | refine SLe.tail ?_)), rfl, rfl⟩
    exact congrArg AV.bool (isB_t ⟨hlen, fun i h h' => i2 i h h' (by omega)⟩).symm
theorem eqS_ok (l m : List (List UInt8)) (hl : l.length ≤ 9223372036854775807) (R : List En) : ACall Tryd.prog 68 [.sl 1 (l.map AV.str) .no, .sl 1 (m.map AV.str) .no] R (fun r S => r = .bool (isB (l = m)) ∧ S = R) := by
  refine ACall_body tab_ok Tryd.func68 rfl rfl rfl (by kernel_rfl) (Nat.le_of_ble_eq_true rfl) ?_
  repeat (first | refine go_ ?_ | intro _)
  refine AW_iff (¬ l.length = m.length) rfl (by first | (simp; done) | (simp <;> omega) | decide) (fun h => ?_) (fun h => ?_)
  · repeat (first | refine go_ ?_ | intro _)
    refine AW_ret ?_
    repeat (first | refine ⟨0, rfl, ?_⟩ | refine ⟨1, rfl, ?_⟩ | refine ⟨2, rfl, ?_⟩ | refine ⟨3, rfl, ?_⟩ | refine ⟨4, rfl, ?_⟩ | refine ⟨5, rfl, ?_⟩ | refine ⟨6, rfl, ?_⟩)
    refine ⟨_, R, AVle.eq ?_, (by repeat (first | exact SLe.rfl | refine SLe.tail ?_)), rfl, rfl⟩
    exact congrArg AV.bool (isB_f (fun hq => h (by rw [hq]))).symm
  have hlen : l.length = m.length := Decidable.not_not.1 h
  repeat (first | refine go_ ?_ | intro _)
  refine AW_for (α := Nat) (fun z => ⟨[(0, .sl 1 (l.map AV.str) .no), (1, .sl 1 (m.map AV.str) .no), (12, .int .i64 (l.length : Nat)), (13, .int .i64 (z : Nat))], []⟩) (fun z => R) (fun z => l.length - z) (fun z => z ≤ l.length ∧ ∀ (i : Nat) (h : i < l.length) (h' : i < m.length), i < z → l[i] = m[i]) (0) ?_ (weak_of ?_ rfl ?_) (fun z hz => ?_)
  · exact ⟨by omega, fun i _ _ h => by omega⟩
  · repeat (first | exact trivial | refine ⟨(AVle.eq (congrArg (AV.int .i64) (by simp))), ?_⟩ | refine ⟨AVle.refl _, ?_⟩ | refine ⟨AVle.tk, ?_⟩ | refine ⟨AVle.nil, ?_⟩ | refine ⟨AVle.nilFull, ?_⟩ | refine ⟨AVle.eq (congrArg (AV.int .i64) (by first | (simp; done) | (simp; omega) | (rw [wrap_i64 (by first | omega | (simp; omega))]; first | rfl | omega | (simp; done) | (simp; omega)))), ?_⟩)
  · repeat (first | exact SLe.rfl | refine SLe.tail ?_ | refine SLe.full ?_)
  obtain ⟨i1, i2⟩ := hz
  repeat (first | refine go_ ?_ | intro _)
  refine AW_iff (z < l.length) rfl (by first | (simp; done) | (simp <;> omega) | decide) (fun h => ?_) (fun h => ?_)
  · have hlt := h
    have hlt2 : z < m.length := by omega
    obtain ⟨x, hx⟩ : ∃ x, x = l[z] := ⟨_, rfl⟩
    obtain ⟨y, hy⟩ : ∃ x, x = m[z] := ⟨_, rfl⟩
    repeat (first | refine go_ ?_ | intro _)
    refine AW_draw tab_ok mixed 9 (by first | rfl | kernel_rfl) ?_
    repeat (first | refine go_ ?_ | intro _)
    refine at_get (z) (AV.str x) (by first | rfl | omega | (rw [wrap_i64 (by omega)]; omega)) (by rw [List.getElem?_map, List.getElem?_eq_getElem hlt, hx]; rfl) ?_
    repeat (first | refine go_ ?_ | intro _)
    refine at_get (z) (AV.str y) (by first | rfl | omega | (rw [wrap_i64 (by omega)]; omega)) (by rw [List.getElem?_map, List.getElem?_eq_getElem hlt2, hy]; rfl) ?_
    repeat (first | refine go_ ?_ | intro _)
    refine AW_iff (¬ x = y) rfl (by first | (simp; done) | (simp <;> omega) | decide) (fun h => ?_) (fun h => ?_)
    · have hq := h
      repeat (first | refine go_ ?_ | intro _)
      refine AW_ret ?_
      repeat (first | refine ⟨0, rfl, ?_⟩ | refine ⟨1, rfl, ?_⟩ | refine ⟨2, rfl, ?_⟩ | refine ⟨3, rfl, ?_⟩ | refine ⟨4, rfl, ?_⟩ | refine ⟨5, rfl, ?_⟩ | refine ⟨6, rfl, ?_⟩)
      refine ⟨_, R, AVle.eq ?_, (by repeat (first | exact SLe.rfl | refine SLe.tail ?_)), rfl, rfl⟩
      exact congrArg AV.bool (isB_f (fun ha => hq (by subst ha; rw [hx, hy]))).symm
    · have hq : x = y := Decidable.not_not.1 h
      repeat (first | refine go_ ?_ | intro _)
      refine ⟨z + 1, ?_, ?_, weak_of ?_ rfl ?_⟩
      · omega
      · refine ⟨by omega, fun i h h' hi => ?_⟩
        by_cases hc : i < z
        · exact i2 i h h' hc
        · obtain rfl : i = z := by omega
          rw [← hx, ← hy]; exact hq
      · repeat (first | exact trivial | refine ⟨AVle.refl _, ?_⟩ | refine ⟨AVle.tk, ?_⟩ | refine ⟨AVle.nil, ?_⟩ | refine ⟨AVle.nilFull, ?_⟩ | refine ⟨AVle.eq (congrArg (AV.int .i64) (by first | (simp; done) | (simp; omega) | (rw [wrap_i64 (by first | omega | (simp; omega))]; first | rfl | omega | (simp; done) | (simp; omega)))), ?_⟩)
      · repeat (first | exact SLe.rfl | refine SLe.tail ?_ | refine SLe.full ?_)
  · repeat (first | refine go_ ?_ | intro _)
    refine AW_ret ?_
    repeat (first | refine ⟨0, rfl, ?_⟩ | refine ⟨1, rfl, ?_⟩ | refine ⟨2, rfl, ?_⟩ | refine ⟨3, rfl, ?_⟩ | refine ⟨4, rfl, ?_⟩ | refine ⟨5, rfl, ?_⟩ | refine ⟨6, rfl, ?_⟩)
    refine ⟨_, R, AVle.eq ?_, (by repeat (first | exact SLe.rfl | refine SLe.tail ?_)), rfl, rfl⟩
    exact congrArg AV.bool (isB_t (List.ext_getElem hlen fun i h h' => i2 i h h' (by omega))).symm
theorem eqI_ok (l m : List Int) (hl : l.length ≤ 9223372036854775807) (R : List En) : ACall Tryd.prog 69 [.sl 1 (l.map encI) .no, .sl 1 (m.map encI) .no] R (fun r S => r = .bool (isB (l = m)) ∧ S = R) := by
  refine ACall_body tab_ok Tryd.func69 rfl rfl rfl (by kernel_rfl) (Nat.le_of_ble_eq_true rfl) ?_
  repeat (first | refine go_ ?_ | intro _)
  refine AW_iff (¬ l.length = m.length) rfl (by first | (simp; done) | (simp <;> omega) | decide) (fun h => ?_) (fun h => ?_)
  · repeat (first | refine go_ ?_ | intro _)
    refine AW_ret ?_
    repeat (first | refine ⟨0, rfl, ?_⟩ | refine ⟨1, rfl, ?_⟩ | refine ⟨2, rfl, ?_⟩ | refine ⟨3, rfl, ?_⟩ | refine ⟨4, rfl, ?_⟩ | refine ⟨5, rfl, ?_⟩ | refine ⟨6, rfl, ?_⟩)
    refine ⟨_, R, AVle.eq ?_, (by repeat (first | exact SLe.rfl | refine SLe.tail ?_)), rfl, rfl⟩
    exact congrArg AV.bool (isB_f (fun hq => h (by rw [hq]))).symm
  have hlen : l.length = m.length := Decidable.not_not.1 h
  repeat (first | refine go_ ?_ | intro _)
  refine AW_for (α := Nat) (fun z => ⟨[(0, .sl 1 (l.map encI) .no), (1, .sl 1 (m.map encI) .no), (12, .int .i64 (l.length : Nat)), (13, .int .i64 (z : Nat))], []⟩) (fun z => R) (fun z => l.length - z) (fun z => z ≤ l.length ∧ ∀ (i : Nat) (h : i < l.length) (h' : i < m.length), i < z → l[i] = m[i]) (0) ?_ (weak_of ?_ rfl ?_) (fun z hz => ?_)
  · exact ⟨by omega, fun i _ _ h => by omega⟩
  · repeat (first | exact trivial | refine ⟨(AVle.eq (congrArg (AV.int .i64) (by simp))), ?_⟩ | refine ⟨AVle.refl _, ?_⟩ | refine ⟨AVle.tk, ?_⟩ | refine ⟨AVle.nil, ?_⟩ | refine ⟨AVle.nilFull, ?_⟩ | refine ⟨AVle.eq (congrArg (AV.int .i64) (by first | (simp; done) | (simp; omega) | (rw [wrap_i64 (by first | omega | (simp; omega))]; first | rfl | omega | (simp; done) | (simp; omega)))), ?_⟩)
  · repeat (first | exact SLe.rfl | refine SLe.tail ?_ | refine SLe.full ?_)
  obtain ⟨i1, i2⟩ := hz
  repeat (first | refine go_ ?_ | intro _)
  refine AW_iff (z < l.length) rfl (by first | (simp; done) | (simp <;> omega) | decide) (fun h => ?_) (fun h => ?_)
  · have hlt := h
    have hlt2 : z < m.length := by omega
    obtain ⟨x, hx⟩ : ∃ x, x = l[z] := ⟨_, rfl⟩
    obtain ⟨y, hy⟩ : ∃ x, x = m[z] := ⟨_, rfl⟩
    repeat (first | refine go_ ?_ | intro _)
    refine AW_draw tab_ok mixed 9 (by first | rfl | kernel_rfl) ?_
    repeat (first | refine go_ ?_ | intro _)
    refine at_get (z) (encI x) (by first | rfl | omega | (rw [wrap_i64 (by omega)]; omega)) (by rw [List.getElem?_map, List.getElem?_eq_getElem hlt, hx]; rfl) ?_
    repeat (first | refine go_ ?_ | intro _)
    refine at_get (z) (encI y) (by first | rfl | omega | (rw [wrap_i64 (by omega)]; omega)) (by rw [List.getElem?_map, List.getElem?_eq_getElem hlt2, hy]; rfl) ?_
    repeat (first | refine go_ ?_ | intro _)
    refine AW_iff (¬ x = y) rfl (by first | (simp; done) | (simp <;> omega) | decide) (fun h => ?_) (fun h => ?_)
    · have hq := h
      repeat (first | refine go_ ?_ | intro _)
      refine AW_ret ?_
      repeat (first | refine ⟨0, rfl, ?_⟩ | refine ⟨1, rfl, ?_⟩ | refine ⟨2, rfl, ?_⟩ | refine ⟨3, rfl, ?_⟩ | refine ⟨4, rfl, ?_⟩ | refine ⟨5, rfl, ?_⟩ | refine ⟨6, rfl, ?_⟩)
      refine ⟨_, R, AVle.eq ?_, (by repeat (first | exact SLe.rfl | refine SLe.tail ?_)), rfl, rfl⟩
      exact congrArg AV.bool (isB_f (fun ha => hq (by subst ha; rw [hx, hy]))).symm
    · have hq : x = y := Decidable.not_not.1 h
      repeat (first | refine go_ ?_ | intro _)
      refine ⟨z + 1, ?_, ?_, weak_of ?_ rfl ?_⟩
      · omega
      · refine ⟨by omega, fun i h h' hi => ?_⟩
        by_cases hc : i < z
        · exact i2 i h h' hc
        · obtain rfl : i = z := by omega
          rw [← hx, ← hy]; exact hq
      · repeat (first | exact trivial | refine ⟨AVle.refl _, ?_⟩ | refine ⟨AVle.tk, ?_⟩ | refine ⟨AVle.nil, ?_⟩ | refine ⟨AVle.nilFull, ?_⟩ | refine ⟨AVle.eq (congrArg (AV.int .i64) (by first | (simp; done) | (simp; omega) | (rw [wrap_i64 (by first | omega | (simp; omega))]; first | rfl | omega | (simp; done) | (simp; omega)))), ?_⟩)
      · repeat (first | exact SLe.rfl | refine SLe.tail ?_ | refine SLe.full ?_)
  · repeat (first | refine go_ ?_ | intro _)
    refine AW_ret ?_
    repeat (first | refine ⟨0, rfl, ?_⟩ | refine ⟨1, rfl, ?_⟩ | refine ⟨2, rfl, ?_⟩ | refine ⟨3, rfl, ?_⟩ | refine ⟨4, rfl, ?_⟩ | refine ⟨5, rfl, ?_⟩ | refine ⟨6, rfl, ?_⟩)
    refine ⟨_, R, AVle.eq ?_, (by repeat (first | exact SLe.rfl | refine SLe.tail ?_)), rfl, rfl⟩
    exact congrArg AV.bool (isB_t (List.ext_getElem hlen fun i h h' => i2 i h h' (by omega))).symm
end Go.Proofs.YtljdbkieofhblaaDoor
/-
  Which programs are alike: terms, atoms, parts, rules, relations. Own work.
-/
namespace Go.Proofs.YtljdbkieofhblaaDoor
open Go.Aw Go.RowKit
set_option maxHeartbeats 4000000

theorem sameTerm_ok : ∀ (n : Nat) (t : T), cntT t ≤ n → n ≤ 3000 → ∀ (u : T) (R : List En), ACall Tryd.prog 89 [encU t, encU u] R (fun r S => r = .bool (isB (t = u)) ∧ S = R)
  | 0, t, hn, _, u, R => by have := cnt_pos t; omega
  | n + 1, t, hn, hm, u, R => by
    have hc : cntTs t.l ≤ n := by
      cases t with
      | mk a b c l => rw [cntT] at hn; exact Nat.le_of_succ_le_succ hn
    have hl := len_cnt t.l
    have kl := fun R => eqT_ok t.l u.l (by omega) (fun x hx => sameTerm_ok n x (by obtain ⟨i, hi, rfl⟩ := List.mem_iff_getElem.1 hx; have := cntTs_at hi; omega) (by omega)) R
    rw [isB_eq allQ_eq] at kl
    refine ACall_body tab_ok Tryd.func89 rfl rfl rfl (by kernel_rfl) (Nat.le_of_ble_eq_true rfl) ?_
    repeat (first | refine go_ ?_ | intro _)
    refine gsplit (t.op = u.op) (by first | (simp; done) | (simp <;> omega) | decide) (fun h => ?_) (fun h => ?_)
    · have h1 := h
      repeat (first | refine ga_ ?_ | intro _)
      refine gsplit (t.s = u.s) (by first | (simp; done) | (simp <;> omega) | decide) (fun h => ?_) (fun h => ?_)
      · have h2 := h
        repeat (first | refine ga_ ?_ | intro _)
        refine gsplit (t.n = u.n) (by first | (simp; done) | (simp <;> omega) | decide) (fun h => ?_) (fun h => ?_)
        · have h3 := h
          repeat (first | refine ga_ ?_ | intro _)
          refine Or.inl ⟨⟨_, Tryd.func88, rfl, rfl⟩, ACall.mono ?_ (kl _)⟩
          rintro _ S1 ⟨rfl, hS1⟩
          subst S1
          repeat (first | refine ga_ ?_ | intro _)
          refine AW_ret ?_
          repeat (first | refine ⟨0, rfl, ?_⟩ | refine ⟨1, rfl, ?_⟩ | refine ⟨2, rfl, ?_⟩ | refine ⟨3, rfl, ?_⟩ | refine ⟨4, rfl, ?_⟩ | refine ⟨5, rfl, ?_⟩ | refine ⟨6, rfl, ?_⟩)
          refine ⟨_, R, AVle.eq ?_, (by repeat (first | exact SLe.rfl | refine SLe.tail ?_)), rfl, rfl⟩
          exact congrArg AV.bool (isB_eq ⟨fun h => T_ext.2 ⟨h1, h2, h3, h⟩, fun h => (T_ext.1 h).2.2.2⟩)
        · have hq := h
          repeat (first | refine ga_ ?_ | intro _)
          refine AW_ret ?_
          repeat (first | refine ⟨0, rfl, ?_⟩ | refine ⟨1, rfl, ?_⟩ | refine ⟨2, rfl, ?_⟩ | refine ⟨3, rfl, ?_⟩ | refine ⟨4, rfl, ?_⟩ | refine ⟨5, rfl, ?_⟩ | refine ⟨6, rfl, ?_⟩)
          refine ⟨_, R, AVle.eq ?_, (by repeat (first | exact SLe.rfl | refine SLe.tail ?_)), rfl, rfl⟩
          exact congrArg AV.bool (isB_f (fun e => hq (T_ext.1 e).2.2.1)).symm
      · have hq := h
        repeat (first | refine ga_ ?_ | intro _)
        refine AW_ret ?_
        repeat (first | refine ⟨0, rfl, ?_⟩ | refine ⟨1, rfl, ?_⟩ | refine ⟨2, rfl, ?_⟩ | refine ⟨3, rfl, ?_⟩ | refine ⟨4, rfl, ?_⟩ | refine ⟨5, rfl, ?_⟩ | refine ⟨6, rfl, ?_⟩)
        refine ⟨_, R, AVle.eq ?_, (by repeat (first | exact SLe.rfl | refine SLe.tail ?_)), rfl, rfl⟩
        exact congrArg AV.bool (isB_f (fun e => hq (T_ext.1 e).2.1)).symm
    · have hq := h
      repeat (first | refine ga_ ?_ | intro _)
      refine AW_ret ?_
      repeat (first | refine ⟨0, rfl, ?_⟩ | refine ⟨1, rfl, ?_⟩ | refine ⟨2, rfl, ?_⟩ | refine ⟨3, rfl, ?_⟩ | refine ⟨4, rfl, ?_⟩ | refine ⟨5, rfl, ?_⟩ | refine ⟨6, rfl, ?_⟩)
      refine ⟨_, R, AVle.eq ?_, (by repeat (first | exact SLe.rfl | refine SLe.tail ?_)), rfl, rfl⟩
      exact congrArg AV.bool (isB_f (fun e => hq (T_ext.1 e).1)).symm
theorem sameAtom_ok (a b : At) (R : List En) (hc : cntTs a.l ≤ 2900) : ACall Tryd.prog 70 [encA a, encA b] R (fun r S => r = .bool (isB (a = b)) ∧ S = R) := by
  have hl := len_cnt a.l
  have kl := fun R => eqT_ok a.l b.l (by omega) (fun x hx => sameTerm_ok 3000 x (by obtain ⟨i, hi, rfl⟩ := List.mem_iff_getElem.1 hx; have := cntTs_at hi; omega) (by omega)) R
  rw [isB_eq allQ_eq] at kl
  refine ACall_body tab_ok Tryd.func70 rfl rfl rfl (by kernel_rfl) (Nat.le_of_ble_eq_true rfl) ?_
  repeat (first | refine go_ ?_ | intro _)
  refine gsplit (a.rel = b.rel) (by first | (simp; done) | (simp <;> omega) | decide) (fun h => ?_) (fun h => ?_)
  · have h1 := h
    repeat (first | refine ga_ ?_ | intro _)
    refine Or.inl ⟨⟨_, Tryd.func88, rfl, rfl⟩, ACall.mono ?_ (kl _)⟩
    rintro _ S1 ⟨rfl, hS1⟩
    subst S1
    repeat (first | refine ga_ ?_ | intro _)
    refine AW_ret ?_
    repeat (first | refine ⟨0, rfl, ?_⟩ | refine ⟨1, rfl, ?_⟩ | refine ⟨2, rfl, ?_⟩ | refine ⟨3, rfl, ?_⟩ | refine ⟨4, rfl, ?_⟩ | refine ⟨5, rfl, ?_⟩ | refine ⟨6, rfl, ?_⟩)
    refine ⟨_, R, AVle.eq ?_, (by repeat (first | exact SLe.rfl | refine SLe.tail ?_)), rfl, rfl⟩
    exact congrArg AV.bool (isB_eq ⟨fun h => At_ext.2 ⟨h1, h⟩, fun h => (At_ext.1 h).2⟩)
  · have hq := h
    repeat (first | refine ga_ ?_ | intro _)
    refine AW_ret ?_
    repeat (first | refine ⟨0, rfl, ?_⟩ | refine ⟨1, rfl, ?_⟩ | refine ⟨2, rfl, ?_⟩ | refine ⟨3, rfl, ?_⟩ | refine ⟨4, rfl, ?_⟩ | refine ⟨5, rfl, ?_⟩ | refine ⟨6, rfl, ?_⟩)
    refine ⟨_, R, AVle.eq ?_, (by repeat (first | exact SLe.rfl | refine SLe.tail ?_)), rfl, rfl⟩
    exact congrArg AV.bool (isB_f (fun e => hq (At_ext.1 e).1)).symm
theorem sameLit_ok (l m : Li) (R : List En) (hc : cntL l ≤ 2900) : ACall Tryd.prog 72 [encL l, encL m] R (fun r S => r = .bool (isB (l = m)) ∧ S = R) := by
  unfold cntL at hc
  have ka := fun R => sameAtom_ok l.a m.a R (by omega)
  have kx := fun R => sameTerm_ok 3000 l.x (by omega) (by omega) m.x R
  have ky := fun R => sameTerm_ok 3000 l.y (by omega) (by omega) m.y R
  refine ACall_body tab_ok Tryd.func72 rfl rfl rfl (by kernel_rfl) (Nat.le_of_ble_eq_true rfl) ?_
  repeat (first | refine go_ ?_ | intro _)
  refine gsplit (l.op = m.op) (by first | (simp; done) | (simp <;> omega) | decide) (fun h => ?_) (fun h => ?_)
  · have h1 := h
    repeat (first | refine ga_ ?_ | intro _)
    refine Or.inl ⟨⟨_, Tryd.func70, rfl, rfl⟩, ACall.mono ?_ (ka _)⟩
    rintro _ S1 ⟨rfl, hS1⟩
    subst S1
    repeat (first | refine ga_ ?_ | intro _)
    refine gsplit (l.a = m.a) (by first | (simp; done) | (simp <;> omega) | decide) (fun h => ?_) (fun h => ?_)
    · have h2 := h
      repeat (first | refine ga_ ?_ | intro _)
      refine Or.inl ⟨⟨_, Tryd.func89, rfl, rfl⟩, ACall.mono ?_ (kx _)⟩
      rintro _ S1 ⟨rfl, hS1⟩
      subst S1
      repeat (first | refine ga_ ?_ | intro _)
      refine gsplit (l.x = m.x) (by first | (simp; done) | (simp <;> omega) | decide) (fun h => ?_) (fun h => ?_)
      · have h3 := h
        repeat (first | refine ga_ ?_ | intro _)
        refine Or.inl ⟨⟨_, Tryd.func89, rfl, rfl⟩, ACall.mono ?_ (ky _)⟩
        rintro _ S1 ⟨rfl, hS1⟩
        subst S1
        repeat (first | refine ga_ ?_ | intro _)
        refine AW_ret ?_
        repeat (first | refine ⟨0, rfl, ?_⟩ | refine ⟨1, rfl, ?_⟩ | refine ⟨2, rfl, ?_⟩ | refine ⟨3, rfl, ?_⟩ | refine ⟨4, rfl, ?_⟩ | refine ⟨5, rfl, ?_⟩ | refine ⟨6, rfl, ?_⟩)
        refine ⟨_, R, AVle.eq ?_, (by repeat (first | exact SLe.rfl | refine SLe.tail ?_)), rfl, rfl⟩
        exact congrArg AV.bool (isB_eq ⟨fun h => Li_ext.2 ⟨h1, h2, h3, h⟩, fun h => (Li_ext.1 h).2.2.2⟩)
      · have hq := h
        repeat (first | refine ga_ ?_ | intro _)
        refine AW_ret ?_
        repeat (first | refine ⟨0, rfl, ?_⟩ | refine ⟨1, rfl, ?_⟩ | refine ⟨2, rfl, ?_⟩ | refine ⟨3, rfl, ?_⟩ | refine ⟨4, rfl, ?_⟩ | refine ⟨5, rfl, ?_⟩ | refine ⟨6, rfl, ?_⟩)
        refine ⟨_, R, AVle.eq ?_, (by repeat (first | exact SLe.rfl | refine SLe.tail ?_)), rfl, rfl⟩
        exact congrArg AV.bool (isB_f (fun e => hq (Li_ext.1 e).2.2.1)).symm
    · have hq := h
      repeat (first | refine ga_ ?_ | intro _)
      refine AW_ret ?_
      repeat (first | refine ⟨0, rfl, ?_⟩ | refine ⟨1, rfl, ?_⟩ | refine ⟨2, rfl, ?_⟩ | refine ⟨3, rfl, ?_⟩ | refine ⟨4, rfl, ?_⟩ | refine ⟨5, rfl, ?_⟩ | refine ⟨6, rfl, ?_⟩)
      refine ⟨_, R, AVle.eq ?_, (by repeat (first | exact SLe.rfl | refine SLe.tail ?_)), rfl, rfl⟩
      exact congrArg AV.bool (isB_f (fun e => hq (Li_ext.1 e).2.1)).symm
  · have hq := h
    repeat (first | refine ga_ ?_ | intro _)
    refine AW_ret ?_
    repeat (first | refine ⟨0, rfl, ?_⟩ | refine ⟨1, rfl, ?_⟩ | refine ⟨2, rfl, ?_⟩ | refine ⟨3, rfl, ?_⟩ | refine ⟨4, rfl, ?_⟩ | refine ⟨5, rfl, ?_⟩ | refine ⟨6, rfl, ?_⟩)
    refine ⟨_, R, AVle.eq ?_, (by repeat (first | exact SLe.rfl | refine SLe.tail ?_)), rfl, rfl⟩
    exact congrArg AV.bool (isB_f (fun e => hq (Li_ext.1 e).1)).symm
theorem sameRule_ok (r q : Ru) (R : List En) (hc : cntR r ≤ 2800) : ACall Tryd.prog 47 [encRu r, encRu q] R (fun v S => v = .bool (isB (likeR r q)) ∧ S = R) := by
  have hl := lens_cnt r.body
  unfold cntR at hc
  have ka := fun R => sameAtom_ok r.head q.head R (by omega)
  have kl := fun R => eqL_ok r.body q.body (by omega) (fun x hx y R => sameLit_ok x y R (by have := cntLs_at hx; omega)) R
  rw [isB_eq allQ_eq] at kl
  refine ACall_body tab_ok Tryd.func47 rfl rfl rfl (by kernel_rfl) (Nat.le_of_ble_eq_true rfl) ?_
  repeat (first | refine go_ ?_ | intro _)
  refine Or.inl ⟨⟨_, Tryd.func70, rfl, rfl⟩, ACall.mono ?_ (ka _)⟩
  rintro _ S1 ⟨rfl, hS1⟩
  subst S1
  repeat (first | refine go_ ?_ | intro _)
  refine gsplit (r.head = q.head) (by first | (simp; done) | (simp <;> omega) | decide) (fun h => ?_) (fun h => ?_)
  · have h1 := h
    repeat (first | refine ga_ ?_ | intro _)
    refine Or.inl ⟨⟨_, Tryd.func71, rfl, rfl⟩, ACall.mono ?_ (kl _)⟩
    rintro _ S1 ⟨rfl, hS1⟩
    subst S1
    repeat (first | refine ga_ ?_ | intro _)
    refine AW_ret ?_
    repeat (first | refine ⟨0, rfl, ?_⟩ | refine ⟨1, rfl, ?_⟩ | refine ⟨2, rfl, ?_⟩ | refine ⟨3, rfl, ?_⟩ | refine ⟨4, rfl, ?_⟩ | refine ⟨5, rfl, ?_⟩ | refine ⟨6, rfl, ?_⟩)
    refine ⟨_, R, AVle.eq ?_, (by repeat (first | exact SLe.rfl | refine SLe.tail ?_)), rfl, rfl⟩
    exact congrArg AV.bool (isB_eq ⟨fun h => ⟨h1, h⟩, fun h => h.2⟩)
  · have hq := h
    repeat (first | refine ga_ ?_ | intro _)
    refine AW_ret ?_
    repeat (first | refine ⟨0, rfl, ?_⟩ | refine ⟨1, rfl, ?_⟩ | refine ⟨2, rfl, ?_⟩ | refine ⟨3, rfl, ?_⟩ | refine ⟨4, rfl, ?_⟩ | refine ⟨5, rfl, ?_⟩ | refine ⟨6, rfl, ?_⟩)
    refine ⟨_, R, AVle.eq ?_, (by repeat (first | exact SLe.rfl | refine SLe.tail ?_)), rfl, rfl⟩
    exact congrArg AV.bool (isB_f (fun e => hq e.1)).symm
theorem sameDecl_ok (d e : De) (R : List En) (h1 : d.names.length ≤ 9223372036854775807) (h2 : d.types.length ≤ 9223372036854775807) : ACall Tryd.prog 45 [encD d, encD e] R (fun v S => v = .bool (isB (likeD d e)) ∧ S = R) := by
  have k1 := fun R => eqS_ok d.names e.names h1 R
  have k2 := fun R => eqI_ok d.types e.types h2 R
  refine ACall_body tab_ok Tryd.func45 rfl rfl rfl (by kernel_rfl) (Nat.le_of_ble_eq_true rfl) ?_
  repeat (first | refine go_ ?_ | intro _)
  refine gsplit (d.rel = e.rel) (by first | (simp; done) | (simp <;> omega) | decide) (fun h => ?_) (fun h => ?_)
  · have h1 := h
    repeat (first | refine ga_ ?_ | intro _)
    refine gsplit (d.inp = e.inp) (by first | (simp; done) | (simp <;> omega) | decide) (fun h => ?_) (fun h => ?_)
    · have h2 := h
      repeat (first | refine ga_ ?_ | intro _)
      refine gsplit (d.out = e.out) (by first | (simp; done) | (simp <;> omega) | decide) (fun h => ?_) (fun h => ?_)
      · have h3 := h
        repeat (first | refine ga_ ?_ | intro _)
        refine Or.inl ⟨⟨_, Tryd.func68, rfl, rfl⟩, ACall.mono ?_ (k1 _)⟩
        rintro _ S1 ⟨rfl, hS1⟩
        subst S1
        repeat (first | refine ga_ ?_ | intro _)
        refine gsplit (d.names = e.names) (by first | (simp; done) | (simp <;> omega) | decide) (fun h => ?_) (fun h => ?_)
        · have h4 := h
          repeat (first | refine ga_ ?_ | intro _)
          refine Or.inl ⟨⟨_, Tryd.func69, rfl, rfl⟩, ACall.mono ?_ (k2 _)⟩
          rintro _ S1 ⟨rfl, hS1⟩
          subst S1
          repeat (first | refine ga_ ?_ | intro _)
          refine AW_ret ?_
          repeat (first | refine ⟨0, rfl, ?_⟩ | refine ⟨1, rfl, ?_⟩ | refine ⟨2, rfl, ?_⟩ | refine ⟨3, rfl, ?_⟩ | refine ⟨4, rfl, ?_⟩ | refine ⟨5, rfl, ?_⟩ | refine ⟨6, rfl, ?_⟩)
          refine ⟨_, R, AVle.eq ?_, (by repeat (first | exact SLe.rfl | refine SLe.tail ?_)), rfl, rfl⟩
          exact congrArg AV.bool (isB_eq ⟨fun h => ⟨h1, h4, h, h2, h3⟩, fun h => h.2.2.1⟩)
        · have hq := h
          repeat (first | refine ga_ ?_ | intro _)
          refine AW_ret ?_
          repeat (first | refine ⟨0, rfl, ?_⟩ | refine ⟨1, rfl, ?_⟩ | refine ⟨2, rfl, ?_⟩ | refine ⟨3, rfl, ?_⟩ | refine ⟨4, rfl, ?_⟩ | refine ⟨5, rfl, ?_⟩ | refine ⟨6, rfl, ?_⟩)
          refine ⟨_, R, AVle.eq ?_, (by repeat (first | exact SLe.rfl | refine SLe.tail ?_)), rfl, rfl⟩
          exact congrArg AV.bool (isB_f (fun e => hq e.2.1)).symm
      · have hq := h
        repeat (first | refine ga_ ?_ | intro _)
        refine AW_ret ?_
        repeat (first | refine ⟨0, rfl, ?_⟩ | refine ⟨1, rfl, ?_⟩ | refine ⟨2, rfl, ?_⟩ | refine ⟨3, rfl, ?_⟩ | refine ⟨4, rfl, ?_⟩ | refine ⟨5, rfl, ?_⟩ | refine ⟨6, rfl, ?_⟩)
        refine ⟨_, R, AVle.eq ?_, (by repeat (first | exact SLe.rfl | refine SLe.tail ?_)), rfl, rfl⟩
        exact congrArg AV.bool (isB_f (fun e => hq e.2.2.2.2)).symm
    · have hq := h
      repeat (first | refine ga_ ?_ | intro _)
      refine AW_ret ?_
      repeat (first | refine ⟨0, rfl, ?_⟩ | refine ⟨1, rfl, ?_⟩ | refine ⟨2, rfl, ?_⟩ | refine ⟨3, rfl, ?_⟩ | refine ⟨4, rfl, ?_⟩ | refine ⟨5, rfl, ?_⟩ | refine ⟨6, rfl, ?_⟩)
      refine ⟨_, R, AVle.eq ?_, (by repeat (first | exact SLe.rfl | refine SLe.tail ?_)), rfl, rfl⟩
      exact congrArg AV.bool (isB_f (fun e => hq e.2.2.2.1)).symm
  · have hq := h
    repeat (first | refine ga_ ?_ | intro _)
    refine AW_ret ?_
    repeat (first | refine ⟨0, rfl, ?_⟩ | refine ⟨1, rfl, ?_⟩ | refine ⟨2, rfl, ?_⟩ | refine ⟨3, rfl, ?_⟩ | refine ⟨4, rfl, ?_⟩ | refine ⟨5, rfl, ?_⟩ | refine ⟨6, rfl, ?_⟩)
    refine ⟨_, R, AVle.eq ?_, (by repeat (first | exact SLe.rfl | refine SLe.tail ?_)), rfl, rfl⟩
    exact congrArg AV.bool (isB_f (fun e => hq e.1)).symm
theorem same_ok (p q : Pr) (R : List En) (hp : okP p) (hs : okS p) (h3 : p.rules.length ≤ 300) : ACall Tryd.prog 19 [encP p, encP q] R (fun v S => v = .bool (isB (likeP p q)) ∧ S = R) := by
  have k1 := fun R => eqD_ok p.decls q.decls hp.1 (fun x hx y R => sameDecl_ok x y R (hp.2 x hx).1 (hp.2 x hx).2) R
  have k2 := fun R => eqR_ok p.rules q.rules (by omega) (fun x hx y R => sameRule_ok x y R (by have := cntRs_at hx; have := hs.2.2; omega)) R
  rw [isB_eq allQ_D] at k1
  rw [isB_eq allQ_R] at k2
  refine ACall_body tab_ok Tryd.func19 rfl rfl rfl (by kernel_rfl) (Nat.le_of_ble_eq_true rfl) ?_
  repeat (first | refine go_ ?_ | intro _)
  refine Or.inl ⟨⟨_, Tryd.func44, rfl, rfl⟩, ACall.mono ?_ (k1 _)⟩
  rintro _ S1 ⟨rfl, hS1⟩
  subst S1
  repeat (first | refine go_ ?_ | intro _)
  refine gsplit (likeDs p.decls q.decls) (by first | (simp; done) | (simp <;> omega) | decide) (fun h => ?_) (fun h => ?_)
  · have h1 := h
    repeat (first | refine ga_ ?_ | intro _)
    refine Or.inl ⟨⟨_, Tryd.func46, rfl, rfl⟩, ACall.mono ?_ (k2 _)⟩
    rintro _ S1 ⟨rfl, hS1⟩
    subst S1
    repeat (first | refine ga_ ?_ | intro _)
    refine AW_ret ?_
    repeat (first | refine ⟨0, rfl, ?_⟩ | refine ⟨1, rfl, ?_⟩ | refine ⟨2, rfl, ?_⟩ | refine ⟨3, rfl, ?_⟩ | refine ⟨4, rfl, ?_⟩ | refine ⟨5, rfl, ?_⟩ | refine ⟨6, rfl, ?_⟩)
    refine ⟨_, R, AVle.eq ?_, (by repeat (first | exact SLe.rfl | refine SLe.tail ?_)), rfl, rfl⟩
    exact congrArg AV.bool (isB_eq ⟨fun h => ⟨h1, h⟩, fun h => h.2⟩)
  · have hq := h
    repeat (first | refine ga_ ?_ | intro _)
    refine AW_ret ?_
    repeat (first | refine ⟨0, rfl, ?_⟩ | refine ⟨1, rfl, ?_⟩ | refine ⟨2, rfl, ?_⟩ | refine ⟨3, rfl, ?_⟩ | refine ⟨4, rfl, ?_⟩ | refine ⟨5, rfl, ?_⟩ | refine ⟨6, rfl, ?_⟩)
    refine ⟨_, R, AVle.eq ?_, (by repeat (first | exact SLe.rfl | refine SLe.tail ?_)), rfl, rfl⟩
    exact congrArg AV.bool (isB_f (fun e => hq e.1)).symm
end Go.Proofs.YtljdbkieofhblaaDoor
/-
  Which programs are alike, by the book. Own work.
-/
namespace Go.Proofs.YtljdbkieofhblaaDoor
open Go.Aw Go.RowKit
set_option maxHeartbeats 4000000

theorem refSameTerm_ok : ∀ (n : Nat) (a : T), cntT a ≤ n → n ≤ 3000 → ∀ (b : T) (R : List En), ACall Tryd.prog 90 [encU a, encU b] R (fun r S => r = .bool (isB (a = b)) ∧ S = R)
  | 0, t, hn, _, u, R => by have := cnt_pos t; omega
  | n + 1, a, hn, hm, b, R => by
    have hc : cntTs a.l ≤ n := by
      cases a with
      | mk a b c l => rw [cntT] at hn; exact Nat.le_of_succ_le_succ hn
    have hl := len_cnt a.l
    have kl : ∀ x ∈ a.l, ∀ (y : T) (R : List En), ACall Tryd.prog 90 [encU x, encU y] R (fun r S => r = .bool (isB (x = y)) ∧ S = R) := fun x hx y R => refSameTerm_ok n x (by obtain ⟨i, hi, rfl⟩ := List.mem_iff_getElem.1 hx; have := cntTs_at hi; omega) (by omega) y R
    refine ACall_body tab_ok Tryd.func90 rfl rfl rfl (by kernel_rfl) (Nat.le_of_ble_eq_true rfl) ?_
    repeat (first | refine go_ ?_ | intro _)
    rename_i p q
    refine gsplit (¬ a.op = b.op) (by first | (simp; done) | (simp <;> omega) | decide) (fun h => ?_) (fun h => ?_)
    · have hq := h
      repeat (first | refine ga_ ?_ | intro _)
      refine AW_ret ?_
      repeat (first | refine ⟨0, rfl, ?_⟩ | refine ⟨1, rfl, ?_⟩ | refine ⟨2, rfl, ?_⟩ | refine ⟨3, rfl, ?_⟩ | refine ⟨4, rfl, ?_⟩ | refine ⟨5, rfl, ?_⟩ | refine ⟨6, rfl, ?_⟩)
      refine ⟨_, R, AVle.eq ?_, (by repeat (first | exact SLe.rfl | refine SLe.tail ?_)), rfl, rfl⟩
      exact congrArg AV.bool (isB_f (fun e => hq (T_ext.1 e).1)).symm
    have h1 : a.op = b.op := Decidable.not_not.1 h
    repeat (first | refine ga_ ?_ | intro _)
    refine gsplit (¬ a.s = b.s) (by first | (simp; done) | (simp <;> omega) | decide) (fun h => ?_) (fun h => ?_)
    · have hq := h
      repeat (first | refine ga_ ?_ | intro _)
      refine AW_ret ?_
      repeat (first | refine ⟨0, rfl, ?_⟩ | refine ⟨1, rfl, ?_⟩ | refine ⟨2, rfl, ?_⟩ | refine ⟨3, rfl, ?_⟩ | refine ⟨4, rfl, ?_⟩ | refine ⟨5, rfl, ?_⟩ | refine ⟨6, rfl, ?_⟩)
      refine ⟨_, R, AVle.eq ?_, (by repeat (first | exact SLe.rfl | refine SLe.tail ?_)), rfl, rfl⟩
      exact congrArg AV.bool (isB_f (fun e => hq (T_ext.1 e).2.1)).symm
    have h2 : a.s = b.s := Decidable.not_not.1 h
    repeat (first | refine ga_ ?_ | intro _)
    refine gsplit (¬ a.n = b.n) (by first | (simp; done) | (simp <;> omega) | decide) (fun h => ?_) (fun h => ?_)
    · have hq := h
      repeat (first | refine ga_ ?_ | intro _)
      refine AW_ret ?_
      repeat (first | refine ⟨0, rfl, ?_⟩ | refine ⟨1, rfl, ?_⟩ | refine ⟨2, rfl, ?_⟩ | refine ⟨3, rfl, ?_⟩ | refine ⟨4, rfl, ?_⟩ | refine ⟨5, rfl, ?_⟩ | refine ⟨6, rfl, ?_⟩)
      refine ⟨_, R, AVle.eq ?_, (by repeat (first | exact SLe.rfl | refine SLe.tail ?_)), rfl, rfl⟩
      exact congrArg AV.bool (isB_f (fun e => hq (T_ext.1 e).2.2.1)).symm
    have h3 : a.n = b.n := Decidable.not_not.1 h
    repeat (first | refine ga_ ?_ | intro _)
    refine AW_iff (¬ a.l.length = b.l.length) rfl (by first | (simp; done) | (simp <;> omega) | decide) (fun h => ?_) (fun h => ?_)
    · have hq := h
      repeat (first | refine ga_ ?_ | intro _)
      refine AW_ret ?_
      repeat (first | refine ⟨0, rfl, ?_⟩ | refine ⟨1, rfl, ?_⟩ | refine ⟨2, rfl, ?_⟩ | refine ⟨3, rfl, ?_⟩ | refine ⟨4, rfl, ?_⟩ | refine ⟨5, rfl, ?_⟩ | refine ⟨6, rfl, ?_⟩)
      refine ⟨_, R, AVle.eq ?_, (by repeat (first | exact SLe.rfl | refine SLe.tail ?_)), rfl, rfl⟩
      exact congrArg AV.bool (isB_f (fun e => hq (by rw [e]))).symm
    have hlen : a.l.length = b.l.length := Decidable.not_not.1 h
    repeat (first | refine go_ ?_ | intro _)
    refine AW_for (α := Nat) (fun z => ⟨[(2, .ptr p 0), (3, .ptr q 0), (5, .int .i64 (z : Nat))], []⟩) (fun z => .cells q (cT b) :: .cells p (cT a) :: R) (fun z => a.l.length - z) (fun z => z ≤ a.l.length ∧ ∀ (i : Nat) (h : i < a.l.length) (h' : i < b.l.length), i < z → a.l[i] = b.l[i]) (0) ?_ (weak_of ?_ rfl ?_) (fun z hz => ?_)
    · exact ⟨by omega, fun i _ _ h => by omega⟩
    · repeat (first | exact trivial | refine ⟨AVle.refl _, ?_⟩ | refine ⟨AVle.tk, ?_⟩ | refine ⟨AVle.nil, ?_⟩ | refine ⟨AVle.nilFull, ?_⟩ | refine ⟨AVle.eq (congrArg (AV.int .i64) (by first | (simp; done) | (simp; omega) | (rw [wrap_i64 (by first | omega | (simp; omega))]; first | rfl | omega | (simp; done) | (simp; omega)))), ?_⟩)
    · refine SW.le ?_
      repeat (first | exact SW.nil | refine SW.cons ?_ | refine SW.cells (by repeat (first | exact trivial | refine ⟨AVle.refl _, ?_⟩ | refine ⟨AVle.nilFull, ?_⟩ | refine ⟨AVle.tk, ?_⟩ | refine ⟨AVle.nil, ?_⟩)) rfl ?_ | refine SW.full ?_ | refine SW.drop ?_)
    obtain ⟨i1, i2⟩ := hz
    repeat (first | refine go_ ?_ | intro _)
    refine AW_iff (z < a.l.length) rfl (by first | (simp; done) | (simp <;> omega) | decide) (fun h => ?_) (fun h => ?_)
    · have hlt := h
      have hlt2 : z < b.l.length := by omega
      obtain ⟨x, hx⟩ : ∃ x, x = a.l[z] := ⟨_, rfl⟩
      obtain ⟨y, hy⟩ : ∃ x, x = b.l[z] := ⟨_, rfl⟩
      repeat (first | refine go_ ?_ | intro _)
      refine AW_draw tab_ok mixed 12 (by first | rfl | kernel_rfl) ?_
      repeat (first | refine go_ ?_ | intro _)
      refine at_get (z) (encU x) (by first | rfl | omega | (rw [wrap_i64 (by omega)]; omega)) (by rw [hx]; exact encTs_get hlt) ?_
      repeat (first | refine go_ ?_ | intro _)
      refine at_get (z) (encU y) (by first | rfl | omega | (rw [wrap_i64 (by omega)]; omega)) (by rw [hy]; exact encTs_get hlt2) ?_
      repeat (first | refine go_ ?_ | intro _)
      apply call_step
      · rfl
      · exact Or.inl ⟨⟨_, Tryd.func90, rfl, rfl⟩, kl x (hx ▸ List.getElem_mem hlt) y _⟩
      repeat (first | refine go_ ?_ | intro _)
      refine AW_cond (b := !isB (x = y)) rfl (fun h => ?_) (fun h => ?_)
      · have hq : ¬ x = y := isB_not.1 (by simpa using h)
        repeat (first | refine go_ ?_ | intro _)
        refine AW_ret ?_
        repeat (first | refine ⟨0, rfl, ?_⟩ | refine ⟨1, rfl, ?_⟩ | refine ⟨2, rfl, ?_⟩ | refine ⟨3, rfl, ?_⟩ | refine ⟨4, rfl, ?_⟩ | refine ⟨5, rfl, ?_⟩ | refine ⟨6, rfl, ?_⟩)
        refine ⟨_, R, AVle.eq ?_, (by repeat (first | exact SLe.rfl | refine SLe.tail ?_)), rfl, rfl⟩
        exact congrArg AV.bool (isB_f (fun ha => hq (by first | (subst ha; rw [hx, hy]; done) | (have e := ha.2; rw [hx, hy]; simp only [e])))).symm
      · have hq : x = y := isB_iff.1 (by simpa using h)
        repeat (first | refine go_ ?_ | intro _)
        refine ⟨z + 1, ?_, ?_, weak_of ?_ rfl ?_⟩
        · omega
        · refine ⟨by omega, fun i h h' hi => ?_⟩
          by_cases hc : i < z
          · exact i2 i h h' hc
          · obtain rfl : i = z := by omega
            rw [← hx, ← hy]; exact hq
        · repeat (first | exact trivial | refine ⟨AVle.refl _, ?_⟩ | refine ⟨AVle.tk, ?_⟩ | refine ⟨AVle.nil, ?_⟩ | refine ⟨AVle.nilFull, ?_⟩ | refine ⟨AVle.eq (congrArg (AV.int .i64) (by first | (simp; done) | (simp; omega) | (rw [wrap_i64 (by first | omega | (simp; omega))]; first | rfl | omega | (simp; done) | (simp; omega)))), ?_⟩)
        · refine SW.le ?_
          repeat (first | exact SW.nil | refine SW.cons ?_ | refine SW.cells (by repeat (first | exact trivial | refine ⟨AVle.refl _, ?_⟩ | refine ⟨AVle.nilFull, ?_⟩ | refine ⟨AVle.tk, ?_⟩ | refine ⟨AVle.nil, ?_⟩)) rfl ?_ | refine SW.full ?_ | refine SW.drop ?_)
    · have hal : a.l = b.l := List.ext_getElem hlen fun i h h' => i2 i h h' (by omega)
      repeat (first | refine go_ ?_ | intro _)
      refine AW_ret ?_
      repeat (first | refine ⟨0, rfl, ?_⟩ | refine ⟨1, rfl, ?_⟩ | refine ⟨2, rfl, ?_⟩ | refine ⟨3, rfl, ?_⟩ | refine ⟨4, rfl, ?_⟩ | refine ⟨5, rfl, ?_⟩ | refine ⟨6, rfl, ?_⟩)
      refine ⟨_, R, AVle.eq ?_, (by repeat (first | exact SLe.rfl | refine SLe.tail ?_)), rfl, rfl⟩
      exact congrArg AV.bool (isB_t (T_ext.2 ⟨h1, h2, h3, hal⟩)).symm
theorem refSameAtom_ok (a b : At) (R : List En) (hc : cntTs a.l ≤ 2900) : ACall Tryd.prog 73 [encA a, encA b] R (fun r S => r = .bool (isB (a = b)) ∧ S = R) := by
  have hl := len_cnt a.l
  have kl : ∀ x ∈ a.l, ∀ (y : T) (R : List En), ACall Tryd.prog 90 [encU x, encU y] R (fun r S => r = .bool (isB (x = y)) ∧ S = R) := fun x hx y R => refSameTerm_ok 3000 x (by obtain ⟨i, hi, rfl⟩ := List.mem_iff_getElem.1 hx; have := cntTs_at hi; omega) (by omega) y R
  refine ACall_body tab_ok Tryd.func73 rfl rfl rfl (by kernel_rfl) (Nat.le_of_ble_eq_true rfl) ?_
  repeat (first | refine go_ ?_ | intro _)
  rename_i p q
  refine gsplit (¬ a.rel = b.rel) (by first | (simp; done) | (simp <;> omega) | decide) (fun h => ?_) (fun h => ?_)
  · have hq := h
    repeat (first | refine ga_ ?_ | intro _)
    refine AW_ret ?_
    repeat (first | refine ⟨0, rfl, ?_⟩ | refine ⟨1, rfl, ?_⟩ | refine ⟨2, rfl, ?_⟩ | refine ⟨3, rfl, ?_⟩ | refine ⟨4, rfl, ?_⟩ | refine ⟨5, rfl, ?_⟩ | refine ⟨6, rfl, ?_⟩)
    refine ⟨_, R, AVle.eq ?_, (by repeat (first | exact SLe.rfl | refine SLe.tail ?_)), rfl, rfl⟩
    exact congrArg AV.bool (isB_f (fun e => hq (At_ext.1 e).1)).symm
  have h1 : a.rel = b.rel := Decidable.not_not.1 h
  repeat (first | refine ga_ ?_ | intro _)
  refine AW_iff (¬ a.l.length = b.l.length) rfl (by first | (simp; done) | (simp <;> omega) | decide) (fun h => ?_) (fun h => ?_)
  · have hq := h
    repeat (first | refine ga_ ?_ | intro _)
    refine AW_ret ?_
    repeat (first | refine ⟨0, rfl, ?_⟩ | refine ⟨1, rfl, ?_⟩ | refine ⟨2, rfl, ?_⟩ | refine ⟨3, rfl, ?_⟩ | refine ⟨4, rfl, ?_⟩ | refine ⟨5, rfl, ?_⟩ | refine ⟨6, rfl, ?_⟩)
    refine ⟨_, R, AVle.eq ?_, (by repeat (first | exact SLe.rfl | refine SLe.tail ?_)), rfl, rfl⟩
    exact congrArg AV.bool (isB_f (fun e => hq (by rw [e]))).symm
  have hlen : a.l.length = b.l.length := Decidable.not_not.1 h
  repeat (first | refine go_ ?_ | intro _)
  refine AW_for (α := Nat) (fun z => ⟨[(2, .ptr p 0), (3, .ptr q 0), (5, .int .i64 (z : Nat))], []⟩) (fun z => .cells q (cA b) :: .cells p (cA a) :: R) (fun z => (At.l a).length - z) (fun z => z ≤ (At.l a).length ∧ ∀ (i : Nat) (h : i < (At.l a).length) (h' : i < (At.l b).length), i < z → (At.l a)[i] = (At.l b)[i]) (0) ?_ (weak_of ?_ rfl ?_) (fun z hz => ?_)
  · exact ⟨by omega, fun i _ _ h => by omega⟩
  · repeat (first | exact trivial | refine ⟨AVle.refl _, ?_⟩ | refine ⟨AVle.tk, ?_⟩ | refine ⟨AVle.nil, ?_⟩ | refine ⟨AVle.nilFull, ?_⟩ | refine ⟨AVle.eq (congrArg (AV.int .i64) (by first | (simp; done) | (simp; omega) | (rw [wrap_i64 (by first | omega | (simp; omega))]; first | rfl | omega | (simp; done) | (simp; omega)))), ?_⟩)
  · refine SW.le ?_
    repeat (first | exact SW.nil | refine SW.cons ?_ | refine SW.cells (by repeat (first | exact trivial | refine ⟨AVle.refl _, ?_⟩ | refine ⟨AVle.nilFull, ?_⟩ | refine ⟨AVle.tk, ?_⟩ | refine ⟨AVle.nil, ?_⟩)) rfl ?_ | refine SW.full ?_ | refine SW.drop ?_)
  obtain ⟨i1, i2⟩ := hz
  repeat (first | refine go_ ?_ | intro _)
  refine AW_iff (z < (At.l a).length) rfl (by first | (simp; done) | (simp <;> omega) | decide) (fun h => ?_) (fun h => ?_)
  · have hlt := h
    have hlt2 : z < (At.l b).length := by omega
    obtain ⟨x, hx⟩ : ∃ x, x = (At.l a)[z] := ⟨_, rfl⟩
    obtain ⟨y, hy⟩ : ∃ x, x = (At.l b)[z] := ⟨_, rfl⟩
    repeat (first | refine go_ ?_ | intro _)
    refine AW_draw tab_ok mixed 12 (by first | rfl | kernel_rfl) ?_
    repeat (first | refine go_ ?_ | intro _)
    refine at_get (z) (encU x) (by first | rfl | omega | (rw [wrap_i64 (by omega)]; omega)) (by rw [hx]; exact encTs_get hlt) ?_
    repeat (first | refine go_ ?_ | intro _)
    refine at_get (z) (encU y) (by first | rfl | omega | (rw [wrap_i64 (by omega)]; omega)) (by rw [hy]; exact encTs_get hlt2) ?_
    repeat (first | refine go_ ?_ | intro _)
    apply call_step
    · rfl
    · exact Or.inl ⟨⟨_, Tryd.func90, rfl, rfl⟩, kl x (hx ▸ List.getElem_mem hlt) y _⟩
    repeat (first | refine go_ ?_ | intro _)
    refine AW_cond (b := !isB (x = y)) rfl (fun h => ?_) (fun h => ?_)
    · have hq : ¬ x = y := isB_not.1 (by simpa using h)
      repeat (first | refine go_ ?_ | intro _)
      refine AW_ret ?_
      repeat (first | refine ⟨0, rfl, ?_⟩ | refine ⟨1, rfl, ?_⟩ | refine ⟨2, rfl, ?_⟩ | refine ⟨3, rfl, ?_⟩ | refine ⟨4, rfl, ?_⟩ | refine ⟨5, rfl, ?_⟩ | refine ⟨6, rfl, ?_⟩)
      refine ⟨_, R, AVle.eq ?_, (by repeat (first | exact SLe.rfl | refine SLe.tail ?_)), rfl, rfl⟩
      exact congrArg AV.bool (isB_f (fun ha => hq (by first | (subst ha; rw [hx, hy]; done) | (have e := ha.2; rw [hx, hy]; simp only [e])))).symm
    · have hq : x = y := isB_iff.1 (by simpa using h)
      repeat (first | refine go_ ?_ | intro _)
      refine ⟨z + 1, ?_, ?_, weak_of ?_ rfl ?_⟩
      · omega
      · refine ⟨by omega, fun i h h' hi => ?_⟩
        by_cases hc : i < z
        · exact i2 i h h' hc
        · obtain rfl : i = z := by omega
          rw [← hx, ← hy]; exact hq
      · repeat (first | exact trivial | refine ⟨AVle.refl _, ?_⟩ | refine ⟨AVle.tk, ?_⟩ | refine ⟨AVle.nil, ?_⟩ | refine ⟨AVle.nilFull, ?_⟩ | refine ⟨AVle.eq (congrArg (AV.int .i64) (by first | (simp; done) | (simp; omega) | (rw [wrap_i64 (by first | omega | (simp; omega))]; first | rfl | omega | (simp; done) | (simp; omega)))), ?_⟩)
      · refine SW.le ?_
        repeat (first | exact SW.nil | refine SW.cons ?_ | refine SW.cells (by repeat (first | exact trivial | refine ⟨AVle.refl _, ?_⟩ | refine ⟨AVle.nilFull, ?_⟩ | refine ⟨AVle.tk, ?_⟩ | refine ⟨AVle.nil, ?_⟩)) rfl ?_ | refine SW.full ?_ | refine SW.drop ?_)
  · have hal : At.l a = At.l b := List.ext_getElem hlen fun i h h' => i2 i h h' (by omega)
    repeat (first | refine go_ ?_ | intro _)
    refine AW_ret ?_
    repeat (first | refine ⟨0, rfl, ?_⟩ | refine ⟨1, rfl, ?_⟩ | refine ⟨2, rfl, ?_⟩ | refine ⟨3, rfl, ?_⟩ | refine ⟨4, rfl, ?_⟩ | refine ⟨5, rfl, ?_⟩ | refine ⟨6, rfl, ?_⟩)
    refine ⟨_, R, AVle.eq ?_, (by repeat (first | exact SLe.rfl | refine SLe.tail ?_)), rfl, rfl⟩
    exact congrArg AV.bool (isB_t (At_ext.2 ⟨h1, hal⟩)).symm
theorem refSameLit_ok (l m : Li) (R : List En) (hc : cntL l ≤ 2900) : ACall Tryd.prog 74 [encL l, encL m] R (fun r S => r = .bool (isB (l = m)) ∧ S = R) := by
  unfold cntL at hc
  have ka := fun R => refSameAtom_ok l.a m.a R (by omega)
  have kx := fun R => refSameTerm_ok 3000 l.x (by omega) (by omega) m.x R
  have ky := fun R => refSameTerm_ok 3000 l.y (by omega) (by omega) m.y R
  refine ACall_body tab_ok Tryd.func74 rfl rfl rfl (by kernel_rfl) (Nat.le_of_ble_eq_true rfl) ?_
  repeat (first | refine go_ ?_ | intro _)
  refine Or.inl ⟨⟨_, Tryd.func90, rfl, rfl⟩, ACall.mono ?_ (kx _)⟩
  rintro _ S1 ⟨rfl, hS1⟩
  subst S1
  repeat (first | refine go_ ?_ | intro _)
  refine Or.inl ⟨⟨_, Tryd.func90, rfl, rfl⟩, ACall.mono ?_ (ky _)⟩
  rintro _ S1 ⟨rfl, hS1⟩
  subst S1
  repeat (first | refine go_ ?_ | intro _)
  refine Or.inl ⟨⟨_, Tryd.func73, rfl, rfl⟩, ACall.mono ?_ (ka _)⟩
  rintro _ S1 ⟨rfl, hS1⟩
  subst S1
  repeat (first | refine go_ ?_ | intro _)
  refine gsplit (l.op = m.op) (by first | (simp; done) | (simp <;> omega) | decide) (fun h => ?_) (fun h => ?_)
  · have h1 := h
    repeat (first | refine ga_ ?_ | intro _)
    refine gsplit (l.x = m.x) (by first | (simp; done) | (simp <;> omega) | decide) (fun h => ?_) (fun h => ?_)
    · have h2 := h
      repeat (first | refine ga_ ?_ | intro _)
      refine gsplit (l.y = m.y) (by first | (simp; done) | (simp <;> omega) | decide) (fun h => ?_) (fun h => ?_)
      · have h3 := h
        repeat (first | refine ga_ ?_ | intro _)
        refine AW_ret ?_
        repeat (first | refine ⟨0, rfl, ?_⟩ | refine ⟨1, rfl, ?_⟩ | refine ⟨2, rfl, ?_⟩ | refine ⟨3, rfl, ?_⟩ | refine ⟨4, rfl, ?_⟩ | refine ⟨5, rfl, ?_⟩ | refine ⟨6, rfl, ?_⟩)
        refine ⟨_, R, AVle.eq ?_, (by repeat (first | exact SLe.rfl | refine SLe.tail ?_)), rfl, rfl⟩
        exact congrArg AV.bool (isB_eq ⟨fun h => Li_ext.2 ⟨h1, h, h2, h3⟩, fun h => (Li_ext.1 h).2.1⟩)
      · have hq := h
        repeat (first | refine ga_ ?_ | intro _)
        refine AW_ret ?_
        repeat (first | refine ⟨0, rfl, ?_⟩ | refine ⟨1, rfl, ?_⟩ | refine ⟨2, rfl, ?_⟩ | refine ⟨3, rfl, ?_⟩ | refine ⟨4, rfl, ?_⟩ | refine ⟨5, rfl, ?_⟩ | refine ⟨6, rfl, ?_⟩)
        refine ⟨_, R, AVle.eq ?_, (by repeat (first | exact SLe.rfl | refine SLe.tail ?_)), rfl, rfl⟩
        exact congrArg AV.bool (isB_f (fun e => hq (Li_ext.1 e).2.2.2)).symm
    · have hq := h
      repeat (first | refine ga_ ?_ | intro _)
      refine AW_ret ?_
      repeat (first | refine ⟨0, rfl, ?_⟩ | refine ⟨1, rfl, ?_⟩ | refine ⟨2, rfl, ?_⟩ | refine ⟨3, rfl, ?_⟩ | refine ⟨4, rfl, ?_⟩ | refine ⟨5, rfl, ?_⟩ | refine ⟨6, rfl, ?_⟩)
      refine ⟨_, R, AVle.eq ?_, (by repeat (first | exact SLe.rfl | refine SLe.tail ?_)), rfl, rfl⟩
      exact congrArg AV.bool (isB_f (fun e => hq (Li_ext.1 e).2.2.1)).symm
  · have hq := h
    repeat (first | refine ga_ ?_ | intro _)
    refine AW_ret ?_
    repeat (first | refine ⟨0, rfl, ?_⟩ | refine ⟨1, rfl, ?_⟩ | refine ⟨2, rfl, ?_⟩ | refine ⟨3, rfl, ?_⟩ | refine ⟨4, rfl, ?_⟩ | refine ⟨5, rfl, ?_⟩ | refine ⟨6, rfl, ?_⟩)
    refine ⟨_, R, AVle.eq ?_, (by repeat (first | exact SLe.rfl | refine SLe.tail ?_)), rfl, rfl⟩
    exact congrArg AV.bool (isB_f (fun e => hq (Li_ext.1 e).1)).symm
theorem refSameRule_ok (a b : Ru) (R : List En) (hc : cntR a ≤ 2800) : ACall Tryd.prog 49 [encRu a, encRu b] R (fun v S => v = .bool (isB (likeR a b)) ∧ S = R) := by
  have hl := lens_cnt a.body
  unfold cntR at hc
  have ka := fun R => refSameAtom_ok a.head b.head R (by omega)
  have kl : ∀ x ∈ a.body, ∀ (y : Li) (R : List En), ACall Tryd.prog 74 [encL x, encL y] R (fun r S => r = .bool (isB (x = y)) ∧ S = R) := fun x hx y R => refSameLit_ok x y R (by have := cntLs_at hx; omega)
  refine ACall_body tab_ok Tryd.func49 rfl rfl rfl (by kernel_rfl) (Nat.le_of_ble_eq_true rfl) ?_
  repeat (first | refine go_ ?_ | intro _)
  rename_i p q
  refine Or.inl ⟨⟨_, Tryd.func73, rfl, rfl⟩, ACall.mono ?_ (ka _)⟩
  rintro _ S1 ⟨rfl, hS1⟩
  subst S1
  repeat (first | refine go_ ?_ | intro _)
  refine gsplit (¬ a.head = b.head) (by first | (simp; done) | (simp <;> omega) | decide) (fun h => ?_) (fun h => ?_)
  · have hq := h
    repeat (first | refine ga_ ?_ | intro _)
    refine AW_ret ?_
    repeat (first | refine ⟨0, rfl, ?_⟩ | refine ⟨1, rfl, ?_⟩ | refine ⟨2, rfl, ?_⟩ | refine ⟨3, rfl, ?_⟩ | refine ⟨4, rfl, ?_⟩ | refine ⟨5, rfl, ?_⟩ | refine ⟨6, rfl, ?_⟩)
    refine ⟨_, R, AVle.eq ?_, (by repeat (first | exact SLe.rfl | refine SLe.tail ?_)), rfl, rfl⟩
    exact congrArg AV.bool (isB_f (fun e => hq e.1)).symm
  have h1 : a.head = b.head := Classical.not_not.1 h
  repeat (first | refine ga_ ?_ | intro _)
  refine AW_iff (¬ a.body.length = b.body.length) rfl (by first | (simp; done) | (simp <;> omega) | decide) (fun h => ?_) (fun h => ?_)
  · have hq := h
    repeat (first | refine ga_ ?_ | intro _)
    refine AW_ret ?_
    repeat (first | refine ⟨0, rfl, ?_⟩ | refine ⟨1, rfl, ?_⟩ | refine ⟨2, rfl, ?_⟩ | refine ⟨3, rfl, ?_⟩ | refine ⟨4, rfl, ?_⟩ | refine ⟨5, rfl, ?_⟩ | refine ⟨6, rfl, ?_⟩)
    refine ⟨_, R, AVle.eq ?_, (by repeat (first | exact SLe.rfl | refine SLe.tail ?_)), rfl, rfl⟩
    exact congrArg AV.bool (isB_f (fun e => hq (by rw [e.2]))).symm
  have hlen : a.body.length = b.body.length := Decidable.not_not.1 h
  repeat (first | refine go_ ?_ | intro _)
  refine AW_for (α := Nat) (fun z => ⟨[(2, .ptr p 0), (3, .ptr q 0), (6, .int .i64 (z : Nat))], []⟩) (fun z => .cells q (cRu b) :: .cells p (cRu a) :: R) (fun z => (Ru.body a).length - z) (fun z => z ≤ (Ru.body a).length ∧ ∀ (i : Nat) (h : i < (Ru.body a).length) (h' : i < (Ru.body b).length), i < z → (Ru.body a)[i] = (Ru.body b)[i]) (0) ?_ (weak_of ?_ rfl ?_) (fun z hz => ?_)
  · exact ⟨by omega, fun i _ _ h => by omega⟩
  · repeat (first | exact trivial | refine ⟨AVle.refl _, ?_⟩ | refine ⟨AVle.tk, ?_⟩ | refine ⟨AVle.nil, ?_⟩ | refine ⟨AVle.nilFull, ?_⟩ | refine ⟨AVle.eq (congrArg (AV.int .i64) (by first | (simp; done) | (simp; omega) | (rw [wrap_i64 (by first | omega | (simp; omega))]; first | rfl | omega | (simp; done) | (simp; omega)))), ?_⟩)
  · refine SW.le ?_
    repeat (first | exact SW.nil | refine SW.cons ?_ | refine SW.cells (by repeat (first | exact trivial | refine ⟨AVle.refl _, ?_⟩ | refine ⟨AVle.nilFull, ?_⟩ | refine ⟨AVle.tk, ?_⟩ | refine ⟨AVle.nil, ?_⟩)) rfl ?_ | refine SW.full ?_ | refine SW.drop ?_)
  obtain ⟨i1, i2⟩ := hz
  repeat (first | refine go_ ?_ | intro _)
  refine AW_iff (z < (Ru.body a).length) rfl (by first | (simp; done) | (simp <;> omega) | decide) (fun h => ?_) (fun h => ?_)
  · have hlt := h
    have hlt2 : z < (Ru.body b).length := by omega
    obtain ⟨x, hx⟩ : ∃ x, x = (Ru.body a)[z] := ⟨_, rfl⟩
    obtain ⟨y, hy⟩ : ∃ x, x = (Ru.body b)[z] := ⟨_, rfl⟩
    repeat (first | refine go_ ?_ | intro _)
    refine AW_draw tab_ok mixed 12 (by first | rfl | kernel_rfl) ?_
    repeat (first | refine go_ ?_ | intro _)
    refine at_get (z) (encL x) (by first | rfl | omega | (rw [wrap_i64 (by omega)]; omega)) (by rw [List.getElem?_map, List.getElem?_eq_getElem hlt, hx]; rfl) ?_
    repeat (first | refine go_ ?_ | intro _)
    refine at_get (z) (encL y) (by first | rfl | omega | (rw [wrap_i64 (by omega)]; omega)) (by rw [List.getElem?_map, List.getElem?_eq_getElem hlt2, hy]; rfl) ?_
    repeat (first | refine go_ ?_ | intro _)
    apply call_step
    · rfl
    · exact Or.inl ⟨⟨_, Tryd.func74, rfl, rfl⟩, kl x (hx ▸ List.getElem_mem hlt) y _⟩
    repeat (first | refine go_ ?_ | intro _)
    refine AW_cond (b := !isB (x = y)) rfl (fun h => ?_) (fun h => ?_)
    · have hq : ¬ x = y := isB_not.1 (by simpa using h)
      repeat (first | refine go_ ?_ | intro _)
      refine AW_ret ?_
      repeat (first | refine ⟨0, rfl, ?_⟩ | refine ⟨1, rfl, ?_⟩ | refine ⟨2, rfl, ?_⟩ | refine ⟨3, rfl, ?_⟩ | refine ⟨4, rfl, ?_⟩ | refine ⟨5, rfl, ?_⟩ | refine ⟨6, rfl, ?_⟩)
      refine ⟨_, R, AVle.eq ?_, (by repeat (first | exact SLe.rfl | refine SLe.tail ?_)), rfl, rfl⟩
      exact congrArg AV.bool (isB_f (fun ha => hq (by first | (subst ha; rw [hx, hy]; done) | (have e := ha.2; rw [hx, hy]; simp only [e])))).symm
    · have hq : x = y := isB_iff.1 (by simpa using h)
      repeat (first | refine go_ ?_ | intro _)
      refine ⟨z + 1, ?_, ?_, weak_of ?_ rfl ?_⟩
      · omega
      · refine ⟨by omega, fun i h h' hi => ?_⟩
        by_cases hc : i < z
        · exact i2 i h h' hc
        · obtain rfl : i = z := by omega
          rw [← hx, ← hy]; exact hq
      · repeat (first | exact trivial | refine ⟨AVle.refl _, ?_⟩ | refine ⟨AVle.tk, ?_⟩ | refine ⟨AVle.nil, ?_⟩ | refine ⟨AVle.nilFull, ?_⟩ | refine ⟨AVle.eq (congrArg (AV.int .i64) (by first | (simp; done) | (simp; omega) | (rw [wrap_i64 (by first | omega | (simp; omega))]; first | rfl | omega | (simp; done) | (simp; omega)))), ?_⟩)
      · refine SW.le ?_
        repeat (first | exact SW.nil | refine SW.cons ?_ | refine SW.cells (by repeat (first | exact trivial | refine ⟨AVle.refl _, ?_⟩ | refine ⟨AVle.nilFull, ?_⟩ | refine ⟨AVle.tk, ?_⟩ | refine ⟨AVle.nil, ?_⟩)) rfl ?_ | refine SW.full ?_ | refine SW.drop ?_)
  · have hal : Ru.body a = Ru.body b := List.ext_getElem hlen fun i h h' => i2 i h h' (by omega)
    repeat (first | refine go_ ?_ | intro _)
    refine AW_ret ?_
    repeat (first | refine ⟨0, rfl, ?_⟩ | refine ⟨1, rfl, ?_⟩ | refine ⟨2, rfl, ?_⟩ | refine ⟨3, rfl, ?_⟩ | refine ⟨4, rfl, ?_⟩ | refine ⟨5, rfl, ?_⟩ | refine ⟨6, rfl, ?_⟩)
    refine ⟨_, R, AVle.eq ?_, (by repeat (first | exact SLe.rfl | refine SLe.tail ?_)), rfl, rfl⟩
    exact congrArg AV.bool (isB_t (⟨h1, hal⟩)).symm
end Go.Proofs.YtljdbkieofhblaaDoor
