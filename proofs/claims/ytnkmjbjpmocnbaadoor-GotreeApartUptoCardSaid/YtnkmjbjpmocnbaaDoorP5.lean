/-
  Which expressions may be: the program. Own work.
-/
import Derived.Test.YtnkmjbjpmocnbaaDoorP4
set_option linter.all false
namespace Go.Proofs.YtnkmjbjpmocnbaaDoor
open Go.Aw Go.RowKit
set_option maxHeartbeats 4000000

def idxB {α : Type} (q : α → Bool) (l : List α) : Int := match l.findIdx? q with
  | some n => (n : Nat)
  | none => -1
theorem idxB_some {α : Type} {q : α → Bool} {l : List α} {z : Nat} (hz : z < l.length) (h : q l[z] = true) (hn : ∀ (i : Nat) (hi : i < l.length), i < z → q l[i] = false) : idxB q l = (z : Nat) := by
  have : l.findIdx? q = some z := List.findIdx?_eq_some_iff_getElem.2 ⟨hz, h, fun j hj => by simpa using hn j (by omega) hj⟩
  rw [idxB, this]
theorem idxB_none {α : Type} {q : α → Bool} {l : List α} (hn : ∀ (i : Nat) (hi : i < l.length), q l[i] = false) : idxB q l = -1 := by
  have : l.findIdx? q = none := by
    rw [List.findIdx?_eq_none_iff]
    intro x hx
    obtain ⟨i, hi, rfl⟩ := List.mem_iff_getElem.1 hx
    simpa using hn i hi
  rw [idxB, this]
theorem idxB_any {α : Type} (q : α → Bool) (l : List α) : decide (0 ≤ idxB q l) = l.any q := by
  unfold idxB
  cases h : l.findIdx? q with
  | none =>
    have := List.findIdx?_eq_none_iff.1 h
    have e : l.any q = false := by rw [List.any_eq_false]; intro x hx; have := this x hx; simp [this]
    rw [e]; rfl
  | some n =>
    obtain ⟨h1, h2, _⟩ := List.findIdx?_eq_some_iff_getElem.1 h
    have e : l.any q = true := List.any_eq_true.2 ⟨_, List.getElem_mem h1, h2⟩
    rw [e]
    exact decide_eq_true (Int.natCast_nonneg n)

def rightG : T → Nat → Bool
  | _, 0 => false
  | t, h + 1 => bareG t && ((decide (countI t.op < 0) || decide ((t.l.length : Int) = countI t.op)) && (decide (t.l.length ≤ 200) && t.l.all fun x => rightG x h))
theorem indexG_ok (m : Nat) (l : List T) (q : Nat) (R : List En) (hE : spE ∈ R) (hll : l.length ≤ 200) (hm : m ≤ 1000)
    (ih : ∀ (t : T) (R : List En), spE ∈ R → ACall Tryd.prog 29 [encU t, .int .i64 (m : Nat)] R (fun v S => v = .bool (rightG t m) ∧ S = R)) :
    ACall Tryd.prog 91 [.sl 4 (encTs l) .no, .fn (.func 64) [] [.ptr q 0]] (.cells q [.int .i64 ((m + 1 : Nat) : Int)] :: R)
      (fun v S => v = .int .i64 (idxB (fun x => !rightG x m) l) ∧ S = .cells q [.int .i64 ((m + 1 : Nat) : Int)] :: R) := by
  have kx : ∀ (x : T), ACall Tryd.prog 64 [encU x, .ptr q 0] (.cells q [.int .i64 ((m + 1 : Nat) : Int)] :: R) (fun v S => v = .bool (!rightG x m) ∧ S = .cells q [.int .i64 ((m + 1 : Nat) : Int)] :: R) := by
    intro x
    have e : IntKind.i64.wrap (((m + 1 : Nat) : Int) - 1) = (m : Nat) := by rw [wrap_i64 (by omega)]; omega
    have k := fun R h => ih x R h
    rw [← e] at k
    refine ACall_body tab_ok Tryd.func64 rfl rfl rfl (by kernel_rfl) (Nat.le_of_ble_eq_true rfl) ?_
    repeat (first | refine go_ ?_ | intro _)
    refine Or.inl ⟨⟨_, Tryd.func29, rfl, rfl⟩, ACall.mono ?_ (k _ (List.Mem.tail _ (List.Mem.tail _ hE)))⟩
    rintro _ S1 ⟨rfl, hS1⟩
    subst S1
    repeat (first | refine go_ ?_ | intro _)
    refine AW_ret ?_
    repeat (first | refine ⟨0, rfl, ?_⟩ | refine ⟨1, rfl, ?_⟩ | refine ⟨2, rfl, ?_⟩ | refine ⟨3, rfl, ?_⟩ | refine ⟨4, rfl, ?_⟩ | refine ⟨5, rfl, ?_⟩ | refine ⟨6, rfl, ?_⟩)
    refine ⟨_, .cells q [.int .i64 ((m + 1 : Nat) : Int)] :: R, AVle.eq ?_, (by repeat (first | exact SLe.rfl | refine SLe.tail ?_)), rfl, rfl⟩
    rfl
  refine ACall_body tab_ok Tryd.func91 rfl rfl rfl (by kernel_rfl) (Nat.le_of_ble_eq_true rfl) ?_
  repeat (first | refine go_ ?_ | intro _)
  refine AW_for (α := Nat) (fun z => ⟨[(0, .sl 4 (encTs l) .no), (1, .fn (.func 64) [] [.ptr q 0]), (7, .int .i64 (l.length : Nat)), (8, .int .i64 (z : Nat))], []⟩) (fun z => .cells q [.int .i64 ((m + 1 : Nat) : Int)] :: R) (fun z => l.length - z) (fun z => z ≤ l.length ∧ ∀ (i : Nat) (hi : i < l.length), i < z → (!rightG l[i] m) = false) (0) ?_ (weak_of ?_ rfl ?_) (fun z hz => ?_)
  · exact ⟨by omega, fun i _ h => by omega⟩
  · repeat (first | exact trivial | refine ⟨(AVle.eq (congrArg (AV.int .i64) (by simp))), ?_⟩ | refine ⟨AVle.refl _, ?_⟩ | refine ⟨AVle.tk, ?_⟩ | refine ⟨AVle.nil, ?_⟩ | refine ⟨AVle.nilFull, ?_⟩ | refine ⟨AVle.eq (congrArg (AV.int .i64) (by first | (simp; done) | (simp; omega) | (rw [wrap_i64 (by first | omega | (simp; omega))]; first | rfl | omega | (simp; done) | (simp; omega)))), ?_⟩)
  · repeat (first | exact SLe.rfl | refine SLe.tail ?_ | refine SLe.full ?_)
  obtain ⟨i1, i2⟩ := hz
  repeat (first | refine go_ ?_ | intro _)
  refine AW_iff (z < l.length) rfl (by first | (simp; done) | (simp <;> omega) | decide) (fun h => ?_) (fun h => ?_)
  · have hlt := h
    obtain ⟨x, hx⟩ : ∃ x, x = l[z] := ⟨_, rfl⟩
    repeat (first | refine go_ ?_ | intro _)
    refine at_get (z) (encU x) (by first | rfl | omega | (rw [wrap_i64 (by omega)]; omega)) (by rw [hx]; exact encTs_get hlt) ?_
    repeat (first | refine go_ ?_ | intro _)
    refine Or.inl ⟨⟨_, Tryd.func64, rfl, rfl⟩, ACall.mono ?_ (kx x)⟩
    rintro _ S1 ⟨rfl, hS1⟩
    subst S1
    refine AW_cond (b := !rightG x m) rfl (fun h => ?_) (fun h => ?_)
    · repeat (first | refine go_ ?_ | intro _)
      refine AW_ret ?_
      repeat (first | refine ⟨0, rfl, ?_⟩ | refine ⟨1, rfl, ?_⟩ | refine ⟨2, rfl, ?_⟩ | refine ⟨3, rfl, ?_⟩ | refine ⟨4, rfl, ?_⟩ | refine ⟨5, rfl, ?_⟩ | refine ⟨6, rfl, ?_⟩)
      refine ⟨_, .cells q [.int .i64 ((m + 1 : Nat) : Int)] :: R, AVle.eq ?_, (by repeat (first | exact SLe.rfl | refine SLe.tail ?_)), rfl, rfl⟩
      exact congrArg (AV.int .i64) (idxB_some (q := fun x => !rightG x m) hlt (by rw [← hx]; exact h) i2).symm
    · have hq := h
      repeat (first | refine go_ ?_ | intro _)
      refine ⟨z + 1, ?_, ?_, weak_of ?_ rfl ?_⟩
      · omega
      · refine ⟨by omega, fun i hi hiz => ?_⟩
        by_cases hc : i < z
        · exact i2 i hi hc
        · obtain rfl : i = z := by omega
          rw [← hx]; exact hq
      · repeat (first | exact trivial | refine ⟨AVle.refl _, ?_⟩ | refine ⟨AVle.tk, ?_⟩ | refine ⟨AVle.nil, ?_⟩ | refine ⟨AVle.nilFull, ?_⟩ | refine ⟨AVle.eq (congrArg (AV.int .i64) (by first | (simp; done) | (simp; omega) | (rw [wrap_i64 (by first | omega | (simp; omega))]; first | rfl | omega | (simp; done) | (simp; omega)))), ?_⟩)
      · repeat (first | exact SLe.rfl | refine SLe.tail ?_ | refine SLe.full ?_)
  · repeat (first | refine go_ ?_ | intro _)
    refine AW_ret ?_
    repeat (first | refine ⟨0, rfl, ?_⟩ | refine ⟨1, rfl, ?_⟩ | refine ⟨2, rfl, ?_⟩ | refine ⟨3, rfl, ?_⟩ | refine ⟨4, rfl, ?_⟩ | refine ⟨5, rfl, ?_⟩ | refine ⟨6, rfl, ?_⟩)
    refine ⟨_, .cells q [.int .i64 ((m + 1 : Nat) : Int)] :: R, AVle.eq ?_, (by repeat (first | exact SLe.rfl | refine SLe.tail ?_)), rfl, rfl⟩
    exact congrArg (AV.int .i64) (idxB_none (q := fun x => !rightG x m) (fun i hi => i2 i hi (by omega))).symm
theorem containsG_ok (m : Nat) (l : List T) (q : Nat) (R : List En) (hE : spE ∈ R) (hll : l.length ≤ 200) (hm : m ≤ 1000)
    (ih : ∀ (t : T) (R : List En), spE ∈ R → ACall Tryd.prog 29 [encU t, .int .i64 (m : Nat)] R (fun v S => v = .bool (rightG t m) ∧ S = R)) :
    ACall Tryd.prog 63 [.sl 4 (encTs l) .no, .fn (.func 64) [] [.ptr q 0]] (.cells q [.int .i64 ((m + 1 : Nat) : Int)] :: R)
      (fun v S => v = .bool (!l.all fun x => rightG x m) ∧ S = .cells q [.int .i64 ((m + 1 : Nat) : Int)] :: R) := by
  refine ACall_body tab_ok Tryd.func63 rfl rfl rfl (by kernel_rfl) (Nat.le_of_ble_eq_true rfl) ?_
  repeat (first | refine go_ ?_ | intro _)
  refine Or.inl ⟨⟨_, Tryd.func91, rfl, rfl⟩, ACall.mono ?_ (indexG_ok m l q R hE hll hm ih)⟩
  rintro _ S1 ⟨rfl, hS1⟩
  subst S1
  repeat (first | refine go_ ?_ | intro _)
  refine AW_ret ?_
  repeat (first | refine ⟨0, rfl, ?_⟩ | refine ⟨1, rfl, ?_⟩ | refine ⟨2, rfl, ?_⟩ | refine ⟨3, rfl, ?_⟩ | refine ⟨4, rfl, ?_⟩ | refine ⟨5, rfl, ?_⟩ | refine ⟨6, rfl, ?_⟩)
  refine ⟨_, .cells q [.int .i64 ((m + 1 : Nat) : Int)] :: R, AVle.eq ?_, (by repeat (first | exact SLe.rfl | refine SLe.tail ?_)), rfl, rfl⟩
  exact congrArg AV.bool ((idxB_any _ l).trans (by rw [List.not_all_eq_any_not]))
theorem isExpr_ok : ∀ (h : Nat) (t : T) (R : List En), spE ∈ R → h ≤ 1000 → ACall Tryd.prog 29 [encU t, .int .i64 (h : Nat)] R (fun v S => v = .bool (rightG t h) ∧ S = R)
  | 0, t, R, hE, _ => by
    refine ACall_body tab_ok Tryd.func29 rfl rfl rfl (by kernel_rfl) (Nat.le_of_ble_eq_true rfl) ?_
    repeat (first | refine go_ ?_ | intro _)
    refine Or.inl ⟨⟨_, Tryd.func61, rfl, rfl⟩, ACall.mono ?_ (count_ok t.op _)⟩
    rintro _ S1 ⟨rfl, hS1⟩
    subst S1
    repeat (first | refine ga_ ?_ | intro _)
    refine AW_ret ?_
    repeat (first | refine ⟨0, rfl, ?_⟩ | refine ⟨1, rfl, ?_⟩ | refine ⟨2, rfl, ?_⟩ | refine ⟨3, rfl, ?_⟩ | refine ⟨4, rfl, ?_⟩ | refine ⟨5, rfl, ?_⟩ | refine ⟨6, rfl, ?_⟩)
    refine ⟨_, R, AVle.eq ?_, (by repeat (first | exact SLe.rfl | refine SLe.tail ?_)), rfl, rfl⟩
    rfl
  | m + 1, t, R, hE, hm => by
    refine ACall_body tab_ok Tryd.func29 rfl rfl rfl (by kernel_rfl) (Nat.le_of_ble_eq_true rfl) ?_
    repeat (first | refine go_ ?_ | intro _)
    rename_i p q
    refine Or.inl ⟨⟨_, Tryd.func61, rfl, rfl⟩, ACall.mono ?_ (count_ok t.op _)⟩
    rintro _ S1 ⟨rfl, hS1⟩
    subst S1
    repeat (first | refine ga_ ?_ | intro _)
    refine Or.inl ⟨⟨_, Tryd.func62, rfl, rfl⟩, ACall.mono ?_ (isBare_ok t _ (List.Mem.tail _ (List.Mem.tail _ hE)))⟩
    rintro _ S1 ⟨rfl, hS1⟩
    subst S1
    repeat (first | refine ga_ ?_ | intro _)
    refine gsplit (bareG t = false) (by first | (simp; done) | (simp <;> omega) | decide) (fun h => ?_) (fun h => ?_)
    · repeat (first | refine ga_ ?_ | intro _)
      refine AW_ret ?_
      repeat (first | refine ⟨0, rfl, ?_⟩ | refine ⟨1, rfl, ?_⟩ | refine ⟨2, rfl, ?_⟩ | refine ⟨3, rfl, ?_⟩ | refine ⟨4, rfl, ?_⟩ | refine ⟨5, rfl, ?_⟩ | refine ⟨6, rfl, ?_⟩)
      refine ⟨_, R, AVle.eq ?_, (by repeat (first | exact SLe.rfl | refine SLe.tail ?_)), rfl, rfl⟩
      exact congrArg AV.bool (by simp [rightG, h])
    have h1 : bareG t = true := by simpa using h
    repeat (first | refine ga_ ?_ | intro _)
    refine gsplit (0 ≤ countI t.op) (by first | (simp; done) | (simp <;> omega) | decide) (fun h => ?_) (fun h => ?_)
    · have h2 := h
      repeat (first | refine ga_ ?_ | intro _)
      refine gsplit (¬ (t.l.length : Int) = countI t.op) (by first | (simp; done) | (simp <;> omega) | decide) (fun h => ?_) (fun h => ?_)
      · repeat (first | refine ga_ ?_ | intro _)
        refine AW_ret ?_
        repeat (first | refine ⟨0, rfl, ?_⟩ | refine ⟨1, rfl, ?_⟩ | refine ⟨2, rfl, ?_⟩ | refine ⟨3, rfl, ?_⟩ | refine ⟨4, rfl, ?_⟩ | refine ⟨5, rfl, ?_⟩ | refine ⟨6, rfl, ?_⟩)
        refine ⟨_, R, AVle.eq ?_, (by repeat (first | exact SLe.rfl | refine SLe.tail ?_)), rfl, rfl⟩
        exact congrArg AV.bool (by rw [rightG, h1, decide_eq_false (by omega), decide_eq_false h]; rfl)
      · have h3 : (t.l.length : Int) = countI t.op := Decidable.not_not.1 h
        have e : rightG t (m + 1) = (decide (t.l.length ≤ 200) && t.l.all fun x => rightG x m) := by rw [rightG, h1, decide_eq_true h3]; simp
        repeat (first | refine ga_ ?_ | intro _)
        refine AW_iff (200 < t.l.length) rfl (by first | (simp; done) | (simp <;> omega) | decide) (fun h => ?_) (fun h => ?_)
        · have h4 := h
          repeat (first | refine ga_ ?_ | intro _)
          refine AW_ret ?_
          repeat (first | refine ⟨0, rfl, ?_⟩ | refine ⟨1, rfl, ?_⟩ | refine ⟨2, rfl, ?_⟩ | refine ⟨3, rfl, ?_⟩ | refine ⟨4, rfl, ?_⟩ | refine ⟨5, rfl, ?_⟩ | refine ⟨6, rfl, ?_⟩)
          refine ⟨_, R, AVle.eq ?_, (by repeat (first | exact SLe.rfl | refine SLe.tail ?_)), rfl, rfl⟩
          exact congrArg AV.bool (by rw [e, decide_eq_false (by omega)]; rfl)
        · have h4 : t.l.length ≤ 200 := by omega
          repeat (first | refine ga_ ?_ | intro _)
          refine Or.inl ⟨⟨_, Tryd.func63, rfl, rfl⟩, ACall.mono ?_ (containsG_ok m t.l q (.cells p (cT t) :: R) (List.Mem.tail _ hE) h4 (by omega) (fun t R h => isExpr_ok m t R h (by omega)))⟩
          rintro _ S1 ⟨rfl, hS1⟩
          subst S1
          repeat (first | refine ga_ ?_ | intro _)
          refine AW_ret ?_
          repeat (first | refine ⟨0, rfl, ?_⟩ | refine ⟨1, rfl, ?_⟩ | refine ⟨2, rfl, ?_⟩ | refine ⟨3, rfl, ?_⟩ | refine ⟨4, rfl, ?_⟩ | refine ⟨5, rfl, ?_⟩ | refine ⟨6, rfl, ?_⟩)
          refine ⟨_, R, AVle.eq ?_, (by repeat (first | exact SLe.rfl | refine SLe.tail ?_)), rfl, rfl⟩
          exact congrArg AV.bool (by rw [e, decide_eq_true h4]; simp)
    · have h2 := h
      have e : rightG t (m + 1) = (decide (t.l.length ≤ 200) && t.l.all fun x => rightG x m) := by rw [rightG, h1, decide_eq_true (show countI t.op < 0 by omega)]; simp
      repeat (first | refine ga_ ?_ | intro _)
      refine AW_iff (200 < t.l.length) rfl (by first | (simp; done) | (simp <;> omega) | decide) (fun h => ?_) (fun h => ?_)
      · have h4 := h
        repeat (first | refine ga_ ?_ | intro _)
        refine AW_ret ?_
        repeat (first | refine ⟨0, rfl, ?_⟩ | refine ⟨1, rfl, ?_⟩ | refine ⟨2, rfl, ?_⟩ | refine ⟨3, rfl, ?_⟩ | refine ⟨4, rfl, ?_⟩ | refine ⟨5, rfl, ?_⟩ | refine ⟨6, rfl, ?_⟩)
        refine ⟨_, R, AVle.eq ?_, (by repeat (first | exact SLe.rfl | refine SLe.tail ?_)), rfl, rfl⟩
        exact congrArg AV.bool (by rw [e, decide_eq_false (by omega)]; rfl)
      · have h4 : t.l.length ≤ 200 := by omega
        repeat (first | refine ga_ ?_ | intro _)
        refine Or.inl ⟨⟨_, Tryd.func63, rfl, rfl⟩, ACall.mono ?_ (containsG_ok m t.l q (.cells p (cT t) :: R) (List.Mem.tail _ hE) h4 (by omega) (fun t R h => isExpr_ok m t R h (by omega)))⟩
        rintro _ S1 ⟨rfl, hS1⟩
        subst S1
        repeat (first | refine ga_ ?_ | intro _)
        refine AW_ret ?_
        repeat (first | refine ⟨0, rfl, ?_⟩ | refine ⟨1, rfl, ?_⟩ | refine ⟨2, rfl, ?_⟩ | refine ⟨3, rfl, ?_⟩ | refine ⟨4, rfl, ?_⟩ | refine ⟨5, rfl, ?_⟩ | refine ⟨6, rfl, ?_⟩)
        refine ⟨_, R, AVle.eq ?_, (by repeat (first | exact SLe.rfl | refine SLe.tail ?_)), rfl, rfl⟩
        exact congrArg AV.bool (by rw [e, decide_eq_true h4]; simp)
theorem rightExpr_ok (t : T) (R : List En) (hE : spE ∈ R) : ACall Tryd.prog 14 [encU t] R (fun v S => v = .bool (rightG t 60) ∧ S = R) := by
  refine ACall_body tab_ok Tryd.func14 rfl rfl rfl (by kernel_rfl) (Nat.le_of_ble_eq_true rfl) ?_
  repeat (first | refine go_ ?_ | intro _)
  refine Or.inl ⟨⟨_, Tryd.func29, rfl, rfl⟩, ACall.mono ?_ (isExpr_ok 60 t _ (List.Mem.tail _ hE) (by omega))⟩
  rintro _ S1 ⟨rfl, hS1⟩
  subst S1
  repeat (first | refine go_ ?_ | intro _)
  refine AW_ret ?_
  repeat (first | refine ⟨0, rfl, ?_⟩ | refine ⟨1, rfl, ?_⟩ | refine ⟨2, rfl, ?_⟩ | refine ⟨3, rfl, ?_⟩ | refine ⟨4, rfl, ?_⟩ | refine ⟨5, rfl, ?_⟩ | refine ⟨6, rfl, ?_⟩)
  refine ⟨_, R, AVle.eq ?_, (by repeat (first | exact SLe.rfl | refine SLe.tail ?_)), rfl, rfl⟩
  rfl
end Go.Proofs.YtnkmjbjpmocnbaaDoor
/-
  Which expressions may be: the book. Own work.
-/
namespace Go.Proofs.YtnkmjbjpmocnbaaDoor
open Go.Aw Go.RowKit

theorem parts_iff (op : Int) (n : Nat) : ((partsN op).1 ≤ n ∧ n ≤ (partsN op).2) ↔ ((countI op < 0 ∨ (n : Int) = countI op) ∧ n ≤ 200) := by
  unfold countI partsN
  by_cases h1 : op = 6 ∨ op = 10 ∨ op = 15 ∨ op = 16
  · rw [if_pos h1, if_neg (by omega)]; simp only []; omega
  rw [if_neg h1]
  by_cases h2 : op = 7 ∨ op = 8 ∨ op = 12 ∨ op = 14
  · rw [if_pos h2, if_neg (by omega)]; simp only []; omega
  rw [if_neg h2]
  by_cases h3 : op = 11
  · rw [if_pos h3, if_neg (by omega)]; simp only []; omega
  rw [if_neg h3]
  by_cases h4 : op = 9 ∨ op = 13
  · rw [if_pos h4, if_pos h4]; simp only []; omega
  rw [if_neg h4, if_neg h4]; simp only []; omega
theorem bareG_out {t : T} (h : t.op < 1 ∨ 16 < t.op) : bareG t = false := by
  have hn : ¬ isNm t.op = true := by simp [isNm]; omega
  unfold bareG
  rw [if_neg hn, if_neg (by omega), if_neg (by omega), if_neg (by omega)]
  rcases h with h | h
  · rw [decide_eq_false (show ¬ 0 < t.op by omega)]; simp
  · rw [decide_eq_false (show ¬ t.op ≤ 16 by omega)]; simp
theorem rightG_eq (t : T) (h : Nat) : rightG t (h + 1) = (bareG t && (decide ((partsN t.op).1 ≤ t.l.length) && (decide (t.l.length ≤ (partsN t.op).2) && t.l.all fun x => rightG x h))) := by
  have hp := parts_iff t.op t.l.length
  rw [rightG, ← Bool.and_assoc (decide _ || decide _), ← Bool.and_assoc (decide ((partsN t.op).1 ≤ _))]
  congr 2
  rw [Bool.eq_iff_iff]
  simp only [Bool.and_eq_true, Bool.or_eq_true, decide_eq_true_eq]
  exact hp.symm
end Go.Proofs.YtnkmjbjpmocnbaaDoor
/-
  Which expressions may be: the book's walk. Own work.
-/
namespace Go.Proofs.YtnkmjbjpmocnbaaDoor
open Go.Aw Go.RowKit
set_option maxHeartbeats 4000000

theorem refRight_ok : ∀ (h : Nat) (t : T) (R : List En), h ≤ 1000 → ACall Tryd.prog 30 [encU t, .int .i64 (h : Nat)] R (fun v S => v = .bool (rightG t h) ∧ S = R)
  | 0, t, R, _ => by
    refine ACall_body tab_ok Tryd.func30 rfl rfl rfl (by kernel_rfl) (Nat.le_of_ble_eq_true rfl) ?_
    repeat (first | refine go_ ?_ | intro _)
    refine Or.inl ⟨⟨_, Tryd.func65, rfl, rfl⟩, ACall.mono ?_ (parts_ok t.op _)⟩
    rintro _ S1 ⟨rfl, hS1⟩
    subst S1
    repeat (first | refine ga_ ?_ | intro _)
    refine AW_ret ?_
    repeat (first | refine ⟨0, rfl, ?_⟩ | refine ⟨1, rfl, ?_⟩ | refine ⟨2, rfl, ?_⟩ | refine ⟨3, rfl, ?_⟩ | refine ⟨4, rfl, ?_⟩ | refine ⟨5, rfl, ?_⟩ | refine ⟨6, rfl, ?_⟩)
    refine ⟨_, R, AVle.eq ?_, (by repeat (first | exact SLe.rfl | refine SLe.tail ?_)), rfl, rfl⟩
    rfl
  | m + 1, t, R, hm => by
    have e := rightG_eq t m
    refine ACall_body tab_ok Tryd.func30 rfl rfl rfl (by kernel_rfl) (Nat.le_of_ble_eq_true rfl) ?_
    repeat (first | refine go_ ?_ | intro _)
    rename_i p
    refine Or.inl ⟨⟨_, Tryd.func65, rfl, rfl⟩, ACall.mono ?_ (parts_ok t.op _)⟩
    rintro _ S1 ⟨rfl, hS1⟩
    subst S1
    repeat (first | refine ga_ ?_ | intro _)
    refine gsplit (t.op < 1) (by first | (simp; done) | (simp <;> omega) | decide) (fun h => ?_) (fun h => ?_)
    · repeat (first | refine ga_ ?_ | intro _)
      refine AW_ret ?_
      repeat (first | refine ⟨0, rfl, ?_⟩ | refine ⟨1, rfl, ?_⟩ | refine ⟨2, rfl, ?_⟩ | refine ⟨3, rfl, ?_⟩ | refine ⟨4, rfl, ?_⟩ | refine ⟨5, rfl, ?_⟩ | refine ⟨6, rfl, ?_⟩)
      refine ⟨_, R, AVle.eq ?_, (by repeat (first | exact SLe.rfl | refine SLe.tail ?_)), rfl, rfl⟩
      exact congrArg AV.bool (by rw [e, bareG_out (.inl h)]; rfl)
    have h1 := h
    repeat (first | refine ga_ ?_ | intro _)
    refine gsplit (16 < t.op) (by first | (simp; done) | (simp <;> omega) | decide) (fun h => ?_) (fun h => ?_)
    · repeat (first | refine ga_ ?_ | intro _)
      refine AW_ret ?_
      repeat (first | refine ⟨0, rfl, ?_⟩ | refine ⟨1, rfl, ?_⟩ | refine ⟨2, rfl, ?_⟩ | refine ⟨3, rfl, ?_⟩ | refine ⟨4, rfl, ?_⟩ | refine ⟨5, rfl, ?_⟩ | refine ⟨6, rfl, ?_⟩)
      refine ⟨_, R, AVle.eq ?_, (by repeat (first | exact SLe.rfl | refine SLe.tail ?_)), rfl, rfl⟩
      exact congrArg AV.bool (by rw [e, bareG_out (.inr h)]; rfl)
    have h2 := h
    repeat (first | refine ga_ ?_ | intro _)
    refine gsplit (t.l.length < (partsN t.op).1) (by first | (simp; done) | (simp <;> omega) | decide) (fun h => ?_) (fun h => ?_)
    · repeat (first | refine ga_ ?_ | intro _)
      refine AW_ret ?_
      repeat (first | refine ⟨0, rfl, ?_⟩ | refine ⟨1, rfl, ?_⟩ | refine ⟨2, rfl, ?_⟩ | refine ⟨3, rfl, ?_⟩ | refine ⟨4, rfl, ?_⟩ | refine ⟨5, rfl, ?_⟩ | refine ⟨6, rfl, ?_⟩)
      refine ⟨_, R, AVle.eq ?_, (by repeat (first | exact SLe.rfl | refine SLe.tail ?_)), rfl, rfl⟩
      exact congrArg AV.bool (by rw [e, decide_eq_false (show ¬ (partsN t.op).1 ≤ t.l.length by omega)]; simp)
    have h3 := h
    repeat (first | refine ga_ ?_ | intro _)
    refine AW_iff ((partsN t.op).2 < t.l.length) rfl (by first | (simp; done) | (simp <;> omega) | decide) (fun h => ?_) (fun h => ?_)
    · repeat (first | refine ga_ ?_ | intro _)
      refine AW_ret ?_
      repeat (first | refine ⟨0, rfl, ?_⟩ | refine ⟨1, rfl, ?_⟩ | refine ⟨2, rfl, ?_⟩ | refine ⟨3, rfl, ?_⟩ | refine ⟨4, rfl, ?_⟩ | refine ⟨5, rfl, ?_⟩ | refine ⟨6, rfl, ?_⟩)
      refine ⟨_, R, AVle.eq ?_, (by repeat (first | exact SLe.rfl | refine SLe.tail ?_)), rfl, rfl⟩
      exact congrArg AV.bool (by rw [e, decide_eq_false (show ¬ t.l.length ≤ (partsN t.op).2 by omega)]; simp)
    have h4 := h
    repeat (first | refine ga_ ?_ | intro _)
    refine Or.inl ⟨⟨_, Tryd.func10, rfl, rfl⟩, ACall.mono ?_ (refIsName_ok t.s _)⟩
    rintro _ S1 ⟨rfl, hS1⟩
    subst S1
    have h3' : (partsN t.op).1 ≤ t.l.length := by omega
    have h4' : t.l.length ≤ (partsN t.op).2 := by omega
    have h200 := ((parts_iff t.op t.l.length).1 ⟨h3', h4'⟩).2
    have e2 : rightG t (m + 1) = (bareG t && t.l.all fun x => rightG x m) := by rw [e, decide_eq_true h3', decide_eq_true h4']; simp
    refine AW_cut1 (α := Bool) (fun z => ⟨[(1, .int .i64 ((m + 1 : Nat) : Int)), (2, .ptr p 0), (7, .bool (ownB t.s)), (8, .bool z)], []⟩) (fun z => .cells p (cT t) :: R) (fun z => (decide (t.s = []) && decide (t.n = 0)) = z ∧ True) ?_ (fun z hz => ?_)
    · repeat (first | refine ga_ ?_ | intro _)
      refine gsplit (t.s = []) decide_eq_true_iff (fun h => ?_) (fun h => ?_)
      · repeat (first | refine ga_ ?_ | intro _)
        refine ⟨decide (t.n = 0), ?_, weak_of ?_ rfl ?_⟩
        · rw [decide_eq_true h]; exact ⟨rfl, trivial⟩
        · repeat (first | exact trivial | refine ⟨AVle.refl _, ?_⟩ | refine ⟨AVle.tk, ?_⟩ | refine ⟨AVle.nil, ?_⟩ | refine ⟨AVle.nilFull, ?_⟩ | refine ⟨AVle.eq (congrArg (AV.int .i64) (by first | (simp; done) | (simp; omega) | (rw [wrap_i64 (by first | omega | (simp; omega))]; first | rfl | omega | (simp; done) | (simp; omega)))), ?_⟩)
        · repeat (first | exact SLe.rfl | refine SLe.tail ?_ | refine SLe.full ?_)
      · repeat (first | refine ga_ ?_ | intro _)
        refine ⟨false, ?_, weak_of ?_ rfl ?_⟩
        · rw [decide_eq_false h]; exact ⟨rfl, trivial⟩
        · repeat (first | exact trivial | refine ⟨AVle.refl _, ?_⟩ | refine ⟨AVle.tk, ?_⟩ | refine ⟨AVle.nil, ?_⟩ | refine ⟨AVle.nilFull, ?_⟩ | refine ⟨AVle.eq (congrArg (AV.int .i64) (by first | (simp; done) | (simp; omega) | (rw [wrap_i64 (by first | omega | (simp; omega))]; first | rfl | omega | (simp; done) | (simp; omega)))), ?_⟩)
        · repeat (first | exact SLe.rfl | refine SLe.tail ?_ | refine SLe.full ?_)
    have hz0 := hz.1
    refine AW_cut1 (α := Bool) (fun z => ⟨[(1, .int .i64 ((m + 1 : Nat) : Int)), (2, .ptr p 0), (8, .bool z)], []⟩) (fun z => .cells p (cT t) :: R) (fun z => bareG t = z ∧ True) ?_ (fun z hz => ?_)
    · by_cases q : isNm t.op = true
      · have eb : bareG t = (ownB t.s && decide (t.n = 0)) := if_pos q
        have q' : t.op = 1 ∨ t.op = 9 ∨ t.op = 12 ∨ t.op = 13 := by simpa [isNm, or_assoc] using q
        by_cases q1 : t.op = 1
        · repeat (first | refine ga_ ?_ | intro _)
          refine AW_true (b := decide (t.op = 1)) rfl (by exact decide_eq_true q1) ?_
          repeat (first | refine ga_ ?_ | intro _)
          refine AW_true (b := decide (t.op = 1)) rfl (by exact decide_eq_true q1) ?_
          repeat (first | refine ga_ ?_ | intro _)
          refine gsplit (ownB t.s = true) (by first | (simp; done) | (simp <;> omega) | decide) (fun h => ?_) (fun h => ?_)
          · repeat (first | refine ga_ ?_ | intro _)
            refine ⟨decide (t.n = 0), ?_, weak_of ?_ rfl ?_⟩
            · exact ⟨by rw [eb, h]; rfl, trivial⟩
            · repeat (first | exact trivial | refine ⟨AVle.refl _, ?_⟩ | refine ⟨AVle.tk, ?_⟩ | refine ⟨AVle.nil, ?_⟩ | refine ⟨AVle.nilFull, ?_⟩ | refine ⟨AVle.eq (congrArg (AV.int .i64) (by first | (simp; done) | (simp; omega) | (rw [wrap_i64 (by first | omega | (simp; omega))]; first | rfl | omega | (simp; done) | (simp; omega)))), ?_⟩)
            · repeat (first | exact SLe.rfl | refine SLe.tail ?_ | refine SLe.full ?_)
          · repeat (first | refine ga_ ?_ | intro _)
            refine ⟨false, ?_, weak_of ?_ rfl ?_⟩
            · exact ⟨by rw [eb, show ownB t.s = false by simpa using h]; rfl, trivial⟩
            · repeat (first | exact trivial | refine ⟨AVle.refl _, ?_⟩ | refine ⟨AVle.tk, ?_⟩ | refine ⟨AVle.nil, ?_⟩ | refine ⟨AVle.nilFull, ?_⟩ | refine ⟨AVle.eq (congrArg (AV.int .i64) (by first | (simp; done) | (simp; omega) | (rw [wrap_i64 (by first | omega | (simp; omega))]; first | rfl | omega | (simp; done) | (simp; omega)))), ?_⟩)
            · repeat (first | exact SLe.rfl | refine SLe.tail ?_ | refine SLe.full ?_)
        repeat (first | refine ga_ ?_ | intro _)
        refine AW_false (b := decide (t.op = 1)) rfl (by exact decide_eq_false q1) ?_
        by_cases q2 : t.op = 9
        · repeat (first | refine ga_ ?_ | intro _)
          refine AW_true (b := decide (t.op = 9)) rfl (by exact decide_eq_true q2) ?_
          repeat (first | refine ga_ ?_ | intro _)
          refine AW_true (b := decide (t.op = 9)) rfl (by exact decide_eq_true q2) ?_
          repeat (first | refine ga_ ?_ | intro _)
          refine gsplit (ownB t.s = true) (by first | (simp; done) | (simp <;> omega) | decide) (fun h => ?_) (fun h => ?_)
          · repeat (first | refine ga_ ?_ | intro _)
            refine ⟨decide (t.n = 0), ?_, weak_of ?_ rfl ?_⟩
            · exact ⟨by rw [eb, h]; rfl, trivial⟩
            · repeat (first | exact trivial | refine ⟨AVle.refl _, ?_⟩ | refine ⟨AVle.tk, ?_⟩ | refine ⟨AVle.nil, ?_⟩ | refine ⟨AVle.nilFull, ?_⟩ | refine ⟨AVle.eq (congrArg (AV.int .i64) (by first | (simp; done) | (simp; omega) | (rw [wrap_i64 (by first | omega | (simp; omega))]; first | rfl | omega | (simp; done) | (simp; omega)))), ?_⟩)
            · repeat (first | exact SLe.rfl | refine SLe.tail ?_ | refine SLe.full ?_)
          · repeat (first | refine ga_ ?_ | intro _)
            refine ⟨false, ?_, weak_of ?_ rfl ?_⟩
            · exact ⟨by rw [eb, show ownB t.s = false by simpa using h]; rfl, trivial⟩
            · repeat (first | exact trivial | refine ⟨AVle.refl _, ?_⟩ | refine ⟨AVle.tk, ?_⟩ | refine ⟨AVle.nil, ?_⟩ | refine ⟨AVle.nilFull, ?_⟩ | refine ⟨AVle.eq (congrArg (AV.int .i64) (by first | (simp; done) | (simp; omega) | (rw [wrap_i64 (by first | omega | (simp; omega))]; first | rfl | omega | (simp; done) | (simp; omega)))), ?_⟩)
            · repeat (first | exact SLe.rfl | refine SLe.tail ?_ | refine SLe.full ?_)
        repeat (first | refine ga_ ?_ | intro _)
        refine AW_false (b := decide (t.op = 9)) rfl (by exact decide_eq_false q2) ?_
        by_cases q3 : t.op = 12
        · repeat (first | refine ga_ ?_ | intro _)
          refine AW_true (b := decide (t.op = 12)) rfl (by exact decide_eq_true q3) ?_
          repeat (first | refine ga_ ?_ | intro _)
          refine AW_true (b := decide (t.op = 12)) rfl (by exact decide_eq_true q3) ?_
          repeat (first | refine ga_ ?_ | intro _)
          refine gsplit (ownB t.s = true) (by first | (simp; done) | (simp <;> omega) | decide) (fun h => ?_) (fun h => ?_)
          · repeat (first | refine ga_ ?_ | intro _)
            refine ⟨decide (t.n = 0), ?_, weak_of ?_ rfl ?_⟩
            · exact ⟨by rw [eb, h]; rfl, trivial⟩
            · repeat (first | exact trivial | refine ⟨AVle.refl _, ?_⟩ | refine ⟨AVle.tk, ?_⟩ | refine ⟨AVle.nil, ?_⟩ | refine ⟨AVle.nilFull, ?_⟩ | refine ⟨AVle.eq (congrArg (AV.int .i64) (by first | (simp; done) | (simp; omega) | (rw [wrap_i64 (by first | omega | (simp; omega))]; first | rfl | omega | (simp; done) | (simp; omega)))), ?_⟩)
            · repeat (first | exact SLe.rfl | refine SLe.tail ?_ | refine SLe.full ?_)
          · repeat (first | refine ga_ ?_ | intro _)
            refine ⟨false, ?_, weak_of ?_ rfl ?_⟩
            · exact ⟨by rw [eb, show ownB t.s = false by simpa using h]; rfl, trivial⟩
            · repeat (first | exact trivial | refine ⟨AVle.refl _, ?_⟩ | refine ⟨AVle.tk, ?_⟩ | refine ⟨AVle.nil, ?_⟩ | refine ⟨AVle.nilFull, ?_⟩ | refine ⟨AVle.eq (congrArg (AV.int .i64) (by first | (simp; done) | (simp; omega) | (rw [wrap_i64 (by first | omega | (simp; omega))]; first | rfl | omega | (simp; done) | (simp; omega)))), ?_⟩)
            · repeat (first | exact SLe.rfl | refine SLe.tail ?_ | refine SLe.full ?_)
        have q4 : t.op = 13 := by omega
        repeat (first | refine ga_ ?_ | intro _)
        refine AW_false (b := decide (t.op = 12)) rfl (by exact decide_eq_false q3) ?_
        repeat (first | refine ga_ ?_ | intro _)
        refine AW_true (b := decide (t.op = 13)) rfl (by exact decide_eq_true q4) ?_
        repeat (first | refine ga_ ?_ | intro _)
        refine gsplit (ownB t.s = true) (by first | (simp; done) | (simp <;> omega) | decide) (fun h => ?_) (fun h => ?_)
        · repeat (first | refine ga_ ?_ | intro _)
          refine ⟨decide (t.n = 0), ?_, weak_of ?_ rfl ?_⟩
          · exact ⟨by rw [eb, h]; rfl, trivial⟩
          · repeat (first | exact trivial | refine ⟨AVle.refl _, ?_⟩ | refine ⟨AVle.tk, ?_⟩ | refine ⟨AVle.nil, ?_⟩ | refine ⟨AVle.nilFull, ?_⟩ | refine ⟨AVle.eq (congrArg (AV.int .i64) (by first | (simp; done) | (simp; omega) | (rw [wrap_i64 (by first | omega | (simp; omega))]; first | rfl | omega | (simp; done) | (simp; omega)))), ?_⟩)
          · repeat (first | exact SLe.rfl | refine SLe.tail ?_ | refine SLe.full ?_)
        · repeat (first | refine ga_ ?_ | intro _)
          refine ⟨false, ?_, weak_of ?_ rfl ?_⟩
          · exact ⟨by rw [eb, show ownB t.s = false by simpa using h]; rfl, trivial⟩
          · repeat (first | exact trivial | refine ⟨AVle.refl _, ?_⟩ | refine ⟨AVle.tk, ?_⟩ | refine ⟨AVle.nil, ?_⟩ | refine ⟨AVle.nilFull, ?_⟩ | refine ⟨AVle.eq (congrArg (AV.int .i64) (by first | (simp; done) | (simp; omega) | (rw [wrap_i64 (by first | omega | (simp; omega))]; first | rfl | omega | (simp; done) | (simp; omega)))), ?_⟩)
          · repeat (first | exact SLe.rfl | refine SLe.tail ?_ | refine SLe.full ?_)
      have q' : ¬ (t.op = 1 ∨ t.op = 9 ∨ t.op = 12 ∨ t.op = 13) := by simpa [isNm, or_assoc] using q
      have q1 : ¬ t.op = 1 := fun h => q' (.inl h)
      have q2 : ¬ t.op = 9 := fun h => q' (.inr (.inl h))
      have q3 : ¬ t.op = 12 := fun h => q' (.inr (.inr (.inl h)))
      have q4 : ¬ t.op = 13 := fun h => q' (.inr (.inr (.inr h)))
      repeat (first | refine ga_ ?_ | intro _)
      refine AW_false (b := decide (t.op = 1)) rfl (by exact decide_eq_false q1) ?_
      repeat (first | refine ga_ ?_ | intro _)
      refine AW_false (b := decide (t.op = 9)) rfl (by exact decide_eq_false q2) ?_
      repeat (first | refine ga_ ?_ | intro _)
      refine AW_false (b := decide (t.op = 12)) rfl (by exact decide_eq_false q3) ?_
      repeat (first | refine ga_ ?_ | intro _)
      refine AW_false (b := decide (t.op = 13)) rfl (by exact decide_eq_false q4) ?_
      repeat (first | refine ga_ ?_ | intro _)
      by_cases p2 : t.op = 2
      · have eb : bareG t = (decide (t.s = []) && decide (0 ≤ t.n)) := (if_neg q).trans (if_pos p2)
        refine AW_true (b := decide (t.op = 2)) rfl (by exact decide_eq_true p2) ?_
        repeat (first | refine ga_ ?_ | intro _)
        refine gsplit (t.s = []) decide_eq_true_iff (fun h => ?_) (fun h => ?_)
        · repeat (first | refine ga_ ?_ | intro _)
          refine ⟨decide (0 ≤ t.n), ?_, weak_of ?_ rfl ?_⟩
          · exact ⟨by rw [eb, decide_eq_true h]; rfl, trivial⟩
          · repeat (first | exact trivial | refine ⟨AVle.refl _, ?_⟩ | refine ⟨AVle.tk, ?_⟩ | refine ⟨AVle.nil, ?_⟩ | refine ⟨AVle.nilFull, ?_⟩ | refine ⟨AVle.eq (congrArg (AV.int .i64) (by first | (simp; done) | (simp; omega) | (rw [wrap_i64 (by first | omega | (simp; omega))]; first | rfl | omega | (simp; done) | (simp; omega)))), ?_⟩)
          · repeat (first | exact SLe.rfl | refine SLe.tail ?_ | refine SLe.full ?_)
        · repeat (first | refine ga_ ?_ | intro _)
          refine ⟨false, ?_, weak_of ?_ rfl ?_⟩
          · exact ⟨by rw [eb, decide_eq_false h]; rfl, trivial⟩
          · repeat (first | exact trivial | refine ⟨AVle.refl _, ?_⟩ | refine ⟨AVle.tk, ?_⟩ | refine ⟨AVle.nil, ?_⟩ | refine ⟨AVle.nilFull, ?_⟩ | refine ⟨AVle.eq (congrArg (AV.int .i64) (by first | (simp; done) | (simp; omega) | (rw [wrap_i64 (by first | omega | (simp; omega))]; first | rfl | omega | (simp; done) | (simp; omega)))), ?_⟩)
          · repeat (first | exact SLe.rfl | refine SLe.tail ?_ | refine SLe.full ?_)
      refine AW_false (b := decide (t.op = 2)) rfl (by exact decide_eq_false p2) ?_
      repeat (first | refine ga_ ?_ | intro _)
      by_cases p3 : t.op = 3
      · have eb : bareG t = decide (t.n = 0) := (if_neg q).trans ((if_neg p2).trans (if_pos p3))
        refine AW_true (b := decide (t.op = 3)) rfl (by exact decide_eq_true p3) ?_
        repeat (first | refine ga_ ?_ | intro _)
        refine ⟨decide (t.n = 0), ?_, weak_of ?_ rfl ?_⟩
        · exact ⟨eb, trivial⟩
        · repeat (first | exact trivial | refine ⟨AVle.refl _, ?_⟩ | refine ⟨AVle.tk, ?_⟩ | refine ⟨AVle.nil, ?_⟩ | refine ⟨AVle.nilFull, ?_⟩ | refine ⟨AVle.eq (congrArg (AV.int .i64) (by first | (simp; done) | (simp; omega) | (rw [wrap_i64 (by first | omega | (simp; omega))]; first | rfl | omega | (simp; done) | (simp; omega)))), ?_⟩)
        · repeat (first | exact SLe.rfl | refine SLe.tail ?_ | refine SLe.full ?_)
      refine AW_false (b := decide (t.op = 3)) rfl (by exact decide_eq_false p3) ?_
      repeat (first | refine ga_ ?_ | intro _)
      by_cases p6 : t.op = 6
      · have eb : bareG t = (decide (t.n = 0) && decide (t.s ∈ signL)) := (if_neg q).trans ((if_neg p2).trans ((if_neg p3).trans (if_pos p6)))
        have ka := fun R => among_ok signS t.s R sign_len
        rw [sign_same] at ka
        refine AW_true (b := decide (t.op = 6)) rfl (by exact decide_eq_true p6) ?_
        repeat (first | refine ga_ ?_ | intro _)
        refine gsplit (t.n = 0) decide_eq_true_iff (fun h => ?_) (fun h => ?_)
        · have hn := h
          repeat (first | refine ga_ ?_ | intro _)
          refine gsplit (¬ t.s = []) (by simp) (fun h => ?_) (fun h => ?_)
          · repeat (first | refine ga_ ?_ | intro _)
            refine Or.inl ⟨⟨_, Tryd.func26, rfl, rfl⟩, ACall.mono ?_ (ka _)⟩
            rintro _ S1 ⟨rfl, hS1⟩
            subst S1
            repeat (first | refine ga_ ?_ | intro _)
            refine ⟨decide (t.s ∈ signL), ?_, weak_of ?_ rfl ?_⟩
            · exact ⟨by rw [eb, decide_eq_true hn]; rfl, trivial⟩
            · repeat (first | exact trivial | refine ⟨AVle.refl _, ?_⟩ | refine ⟨AVle.tk, ?_⟩ | refine ⟨AVle.nil, ?_⟩ | refine ⟨AVle.nilFull, ?_⟩ | refine ⟨AVle.eq (congrArg (AV.int .i64) (by first | (simp; done) | (simp; omega) | (rw [wrap_i64 (by first | omega | (simp; omega))]; first | rfl | omega | (simp; done) | (simp; omega)))), ?_⟩)
            · repeat (first | exact SLe.rfl | refine SLe.tail ?_ | refine SLe.full ?_)
          · repeat (first | refine ga_ ?_ | intro _)
            refine ⟨false, ?_, weak_of ?_ rfl ?_⟩
            · exact ⟨by rw [eb, Decidable.not_not.1 h, decide_eq_false sign_ne]; simp, trivial⟩
            · repeat (first | exact trivial | refine ⟨AVle.refl _, ?_⟩ | refine ⟨AVle.tk, ?_⟩ | refine ⟨AVle.nil, ?_⟩ | refine ⟨AVle.nilFull, ?_⟩ | refine ⟨AVle.eq (congrArg (AV.int .i64) (by first | (simp; done) | (simp; omega) | (rw [wrap_i64 (by first | omega | (simp; omega))]; first | rfl | omega | (simp; done) | (simp; omega)))), ?_⟩)
            · repeat (first | exact SLe.rfl | refine SLe.tail ?_ | refine SLe.full ?_)
        · repeat (first | refine ga_ ?_ | intro _)
          refine ⟨false, ?_, weak_of ?_ rfl ?_⟩
          · exact ⟨by rw [eb, decide_eq_false h]; rfl, trivial⟩
          · repeat (first | exact trivial | refine ⟨AVle.refl _, ?_⟩ | refine ⟨AVle.tk, ?_⟩ | refine ⟨AVle.nil, ?_⟩ | refine ⟨AVle.nilFull, ?_⟩ | refine ⟨AVle.eq (congrArg (AV.int .i64) (by first | (simp; done) | (simp; omega) | (rw [wrap_i64 (by first | omega | (simp; omega))]; first | rfl | omega | (simp; done) | (simp; omega)))), ?_⟩)
          · repeat (first | exact SLe.rfl | refine SLe.tail ?_ | refine SLe.full ?_)
      refine AW_false (b := decide (t.op = 6)) rfl (by exact decide_eq_false p6) ?_
      have eb : bareG t = (decide (t.s = []) && (decide (t.n = 0) && (decide (0 < t.op) && decide (t.op ≤ 16)))) := (if_neg q).trans ((if_neg p2).trans ((if_neg p3).trans (if_neg p6)))
      repeat (first | refine ga_ ?_ | intro _)
      refine ⟨z, ?_, weak_of ?_ rfl ?_⟩
      · exact ⟨by rw [eb, ← hz0, decide_eq_true (show 0 < t.op by omega), decide_eq_true (show t.op ≤ 16 by omega)]; simp, trivial⟩
      · repeat (first | exact trivial | refine ⟨AVle.refl _, ?_⟩ | refine ⟨AVle.tk, ?_⟩ | refine ⟨AVle.nil, ?_⟩ | refine ⟨AVle.nilFull, ?_⟩ | refine ⟨AVle.eq (congrArg (AV.int .i64) (by first | (simp; done) | (simp; omega) | (rw [wrap_i64 (by first | omega | (simp; omega))]; first | rfl | omega | (simp; done) | (simp; omega)))), ?_⟩)
      · repeat (first | exact SLe.rfl | refine SLe.tail ?_ | refine SLe.full ?_)
    have hzb := hz.1
    subst hzb
    clear hz hz0
    repeat (first | refine ga_ ?_ | intro _)
    refine AW_for (α := Nat × Bool) (fun z => ⟨[(1, .int .i64 ((m + 1 : Nat) : Int)), (2, .ptr p 0), (8, .bool z.2), (9, .int .i64 (z.1 : Nat))], []⟩) (fun z => .cells p (cT t) :: R) (fun z => t.l.length - z.1) (fun z => z.1 ≤ t.l.length ∧ rightG t (m + 1) = (z.2 && (t.l.drop z.1).all fun x => rightG x m)) ((0, bareG t)) ?_ (weak_of ?_ rfl ?_) (fun z hz => ?_)
    · exact ⟨Nat.zero_le _, e2⟩
    · repeat (first | exact trivial | refine ⟨AVle.refl _, ?_⟩ | refine ⟨AVle.tk, ?_⟩ | refine ⟨AVle.nil, ?_⟩ | refine ⟨AVle.nilFull, ?_⟩ | refine ⟨AVle.eq (congrArg (AV.int .i64) (by first | (simp; done) | (simp; omega) | (rw [wrap_i64 (by first | omega | (simp; omega))]; first | rfl | omega | (simp; done) | (simp; omega)))), ?_⟩)
    · repeat (first | exact SLe.rfl | refine SLe.tail ?_ | refine SLe.full ?_)
    obtain ⟨z, ok⟩ := z
    obtain ⟨i1, i2⟩ : z ≤ t.l.length ∧ rightG t (m + 1) = (ok && (t.l.drop z).all fun x => rightG x m) := hz
    repeat (first | refine ga_ ?_ | intro _)
    refine gsplit (z < t.l.length) (by first | (simp; done) | (simp <;> omega) | decide) (fun h => ?_) (fun h => ?_)
    · have hlt := h
      repeat (first | refine ga_ ?_ | intro _)
      cases ok with
      | false =>
        repeat (first | refine ga_ ?_ | intro _)
        refine AW_ret ?_
        repeat (first | refine ⟨0, rfl, ?_⟩ | refine ⟨1, rfl, ?_⟩ | refine ⟨2, rfl, ?_⟩ | refine ⟨3, rfl, ?_⟩ | refine ⟨4, rfl, ?_⟩ | refine ⟨5, rfl, ?_⟩ | refine ⟨6, rfl, ?_⟩)
        refine ⟨_, R, AVle.eq ?_, (by repeat (first | exact SLe.rfl | refine SLe.tail ?_)), rfl, rfl⟩
        rw [i2]; rfl
      | true =>
        obtain ⟨x, hx⟩ : ∃ x, x = t.l[z] := ⟨_, rfl⟩
        have k := fun R => refRight_ok m x R (by omega)
        have em : IntKind.i64.wrap (((m + 1 : Nat) : Int) - 1) = (m : Nat) := by rw [wrap_i64 (by omega)]; omega
        rw [← em] at k
        rw [dropAt hlt, ← hx, List.all_cons, Bool.true_and] at i2
        repeat (first | refine ga_ ?_ | intro _)
        refine at_get (z) (encU x) (by first | rfl | omega | (rw [wrap_i64 (by omega)]; omega)) (by rw [hx]; exact encTs_get hlt) ?_
        repeat (first | refine ga_ ?_ | intro _)
        refine Or.inl ⟨⟨_, Tryd.func30, rfl, rfl⟩, ACall.mono ?_ (k _)⟩
        rintro _ S1 ⟨rfl, hS1⟩
        subst S1
        repeat (first | refine ga_ ?_ | intro _)
        refine ⟨(z + 1, rightG x m), ?_, ?_, weak_of ?_ rfl ?_⟩
        · exact Nat.sub_lt_sub_left hlt (Nat.lt_succ_self z)
        · exact ⟨hlt, i2⟩
        · repeat (first | exact trivial | refine ⟨AVle.refl _, ?_⟩ | refine ⟨AVle.tk, ?_⟩ | refine ⟨AVle.nil, ?_⟩ | refine ⟨AVle.nilFull, ?_⟩ | refine ⟨AVle.eq (congrArg (AV.int .i64) (by first | (simp; done) | (simp; omega) | (rw [wrap_i64 (by first | omega | (simp; omega))]; first | rfl | omega | (simp; done) | (simp; omega)))), ?_⟩)
        · repeat (first | exact SLe.rfl | refine SLe.tail ?_ | refine SLe.full ?_)
    · have hd : t.l.drop z = [] := List.drop_eq_nil_of_le (by omega)
      rw [hd] at i2
      repeat (first | refine ga_ ?_ | intro _)
      refine AW_ret ?_
      repeat (first | refine ⟨0, rfl, ?_⟩ | refine ⟨1, rfl, ?_⟩ | refine ⟨2, rfl, ?_⟩ | refine ⟨3, rfl, ?_⟩ | refine ⟨4, rfl, ?_⟩ | refine ⟨5, rfl, ?_⟩ | refine ⟨6, rfl, ?_⟩)
      refine ⟨_, R, AVle.eq ?_, (by repeat (first | exact SLe.rfl | refine SLe.tail ?_)), rfl, rfl⟩
      exact congrArg AV.bool (show ok = rightG t (m + 1) by rw [i2]; simp)
theorem refRightExpr_ok (t : T) (R : List En) : ACall Tryd.prog 15 [encU t] R (fun v S => v = .bool (rightG t 60) ∧ S = R) := by
  refine ACall_body tab_ok Tryd.func15 rfl rfl rfl (by kernel_rfl) (Nat.le_of_ble_eq_true rfl) ?_
  repeat (first | refine go_ ?_ | intro _)
  refine Or.inl ⟨⟨_, Tryd.func30, rfl, rfl⟩, ACall.mono ?_ (refRight_ok 60 t _ (by omega))⟩
  rintro _ S1 ⟨rfl, hS1⟩
  subst S1
  repeat (first | refine go_ ?_ | intro _)
  refine AW_ret ?_
  repeat (first | refine ⟨0, rfl, ?_⟩ | refine ⟨1, rfl, ?_⟩ | refine ⟨2, rfl, ?_⟩ | refine ⟨3, rfl, ?_⟩ | refine ⟨4, rfl, ?_⟩ | refine ⟨5, rfl, ?_⟩ | refine ⟨6, rfl, ?_⟩)
  refine ⟨_, R, AVle.eq ?_, (by repeat (first | exact SLe.rfl | refine SLe.tail ?_)), rfl, rfl⟩
  rfl
end Go.Proofs.YtnkmjbjpmocnbaaDoor
