/-
  How many terms and parts: the law's own measure. Own work.
-/
import Derived.Test.YtkmalncnaodkiaaDoorP1
import Derived.Test.YtkmalncnaodkiaaDoorP3
set_option linter.all false
namespace Go.Proofs.YtkmalncnaodkiaaDoor
open Go.Aw Go.RowKit
set_option maxHeartbeats 4000000

mutual
def sizeT : T → Int → Int
  | .mk _ s _ l, k => if 1000 < s.length then -1 else sizeTs l (k - 1)
def sizeTs : List T → Int → Int
  | [], k => k
  | t :: r, k => if 0 ≤ k then sizeTs r (sizeT t k) else k
end
theorem sizeT_eq (t : T) (k : Int) : sizeT t k = if 1000 < t.s.length then -1 else sizeTs t.l (k - 1) := by cases t; rfl
mutual
theorem sizeT_le : ∀ (t : T) (k : Int), 0 ≤ k → -1 ≤ sizeT t k ∧ sizeT t k ≤ k - 1
  | .mk _ s _ l, k, h => by
    rw [sizeT]
    split
    · omega
    · exact sizeTs_le l (k - 1) (by omega)
theorem sizeTs_le : ∀ (l : List T) (k : Int), -1 ≤ k → -1 ≤ sizeTs l k ∧ sizeTs l k ≤ k
  | [], k, h => by rw [sizeTs]; omega
  | t :: r, k, h => by
    rw [sizeTs]
    split
    · rename_i h0
      have h1 := sizeT_le t k h0
      have h2 := sizeTs_le r (sizeT t k) h1.1
      omega
    · omega
end
theorem sizeTs_neg {l : List T} {k : Int} (h : k < 0) : sizeTs l k = k := by
  cases l with
  | nil => rfl
  | cons t r => rw [sizeTs, if_neg (by omega)]

theorem size_ok : ∀ (n : Nat) (t : T), SizeOf.sizeOf t ≤ n → ∀ (k : Int) (R : List En), 0 ≤ k → k ≤ 100000 → ACall Tryd.prog 67 [encU t, .int .i64 k] R (fun r S => r = .int .i64 (sizeT t k) ∧ S = R)
  | 0, t, hn, k, R, _, _ => by cases t; simp at hn
  | n + 1, t, hn, k, R, h1, h2 => by
    have hs : ∀ x ∈ t.l, SizeOf.sizeOf x ≤ n := fun x hx => by
      cases t with
      | mk a b c l =>
        have := List.sizeOf_lt_of_mem (show x ∈ l from hx)
        simp at hn; omega
    have hw : IntKind.i64.wrap (k - 1) = k - 1 := wrap_i64 (by omega)
    refine ACall_body tab_ok Tryd.func67 rfl rfl rfl (by kernel_rfl) (Nat.le_of_ble_eq_true rfl) ?_
    repeat (first | refine go_ ?_ | intro _)
    rename_i p
    refine AW_iff (1000 < t.s.length) rfl (by first | (simp; done) | (simp <;> omega) | decide) (fun h => ?_) (fun h => ?_)
    · repeat (first | refine go_ ?_ | intro _)
      refine AW_ret ?_
      repeat (first | refine ⟨0, rfl, ?_⟩ | refine ⟨1, rfl, ?_⟩ | refine ⟨2, rfl, ?_⟩ | refine ⟨3, rfl, ?_⟩ | refine ⟨4, rfl, ?_⟩ | refine ⟨5, rfl, ?_⟩ | refine ⟨6, rfl, ?_⟩)
      refine ⟨_, R, AVle.eq ?_, (by repeat (first | exact SLe.rfl | refine SLe.tail ?_)), rfl, rfl⟩
      rw [sizeT_eq, if_pos h]; rfl
    have he : sizeT t k = sizeTs t.l (k - 1) := by rw [sizeT_eq, if_neg h]
    repeat (first | refine go_ ?_ | intro _)
    refine AW_for (α := Nat × Int) (fun z => ⟨[(1, .int .i64 z.2), (2, .ptr p 0), (5, .int .i64 (z.1 : Nat))], []⟩) (fun z => .cells p (cT t) :: R) (fun z => t.l.length - z.1) (fun z => z.1 ≤ t.l.length ∧ sizeTs t.l (k - 1) = sizeTs (t.l.drop z.1) z.2 ∧ -1 ≤ z.2 ∧ (z.1 : Int) + z.2 ≤ 100000) ((0, (k - 1))) ?_ (weak_of ?_ rfl ?_) (fun z hz => ?_)
    · refine ⟨by omega, rfl, ?_, ?_⟩
      · show -1 ≤ (k - 1); omega
      · show ((0 : Nat) : Int) + ((k - 1)) ≤ 100000; omega
    · repeat (first | exact trivial | refine ⟨(AVle.eq (congrArg (AV.int .i64) hw)), ?_⟩ | refine ⟨AVle.refl _, ?_⟩ | refine ⟨AVle.tk, ?_⟩ | refine ⟨AVle.nil, ?_⟩ | refine ⟨AVle.nilFull, ?_⟩ | refine ⟨AVle.eq (congrArg (AV.int .i64) (by first | (simp; done) | (simp; omega) | (rw [wrap_i64 (by first | omega | (simp; omega))]; first | rfl | omega | (simp; done) | (simp; omega)))), ?_⟩)
    · repeat (first | exact SLe.rfl | refine SLe.tail ?_ | refine SLe.full ?_)
    obtain ⟨z, c⟩ := z
    obtain ⟨i1, i2, i3, i4⟩ : z ≤ t.l.length ∧ sizeTs t.l (k - 1) = sizeTs (t.l.drop z) c ∧ -1 ≤ c ∧ (z : Int) + c ≤ 100000 := hz
    repeat (first | refine go_ ?_ | intro _)
    refine gsplit (z < t.l.length) (by first | (simp; done) | (simp <;> omega) | decide) (fun h => ?_) (fun h => ?_)
    rotate_left
    · have e : sizeTs t.l (k - 1) = c := by rw [i2, List.drop_of_length_le (by omega)]; rfl
      repeat (first | refine ga_ ?_ | intro _)
      refine AW_ret ?_
      repeat (first | refine ⟨0, rfl, ?_⟩ | refine ⟨1, rfl, ?_⟩ | refine ⟨2, rfl, ?_⟩ | refine ⟨3, rfl, ?_⟩ | refine ⟨4, rfl, ?_⟩ | refine ⟨5, rfl, ?_⟩ | refine ⟨6, rfl, ?_⟩)
      refine ⟨_, R, AVle.eq ?_, (by repeat (first | exact SLe.rfl | refine SLe.tail ?_)), rfl, rfl⟩
      rw [he, e]; rfl
    have hlt := h
    have hd : t.l.drop z = t.l[z] :: t.l.drop (z + 1) := (List.getElem_cons_drop hlt).symm
    repeat (first | refine go_ ?_ | intro _)
    refine AW_iff (0 ≤ c) rfl (by first | (simp; done) | (simp <;> omega) | decide) (fun h => ?_) (fun h => ?_)
    rotate_left
    · have e : sizeTs t.l (k - 1) = c := by rw [i2, sizeTs_neg (by omega)]
      repeat (first | refine ga_ ?_ | intro _)
      refine AW_ret ?_
      repeat (first | refine ⟨0, rfl, ?_⟩ | refine ⟨1, rfl, ?_⟩ | refine ⟨2, rfl, ?_⟩ | refine ⟨3, rfl, ?_⟩ | refine ⟨4, rfl, ?_⟩ | refine ⟨5, rfl, ?_⟩ | refine ⟨6, rfl, ?_⟩)
      refine ⟨_, R, AVle.eq ?_, (by repeat (first | exact SLe.rfl | refine SLe.tail ?_)), rfl, rfl⟩
      rw [he, e]; rfl
    have h0 := h
    obtain ⟨x, hx⟩ : ∃ x, x = t.l[z] := ⟨_, rfl⟩
    rw [hd, sizeTs, if_pos h0, ← hx] at i2
    have hb := sizeT_le x c h0
    have kx := fun R => size_ok n x (hs x (hx ▸ List.getElem_mem hlt)) c R h0 (by omega)
    repeat (first | refine go_ ?_ | intro _)
    refine at_get (z) (encU x) (by first | rfl | omega | (rw [wrap_i64 (by omega)]; omega)) (by rw [hx]; exact encTs_get hlt) ?_
    repeat (first | refine go_ ?_ | intro _)
    refine Or.inl ⟨⟨_, Tryd.func67, rfl, rfl⟩, ACall.mono ?_ (kx _)⟩
    rintro _ S1 ⟨rfl, hS1⟩
    subst S1
    repeat (first | refine go_ ?_ | intro _)
    refine ⟨(z + 1, sizeT x c), ?_, ?_, weak_of ?_ rfl ?_⟩
    · exact Nat.sub_lt_sub_left hlt (Nat.lt_succ_self z)
    · exact ⟨hlt, i2, hb.1, by show ((z + 1 : Nat) : Int) + sizeT x c ≤ 100000; omega⟩
    · repeat (first | exact trivial | refine ⟨AVle.refl _, ?_⟩ | refine ⟨AVle.tk, ?_⟩ | refine ⟨AVle.nil, ?_⟩ | refine ⟨AVle.nilFull, ?_⟩ | refine ⟨AVle.eq (congrArg (AV.int .i64) (by first | (simp; done) | (simp; omega) | (rw [wrap_i64 (by first | omega | (simp; omega))]; first | rfl | omega | (simp; done) | (simp; omega)))), ?_⟩)
    · refine SW.le ?_
      repeat (first | exact SW.nil | refine SW.cons ?_ | refine SW.cells (by repeat (first | exact trivial | refine ⟨AVle.refl _, ?_⟩ | refine ⟨AVle.nilFull, ?_⟩ | refine ⟨AVle.tk, ?_⟩ | refine ⟨AVle.nil, ?_⟩)) rfl ?_ | refine SW.full ?_ | refine SW.drop ?_)
def sizeA (a : At) (k : Int) : Int := if 1000 < a.rel.length then -1 else sizeTs a.l k
theorem sizeA_ok (a : At) (k : Int) (R : List En) (h1 : -1 ≤ k) (h2 : k ≤ 100000) : ACall Tryd.prog 66 [encA a, .int .i64 k] R (fun r S => r = .int .i64 (sizeA a k) ∧ S = R) := by
  refine ACall_body tab_ok Tryd.func66 rfl rfl rfl (by kernel_rfl) (Nat.le_of_ble_eq_true rfl) ?_
  repeat (first | refine go_ ?_ | intro _)
  rename_i p
  refine AW_iff (1000 < a.rel.length) rfl (by first | (simp; done) | (simp <;> omega) | decide) (fun h => ?_) (fun h => ?_)
  · repeat (first | refine go_ ?_ | intro _)
    refine AW_ret ?_
    repeat (first | refine ⟨0, rfl, ?_⟩ | refine ⟨1, rfl, ?_⟩ | refine ⟨2, rfl, ?_⟩ | refine ⟨3, rfl, ?_⟩ | refine ⟨4, rfl, ?_⟩ | refine ⟨5, rfl, ?_⟩ | refine ⟨6, rfl, ?_⟩)
    refine ⟨_, R, AVle.eq ?_, (by repeat (first | exact SLe.rfl | refine SLe.tail ?_)), rfl, rfl⟩
    rw [sizeA, if_pos h]; rfl
  have he : sizeA a k = sizeTs a.l k := by rw [sizeA, if_neg h]
  repeat (first | refine go_ ?_ | intro _)
  refine AW_for (α := Nat × Int) (fun z => ⟨[(1, .int .i64 z.2), (2, .ptr p 0), (5, .int .i64 (z.1 : Nat))], []⟩) (fun z => .cells p (cA a) :: R) (fun z => a.l.length - z.1) (fun z => z.1 ≤ a.l.length ∧ sizeTs a.l k = sizeTs (a.l.drop z.1) z.2 ∧ -1 ≤ z.2 ∧ (z.1 : Int) + z.2 ≤ 100000) ((0, k)) ?_ (weak_of ?_ rfl ?_) (fun z hz => ?_)
  · refine ⟨by omega, rfl, ?_, ?_⟩
    · show -1 ≤ k; omega
    · show ((0 : Nat) : Int) + (k) ≤ 100000; omega
  · repeat (first | exact trivial | refine ⟨(AVle.refl _), ?_⟩ | refine ⟨AVle.refl _, ?_⟩ | refine ⟨AVle.tk, ?_⟩ | refine ⟨AVle.nil, ?_⟩ | refine ⟨AVle.nilFull, ?_⟩ | refine ⟨AVle.eq (congrArg (AV.int .i64) (by first | (simp; done) | (simp; omega) | (rw [wrap_i64 (by first | omega | (simp; omega))]; first | rfl | omega | (simp; done) | (simp; omega)))), ?_⟩)
  · repeat (first | exact SLe.rfl | refine SLe.tail ?_ | refine SLe.full ?_)
  obtain ⟨z, c⟩ := z
  obtain ⟨i1, i2, i3, i4⟩ : z ≤ a.l.length ∧ sizeTs a.l k = sizeTs (a.l.drop z) c ∧ -1 ≤ c ∧ (z : Int) + c ≤ 100000 := hz
  repeat (first | refine go_ ?_ | intro _)
  refine gsplit (z < a.l.length) (by first | (simp; done) | (simp <;> omega) | decide) (fun h => ?_) (fun h => ?_)
  rotate_left
  · have e : sizeTs a.l k = c := by rw [i2, List.drop_of_length_le (by omega)]; rfl
    repeat (first | refine ga_ ?_ | intro _)
    refine AW_ret ?_
    repeat (first | refine ⟨0, rfl, ?_⟩ | refine ⟨1, rfl, ?_⟩ | refine ⟨2, rfl, ?_⟩ | refine ⟨3, rfl, ?_⟩ | refine ⟨4, rfl, ?_⟩ | refine ⟨5, rfl, ?_⟩ | refine ⟨6, rfl, ?_⟩)
    refine ⟨_, R, AVle.eq ?_, (by repeat (first | exact SLe.rfl | refine SLe.tail ?_)), rfl, rfl⟩
    rw [he, e]; rfl
  have hlt := h
  have hd : a.l.drop z = a.l[z] :: a.l.drop (z + 1) := (List.getElem_cons_drop hlt).symm
  repeat (first | refine go_ ?_ | intro _)
  refine AW_iff (0 ≤ c) rfl (by first | (simp; done) | (simp <;> omega) | decide) (fun h => ?_) (fun h => ?_)
  rotate_left
  · have e : sizeTs a.l k = c := by rw [i2, sizeTs_neg (by omega)]
    repeat (first | refine ga_ ?_ | intro _)
    refine AW_ret ?_
    repeat (first | refine ⟨0, rfl, ?_⟩ | refine ⟨1, rfl, ?_⟩ | refine ⟨2, rfl, ?_⟩ | refine ⟨3, rfl, ?_⟩ | refine ⟨4, rfl, ?_⟩ | refine ⟨5, rfl, ?_⟩ | refine ⟨6, rfl, ?_⟩)
    refine ⟨_, R, AVle.eq ?_, (by repeat (first | exact SLe.rfl | refine SLe.tail ?_)), rfl, rfl⟩
    rw [he, e]; rfl
  have h0 := h
  obtain ⟨x, hx⟩ : ∃ x, x = a.l[z] := ⟨_, rfl⟩
  rw [hd, sizeTs, if_pos h0, ← hx] at i2
  have hb := sizeT_le x c h0
  have kx := fun R => size_ok (SizeOf.sizeOf x) x (Nat.le_refl _) c R h0 (by omega)
  repeat (first | refine go_ ?_ | intro _)
  refine at_get (z) (encU x) (by first | rfl | omega | (rw [wrap_i64 (by omega)]; omega)) (by rw [hx]; exact encTs_get hlt) ?_
  repeat (first | refine go_ ?_ | intro _)
  refine Or.inl ⟨⟨_, Tryd.func67, rfl, rfl⟩, ACall.mono ?_ (kx _)⟩
  rintro _ S1 ⟨rfl, hS1⟩
  subst S1
  repeat (first | refine go_ ?_ | intro _)
  refine ⟨(z + 1, sizeT x c), ?_, ?_, weak_of ?_ rfl ?_⟩
  · exact Nat.sub_lt_sub_left hlt (Nat.lt_succ_self z)
  · exact ⟨hlt, i2, hb.1, by show ((z + 1 : Nat) : Int) + sizeT x c ≤ 100000; omega⟩
  · repeat (first | exact trivial | refine ⟨AVle.refl _, ?_⟩ | refine ⟨AVle.tk, ?_⟩ | refine ⟨AVle.nil, ?_⟩ | refine ⟨AVle.nilFull, ?_⟩ | refine ⟨AVle.eq (congrArg (AV.int .i64) (by first | (simp; done) | (simp; omega) | (rw [wrap_i64 (by first | omega | (simp; omega))]; first | rfl | omega | (simp; done) | (simp; omega)))), ?_⟩)
  · refine SW.le ?_
    repeat (first | exact SW.nil | refine SW.cons ?_ | refine SW.cells (by repeat (first | exact trivial | refine ⟨AVle.refl _, ?_⟩ | refine ⟨AVle.nilFull, ?_⟩ | refine ⟨AVle.tk, ?_⟩ | refine ⟨AVle.nil, ?_⟩)) rfl ?_ | refine SW.full ?_ | refine SW.drop ?_)
theorem sizeA_le (a : At) (k : Int) (h : -1 ≤ k) : -1 ≤ sizeA a k ∧ sizeA a k ≤ max k (-1) := by
  rw [sizeA]
  split
  · omega
  · have := sizeTs_le a.l k h; omega
theorem long_ok (l : List (List UInt8)) (R : List En) (hl : l.length ≤ 9223372036854775807) : ACall Tryd.prog 42 [.sl 1 (l.map AV.str) .no] R (fun r S => r = .bool (l.any fun x => decide (1000 < x.length)) ∧ S = R) := by
  refine ACall_body tab_ok Tryd.func42 rfl rfl rfl (by kernel_rfl) (Nat.le_of_ble_eq_true rfl) ?_
  repeat (first | refine go_ ?_ | intro _)
  refine AW_for (α := Nat) (fun z => ⟨[(0, .sl 1 (l.map AV.str) .no), (3, .int .i64 (z : Nat))], []⟩) (fun z => R) (fun z => l.length - z) (fun z => z ≤ l.length ∧ ∀ (i : Nat) (hi : i < l.length), i < z → ¬ 1000 < l[i].length) (0) ?_ (weak_of ?_ rfl ?_) (fun z hz => ?_)
  · exact ⟨by omega, fun i _ h => by omega⟩
  · repeat (first | exact trivial | refine ⟨AVle.refl _, ?_⟩ | refine ⟨AVle.tk, ?_⟩ | refine ⟨AVle.nil, ?_⟩ | refine ⟨AVle.nilFull, ?_⟩ | refine ⟨AVle.eq (congrArg (AV.int .i64) (by first | (simp; done) | (simp; omega) | (rw [wrap_i64 (by first | omega | (simp; omega))]; first | rfl | omega | (simp; done) | (simp; omega)))), ?_⟩)
  · repeat (first | exact SLe.rfl | refine SLe.tail ?_ | refine SLe.full ?_)
  obtain ⟨i1, i2⟩ := hz
  repeat (first | refine go_ ?_ | intro _)
  refine AW_iff (z < l.length) rfl (by first | (simp; done) | (simp <;> omega) | decide) (fun h => ?_) (fun h => ?_)
  · have hlt := h
    obtain ⟨x, hx⟩ : ∃ x, x = l[z] := ⟨_, rfl⟩
    repeat (first | refine go_ ?_ | intro _)
    refine at_map (z) (by first | rfl | omega | (rw [wrap_i64 (by omega)]; omega)) (by first | assumption | omega) ?_
    rw [← hx]
    repeat (first | refine go_ ?_ | intro _)
    refine AW_iff (1000 < x.length) rfl (by first | (simp; done) | (simp <;> omega) | decide) (fun h => ?_) (fun h => ?_)
    · have e : (l.any fun x => decide (1000 < x.length)) = true := List.any_eq_true.2 ⟨_, List.getElem_mem hlt, decide_eq_true (by rw [← hx]; exact h)⟩
      repeat (first | refine go_ ?_ | intro _)
      refine AW_ret ?_
      repeat (first | refine ⟨0, rfl, ?_⟩ | refine ⟨1, rfl, ?_⟩ | refine ⟨2, rfl, ?_⟩ | refine ⟨3, rfl, ?_⟩ | refine ⟨4, rfl, ?_⟩ | refine ⟨5, rfl, ?_⟩ | refine ⟨6, rfl, ?_⟩)
      refine ⟨_, R, AVle.eq ?_, (by repeat (first | exact SLe.rfl | refine SLe.tail ?_)), rfl, rfl⟩
      rw [e]; rfl
    · have hq := h
      repeat (first | refine go_ ?_ | intro _)
      refine ⟨z + 1, ?_, ?_, weak_of ?_ rfl ?_⟩
      · omega
      · refine ⟨by omega, fun i hi hiz => ?_⟩
        by_cases hc : i < z
        · exact i2 i hi hc
        · obtain rfl : i = z := by omega
          rw [← hx]; exact hq
      · repeat (first | exact trivial | refine ⟨AVle.refl _, ?_⟩ | refine ⟨AVle.tk, ?_⟩ | refine ⟨AVle.nil, ?_⟩ | refine ⟨AVle.nilFull, ?_⟩ | refine ⟨AVle.eq (congrArg (AV.int .i64) (by first | (simp; done) | (simp; omega) | (rw [wrap_i64 (by first | omega | (simp; omega))]; first | rfl | omega | (simp; done) | (simp; omega)))), ?_⟩)
      · repeat (first | exact SLe.rfl | refine SLe.tail ?_ | refine SLe.full ?_)
  · have e : (l.any fun x => decide (1000 < x.length)) = false := by
      rw [List.any_eq_false]
      intro x hx
      obtain ⟨i, hi, rfl⟩ := List.mem_iff_getElem.1 hx
      simpa using i2 i hi (by omega)
    repeat (first | refine go_ ?_ | intro _)
    refine AW_ret ?_
    repeat (first | refine ⟨0, rfl, ?_⟩ | refine ⟨1, rfl, ?_⟩ | refine ⟨2, rfl, ?_⟩ | refine ⟨3, rfl, ?_⟩ | refine ⟨4, rfl, ?_⟩ | refine ⟨5, rfl, ?_⟩ | refine ⟨6, rfl, ?_⟩)
    refine ⟨_, R, AVle.eq ?_, (by repeat (first | exact SLe.rfl | refine SLe.tail ?_)), rfl, rfl⟩
    rw [e]; rfl
end Go.Proofs.YtkmalncnaodkiaaDoor
/-
  How many terms and parts, of a rule and of a program. Own work.
-/
namespace Go.Proofs.YtkmalncnaodkiaaDoor
open Go.Aw Go.RowKit
set_option maxHeartbeats 4000000

def sizeLi (l : Li) (k : Int) : Int :=
  let a := sizeA l.a (k - 1)
  let b := if 0 ≤ a then sizeT l.x a else a
  if 0 ≤ b then sizeT l.y b else b
def sizeLs : List Li → Int → Int
  | [], k => k
  | l :: r, k => if 0 ≤ k then sizeLs r (sizeLi l k) else k
def sizeR (r : Ru) (k : Int) : Int := sizeLs r.body (sizeA r.head (k - 1))
def sizeRs : List Ru → Int → Int
  | [], k => k
  | l :: r, k => if 0 ≤ k then sizeRs r (sizeR l k) else k
theorem sizeLi_le (l : Li) (k : Int) (h : 0 ≤ k) : -1 ≤ sizeLi l k ∧ sizeLi l k ≤ max (k - 1) (-1) := by
  have h1 := sizeA_le l.a (k - 1) (by omega)
  unfold sizeLi
  simp only []
  generalize sizeA l.a (k - 1) = a at *
  split
  · rename_i ha
    have h2 := sizeT_le l.x a ha
    split
    · rename_i hb
      have h3 := sizeT_le l.y _ hb
      omega
    · omega
  · omega
theorem sizeLs_le : ∀ (l : List Li) (k : Int), -1 ≤ k → -1 ≤ sizeLs l k ∧ sizeLs l k ≤ k
  | [], k, h => by rw [sizeLs]; omega
  | t :: r, k, h => by
    rw [sizeLs]
    split
    · rename_i h0
      have h1 := sizeLi_le t k h0
      have h2 := sizeLs_le r (sizeLi t k) h1.1
      omega
    · omega
theorem sizeLs_neg {l : List Li} {k : Int} (h : k < 0) : sizeLs l k = k := by
  cases l with
  | nil => rfl
  | cons t r => rw [sizeLs, if_neg (by omega)]
theorem sizeR_le (r : Ru) (k : Int) (h : 0 ≤ k) : -1 ≤ sizeR r k ∧ sizeR r k ≤ max (k - 1) (-1) := by
  have h1 := sizeA_le r.head (k - 1) (by omega)
  have h2 := sizeLs_le r.body _ h1.1
  unfold sizeR; omega
theorem sizeRs_le : ∀ (l : List Ru) (k : Int), -1 ≤ k → -1 ≤ sizeRs l k ∧ sizeRs l k ≤ k
  | [], k, h => by rw [sizeRs]; omega
  | t :: r, k, h => by
    rw [sizeRs]
    split
    · rename_i h0
      have h1 := sizeR_le t k h0
      have h2 := sizeRs_le r (sizeR t k) h1.1
      omega
    · omega
theorem sizeRs_neg {l : List Ru} {k : Int} (h : k < 0) : sizeRs l k = k := by
  cases l with
  | nil => rfl
  | cons t r => rw [sizeRs, if_neg (by omega)]

theorem sizeR_ok (r : Ru) (k : Int) (R : List En) (h1 : 0 ≤ k) (h2 : k ≤ 100000) : ACall Tryd.prog 43 [encRu r, .int .i64 k] R (fun v S => v = .int .i64 (sizeR r k) ∧ S = R) := by
  have hw : IntKind.i64.wrap (k - 1) = k - 1 := wrap_i64 (by omega)
  have ka := fun R => sizeA_ok r.head (k - 1) R (by omega) (by omega)
  have hb0 := sizeA_le r.head (k - 1) (by omega)
  refine ACall_body tab_ok Tryd.func43 rfl rfl rfl (by kernel_rfl) (Nat.le_of_ble_eq_true rfl) ?_
  repeat (first | refine go_ ?_ | intro _)
  rename_i p
  refine Or.inl ⟨⟨_, Tryd.func66, rfl, rfl⟩, ACall_args (ACall.mono ?_ (ka _)) ⟨AVle.refl _, AVle.eq (congrArg (AV.int .i64) hw), trivial⟩⟩
  rintro _ S1 ⟨rfl, hS1⟩
  subst S1
  repeat (first | refine go_ ?_ | intro _)
  generalize hk0 : sizeA r.head (k - 1) = k0 at hb0
  have he : sizeR r k = sizeLs r.body k0 := by rw [sizeR, hk0]
  refine AW_for (α := Nat × Int) (fun z => ⟨[(1, .int .i64 z.2), (2, .ptr p 0), (5, .int .i64 (z.1 : Nat))], []⟩) (fun z => .cells p (cRu r) :: R) (fun z => r.body.length - z.1) (fun z => z.1 ≤ r.body.length ∧ sizeLs r.body k0 = sizeLs (r.body.drop z.1) z.2 ∧ -1 ≤ z.2 ∧ (z.1 : Int) + z.2 ≤ 100000) ((0, k0)) ?_ (weak_of ?_ rfl ?_) (fun z hz => ?_)
  · exact ⟨by omega, rfl, hb0.1, by show ((0 : Nat) : Int) + k0 ≤ 100000; omega⟩
  · repeat (first | exact trivial | refine ⟨(AVle.eq (congrArg (AV.int .i64) hk0)), ?_⟩ | refine ⟨AVle.refl _, ?_⟩ | refine ⟨AVle.tk, ?_⟩ | refine ⟨AVle.nil, ?_⟩ | refine ⟨AVle.nilFull, ?_⟩ | refine ⟨AVle.eq (congrArg (AV.int .i64) (by first | (simp; done) | (simp; omega) | (rw [wrap_i64 (by first | omega | (simp; omega))]; first | rfl | omega | (simp; done) | (simp; omega)))), ?_⟩)
  · repeat (first | exact SLe.rfl | refine SLe.tail ?_ | refine SLe.full ?_)
  obtain ⟨z, c⟩ := z
  obtain ⟨i1, i2, i3, i4⟩ : z ≤ r.body.length ∧ sizeLs r.body k0 = sizeLs (r.body.drop z) c ∧ -1 ≤ c ∧ (z : Int) + c ≤ 100000 := hz
  repeat (first | refine go_ ?_ | intro _)
  refine gsplit (z < r.body.length) (by first | (simp; done) | (simp <;> omega) | decide) (fun h => ?_) (fun h => ?_)
  rotate_left
  · have e : sizeLs r.body k0 = c := by rw [i2, List.drop_of_length_le (by omega)]; rfl
    repeat (first | refine ga_ ?_ | intro _)
    refine AW_ret ?_
    repeat (first | refine ⟨0, rfl, ?_⟩ | refine ⟨1, rfl, ?_⟩ | refine ⟨2, rfl, ?_⟩ | refine ⟨3, rfl, ?_⟩ | refine ⟨4, rfl, ?_⟩ | refine ⟨5, rfl, ?_⟩ | refine ⟨6, rfl, ?_⟩)
    refine ⟨_, R, AVle.eq ?_, (by repeat (first | exact SLe.rfl | refine SLe.tail ?_)), rfl, rfl⟩
    rw [he, e]; rfl
  have hlt := h
  have hd : r.body.drop z = r.body[z] :: r.body.drop (z + 1) := (List.getElem_cons_drop hlt).symm
  repeat (first | refine go_ ?_ | intro _)
  refine AW_iff (0 ≤ c) rfl (by first | (simp; done) | (simp <;> omega) | decide) (fun h => ?_) (fun h => ?_)
  rotate_left
  · have e : sizeLs r.body k0 = c := by rw [i2, sizeLs_neg (by omega)]
    repeat (first | refine ga_ ?_ | intro _)
    refine AW_ret ?_
    repeat (first | refine ⟨0, rfl, ?_⟩ | refine ⟨1, rfl, ?_⟩ | refine ⟨2, rfl, ?_⟩ | refine ⟨3, rfl, ?_⟩ | refine ⟨4, rfl, ?_⟩ | refine ⟨5, rfl, ?_⟩ | refine ⟨6, rfl, ?_⟩)
    refine ⟨_, R, AVle.eq ?_, (by repeat (first | exact SLe.rfl | refine SLe.tail ?_)), rfl, rfl⟩
    rw [he, e]; rfl
  have h0 := h
  obtain ⟨x, hx⟩ : ∃ x, x = r.body[z] := ⟨_, rfl⟩
  rw [hd, sizeLs, if_pos h0, ← hx] at i2
  have hb := sizeLi_le x c h0
  have hwc : IntKind.i64.wrap (c - 1) = c - 1 := wrap_i64 (by omega)
  have kx := fun R => sizeA_ok x.a (c - 1) R (by omega) (by omega)
  have hba := sizeA_le x.a (c - 1) (by omega)
  repeat (first | refine go_ ?_ | intro _)
  refine at_map (z) (by first | rfl | omega | (rw [wrap_i64 (by omega)]; omega)) (by first | assumption | omega) ?_
  rw [← hx]
  repeat (first | refine go_ ?_ | intro _)
  refine Or.inl ⟨⟨_, Tryd.func66, rfl, rfl⟩, ACall_args (ACall.mono ?_ (kx _)) ⟨AVle.refl _, AVle.eq (congrArg (AV.int .i64) hwc), trivial⟩⟩
  rintro _ S1 ⟨rfl, hS1⟩
  subst S1
  repeat (first | refine go_ ?_ | intro _)
  obtain ⟨a, ha⟩ : ∃ a, a = sizeA x.a (c - 1) := ⟨_, rfl⟩
  rw [← ha] at hba
  refine AW_iff (0 ≤ sizeA x.a (c - 1)) rfl (by first | (simp; done) | (simp <;> omega) | decide) (fun h => ?_) (fun h => ?_)
  rotate_left
  · have e : sizeLi x c = sizeA x.a (c - 1) := by unfold sizeLi; simp only []; rw [if_neg h, if_neg h]
    have hn := h
    repeat (first | refine go_ ?_ | intro _)
    refine AW_iff (0 ≤ sizeA x.a (c - 1)) rfl (by first | (simp; done) | (simp <;> omega) | decide) (fun h => ?_) (fun h => ?_)
    · exact absurd h hn
    repeat (first | refine go_ ?_ | intro _)
    refine ⟨(z + 1, sizeLi x c), ?_, ?_, weak_of ?_ rfl ?_⟩
    · exact Nat.sub_lt_sub_left hlt (Nat.lt_succ_self z)
    · exact ⟨hlt, i2, hb.1, by show ((z + 1 : Nat) : Int) + sizeLi x c ≤ 100000; omega⟩
    · repeat (first | exact trivial | refine ⟨(AVle.eq (congrArg (AV.int .i64) (e).symm)), ?_⟩ | refine ⟨AVle.refl _, ?_⟩ | refine ⟨AVle.tk, ?_⟩ | refine ⟨AVle.nil, ?_⟩ | refine ⟨AVle.nilFull, ?_⟩ | refine ⟨AVle.eq (congrArg (AV.int .i64) (by first | (simp; done) | (simp; omega) | (rw [wrap_i64 (by first | omega | (simp; omega))]; first | rfl | omega | (simp; done) | (simp; omega)))), ?_⟩)
    · refine SW.le ?_
      repeat (first | exact SW.nil | refine SW.cons ?_ | refine SW.cells (by repeat (first | exact trivial | refine ⟨AVle.refl _, ?_⟩ | refine ⟨AVle.nilFull, ?_⟩ | refine ⟨AVle.tk, ?_⟩ | refine ⟨AVle.nil, ?_⟩)) rfl ?_ | refine SW.full ?_ | refine SW.drop ?_)
  have hx1 := h
  have hbx := sizeT_le x.x _ hx1
  have kt := fun R => size_ok (SizeOf.sizeOf x.x) x.x (Nat.le_refl _) (sizeA x.a (c - 1)) R hx1 (by omega)
  repeat (first | refine go_ ?_ | intro _)
  refine at_map (z) (by first | rfl | omega | (rw [wrap_i64 (by omega)]; omega)) (by first | assumption | omega) ?_
  rw [← hx]
  repeat (first | refine go_ ?_ | intro _)
  refine Or.inl ⟨⟨_, Tryd.func67, rfl, rfl⟩, ACall.mono ?_ (kt _)⟩
  rintro _ S1 ⟨rfl, hS1⟩
  subst S1
  repeat (first | refine go_ ?_ | intro _)
  refine AW_iff (0 ≤ sizeT x.x (sizeA x.a (c - 1))) rfl (by first | (simp; done) | (simp <;> omega) | decide) (fun h => ?_) (fun h => ?_)
  rotate_left
  · have e : sizeLi x c = sizeT x.x (sizeA x.a (c - 1)) := by unfold sizeLi; simp only []; rw [if_pos hx1, if_neg h]
    repeat (first | refine go_ ?_ | intro _)
    refine ⟨(z + 1, sizeLi x c), ?_, ?_, weak_of ?_ rfl ?_⟩
    · exact Nat.sub_lt_sub_left hlt (Nat.lt_succ_self z)
    · exact ⟨hlt, i2, hb.1, by show ((z + 1 : Nat) : Int) + sizeLi x c ≤ 100000; omega⟩
    · repeat (first | exact trivial | refine ⟨(AVle.eq (congrArg (AV.int .i64) (e).symm)), ?_⟩ | refine ⟨AVle.refl _, ?_⟩ | refine ⟨AVle.tk, ?_⟩ | refine ⟨AVle.nil, ?_⟩ | refine ⟨AVle.nilFull, ?_⟩ | refine ⟨AVle.eq (congrArg (AV.int .i64) (by first | (simp; done) | (simp; omega) | (rw [wrap_i64 (by first | omega | (simp; omega))]; first | rfl | omega | (simp; done) | (simp; omega)))), ?_⟩)
    · refine SW.le ?_
      repeat (first | exact SW.nil | refine SW.cons ?_ | refine SW.cells (by repeat (first | exact trivial | refine ⟨AVle.refl _, ?_⟩ | refine ⟨AVle.nilFull, ?_⟩ | refine ⟨AVle.tk, ?_⟩ | refine ⟨AVle.nil, ?_⟩)) rfl ?_ | refine SW.full ?_ | refine SW.drop ?_)
  have hx2 := h
  have ku := fun R => size_ok (SizeOf.sizeOf x.y) x.y (Nat.le_refl _) (sizeT x.x (sizeA x.a (c - 1))) R hx2 (by omega)
  have e : sizeLi x c = sizeT x.y (sizeT x.x (sizeA x.a (c - 1))) := by unfold sizeLi; simp only []; rw [if_pos hx1, if_pos hx2]
  repeat (first | refine go_ ?_ | intro _)
  refine at_map (z) (by first | rfl | omega | (rw [wrap_i64 (by omega)]; omega)) (by first | assumption | omega) ?_
  rw [← hx]
  repeat (first | refine go_ ?_ | intro _)
  refine Or.inl ⟨⟨_, Tryd.func67, rfl, rfl⟩, ACall.mono ?_ (ku _)⟩
  rintro _ S1 ⟨rfl, hS1⟩
  subst S1
  repeat (first | refine go_ ?_ | intro _)
  refine ⟨(z + 1, sizeLi x c), ?_, ?_, weak_of ?_ rfl ?_⟩
  · exact Nat.sub_lt_sub_left hlt (Nat.lt_succ_self z)
  · exact ⟨hlt, i2, hb.1, by show ((z + 1 : Nat) : Int) + sizeLi x c ≤ 100000; omega⟩
  · repeat (first | exact trivial | refine ⟨(AVle.eq (congrArg (AV.int .i64) (e).symm)), ?_⟩ | refine ⟨AVle.refl _, ?_⟩ | refine ⟨AVle.tk, ?_⟩ | refine ⟨AVle.nil, ?_⟩ | refine ⟨AVle.nilFull, ?_⟩ | refine ⟨AVle.eq (congrArg (AV.int .i64) (by first | (simp; done) | (simp; omega) | (rw [wrap_i64 (by first | omega | (simp; omega))]; first | rfl | omega | (simp; done) | (simp; omega)))), ?_⟩)
  · refine SW.le ?_
    repeat (first | exact SW.nil | refine SW.cons ?_ | refine SW.cells (by repeat (first | exact trivial | refine ⟨AVle.refl _, ?_⟩ | refine ⟨AVle.nilFull, ?_⟩ | refine ⟨AVle.tk, ?_⟩ | refine ⟨AVle.nil, ?_⟩)) rfl ?_ | refine SW.full ?_ | refine SW.drop ?_)
end Go.Proofs.YtkmalncnaodkiaaDoor
/-
  Is a program small? Own work.
-/
namespace Go.Proofs.YtkmalncnaodkiaaDoor
open Go.Aw Go.RowKit
set_option maxHeartbeats 4000000

def okP (p : Pr) : Prop := p.decls.length ≤ 9223372036854775807 ∧ ∀ d ∈ p.decls, d.names.length ≤ 9223372036854775807 ∧ d.types.length ≤ 9223372036854775807
def longD (d : De) : Bool := decide (1000 < d.rel.length) || d.names.any fun x => decide (1000 < x.length)
def smallB (p : Pr) : Bool := !p.decls.any longD && (decide (0 ≤ sizeRs p.rules 2000) && (decide (p.decls.length ≤ 100) && decide (p.rules.length ≤ 300)))
def smallI (p : Pr) : Int := if smallB p = true then 1 else 0

theorem small_ok (p : Pr) (R : List En) (hp : okP p) : ACall Tryd.prog 20 [encP p] R (fun v S => v = .int .i64 (smallI p) ∧ S = R) := by
  obtain ⟨hp1, hp2⟩ := hp
  refine ACall_body tab_ok Tryd.func20 rfl rfl rfl (by kernel_rfl) (Nat.le_of_ble_eq_true rfl) ?_
  repeat (first | refine go_ ?_ | intro _)
  rename_i q
  refine AW_for (α := Nat) (fun z => ⟨[(1, .ptr q 0), (3, .int .i64 2000), (4, .int .i64 (z : Nat))], []⟩) (fun z => .cells q [.sl 6 (p.decls.map encD) .no, .sl 4 (p.rules.map encRu) .no] :: R) (fun z => p.decls.length - z) (fun z => z ≤ p.decls.length ∧ ∀ (i : Nat) (hi : i < p.decls.length), i < z → longD p.decls[i] = false) (0) ?_ (weak_of ?_ rfl ?_) (fun z hz => ?_)
  · exact ⟨by omega, fun i _ h => by omega⟩
  · repeat (first | exact trivial | refine ⟨AVle.refl _, ?_⟩ | refine ⟨AVle.tk, ?_⟩ | refine ⟨AVle.nil, ?_⟩ | refine ⟨AVle.nilFull, ?_⟩ | refine ⟨AVle.eq (congrArg (AV.int .i64) (by first | (simp; done) | (simp; omega) | (rw [wrap_i64 (by first | omega | (simp; omega))]; first | rfl | omega | (simp; done) | (simp; omega)))), ?_⟩)
  · repeat (first | exact SLe.rfl | refine SLe.tail ?_ | refine SLe.full ?_)
  obtain ⟨i1, i2⟩ := hz
  repeat (first | refine go_ ?_ | intro _)
  refine AW_iff (z < p.decls.length) rfl (by first | (simp; done) | (simp <;> omega) | decide) (fun h => ?_) (fun h => ?_)
  · have hlt := h
    obtain ⟨d, hd⟩ : ∃ x, x = p.decls[z] := ⟨_, rfl⟩
    have hdl := (hp2 d (hd ▸ List.getElem_mem hlt)).1
    have kl := fun R => long_ok d.names R hdl
    have bad : longD d = true → smallI p = 0 := fun hb => by
      have : p.decls.any longD = true := List.any_eq_true.2 ⟨_, List.getElem_mem hlt, by rw [← hd]; exact hb⟩
      rw [smallI, smallB, this]; rfl
    repeat (first | refine go_ ?_ | intro _)
    refine at_map (z) (by first | rfl | omega | (rw [wrap_i64 (by omega)]; omega)) (by first | assumption | omega) ?_
    rw [← hd]
    repeat (first | refine go_ ?_ | intro _)
    refine gsplit (1000 < d.rel.length) (by first | (simp; done) | (simp <;> omega) | decide) (fun h => ?_) (fun h => ?_)
    · repeat (first | refine ga_ ?_ | intro _)
      refine AW_ret ?_
      repeat (first | refine ⟨0, rfl, ?_⟩ | refine ⟨1, rfl, ?_⟩ | refine ⟨2, rfl, ?_⟩ | refine ⟨3, rfl, ?_⟩ | refine ⟨4, rfl, ?_⟩ | refine ⟨5, rfl, ?_⟩ | refine ⟨6, rfl, ?_⟩)
      refine ⟨_, R, AVle.eq ?_, (by repeat (first | exact SLe.rfl | refine SLe.tail ?_)), rfl, rfl⟩
      rw [bad (by rw [longD, decide_eq_true h]; rfl)]; rfl
    have h1 := h
    repeat (first | refine ga_ ?_ | intro _)
    refine at_map (z) (by first | rfl | omega | (rw [wrap_i64 (by omega)]; omega)) (by first | assumption | omega) ?_
    rw [← hd]
    repeat (first | refine go_ ?_ | intro _)
    refine Or.inl ⟨⟨_, Tryd.func42, rfl, rfl⟩, ACall.mono ?_ (kl _)⟩
    rintro _ S1 ⟨rfl, hS1⟩
    subst S1
    repeat (first | refine go_ ?_ | intro _)
    refine AW_cond (b := d.names.any fun x => decide (1000 < x.length)) rfl (fun h => ?_) (fun h => ?_)
    · repeat (first | refine go_ ?_ | intro _)
      refine AW_ret ?_
      repeat (first | refine ⟨0, rfl, ?_⟩ | refine ⟨1, rfl, ?_⟩ | refine ⟨2, rfl, ?_⟩ | refine ⟨3, rfl, ?_⟩ | refine ⟨4, rfl, ?_⟩ | refine ⟨5, rfl, ?_⟩ | refine ⟨6, rfl, ?_⟩)
      refine ⟨_, R, AVle.eq ?_, (by repeat (first | exact SLe.rfl | refine SLe.tail ?_)), rfl, rfl⟩
      rw [bad (by rw [longD, h]; simp)]; rfl
    · have h2 := h
      repeat (first | refine go_ ?_ | intro _)
      refine ⟨z + 1, ?_, ?_, weak_of ?_ rfl ?_⟩
      · omega
      · refine ⟨by omega, fun i hi hiz => ?_⟩
        by_cases hc : i < z
        · exact i2 i hi hc
        · obtain rfl : i = z := by omega
          rw [← hd, longD, h2, decide_eq_false h1]; rfl
      · repeat (first | exact trivial | refine ⟨AVle.refl _, ?_⟩ | refine ⟨AVle.tk, ?_⟩ | refine ⟨AVle.nil, ?_⟩ | refine ⟨AVle.nilFull, ?_⟩ | refine ⟨AVle.eq (congrArg (AV.int .i64) (by first | (simp; done) | (simp; omega) | (rw [wrap_i64 (by first | omega | (simp; omega))]; first | rfl | omega | (simp; done) | (simp; omega)))), ?_⟩)
      · repeat (first | exact SLe.rfl | refine SLe.tail ?_ | refine SLe.full ?_)
  have hld : p.decls.any longD = false := by
    rw [List.any_eq_false]
    intro x hx
    obtain ⟨i, hi, rfl⟩ := List.mem_iff_getElem.1 hx
    simpa using i2 i hi (by omega)
  clear i1 i2
  repeat (first | refine go_ ?_ | intro _)
  refine AW_for (α := Nat × Int) (fun z => ⟨[(1, .ptr q 0), (3, .int .i64 z.2), (5, .int .i64 (z.1 : Nat))], []⟩) (fun z => .cells q [.sl 6 (p.decls.map encD) .no, .sl 4 (p.rules.map encRu) .no] :: R) (fun z => p.rules.length - z.1) (fun z => z.1 ≤ p.rules.length ∧ sizeRs p.rules 2000 = sizeRs (p.rules.drop z.1) z.2 ∧ -1 ≤ z.2 ∧ (z.1 : Int) + z.2 ≤ 100000) ((0, 2000)) ?_ (weak_of ?_ rfl ?_) (fun z hz => ?_)
  · exact ⟨by omega, rfl, by show (-1 : Int) ≤ 2000; omega, by show ((0 : Nat) : Int) + 2000 ≤ 100000; omega⟩
  · repeat (first | exact trivial | refine ⟨AVle.refl _, ?_⟩ | refine ⟨AVle.tk, ?_⟩ | refine ⟨AVle.nil, ?_⟩ | refine ⟨AVle.nilFull, ?_⟩ | refine ⟨AVle.eq (congrArg (AV.int .i64) (by first | (simp; done) | (simp; omega) | (rw [wrap_i64 (by first | omega | (simp; omega))]; first | rfl | omega | (simp; done) | (simp; omega)))), ?_⟩)
  · repeat (first | exact SLe.rfl | refine SLe.tail ?_ | refine SLe.full ?_)
  obtain ⟨z, c⟩ := z
  obtain ⟨i1, i2, i3, i4⟩ : z ≤ p.rules.length ∧ sizeRs p.rules 2000 = sizeRs (p.rules.drop z) c ∧ -1 ≤ c ∧ (z : Int) + c ≤ 100000 := hz
  repeat (first | refine go_ ?_ | intro _)
  refine gsplit (z < p.rules.length) (by first | (simp; done) | (simp <;> omega) | decide) (fun h => ?_) (fun h => ?_)
  · have hlt := h
    have hd : p.rules.drop z = p.rules[z] :: p.rules.drop (z + 1) := (List.getElem_cons_drop hlt).symm
    repeat (first | refine go_ ?_ | intro _)
    refine AW_iff (0 ≤ c) rfl (by first | (simp; done) | (simp <;> omega) | decide) (fun h => ?_) (fun h => ?_)
    · have h0 := h
      obtain ⟨x, hx⟩ : ∃ x, x = p.rules[z] := ⟨_, rfl⟩
      rw [hd, sizeRs, if_pos h0, ← hx] at i2
      have hb := sizeR_le x c h0
      have kx := fun R => sizeR_ok x c R h0 (by omega)
      repeat (first | refine go_ ?_ | intro _)
      refine at_map (z) (by first | rfl | omega | (rw [wrap_i64 (by omega)]; omega)) (by first | assumption | omega) ?_
      rw [← hx]
      repeat (first | refine go_ ?_ | intro _)
      refine Or.inl ⟨⟨_, Tryd.func43, rfl, rfl⟩, ACall.mono ?_ (kx _)⟩
      rintro _ S1 ⟨rfl, hS1⟩
      subst S1
      repeat (first | refine go_ ?_ | intro _)
      refine ⟨(z + 1, sizeR x c), ?_, ?_, weak_of ?_ rfl ?_⟩
      · exact Nat.sub_lt_sub_left hlt (Nat.lt_succ_self z)
      · exact ⟨hlt, i2, hb.1, by show ((z + 1 : Nat) : Int) + sizeR x c ≤ 100000; omega⟩
      · repeat (first | exact trivial | refine ⟨AVle.refl _, ?_⟩ | refine ⟨AVle.tk, ?_⟩ | refine ⟨AVle.nil, ?_⟩ | refine ⟨AVle.nilFull, ?_⟩ | refine ⟨AVle.eq (congrArg (AV.int .i64) (by first | (simp; done) | (simp; omega) | (rw [wrap_i64 (by first | omega | (simp; omega))]; first | rfl | omega | (simp; done) | (simp; omega)))), ?_⟩)
      · refine SW.le ?_
        repeat (first | exact SW.nil | refine SW.cons ?_ | refine SW.cells (by repeat (first | exact trivial | refine ⟨AVle.refl _, ?_⟩ | refine ⟨AVle.nilFull, ?_⟩ | refine ⟨AVle.tk, ?_⟩ | refine ⟨AVle.nil, ?_⟩)) rfl ?_ | refine SW.full ?_ | refine SW.drop ?_)
    · have e : sizeRs p.rules 2000 = c := by rw [i2, sizeRs_neg (by omega)]
      have e2 : smallI p = 0 := by rw [smallI, smallB, e, decide_eq_false h]; simp
      repeat (first | refine go_ ?_ | intro _)
      refine gsplit (c < 0) (by first | (simp; done) | (simp <;> omega) | decide) (fun h => ?_) (fun h => ?_)
      · repeat (first | refine ga_ ?_ | intro _)
        refine AW_ret ?_
        repeat (first | refine ⟨0, rfl, ?_⟩ | refine ⟨1, rfl, ?_⟩ | refine ⟨2, rfl, ?_⟩ | refine ⟨3, rfl, ?_⟩ | refine ⟨4, rfl, ?_⟩ | refine ⟨5, rfl, ?_⟩ | refine ⟨6, rfl, ?_⟩)
        refine ⟨_, R, AVle.eq ?_, (by repeat (first | exact SLe.rfl | refine SLe.tail ?_)), rfl, rfl⟩
        rw [e2]; rfl
      · omega
  · have e : sizeRs p.rules 2000 = c := by rw [i2, List.drop_of_length_le (by omega)]; rfl
    repeat (first | refine ga_ ?_ | intro _)
    refine gsplit (c < 0) (by first | (simp; done) | (simp <;> omega) | decide) (fun h => ?_) (fun h => ?_)
    · have e2 : smallI p = 0 := by rw [smallI, smallB, e, decide_eq_false (show ¬ 0 ≤ c by omega)]; simp
      repeat (first | refine ga_ ?_ | intro _)
      refine AW_ret ?_
      repeat (first | refine ⟨0, rfl, ?_⟩ | refine ⟨1, rfl, ?_⟩ | refine ⟨2, rfl, ?_⟩ | refine ⟨3, rfl, ?_⟩ | refine ⟨4, rfl, ?_⟩ | refine ⟨5, rfl, ?_⟩ | refine ⟨6, rfl, ?_⟩)
      refine ⟨_, R, AVle.eq ?_, (by repeat (first | exact SLe.rfl | refine SLe.tail ?_)), rfl, rfl⟩
      rw [e2]; rfl
    have h0 : 0 ≤ c := by omega
    repeat (first | refine ga_ ?_ | intro _)
    refine gsplit (100 < p.decls.length) (by first | (simp; done) | (simp <;> omega) | decide) (fun h => ?_) (fun h => ?_)
    · have e2 : smallI p = 0 := by rw [smallI, smallB, decide_eq_false (show ¬ p.decls.length ≤ 100 by omega)]; simp
      repeat (first | refine ga_ ?_ | intro _)
      refine AW_ret ?_
      repeat (first | refine ⟨0, rfl, ?_⟩ | refine ⟨1, rfl, ?_⟩ | refine ⟨2, rfl, ?_⟩ | refine ⟨3, rfl, ?_⟩ | refine ⟨4, rfl, ?_⟩ | refine ⟨5, rfl, ?_⟩ | refine ⟨6, rfl, ?_⟩)
      refine ⟨_, R, AVle.eq ?_, (by repeat (first | exact SLe.rfl | refine SLe.tail ?_)), rfl, rfl⟩
      rw [e2]; rfl
    have h1 : p.decls.length ≤ 100 := by omega
    repeat (first | refine ga_ ?_ | intro _)
    refine AW_iff (300 < p.rules.length) rfl (by first | (simp; done) | (simp <;> omega) | decide) (fun h => ?_) (fun h => ?_)
    · have e2 : smallI p = 0 := by rw [smallI, smallB, decide_eq_false (show ¬ p.rules.length ≤ 300 by omega)]; simp
      repeat (first | refine ga_ ?_ | intro _)
      refine AW_ret ?_
      repeat (first | refine ⟨0, rfl, ?_⟩ | refine ⟨1, rfl, ?_⟩ | refine ⟨2, rfl, ?_⟩ | refine ⟨3, rfl, ?_⟩ | refine ⟨4, rfl, ?_⟩ | refine ⟨5, rfl, ?_⟩ | refine ⟨6, rfl, ?_⟩)
      refine ⟨_, R, AVle.eq ?_, (by repeat (first | exact SLe.rfl | refine SLe.tail ?_)), rfl, rfl⟩
      rw [e2]; rfl
    have e2 : smallI p = 1 := by rw [smallI, smallB, e, decide_eq_true h0, decide_eq_true h1, decide_eq_true (show p.rules.length ≤ 300 by omega), hld]; rfl
    repeat (first | refine go_ ?_ | intro _)
    refine AW_ret ?_
    repeat (first | refine ⟨0, rfl, ?_⟩ | refine ⟨1, rfl, ?_⟩ | refine ⟨2, rfl, ?_⟩ | refine ⟨3, rfl, ?_⟩ | refine ⟨4, rfl, ?_⟩ | refine ⟨5, rfl, ?_⟩ | refine ⟨6, rfl, ?_⟩)
    refine ⟨_, R, AVle.eq ?_, (by repeat (first | exact SLe.rfl | refine SLe.tail ?_)), rfl, rfl⟩
    rw [e2]; rfl
end Go.Proofs.YtkmalncnaodkiaaDoor
/-
  Which relations and programs may be, by the book. Own work.
-/
namespace Go.Proofs.YtkmalncnaodkiaaDoor
open Go.Aw Go.RowKit
set_option maxHeartbeats 4000000

theorem refDecl_ok (d : De) (R : List En) : ACall Tryd.prog 61 [encD d] R (fun v S => v = .bool (rightD d) ∧ S = R) := by
  have kn := refName_ok d.rel
  refine ACall_body tab_ok Tryd.func61 rfl rfl rfl (by kernel_rfl) (Nat.le_of_ble_eq_true rfl) ?_
  repeat (first | refine go_ ?_ | intro _)
  rename_i p
  refine Or.inl ⟨⟨_, Tryd.func76, rfl, rfl⟩, ACall.mono ?_ (kn _)⟩
  rintro _ S1 ⟨rfl, hS1⟩
  subst S1
  repeat (first | refine go_ ?_ | intro _)
  refine gsplit (nameB d.rel = false) (by first | (simp; done) | (simp <;> omega) | decide) (fun h => ?_) (fun h => ?_)
  · repeat (first | refine ga_ ?_ | intro _)
    refine AW_ret ?_
    repeat (first | refine ⟨0, rfl, ?_⟩ | refine ⟨1, rfl, ?_⟩ | refine ⟨2, rfl, ?_⟩ | refine ⟨3, rfl, ?_⟩ | refine ⟨4, rfl, ?_⟩ | refine ⟨5, rfl, ?_⟩ | refine ⟨6, rfl, ?_⟩)
    refine ⟨_, R, AVle.eq ?_, (by repeat (first | exact SLe.rfl | refine SLe.tail ?_)), rfl, rfl⟩
    exact congrArg AV.bool (by simp [rightD, h])
  have h1 : nameB d.rel = true := by simpa using h
  repeat (first | refine ga_ ?_ | intro _)
  refine gsplit (d.names.length < 1) (by rw [List.length_map, decide_eq_true_eq]; omega) (fun h => ?_) (fun h => ?_)
  · repeat (first | refine ga_ ?_ | intro _)
    refine AW_ret ?_
    repeat (first | refine ⟨0, rfl, ?_⟩ | refine ⟨1, rfl, ?_⟩ | refine ⟨2, rfl, ?_⟩ | refine ⟨3, rfl, ?_⟩ | refine ⟨4, rfl, ?_⟩ | refine ⟨5, rfl, ?_⟩ | refine ⟨6, rfl, ?_⟩)
    refine ⟨_, R, AVle.eq ?_, (by repeat (first | exact SLe.rfl | refine SLe.tail ?_)), rfl, rfl⟩
    exact congrArg AV.bool (by simp [rightD, show d.names.length = 0 by omega])
  have h2 : ¬ d.names.length = 0 := by omega
  repeat (first | refine ga_ ?_ | intro _)
  refine gsplit (8 < d.names.length) (by first | (simp; done) | (simp <;> omega) | decide) (fun h => ?_) (fun h => ?_)
  · repeat (first | refine ga_ ?_ | intro _)
    refine AW_ret ?_
    repeat (first | refine ⟨0, rfl, ?_⟩ | refine ⟨1, rfl, ?_⟩ | refine ⟨2, rfl, ?_⟩ | refine ⟨3, rfl, ?_⟩ | refine ⟨4, rfl, ?_⟩ | refine ⟨5, rfl, ?_⟩ | refine ⟨6, rfl, ?_⟩)
    refine ⟨_, R, AVle.eq ?_, (by repeat (first | exact SLe.rfl | refine SLe.tail ?_)), rfl, rfl⟩
    exact congrArg AV.bool (by simp [rightD, h])
  have h3 := h
  repeat (first | refine ga_ ?_ | intro _)
  refine AW_iff (¬ d.types.length = d.names.length) rfl (by first | (simp; done) | (simp <;> omega) | decide) (fun h => ?_) (fun h => ?_)
  · repeat (first | refine ga_ ?_ | intro _)
    refine AW_ret ?_
    repeat (first | refine ⟨0, rfl, ?_⟩ | refine ⟨1, rfl, ?_⟩ | refine ⟨2, rfl, ?_⟩ | refine ⟨3, rfl, ?_⟩ | refine ⟨4, rfl, ?_⟩ | refine ⟨5, rfl, ?_⟩ | refine ⟨6, rfl, ?_⟩)
    refine ⟨_, R, AVle.eq ?_, (by repeat (first | exact SLe.rfl | refine SLe.tail ?_)), rfl, rfl⟩
    exact congrArg AV.bool (by simp [rightD, h])
  have h4 : d.types.length = d.names.length := Decidable.not_not.1 h
  have e0 : rightD d = (d.names.zip d.types).all fun x => nameB x.1 && typeB x.2 := by rw [rightD, h1, decide_eq_false h2, decide_eq_false h3, decide_eq_true h4]; simp
  have hzl : (d.names.zip d.types).length = d.names.length := by simp [h4]
  repeat (first | refine go_ ?_ | intro _)
  refine AW_for (α := Nat) (fun z => ⟨[(1, .ptr p 0), (4, .int .i64 (z : Nat))], []⟩) (fun z => .cells p (cD d) :: R) (fun z => d.names.length - z) (fun z => z ≤ d.names.length ∧ ∀ (i : Nat) (hi : i < (d.names.zip d.types).length), i < z → (nameB (d.names.zip d.types)[i].1 && typeB (d.names.zip d.types)[i].2) = true) (0) ?_ (weak_of ?_ rfl ?_) (fun z hz => ?_)
  · exact ⟨by omega, fun i _ h => by omega⟩
  · repeat (first | exact trivial | refine ⟨AVle.refl _, ?_⟩ | refine ⟨AVle.tk, ?_⟩ | refine ⟨AVle.nil, ?_⟩ | refine ⟨AVle.nilFull, ?_⟩ | refine ⟨AVle.eq (congrArg (AV.int .i64) (by first | (simp; done) | (simp; omega) | (rw [wrap_i64 (by first | omega | (simp; omega))]; first | rfl | omega | (simp; done) | (simp; omega)))), ?_⟩)
  · repeat (first | exact SLe.rfl | refine SLe.tail ?_ | refine SLe.full ?_)
  obtain ⟨i1, i2⟩ := hz
  repeat (first | refine go_ ?_ | intro _)
  refine AW_iff (z < d.names.length) rfl (by first | (simp; done) | (simp <;> omega) | decide) (fun h => ?_) (fun h => ?_)
  · have hlt := h
    have hlt2 : z < d.types.length := by omega
    have hlt3 : z < (d.names.zip d.types).length := by omega
    obtain ⟨x, hx⟩ : ∃ x, x = d.names[z] := ⟨_, rfl⟩
    obtain ⟨y, hy⟩ : ∃ x, x = d.types[z] := ⟨_, rfl⟩
    have hxy : (d.names.zip d.types)[z] = (x, y) := by rw [List.getElem_zip, hx, hy]
    have kx := refName_ok x
    have bad : (nameB x && typeB y) = false → rightD d = false := fun hb => by
      rw [e0, List.all_eq_false]
      exact ⟨_, List.getElem_mem hlt3, by rw [hxy]; simp only []; rw [hb]; simp⟩
    repeat (first | refine go_ ?_ | intro _)
    refine at_map (z) (by first | rfl | omega | (rw [wrap_i64 (by omega)]; omega)) (by first | assumption | omega) ?_
    rw [← hx]
    repeat (first | refine go_ ?_ | intro _)
    refine Or.inl ⟨⟨_, Tryd.func76, rfl, rfl⟩, ACall.mono ?_ (kx _)⟩
    rintro _ S1 ⟨rfl, hS1⟩
    subst S1
    repeat (first | refine go_ ?_ | intro _)
    refine gsplit (nameB x = false) (by first | (simp; done) | (simp <;> omega) | decide) (fun h => ?_) (fun h => ?_)
    · repeat (first | refine ga_ ?_ | intro _)
      refine AW_ret ?_
      repeat (first | refine ⟨0, rfl, ?_⟩ | refine ⟨1, rfl, ?_⟩ | refine ⟨2, rfl, ?_⟩ | refine ⟨3, rfl, ?_⟩ | refine ⟨4, rfl, ?_⟩ | refine ⟨5, rfl, ?_⟩ | refine ⟨6, rfl, ?_⟩)
      refine ⟨_, R, AVle.eq ?_, (by repeat (first | exact SLe.rfl | refine SLe.tail ?_)), rfl, rfl⟩
      rw [bad (by rw [h]; rfl)]; rfl
    have h5 : nameB x = true := by simpa using h
    repeat (first | refine ga_ ?_ | intro _)
    refine at_map (z) (by first | rfl | omega | (rw [wrap_i64 (by omega)]; omega)) (by first | assumption | omega) ?_
    rw [← hy]
    show (fun n : Int => _) y
    repeat (first | refine go_ ?_ | intro _)
    refine gsplit (¬ y = 1) (by first | (simp; done) | (simp <;> omega) | decide) (fun h => ?_) (fun h => ?_)
    · have h6 := h
      repeat (first | refine go_ ?_ | intro _)
      refine at_map (z) (by first | rfl | omega | (rw [wrap_i64 (by omega)]; omega)) (by first | assumption | omega) ?_
      rw [← hy]
      show (fun n : Int => _) y
      repeat (first | refine go_ ?_ | intro _)
      refine AW_iff (¬ y = 2) rfl (by first | (simp; done) | (simp <;> omega) | decide) (fun h => ?_) (fun h => ?_)
      · repeat (first | refine ga_ ?_ | intro _)
        refine AW_ret ?_
        repeat (first | refine ⟨0, rfl, ?_⟩ | refine ⟨1, rfl, ?_⟩ | refine ⟨2, rfl, ?_⟩ | refine ⟨3, rfl, ?_⟩ | refine ⟨4, rfl, ?_⟩ | refine ⟨5, rfl, ?_⟩ | refine ⟨6, rfl, ?_⟩)
        refine ⟨_, R, AVle.eq ?_, (by repeat (first | exact SLe.rfl | refine SLe.tail ?_)), rfl, rfl⟩
        rw [bad (by rw [typeB, decide_eq_false h6, decide_eq_false h]; simp)]; rfl
      · have h7 : y = 2 := Decidable.not_not.1 h
        repeat (first | refine go_ ?_ | intro _)
        refine ⟨z + 1, ?_, ?_, weak_of ?_ rfl ?_⟩
        · omega
        · refine ⟨by omega, fun i hi hiz => ?_⟩
          by_cases hc : i < z
          · exact i2 i hi hc
          · obtain rfl : i = z := by omega
            rw [hxy]; simp [h5, typeB, h7]
        · repeat (first | exact trivial | refine ⟨AVle.refl _, ?_⟩ | refine ⟨AVle.tk, ?_⟩ | refine ⟨AVle.nil, ?_⟩ | refine ⟨AVle.nilFull, ?_⟩ | refine ⟨AVle.eq (congrArg (AV.int .i64) (by first | (simp; done) | (simp; omega) | (rw [wrap_i64 (by first | omega | (simp; omega))]; first | rfl | omega | (simp; done) | (simp; omega)))), ?_⟩)
        · repeat (first | exact SLe.rfl | refine SLe.tail ?_ | refine SLe.full ?_)
    · have h7 : y = 1 := Decidable.not_not.1 h
      repeat (first | refine ga_ ?_ | intro _)
      refine ⟨z + 1, ?_, ?_, weak_of ?_ rfl ?_⟩
      · omega
      · refine ⟨by omega, fun i hi hiz => ?_⟩
        by_cases hc : i < z
        · exact i2 i hi hc
        · obtain rfl : i = z := by omega
          rw [hxy]; simp [h5, typeB, h7]
      · repeat (first | exact trivial | refine ⟨AVle.refl _, ?_⟩ | refine ⟨AVle.tk, ?_⟩ | refine ⟨AVle.nil, ?_⟩ | refine ⟨AVle.nilFull, ?_⟩ | refine ⟨AVle.eq (congrArg (AV.int .i64) (by first | (simp; done) | (simp; omega) | (rw [wrap_i64 (by first | omega | (simp; omega))]; first | rfl | omega | (simp; done) | (simp; omega)))), ?_⟩)
      · repeat (first | exact SLe.rfl | refine SLe.tail ?_ | refine SLe.full ?_)
  · have e : rightD d = true := by
      rw [e0, List.all_eq_true]
      intro x hx
      obtain ⟨i, hi, rfl⟩ := List.mem_iff_getElem.1 hx
      exact i2 i hi (by omega)
    repeat (first | refine go_ ?_ | intro _)
    refine AW_ret ?_
    repeat (first | refine ⟨0, rfl, ?_⟩ | refine ⟨1, rfl, ?_⟩ | refine ⟨2, rfl, ?_⟩ | refine ⟨3, rfl, ?_⟩ | refine ⟨4, rfl, ?_⟩ | refine ⟨5, rfl, ?_⟩ | refine ⟨6, rfl, ?_⟩)
    refine ⟨_, R, AVle.eq ?_, (by repeat (first | exact SLe.rfl | refine SLe.tail ?_)), rfl, rfl⟩
    rw [e]; rfl

theorem refRight_ok (p : Pr) (R : List En) : ACall Tryd.prog 36 [encP p] R (fun v S => v = .bool (rightP p) ∧ S = R) := by
  refine ACall_body tab_ok Tryd.func36 rfl rfl rfl (by kernel_rfl) (Nat.le_of_ble_eq_true rfl) ?_
  repeat (first | refine go_ ?_ | intro _)
  rename_i q
  refine gsplit (60 < p.decls.length) (by first | (simp; done) | (simp <;> omega) | decide) (fun h => ?_) (fun h => ?_)
  · repeat (first | refine ga_ ?_ | intro _)
    refine AW_ret ?_
    repeat (first | refine ⟨0, rfl, ?_⟩ | refine ⟨1, rfl, ?_⟩ | refine ⟨2, rfl, ?_⟩ | refine ⟨3, rfl, ?_⟩ | refine ⟨4, rfl, ?_⟩ | refine ⟨5, rfl, ?_⟩ | refine ⟨6, rfl, ?_⟩)
    refine ⟨_, R, AVle.eq ?_, (by repeat (first | exact SLe.rfl | refine SLe.tail ?_)), rfl, rfl⟩
    exact congrArg AV.bool (by simp [rightP, h])
  have h1 := h
  repeat (first | refine ga_ ?_ | intro _)
  refine AW_iff (200 < p.rules.length) rfl (by first | (simp; done) | (simp <;> omega) | decide) (fun h => ?_) (fun h => ?_)
  · repeat (first | refine ga_ ?_ | intro _)
    refine AW_ret ?_
    repeat (first | refine ⟨0, rfl, ?_⟩ | refine ⟨1, rfl, ?_⟩ | refine ⟨2, rfl, ?_⟩ | refine ⟨3, rfl, ?_⟩ | refine ⟨4, rfl, ?_⟩ | refine ⟨5, rfl, ?_⟩ | refine ⟨6, rfl, ?_⟩)
    refine ⟨_, R, AVle.eq ?_, (by repeat (first | exact SLe.rfl | refine SLe.tail ?_)), rfl, rfl⟩
    exact congrArg AV.bool (by simp [rightP, h])
  have h2 := h
  repeat (first | refine go_ ?_ | intro _)
  refine AW_for (α := Nat) (fun z => ⟨[(1, .ptr q 0), (3, .int .i64 (z : Nat))], []⟩) (fun z => .cells q [.sl 6 (p.decls.map encD) .no, .sl 4 (p.rules.map encRu) .no] :: R) (fun z => p.decls.length - z) (fun z => z ≤ p.decls.length ∧ ∀ (i : Nat) (hi : i < p.decls.length), i < z → rightD p.decls[i] = true) (0) ?_ (weak_of ?_ rfl ?_) (fun z hz => ?_)
  · exact ⟨by omega, fun i _ h => by omega⟩
  · repeat (first | exact trivial | refine ⟨AVle.refl _, ?_⟩ | refine ⟨AVle.tk, ?_⟩ | refine ⟨AVle.nil, ?_⟩ | refine ⟨AVle.nilFull, ?_⟩ | refine ⟨AVle.eq (congrArg (AV.int .i64) (by first | (simp; done) | (simp; omega) | (rw [wrap_i64 (by first | omega | (simp; omega))]; first | rfl | omega | (simp; done) | (simp; omega)))), ?_⟩)
  · repeat (first | exact SLe.rfl | refine SLe.tail ?_ | refine SLe.full ?_)
  obtain ⟨i1, i2⟩ := hz
  repeat (first | refine go_ ?_ | intro _)
  refine AW_iff (z < p.decls.length) rfl (by first | (simp; done) | (simp <;> omega) | decide) (fun h => ?_) (fun h => ?_)
  · have hlt := h
    obtain ⟨d, hd⟩ : ∃ x, x = p.decls[z] := ⟨_, rfl⟩
    have kd := refDecl_ok d
    repeat (first | refine go_ ?_ | intro _)
    refine at_map (z) (by first | rfl | omega | (rw [wrap_i64 (by omega)]; omega)) (by first | assumption | omega) ?_
    rw [← hd]
    repeat (first | refine go_ ?_ | intro _)
    refine Or.inl ⟨⟨_, Tryd.func61, rfl, rfl⟩, ACall.mono ?_ (kd _)⟩
    rintro _ S1 ⟨rfl, hS1⟩
    subst S1
    repeat (first | refine go_ ?_ | intro _)
    refine AW_cond (b := !rightD d) rfl (fun h => ?_) (fun h => ?_)
    · have e : rightP p = false := by
        have : p.decls.all rightD = false := List.all_eq_false.2 ⟨_, List.getElem_mem hlt, by rw [← hd]; simpa using h⟩
        rw [rightP, this]; simp
      repeat (first | refine go_ ?_ | intro _)
      refine AW_ret ?_
      repeat (first | refine ⟨0, rfl, ?_⟩ | refine ⟨1, rfl, ?_⟩ | refine ⟨2, rfl, ?_⟩ | refine ⟨3, rfl, ?_⟩ | refine ⟨4, rfl, ?_⟩ | refine ⟨5, rfl, ?_⟩ | refine ⟨6, rfl, ?_⟩)
      refine ⟨_, R, AVle.eq ?_, (by repeat (first | exact SLe.rfl | refine SLe.tail ?_)), rfl, rfl⟩
      rw [e]; rfl
    · have hq : rightD d = true := by simpa using h
      repeat (first | refine go_ ?_ | intro _)
      refine ⟨z + 1, ?_, ?_, weak_of ?_ rfl ?_⟩
      · omega
      · refine ⟨by omega, fun i hi hiz => ?_⟩
        by_cases hc : i < z
        · exact i2 i hi hc
        · obtain rfl : i = z := by omega
          rw [← hd]; exact hq
      · repeat (first | exact trivial | refine ⟨AVle.refl _, ?_⟩ | refine ⟨AVle.tk, ?_⟩ | refine ⟨AVle.nil, ?_⟩ | refine ⟨AVle.nilFull, ?_⟩ | refine ⟨AVle.eq (congrArg (AV.int .i64) (by first | (simp; done) | (simp; omega) | (rw [wrap_i64 (by first | omega | (simp; omega))]; first | rfl | omega | (simp; done) | (simp; omega)))), ?_⟩)
      · repeat (first | exact SLe.rfl | refine SLe.tail ?_ | refine SLe.full ?_)
  have hld : p.decls.all rightD = true := by
    rw [List.all_eq_true]
    intro x hx
    obtain ⟨i, hi, rfl⟩ := List.mem_iff_getElem.1 hx
    exact i2 i hi (by omega)
  clear i1 i2
  repeat (first | refine go_ ?_ | intro _)
  refine AW_for (α := Nat) (fun z => ⟨[(1, .ptr q 0), (5, .int .i64 (z : Nat))], []⟩) (fun z => .cells q [.sl 6 (p.decls.map encD) .no, .sl 4 (p.rules.map encRu) .no] :: R) (fun z => p.rules.length - z) (fun z => z ≤ p.rules.length ∧ ∀ (i : Nat) (hi : i < p.rules.length), i < z → rightR p.rules[i] = true) (0) ?_ (weak_of ?_ rfl ?_) (fun z hz => ?_)
  · exact ⟨by omega, fun i _ h => by omega⟩
  · repeat (first | exact trivial | refine ⟨AVle.refl _, ?_⟩ | refine ⟨AVle.tk, ?_⟩ | refine ⟨AVle.nil, ?_⟩ | refine ⟨AVle.nilFull, ?_⟩ | refine ⟨AVle.eq (congrArg (AV.int .i64) (by first | (simp; done) | (simp; omega) | (rw [wrap_i64 (by first | omega | (simp; omega))]; first | rfl | omega | (simp; done) | (simp; omega)))), ?_⟩)
  · repeat (first | exact SLe.rfl | refine SLe.tail ?_ | refine SLe.full ?_)
  obtain ⟨i1, i2⟩ := hz
  repeat (first | refine go_ ?_ | intro _)
  refine AW_iff (z < p.rules.length) rfl (by first | (simp; done) | (simp <;> omega) | decide) (fun h => ?_) (fun h => ?_)
  · have hlt := h
    obtain ⟨d, hd⟩ : ∃ x, x = p.rules[z] := ⟨_, rfl⟩
    have kd := refRule_ok d
    repeat (first | refine go_ ?_ | intro _)
    refine at_map (z) (by first | rfl | omega | (rw [wrap_i64 (by omega)]; omega)) (by first | assumption | omega) ?_
    rw [← hd]
    repeat (first | refine go_ ?_ | intro _)
    refine Or.inl ⟨⟨_, Tryd.func29, rfl, rfl⟩, ACall.mono ?_ (kd _)⟩
    rintro _ S1 ⟨rfl, hS1⟩
    subst S1
    repeat (first | refine go_ ?_ | intro _)
    refine AW_cond (b := !rightR d) rfl (fun h => ?_) (fun h => ?_)
    · have e : rightP p = false := by
        have : p.rules.all rightR = false := List.all_eq_false.2 ⟨_, List.getElem_mem hlt, by rw [← hd]; simpa using h⟩
        rw [rightP, this]; simp
      repeat (first | refine go_ ?_ | intro _)
      refine AW_ret ?_
      repeat (first | refine ⟨0, rfl, ?_⟩ | refine ⟨1, rfl, ?_⟩ | refine ⟨2, rfl, ?_⟩ | refine ⟨3, rfl, ?_⟩ | refine ⟨4, rfl, ?_⟩ | refine ⟨5, rfl, ?_⟩ | refine ⟨6, rfl, ?_⟩)
      refine ⟨_, R, AVle.eq ?_, (by repeat (first | exact SLe.rfl | refine SLe.tail ?_)), rfl, rfl⟩
      rw [e]; rfl
    · have hq : rightR d = true := by simpa using h
      repeat (first | refine go_ ?_ | intro _)
      refine ⟨z + 1, ?_, ?_, weak_of ?_ rfl ?_⟩
      · omega
      · refine ⟨by omega, fun i hi hiz => ?_⟩
        by_cases hc : i < z
        · exact i2 i hi hc
        · obtain rfl : i = z := by omega
          rw [← hd]; exact hq
      · repeat (first | exact trivial | refine ⟨AVle.refl _, ?_⟩ | refine ⟨AVle.tk, ?_⟩ | refine ⟨AVle.nil, ?_⟩ | refine ⟨AVle.nilFull, ?_⟩ | refine ⟨AVle.eq (congrArg (AV.int .i64) (by first | (simp; done) | (simp; omega) | (rw [wrap_i64 (by first | omega | (simp; omega))]; first | rfl | omega | (simp; done) | (simp; omega)))), ?_⟩)
      · repeat (first | exact SLe.rfl | refine SLe.tail ?_ | refine SLe.full ?_)
  · have hlr : p.rules.all rightR = true := by
      rw [List.all_eq_true]
      intro x hx
      obtain ⟨i, hi, rfl⟩ := List.mem_iff_getElem.1 hx
      exact i2 i hi (by omega)
    have e : rightP p = true := by rw [rightP, hld, hlr, decide_eq_false h1, decide_eq_false h2]; rfl
    repeat (first | refine go_ ?_ | intro _)
    refine AW_ret ?_
    repeat (first | refine ⟨0, rfl, ?_⟩ | refine ⟨1, rfl, ?_⟩ | refine ⟨2, rfl, ?_⟩ | refine ⟨3, rfl, ?_⟩ | refine ⟨4, rfl, ?_⟩ | refine ⟨5, rfl, ?_⟩ | refine ⟨6, rfl, ?_⟩)
    refine ⟨_, R, AVle.eq ?_, (by repeat (first | exact SLe.rfl | refine SLe.tail ?_)), rfl, rfl⟩
    rw [e]; rfl
end Go.Proofs.YtkmalncnaodkiaaDoor
