/-
  How many terms and parts: the law's own measure. Own work.
-/
import Derived.Test.YtgkjbpnmeeibbaaGreatDoorQ7
import Derived.Test.YtgkjbpnmeeibbaaGreatDoorQ8
import Derived.Test.YtgkjbpnmeeibbaaGreatDoorQ2
import Derived.Test.YtgkjbpnmeeibbaaGreatDoorQ13
set_option linter.all false
namespace Go.Proofs.YtgkjbpnmeeibbaaGreatDoor.Tree
open Go.Aw Go.RowKit
set_option maxHeartbeats 4000000
set_option maxRecDepth 4000

mutual
def sizeT : T → Int → Int
  | .mk _ s _ l, k => if 1000 < s.length then -1 else sizeTs l (k - 1)
def sizeTs : List T → Int → Int
  | [], k => k
  | t :: r, k => if 0 ≤ k then sizeTs r (sizeT t k) else k
end
theorem sizeT_eq (t : T) (k : Int) : sizeT t k = if 1000 < t.s.length then -1 else sizeTs t.l (k - 1) := by cases t; rfl
mutual
theorem sizeT_le : ∀ (t : T) (k : Int), 0 ≤ k → -1 ≤ sizeT t k ∧ sizeT t k ≤ k - 1
  | .mk _ s _ l, k, h => by
    rw [sizeT]
    split
    · omega
    · exact sizeTs_le l (k - 1) (by omega)
theorem sizeTs_le : ∀ (l : List T) (k : Int), -1 ≤ k → -1 ≤ sizeTs l k ∧ sizeTs l k ≤ k
  | [], k, h => by rw [sizeTs]; omega
  | t :: r, k, h => by
    rw [sizeTs]
    split
    · rename_i h0
      have h1 := sizeT_le t k h0
      have h2 := sizeTs_le r (sizeT t k) h1.1
      omega
    · omega
end
theorem sizeTs_neg {l : List T} {k : Int} (h : k < 0) : sizeTs l k = k := by
  cases l with
  | nil => rfl
  | cons t r => rw [sizeTs, if_neg (by omega)]

theorem size_ok : ∀ (n : Nat) (t : T), SizeOf.sizeOf t ≤ n → ∀ (k : Int) (R : List En), 0 ≤ k → k ≤ 100000 → ACall Tryz.prog 45 [encU t, .int .i64 k] R (fun r S => r = .int .i64 (sizeT t k) ∧ S = R)
  | 0, t, hn, k, R, _, _ => by cases t; simp at hn
  | n + 1, t, hn, k, R, h1, h2 => by
    have hs : ∀ x ∈ t.l, SizeOf.sizeOf x ≤ n := fun x hx => by
      cases t with
      | mk a b c l =>
        have := List.sizeOf_lt_of_mem (show x ∈ l from hx)
        simp at hn; omega
    have hw : IntKind.i64.wrap (k - 1) = k - 1 := wrap_i64 (by omega)
    refine ACall_body tab_ok Tryz.func45 rfl rfl rfl (by kernel_rfl) (Nat.le_of_ble_eq_true rfl) ?_
    repeat (first | refine go_ ?_ | intro _)
    rename_i p
    refine AW_iff (1000 < t.s.length) rfl (by first | (simp; done) | (simp <;> omega) | decide) (fun h => ?_) (fun h => ?_)
    · repeat (first | refine go_ ?_ | intro _)
      refine AW_ret ?_
      repeat refine mk_ ?_
      refine ⟨_, R, AVle.eq ?_, sle_, rfl, rfl⟩
      rw [sizeT_eq, if_pos h]; rfl
    have he : sizeT t k = sizeTs t.l (k - 1) := by rw [sizeT_eq, if_neg h]
    repeat (first | refine go_ ?_ | intro _)
    refine AW_for (α := Nat × Int) (fun z => ⟨[(1, .int .i64 z.2), (2, .ptr p 0), (5, .int .i64 (z.1 : Nat))], []⟩) (fun z => .cells p (cT t) :: R) (fun z => t.l.length - z.1) (fun z => z.1 ≤ t.l.length ∧ sizeTs t.l (k - 1) = sizeTs (t.l.drop z.1) z.2 ∧ -1 ≤ z.2 ∧ (z.1 : Int) + z.2 ≤ 100000) ((0, (k - 1))) ?_ (weak_of ?_ rfl ?_) (fun z hz => ?_)
    · refine ⟨by omega, rfl, ?_, ?_⟩
      · show -1 ≤ (k - 1); omega
      · show ((0 : Nat) : Int) + ((k - 1)) ≤ 100000; omega
    · repeat (first | exact trivial | refine ⟨(AVle.eq (congrArg (AV.int .i64) hw)), ?_⟩ | refine env_ ?_)
    · repeat (first | exact SLe.rfl | refine SLe.tail ?_ | refine SLe.full ?_)
    obtain ⟨z, c⟩ := z
    obtain ⟨i1, i2, i3, i4⟩ : z ≤ t.l.length ∧ sizeTs t.l (k - 1) = sizeTs (t.l.drop z) c ∧ -1 ≤ c ∧ (z : Int) + c ≤ 100000 := hz
    repeat (first | refine go_ ?_ | intro _)
    refine gsplit (z < t.l.length) (by first | (simp; done) | (simp <;> omega) | decide) (fun h => ?_) (fun h => ?_)
    rotate_left
    · have e : sizeTs t.l (k - 1) = c := by rw [i2, List.drop_of_length_le (by omega)]; rfl
      repeat (first | refine ga_ ?_ | intro _)
      refine AW_ret ?_
      repeat refine mk_ ?_
      refine ⟨_, R, AVle.eq ?_, sle_, rfl, rfl⟩
      rw [he, e]; rfl
    have hlt := h
    have hd : t.l.drop z = t.l[z] :: t.l.drop (z + 1) := (List.getElem_cons_drop hlt).symm
    repeat (first | refine go_ ?_ | intro _)
    refine AW_iff (0 ≤ c) rfl (by first | (simp; done) | (simp <;> omega) | decide) (fun h => ?_) (fun h => ?_)
    rotate_left
    · have e : sizeTs t.l (k - 1) = c := by rw [i2, sizeTs_neg (by omega)]
      repeat (first | refine ga_ ?_ | intro _)
      refine AW_ret ?_
      repeat refine mk_ ?_
      refine ⟨_, R, AVle.eq ?_, sle_, rfl, rfl⟩
      rw [he, e]; rfl
    have h0 := h
    obtain ⟨x, hx⟩ : ∃ x, x = t.l[z] := ⟨_, rfl⟩
    rw [hd, sizeTs, if_pos h0, ← hx] at i2
    have hb := sizeT_le x c h0
    have kx := fun R => size_ok n x (hs x (hx ▸ List.getElem_mem hlt)) c R h0 (by omega)
    repeat (first | refine go_ ?_ | intro _)
    refine at_get (z) (encU x) (by first | rfl | omega | (rw [wrap_i64 (by omega)]; omega)) (by rw [hx]; exact encTs_get hlt) ?_
    repeat (first | refine go_ ?_ | intro _)
    refine Or.inl ⟨⟨_, Tryz.func45, rfl, rfl⟩, ACall.mono ?_ (kx _)⟩
    rintro _ S1 ⟨rfl, hS1⟩
    subst S1
    repeat (first | refine go_ ?_ | intro _)
    refine ⟨(z + 1, sizeT x c), ?_, ?_, weak_of ?_ rfl ?_⟩
    · exact Nat.sub_lt_sub_left hlt (Nat.lt_succ_self z)
    · exact ⟨hlt, i2, hb.1, by show ((z + 1 : Nat) : Int) + sizeT x c ≤ 100000; omega⟩
    · repeat (first | exact trivial | refine env_ ?_)
    · refine SW.le ?_
      repeat (first | exact SW.nil | refine sw_ ?_)
def sizeA (a : At) (k : Int) : Int := if 1000 < a.rel.length then -1 else sizeTs a.l k
theorem sizeA_ok (a : At) (k : Int) (R : List En) (h1 : -1 ≤ k) (h2 : k ≤ 100000) : ACall Tryz.prog 44 [encA a, .int .i64 k] R (fun r S => r = .int .i64 (sizeA a k) ∧ S = R) := by
  refine ACall_body tab_ok Tryz.func44 rfl rfl rfl (by kernel_rfl) (Nat.le_of_ble_eq_true rfl) ?_
  repeat (first | refine go_ ?_ | intro _)
  rename_i p
  refine AW_iff (1000 < a.rel.length) rfl (by first | (simp; done) | (simp <;> omega) | decide) (fun h => ?_) (fun h => ?_)
  · repeat (first | refine go_ ?_ | intro _)
    refine AW_ret ?_
    repeat refine mk_ ?_
    refine ⟨_, R, AVle.eq ?_, sle_, rfl, rfl⟩
    rw [sizeA, if_pos h]; rfl
  have he : sizeA a k = sizeTs a.l k := by rw [sizeA, if_neg h]
  repeat (first | refine go_ ?_ | intro _)
  refine AW_for (α := Nat × Int) (fun z => ⟨[(1, .int .i64 z.2), (2, .ptr p 0), (5, .int .i64 (z.1 : Nat))], []⟩) (fun z => .cells p (cA a) :: R) (fun z => a.l.length - z.1) (fun z => z.1 ≤ a.l.length ∧ sizeTs a.l k = sizeTs (a.l.drop z.1) z.2 ∧ -1 ≤ z.2 ∧ (z.1 : Int) + z.2 ≤ 100000) ((0, k)) ?_ (weak_of ?_ rfl ?_) (fun z hz => ?_)
  · refine ⟨by omega, rfl, ?_, ?_⟩
    · show -1 ≤ k; omega
    · show ((0 : Nat) : Int) + (k) ≤ 100000; omega
  · repeat (first | exact trivial | refine ⟨(AVle.refl _), ?_⟩ | refine env_ ?_)
  · repeat (first | exact SLe.rfl | refine SLe.tail ?_ | refine SLe.full ?_)
  obtain ⟨z, c⟩ := z
  obtain ⟨i1, i2, i3, i4⟩ : z ≤ a.l.length ∧ sizeTs a.l k = sizeTs (a.l.drop z) c ∧ -1 ≤ c ∧ (z : Int) + c ≤ 100000 := hz
  repeat (first | refine go_ ?_ | intro _)
  refine gsplit (z < a.l.length) (by first | (simp; done) | (simp <;> omega) | decide) (fun h => ?_) (fun h => ?_)
  rotate_left
  · have e : sizeTs a.l k = c := by rw [i2, List.drop_of_length_le (by omega)]; rfl
    repeat (first | refine ga_ ?_ | intro _)
    refine AW_ret ?_
    repeat refine mk_ ?_
    refine ⟨_, R, AVle.eq ?_, sle_, rfl, rfl⟩
    rw [he, e]; rfl
  have hlt := h
  have hd : a.l.drop z = a.l[z] :: a.l.drop (z + 1) := (List.getElem_cons_drop hlt).symm
  repeat (first | refine go_ ?_ | intro _)
  refine AW_iff (0 ≤ c) rfl (by first | (simp; done) | (simp <;> omega) | decide) (fun h => ?_) (fun h => ?_)
  rotate_left
  · have e : sizeTs a.l k = c := by rw [i2, sizeTs_neg (by omega)]
    repeat (first | refine ga_ ?_ | intro _)
    refine AW_ret ?_
    repeat refine mk_ ?_
    refine ⟨_, R, AVle.eq ?_, sle_, rfl, rfl⟩
    rw [he, e]; rfl
  have h0 := h
  obtain ⟨x, hx⟩ : ∃ x, x = a.l[z] := ⟨_, rfl⟩
  rw [hd, sizeTs, if_pos h0, ← hx] at i2
  have hb := sizeT_le x c h0
  have kx := fun R => size_ok (SizeOf.sizeOf x) x (Nat.le_refl _) c R h0 (by omega)
  repeat (first | refine go_ ?_ | intro _)
  refine at_get (z) (encU x) (by first | rfl | omega | (rw [wrap_i64 (by omega)]; omega)) (by rw [hx]; exact encTs_get hlt) ?_
  repeat (first | refine go_ ?_ | intro _)
  refine Or.inl ⟨⟨_, Tryz.func45, rfl, rfl⟩, ACall.mono ?_ (kx _)⟩
  rintro _ S1 ⟨rfl, hS1⟩
  subst S1
  repeat (first | refine go_ ?_ | intro _)
  refine ⟨(z + 1, sizeT x c), ?_, ?_, weak_of ?_ rfl ?_⟩
  · exact Nat.sub_lt_sub_left hlt (Nat.lt_succ_self z)
  · exact ⟨hlt, i2, hb.1, by show ((z + 1 : Nat) : Int) + sizeT x c ≤ 100000; omega⟩
  · repeat (first | exact trivial | refine env_ ?_)
  · refine SW.le ?_
    repeat (first | exact SW.nil | refine sw_ ?_)
theorem sizeA_le (a : At) (k : Int) (h : -1 ≤ k) : -1 ≤ sizeA a k ∧ sizeA a k ≤ max k (-1) := by
  rw [sizeA]
  split
  · omega
  · have := sizeTs_le a.l k h; omega
theorem long_ok (l : List (List UInt8)) (R : List En) (hl : l.length ≤ 9223372036854775807) : ACall Tryz.prog 24 [.sl 1 (l.map AV.str) .no] R (fun r S => r = .bool (l.any fun x => decide (1000 < x.length)) ∧ S = R) := by
  refine ACall_body tab_ok Tryz.func24 rfl rfl rfl (by kernel_rfl) (Nat.le_of_ble_eq_true rfl) ?_
  repeat (first | refine go_ ?_ | intro _)
  refine AW_for (α := Nat) (fun z => ⟨[(0, .sl 1 (l.map AV.str) .no), (3, .int .i64 (z : Nat))], []⟩) (fun z => R) (fun z => l.length - z) (fun z => z ≤ l.length ∧ ∀ (i : Nat) (hi : i < l.length), i < z → ¬ 1000 < l[i].length) (0) ?_ (weak_of ?_ rfl ?_) (fun z hz => ?_)
  · exact ⟨by omega, fun i _ h => by omega⟩
  · repeat (first | exact trivial | refine env_ ?_)
  · repeat (first | exact SLe.rfl | refine SLe.tail ?_ | refine SLe.full ?_)
  obtain ⟨i1, i2⟩ := hz
  repeat (first | refine go_ ?_ | intro _)
  refine AW_iff (z < l.length) rfl (by first | (simp; done) | (simp <;> omega) | decide) (fun h => ?_) (fun h => ?_)
  · have hlt := h
    obtain ⟨x, hx⟩ : ∃ x, x = l[z] := ⟨_, rfl⟩
    repeat (first | refine go_ ?_ | intro _)
    refine at_map (z) (by first | rfl | omega | (rw [wrap_i64 (by omega)]; omega)) (by first | assumption | omega) ?_
    rw [← hx]
    repeat (first | refine go_ ?_ | intro _)
    refine AW_iff (1000 < x.length) rfl (by first | (simp; done) | (simp <;> omega) | decide) (fun h => ?_) (fun h => ?_)
    · have e : (l.any fun x => decide (1000 < x.length)) = true := List.any_eq_true.2 ⟨_, List.getElem_mem hlt, decide_eq_true (by rw [← hx]; exact h)⟩
      repeat (first | refine go_ ?_ | intro _)
      refine AW_ret ?_
      repeat refine mk_ ?_
      refine ⟨_, R, AVle.eq ?_, sle_, rfl, rfl⟩
      rw [e]; rfl
    · have hq := h
      repeat (first | refine go_ ?_ | intro _)
      refine ⟨z + 1, ?_, ?_, weak_of ?_ rfl ?_⟩
      · omega
      · refine ⟨by omega, fun i hi hiz => ?_⟩
        by_cases hc : i < z
        · exact i2 i hi hc
        · obtain rfl : i = z := by omega
          rw [← hx]; exact hq
      · repeat (first | exact trivial | refine env_ ?_)
      · repeat (first | exact SLe.rfl | refine SLe.tail ?_ | refine SLe.full ?_)
  · have e : (l.any fun x => decide (1000 < x.length)) = false := by
      rw [List.any_eq_false]
      intro x hx
      obtain ⟨i, hi, rfl⟩ := List.mem_iff_getElem.1 hx
      simpa using i2 i hi (by omega)
    repeat (first | refine go_ ?_ | intro _)
    refine AW_ret ?_
    repeat refine mk_ ?_
    refine ⟨_, R, AVle.eq ?_, sle_, rfl, rfl⟩
    rw [e]; rfl
end Go.Proofs.YtgkjbpnmeeibbaaGreatDoor.Tree
/-
  How many terms and parts, of a rule and of a program. Own work.
-/
namespace Go.Proofs.YtgkjbpnmeeibbaaGreatDoor.Tree
open Go.Aw Go.RowKit
set_option maxHeartbeats 4000000
set_option maxRecDepth 4000

def sizeLi (l : Li) (k : Int) : Int :=
  let a := sizeA l.a (k - 1)
  let b := if 0 ≤ a then sizeT l.x a else a
  if 0 ≤ b then sizeT l.y b else b
def sizeLs : List Li → Int → Int
  | [], k => k
  | l :: r, k => if 0 ≤ k then sizeLs r (sizeLi l k) else k
def sizeR (r : Ru) (k : Int) : Int := sizeLs r.body (sizeA r.head (k - 1))
def sizeRs : List Ru → Int → Int
  | [], k => k
  | l :: r, k => if 0 ≤ k then sizeRs r (sizeR l k) else k
theorem sizeLi_le (l : Li) (k : Int) (h : 0 ≤ k) : -1 ≤ sizeLi l k ∧ sizeLi l k ≤ max (k - 1) (-1) := by
  have h1 := sizeA_le l.a (k - 1) (by omega)
  unfold sizeLi
  simp only []
  generalize sizeA l.a (k - 1) = a at *
  split
  · rename_i ha
    have h2 := sizeT_le l.x a ha
    split
    · rename_i hb
      have h3 := sizeT_le l.y _ hb
      omega
    · omega
  · omega
theorem sizeLs_le : ∀ (l : List Li) (k : Int), -1 ≤ k → -1 ≤ sizeLs l k ∧ sizeLs l k ≤ k
  | [], k, h => by rw [sizeLs]; omega
  | t :: r, k, h => by
    rw [sizeLs]
    split
    · rename_i h0
      have h1 := sizeLi_le t k h0
      have h2 := sizeLs_le r (sizeLi t k) h1.1
      omega
    · omega
theorem sizeLs_neg {l : List Li} {k : Int} (h : k < 0) : sizeLs l k = k := by
  cases l with
  | nil => rfl
  | cons t r => rw [sizeLs, if_neg (by omega)]
theorem sizeR_le (r : Ru) (k : Int) (h : 0 ≤ k) : -1 ≤ sizeR r k ∧ sizeR r k ≤ max (k - 1) (-1) := by
  have h1 := sizeA_le r.head (k - 1) (by omega)
  have h2 := sizeLs_le r.body _ h1.1
  unfold sizeR; omega
theorem sizeRs_neg {l : List Ru} {k : Int} (h : k < 0) : sizeRs l k = k := by
  cases l with
  | nil => rfl
  | cons t r => rw [sizeRs, if_neg (by omega)]

theorem sizeR_ok (r : Ru) (k : Int) (R : List En) (h1 : 0 ≤ k) (h2 : k ≤ 100000) : ACall Tryz.prog 25 [encRu r, .int .i64 k] R (fun v S => v = .int .i64 (sizeR r k) ∧ S = R) := by
  have hw : IntKind.i64.wrap (k - 1) = k - 1 := wrap_i64 (by omega)
  have ka := fun R => sizeA_ok r.head (k - 1) R (by omega) (by omega)
  have hb0 := sizeA_le r.head (k - 1) (by omega)
  refine ACall_body tab_ok Tryz.func25 rfl rfl rfl (by kernel_rfl) (Nat.le_of_ble_eq_true rfl) ?_
  repeat (first | refine go_ ?_ | intro _)
  rename_i p
  refine Or.inl ⟨⟨_, Tryz.func44, rfl, rfl⟩, ACall_args (ACall.mono ?_ (ka _)) ⟨AVle.refl _, AVle.eq (congrArg (AV.int .i64) hw), trivial⟩⟩
  rintro _ S1 ⟨rfl, hS1⟩
  subst S1
  repeat (first | refine go_ ?_ | intro _)
  generalize hk0 : sizeA r.head (k - 1) = k0 at hb0
  have he : sizeR r k = sizeLs r.body k0 := by rw [sizeR, hk0]
  refine AW_for (α := Nat × Int) (fun z => ⟨[(1, .int .i64 z.2), (2, .ptr p 0), (5, .int .i64 (z.1 : Nat))], []⟩) (fun z => .cells p (cRu r) :: R) (fun z => r.body.length - z.1) (fun z => z.1 ≤ r.body.length ∧ sizeLs r.body k0 = sizeLs (r.body.drop z.1) z.2 ∧ -1 ≤ z.2 ∧ (z.1 : Int) + z.2 ≤ 100000) ((0, k0)) ?_ (weak_of ?_ rfl ?_) (fun z hz => ?_)
  · exact ⟨by omega, rfl, hb0.1, by show ((0 : Nat) : Int) + k0 ≤ 100000; omega⟩
  · repeat (first | exact trivial | refine ⟨(AVle.eq (congrArg (AV.int .i64) hk0)), ?_⟩ | refine env_ ?_)
  · repeat (first | exact SLe.rfl | refine SLe.tail ?_ | refine SLe.full ?_)
  obtain ⟨z, c⟩ := z
  obtain ⟨i1, i2, i3, i4⟩ : z ≤ r.body.length ∧ sizeLs r.body k0 = sizeLs (r.body.drop z) c ∧ -1 ≤ c ∧ (z : Int) + c ≤ 100000 := hz
  repeat (first | refine go_ ?_ | intro _)
  refine gsplit (z < r.body.length) (by first | (simp; done) | (simp <;> omega) | decide) (fun h => ?_) (fun h => ?_)
  rotate_left
  · have e : sizeLs r.body k0 = c := by rw [i2, List.drop_of_length_le (by omega)]; rfl
    repeat (first | refine ga_ ?_ | intro _)
    refine AW_ret ?_
    repeat refine mk_ ?_
    refine ⟨_, R, AVle.eq ?_, sle_, rfl, rfl⟩
    rw [he, e]; rfl
  have hlt := h
  have hd : r.body.drop z = r.body[z] :: r.body.drop (z + 1) := (List.getElem_cons_drop hlt).symm
  repeat (first | refine go_ ?_ | intro _)
  refine AW_iff (0 ≤ c) rfl (by first | (simp; done) | (simp <;> omega) | decide) (fun h => ?_) (fun h => ?_)
  rotate_left
  · have e : sizeLs r.body k0 = c := by rw [i2, sizeLs_neg (by omega)]
    repeat (first | refine ga_ ?_ | intro _)
    refine AW_ret ?_
    repeat refine mk_ ?_
    refine ⟨_, R, AVle.eq ?_, sle_, rfl, rfl⟩
    rw [he, e]; rfl
  have h0 := h
  obtain ⟨x, hx⟩ : ∃ x, x = r.body[z] := ⟨_, rfl⟩
  rw [hd, sizeLs, if_pos h0, ← hx] at i2
  have hb := sizeLi_le x c h0
  have hwc : IntKind.i64.wrap (c - 1) = c - 1 := wrap_i64 (by omega)
  have kx := fun R => sizeA_ok x.a (c - 1) R (by omega) (by omega)
  have hba := sizeA_le x.a (c - 1) (by omega)
  repeat (first | refine go_ ?_ | intro _)
  refine at_map (z) (by first | rfl | omega | (rw [wrap_i64 (by omega)]; omega)) (by first | assumption | omega) ?_
  rw [← hx]
  repeat (first | refine go_ ?_ | intro _)
  refine Or.inl ⟨⟨_, Tryz.func44, rfl, rfl⟩, ACall_args (ACall.mono ?_ (kx _)) ⟨AVle.refl _, AVle.eq (congrArg (AV.int .i64) hwc), trivial⟩⟩
  rintro _ S1 ⟨rfl, hS1⟩
  subst S1
  repeat (first | refine go_ ?_ | intro _)
  obtain ⟨a, ha⟩ : ∃ a, a = sizeA x.a (c - 1) := ⟨_, rfl⟩
  rw [← ha] at hba
  refine AW_iff (0 ≤ sizeA x.a (c - 1)) rfl (by first | (simp; done) | (simp <;> omega) | decide) (fun h => ?_) (fun h => ?_)
  rotate_left
  · have e : sizeLi x c = sizeA x.a (c - 1) := by unfold sizeLi; simp only []; rw [if_neg h, if_neg h]
    have hn := h
    repeat (first | refine go_ ?_ | intro _)
    refine AW_iff (0 ≤ sizeA x.a (c - 1)) rfl (by first | (simp; done) | (simp <;> omega) | decide) (fun h => ?_) (fun h => ?_)
    · exact absurd h hn
    repeat (first | refine go_ ?_ | intro _)
    refine ⟨(z + 1, sizeLi x c), ?_, ?_, weak_of ?_ rfl ?_⟩
    · exact Nat.sub_lt_sub_left hlt (Nat.lt_succ_self z)
    · exact ⟨hlt, i2, hb.1, by show ((z + 1 : Nat) : Int) + sizeLi x c ≤ 100000; omega⟩
    · repeat (first | exact trivial | refine ⟨(AVle.eq (congrArg (AV.int .i64) (e).symm)), ?_⟩ | refine env_ ?_)
    · refine SW.le ?_
      repeat (first | exact SW.nil | refine sw_ ?_)
  have hx1 := h
  have hbx := sizeT_le x.x _ hx1
  have kt := fun R => size_ok (SizeOf.sizeOf x.x) x.x (Nat.le_refl _) (sizeA x.a (c - 1)) R hx1 (by omega)
  repeat (first | refine go_ ?_ | intro _)
  refine at_map (z) (by first | rfl | omega | (rw [wrap_i64 (by omega)]; omega)) (by first | assumption | omega) ?_
  rw [← hx]
  repeat (first | refine go_ ?_ | intro _)
  refine Or.inl ⟨⟨_, Tryz.func45, rfl, rfl⟩, ACall.mono ?_ (kt _)⟩
  rintro _ S1 ⟨rfl, hS1⟩
  subst S1
  repeat (first | refine go_ ?_ | intro _)
  refine AW_iff (0 ≤ sizeT x.x (sizeA x.a (c - 1))) rfl (by first | (simp; done) | (simp <;> omega) | decide) (fun h => ?_) (fun h => ?_)
  rotate_left
  · have e : sizeLi x c = sizeT x.x (sizeA x.a (c - 1)) := by unfold sizeLi; simp only []; rw [if_pos hx1, if_neg h]
    repeat (first | refine go_ ?_ | intro _)
    refine ⟨(z + 1, sizeLi x c), ?_, ?_, weak_of ?_ rfl ?_⟩
    · exact Nat.sub_lt_sub_left hlt (Nat.lt_succ_self z)
    · exact ⟨hlt, i2, hb.1, by show ((z + 1 : Nat) : Int) + sizeLi x c ≤ 100000; omega⟩
    · repeat (first | exact trivial | refine ⟨(AVle.eq (congrArg (AV.int .i64) (e).symm)), ?_⟩ | refine env_ ?_)
    · refine SW.le ?_
      repeat (first | exact SW.nil | refine sw_ ?_)
  have hx2 := h
  have ku := fun R => size_ok (SizeOf.sizeOf x.y) x.y (Nat.le_refl _) (sizeT x.x (sizeA x.a (c - 1))) R hx2 (by omega)
  have e : sizeLi x c = sizeT x.y (sizeT x.x (sizeA x.a (c - 1))) := by unfold sizeLi; simp only []; rw [if_pos hx1, if_pos hx2]
  repeat (first | refine go_ ?_ | intro _)
  refine at_map (z) (by first | rfl | omega | (rw [wrap_i64 (by omega)]; omega)) (by first | assumption | omega) ?_
  rw [← hx]
  repeat (first | refine go_ ?_ | intro _)
  refine Or.inl ⟨⟨_, Tryz.func45, rfl, rfl⟩, ACall.mono ?_ (ku _)⟩
  rintro _ S1 ⟨rfl, hS1⟩
  subst S1
  repeat (first | refine go_ ?_ | intro _)
  refine ⟨(z + 1, sizeLi x c), ?_, ?_, weak_of ?_ rfl ?_⟩
  · exact Nat.sub_lt_sub_left hlt (Nat.lt_succ_self z)
  · exact ⟨hlt, i2, hb.1, by show ((z + 1 : Nat) : Int) + sizeLi x c ≤ 100000; omega⟩
  · repeat (first | exact trivial | refine ⟨(AVle.eq (congrArg (AV.int .i64) (e).symm)), ?_⟩ | refine env_ ?_)
  · refine SW.le ?_
    repeat (first | exact SW.nil | refine sw_ ?_)
end Go.Proofs.YtgkjbpnmeeibbaaGreatDoor.Tree
/-
  Is a program small? Own work.
-/
namespace Go.Proofs.YtgkjbpnmeeibbaaGreatDoor.Tree
open Go.Aw Go.RowKit
set_option maxHeartbeats 4000000
set_option maxRecDepth 4000

def okP (p : Pr) : Prop := p.decls.length ≤ 9223372036854775807 ∧ ∀ d ∈ p.decls, d.names.length ≤ 9223372036854775807 ∧ d.types.length ≤ 9223372036854775807
def longD (d : De) : Bool := decide (1000 < d.rel.length) || d.names.any fun x => decide (1000 < x.length)
def smallB (p : Pr) : Bool := !p.decls.any longD && (decide (0 ≤ sizeRs p.rules 2000) && (decide (p.decls.length ≤ 100) && decide (p.rules.length ≤ 300)))
def smallI (p : Pr) : Int := if smallB p = true then 1 else 0

theorem small_ok (p : Pr) (R : List En) (hp : okP p) : ACall Tryz.prog 11 [encP p] R (fun v S => v = .int .i64 (smallI p) ∧ S = R) := by
  obtain ⟨hp1, hp2⟩ := hp
  refine ACall_body tab_ok Tryz.func11 rfl rfl rfl (by kernel_rfl) (Nat.le_of_ble_eq_true rfl) ?_
  repeat (first | refine go_ ?_ | intro _)
  rename_i q
  refine AW_for (α := Nat) (fun z => ⟨[(1, .ptr q 0), (3, .int .i64 2000), (4, .int .i64 (z : Nat))], []⟩) (fun z => .cells q [.sl 6 (p.decls.map encD) .no, .sl 4 (p.rules.map encRu) .no] :: R) (fun z => p.decls.length - z) (fun z => z ≤ p.decls.length ∧ ∀ (i : Nat) (hi : i < p.decls.length), i < z → longD p.decls[i] = false) (0) ?_ (weak_of ?_ rfl ?_) (fun z hz => ?_)
  · exact ⟨by omega, fun i _ h => by omega⟩
  · repeat (first | exact trivial | refine env_ ?_)
  · repeat (first | exact SLe.rfl | refine SLe.tail ?_ | refine SLe.full ?_)
  obtain ⟨i1, i2⟩ := hz
  repeat (first | refine go_ ?_ | intro _)
  refine AW_iff (z < p.decls.length) rfl (by first | (simp; done) | (simp <;> omega) | decide) (fun h => ?_) (fun h => ?_)
  · have hlt := h
    obtain ⟨d, hd⟩ : ∃ x, x = p.decls[z] := ⟨_, rfl⟩
    have hdl := (hp2 d (hd ▸ List.getElem_mem hlt)).1
    have kl := fun R => long_ok d.names R hdl
    have bad : longD d = true → smallI p = 0 := fun hb => by
      have : p.decls.any longD = true := List.any_eq_true.2 ⟨_, List.getElem_mem hlt, by rw [← hd]; exact hb⟩
      rw [smallI, smallB, this]; rfl
    repeat (first | refine go_ ?_ | intro _)
    refine at_map (z) (by first | rfl | omega | (rw [wrap_i64 (by omega)]; omega)) (by first | assumption | omega) ?_
    rw [← hd]
    repeat (first | refine go_ ?_ | intro _)
    refine gsplit (1000 < d.rel.length) (by first | (simp; done) | (simp <;> omega) | decide) (fun h => ?_) (fun h => ?_)
    · repeat (first | refine ga_ ?_ | intro _)
      refine AW_ret ?_
      repeat refine mk_ ?_
      refine ⟨_, R, AVle.eq ?_, sle_, rfl, rfl⟩
      rw [bad (by rw [longD, decide_eq_true h]; rfl)]; rfl
    have h1 := h
    repeat (first | refine ga_ ?_ | intro _)
    refine at_map (z) (by first | rfl | omega | (rw [wrap_i64 (by omega)]; omega)) (by first | assumption | omega) ?_
    rw [← hd]
    repeat (first | refine go_ ?_ | intro _)
    refine Or.inl ⟨⟨_, Tryz.func24, rfl, rfl⟩, ACall.mono ?_ (kl _)⟩
    rintro _ S1 ⟨rfl, hS1⟩
    subst S1
    repeat (first | refine go_ ?_ | intro _)
    refine AW_cond (b := d.names.any fun x => decide (1000 < x.length)) rfl (fun h => ?_) (fun h => ?_)
    · repeat (first | refine go_ ?_ | intro _)
      refine AW_ret ?_
      repeat refine mk_ ?_
      refine ⟨_, R, AVle.eq ?_, sle_, rfl, rfl⟩
      rw [bad (by rw [longD, h]; simp)]; rfl
    · have h2 := h
      repeat (first | refine go_ ?_ | intro _)
      refine ⟨z + 1, ?_, ?_, weak_of ?_ rfl ?_⟩
      · omega
      · refine ⟨by omega, fun i hi hiz => ?_⟩
        by_cases hc : i < z
        · exact i2 i hi hc
        · obtain rfl : i = z := by omega
          rw [← hd, longD, h2, decide_eq_false h1]; rfl
      · repeat (first | exact trivial | refine env_ ?_)
      · repeat (first | exact SLe.rfl | refine SLe.tail ?_ | refine SLe.full ?_)
  have hld : p.decls.any longD = false := by
    rw [List.any_eq_false]
    intro x hx
    obtain ⟨i, hi, rfl⟩ := List.mem_iff_getElem.1 hx
    simpa using i2 i hi (by omega)
  clear i1 i2
  repeat (first | refine go_ ?_ | intro _)
  refine AW_for (α := Nat × Int) (fun z => ⟨[(1, .ptr q 0), (3, .int .i64 z.2), (5, .int .i64 (z.1 : Nat))], []⟩) (fun z => .cells q [.sl 6 (p.decls.map encD) .no, .sl 4 (p.rules.map encRu) .no] :: R) (fun z => p.rules.length - z.1) (fun z => z.1 ≤ p.rules.length ∧ sizeRs p.rules 2000 = sizeRs (p.rules.drop z.1) z.2 ∧ -1 ≤ z.2 ∧ (z.1 : Int) + z.2 ≤ 100000) ((0, 2000)) ?_ (weak_of ?_ rfl ?_) (fun z hz => ?_)
  · exact ⟨by omega, rfl, by show (-1 : Int) ≤ 2000; omega, by show ((0 : Nat) : Int) + 2000 ≤ 100000; omega⟩
  · repeat (first | exact trivial | refine env_ ?_)
  · repeat (first | exact SLe.rfl | refine SLe.tail ?_ | refine SLe.full ?_)
  obtain ⟨z, c⟩ := z
  obtain ⟨i1, i2, i3, i4⟩ : z ≤ p.rules.length ∧ sizeRs p.rules 2000 = sizeRs (p.rules.drop z) c ∧ -1 ≤ c ∧ (z : Int) + c ≤ 100000 := hz
  repeat (first | refine go_ ?_ | intro _)
  refine gsplit (z < p.rules.length) (by first | (simp; done) | (simp <;> omega) | decide) (fun h => ?_) (fun h => ?_)
  · have hlt := h
    have hd : p.rules.drop z = p.rules[z] :: p.rules.drop (z + 1) := (List.getElem_cons_drop hlt).symm
    repeat (first | refine go_ ?_ | intro _)
    refine AW_iff (0 ≤ c) rfl (by first | (simp; done) | (simp <;> omega) | decide) (fun h => ?_) (fun h => ?_)
    · have h0 := h
      obtain ⟨x, hx⟩ : ∃ x, x = p.rules[z] := ⟨_, rfl⟩
      rw [hd, sizeRs, if_pos h0, ← hx] at i2
      have hb := sizeR_le x c h0
      have kx := fun R => sizeR_ok x c R h0 (by omega)
      repeat (first | refine go_ ?_ | intro _)
      refine at_map (z) (by first | rfl | omega | (rw [wrap_i64 (by omega)]; omega)) (by first | assumption | omega) ?_
      rw [← hx]
      repeat (first | refine go_ ?_ | intro _)
      refine Or.inl ⟨⟨_, Tryz.func25, rfl, rfl⟩, ACall.mono ?_ (kx _)⟩
      rintro _ S1 ⟨rfl, hS1⟩
      subst S1
      repeat (first | refine go_ ?_ | intro _)
      refine ⟨(z + 1, sizeR x c), ?_, ?_, weak_of ?_ rfl ?_⟩
      · exact Nat.sub_lt_sub_left hlt (Nat.lt_succ_self z)
      · exact ⟨hlt, i2, hb.1, by show ((z + 1 : Nat) : Int) + sizeR x c ≤ 100000; omega⟩
      · repeat (first | exact trivial | refine env_ ?_)
      · refine SW.le ?_
        repeat (first | exact SW.nil | refine sw_ ?_)
    · have e : sizeRs p.rules 2000 = c := by rw [i2, sizeRs_neg (by omega)]
      have e2 : smallI p = 0 := by rw [smallI, smallB, e, decide_eq_false h]; simp
      repeat (first | refine go_ ?_ | intro _)
      refine gsplit (c < 0) (by first | (simp; done) | (simp <;> omega) | decide) (fun h => ?_) (fun h => ?_)
      · repeat (first | refine ga_ ?_ | intro _)
        refine AW_ret ?_
        repeat refine mk_ ?_
        refine ⟨_, R, AVle.eq ?_, sle_, rfl, rfl⟩
        rw [e2]; rfl
      · omega
  · have e : sizeRs p.rules 2000 = c := by rw [i2, List.drop_of_length_le (by omega)]; rfl
    repeat (first | refine ga_ ?_ | intro _)
    refine gsplit (c < 0) (by first | (simp; done) | (simp <;> omega) | decide) (fun h => ?_) (fun h => ?_)
    · have e2 : smallI p = 0 := by rw [smallI, smallB, e, decide_eq_false (show ¬ 0 ≤ c by omega)]; simp
      repeat (first | refine ga_ ?_ | intro _)
      refine AW_ret ?_
      repeat refine mk_ ?_
      refine ⟨_, R, AVle.eq ?_, sle_, rfl, rfl⟩
      rw [e2]; rfl
    have h0 : 0 ≤ c := by omega
    repeat (first | refine ga_ ?_ | intro _)
    refine gsplit (100 < p.decls.length) (by first | (simp; done) | (simp <;> omega) | decide) (fun h => ?_) (fun h => ?_)
    · have e2 : smallI p = 0 := by rw [smallI, smallB, decide_eq_false (show ¬ p.decls.length ≤ 100 by omega)]; simp
      repeat (first | refine ga_ ?_ | intro _)
      refine AW_ret ?_
      repeat refine mk_ ?_
      refine ⟨_, R, AVle.eq ?_, sle_, rfl, rfl⟩
      rw [e2]; rfl
    have h1 : p.decls.length ≤ 100 := by omega
    repeat (first | refine ga_ ?_ | intro _)
    refine AW_iff (300 < p.rules.length) rfl (by first | (simp; done) | (simp <;> omega) | decide) (fun h => ?_) (fun h => ?_)
    · have e2 : smallI p = 0 := by rw [smallI, smallB, decide_eq_false (show ¬ p.rules.length ≤ 300 by omega)]; simp
      repeat (first | refine ga_ ?_ | intro _)
      refine AW_ret ?_
      repeat refine mk_ ?_
      refine ⟨_, R, AVle.eq ?_, sle_, rfl, rfl⟩
      rw [e2]; rfl
    have e2 : smallI p = 1 := by rw [smallI, smallB, e, decide_eq_true h0, decide_eq_true h1, decide_eq_true (show p.rules.length ≤ 300 by omega), hld]; rfl
    repeat (first | refine go_ ?_ | intro _)
    refine AW_ret ?_
    repeat refine mk_ ?_
    refine ⟨_, R, AVle.eq ?_, sle_, rfl, rfl⟩
    rw [e2]; rfl
end Go.Proofs.YtgkjbpnmeeibbaaGreatDoor.Tree
/-
  What is small has few terms: plain (lines of dtree's texts, without those on texts). Own work.
-/
namespace Go.Proofs.YtgkjbpnmeeibbaaGreatDoor.Tree
open Go.Aw Go.RowKit

mutual
def okT : T → Prop
  | .mk _ s n l => inR64 n ∧ s.length ≤ 1000 ∧ okTs l
def okTs : List T → Prop
  | [] => True
  | t :: r => okT t ∧ okTs r
end
mutual
def cntT : T → Nat
  | .mk _ _ _ l => cntTs l + 1
def cntTs : List T → Nat
  | [] => 0
  | t :: r => cntT t + cntTs r
end
/-! ### the numbers are in range -/
mutual
def nT : T → Prop
  | .mk _ _ n l => inR64 n ∧ nTs l
def nTs : List T → Prop
  | [] => True
  | t :: r => nT t ∧ nTs r
end
def nL (l : Li) : Prop := nTs l.a.l ∧ nT l.x ∧ nT l.y
def nR (r : Ru) : Prop := nTs r.head.l ∧ ∀ l ∈ r.body, nL l
def nP (p : Pr) : Prop := ∀ r ∈ p.rules, nR r
theorem flat_cons (a : AV) (l : List AV) : flat (a :: l) = a.cells ++ flat l := by simp [Aw.flat]
mutual
theorem nT_of : ∀ t : T, (∀ c ∈ cT t, Sat c) → nT t
  | .mk op s n l, h => by
    rw [nT]
    refine ⟨i64_of (h (.int .i64 n) (by simp [cT, T.n])).int, nTs_of l fun c hc => ?_⟩
    exact (h (.sl 4 (encTs l) .no) (by simp [cT, T.l])).flat hc
theorem nTs_of : ∀ l : List T, (∀ c ∈ flat (encTs l), Sat c) → nTs l
  | [], _ => by rw [nTs]; trivial
  | t :: r, h => by
    rw [encTs, encT_eq, flat_cons] at h
    rw [nTs]
    exact ⟨nT_of t fun c hc => h c (List.mem_append_left _ hc), nTs_of r fun c hc => h c (List.mem_append_right _ hc)⟩
end
theorem flat_mem {α : Type} {f : α → AV} {l : List α} {x : α} (hx : x ∈ l) {c : AV} (hc : c ∈ (f x).cells) : c ∈ flat (l.map f) :=
  List.mem_flatMap.2 ⟨f x, List.mem_map.2 ⟨x, hx, rfl⟩, hc⟩
theorem nL_of (l : Li) (h : ∀ c ∈ cL l, Sat c) : nL l := by
  refine ⟨nTs_of _ fun c hc => (h (.sl 4 (encTs l.a.l) .no) (by simp [cL])).flat hc, nT_of _ fun c hc => h c ?_, nT_of _ fun c hc => h c ?_⟩
  · simp only [cT, cL, List.mem_cons, List.not_mem_nil, or_false] at hc ⊢
    rcases hc with h | h | h | h <;> simp [h]
  · simp only [cT, cL, List.mem_cons, List.not_mem_nil, or_false] at hc ⊢
    rcases hc with h | h | h | h <;> simp [h]
theorem nR_of (r : Ru) (h : ∀ c ∈ cRu r, Sat c) : nR r := by
  refine ⟨nTs_of _ fun c hc => (h (.sl 4 (encTs r.head.l) .no) (by simp [cRu])).flat hc, fun l hl => nL_of l fun c hc => ?_⟩
  exact (h (.sl 11 (r.body.map encL) .no) (by simp [cRu])).flat (flat_mem hl hc)
theorem nP_of (p : Pr) (h : Sat (encP p)) : nP p := fun r hr => nR_of r fun c hc =>
  (h.agg (c := .sl 4 (p.rules.map encRu) .no) (by simp)).flat (flat_mem hr hc)
theorem okP_of (p : Pr) (h : Sat (encP p)) : okP p := by
  refine ⟨by have := (h.agg (c := .sl 6 (p.decls.map encD) .no) (by simp)).sl; simpa using this, fun d hd => ?_⟩
  have hc : ∀ c ∈ cD d, Sat c := fun c hc => (h.agg (c := .sl 6 (p.decls.map encD) .no) (by simp)).flat (flat_mem hd hc)
  have h1 := (hc (.sl 1 (d.names.map AV.str) .no) (by simp [cD])).sl
  have h2 := (hc (.sl 1 (d.types.map encI) .no) (by simp [cD])).sl
  exact ⟨by simpa using h1, by simpa using h2⟩

/-! ### what is small has few terms, and short texts -/
def okA (a : At) : Prop := okTs a.l ∧ a.rel.length ≤ 1000
def okL (l : Li) : Prop := okA l.a ∧ okT l.x ∧ okT l.y
def okRu (r : Ru) : Prop := okA r.head ∧ ∀ l ∈ r.body, okL l
def cntL (l : Li) : Nat := cntTs l.a.l + cntT l.x + cntT l.y + 1
def cntLs : List Li → Nat
  | [] => 0
  | l :: r => cntL l + cntLs r
def cntR (r : Ru) : Nat := cntTs r.head.l + cntLs r.body + 1
def cntRs : List Ru → Nat
  | [] => 0
  | l :: r => cntR l + cntRs r
mutual
theorem sizeT_cnt : ∀ (t : T) (k : Int), 0 ≤ k → 0 ≤ sizeT t k → nT t → okT t ∧ (cntT t : Int) + sizeT t k = k
  | .mk op s n l, k, h0, h, hn => by
    rw [sizeT] at h ⊢
    rw [nT] at hn
    rw [okT, cntT]
    by_cases hs : 1000 < s.length
    · rw [if_pos hs] at h; omega
    · rw [if_neg hs] at h ⊢
      have := sizeTs_cnt l (k - 1) h hn.2
      exact ⟨⟨hn.1, by omega, this.1⟩, by omega⟩
theorem sizeTs_cnt : ∀ (l : List T) (k : Int), 0 ≤ sizeTs l k → nTs l → okTs l ∧ (cntTs l : Int) + sizeTs l k = k
  | [], k, h, _ => by rw [sizeTs, okTs, cntTs]; exact ⟨trivial, by simp⟩
  | t :: r, k, h, hn => by
    rw [sizeTs] at h ⊢
    rw [nTs] at hn
    rw [okTs, cntTs]
    by_cases hk : 0 ≤ k
    · rw [if_pos hk] at h ⊢
      have h2 := sizeTs_cnt r (sizeT t k) h hn.2
      have h1 := sizeT_cnt t k hk (by omega) hn.1
      exact ⟨⟨h1.1, h2.1⟩, by omega⟩
    · rw [if_neg hk] at h; omega
end
theorem sizeA_cnt (a : At) (k : Int) (h : 0 ≤ sizeA a k) (hn : nTs a.l) : okA a ∧ (cntTs a.l : Int) + sizeA a k = k := by
  unfold sizeA at h ⊢
  by_cases hs : 1000 < a.rel.length
  · rw [if_pos hs] at h; omega
  · rw [if_neg hs] at h ⊢
    have := sizeTs_cnt a.l k h hn
    exact ⟨⟨this.1, by omega⟩, this.2⟩
theorem sizeLi_cnt (l : Li) (k : Int) (h : 0 ≤ sizeLi l k) (hn : nL l) : okL l ∧ (cntL l : Int) + sizeLi l k = k := by
  unfold sizeLi at h ⊢
  simp only [] at h ⊢
  by_cases ha : 0 ≤ sizeA l.a (k - 1)
  · rw [if_pos ha] at h ⊢
    by_cases hb : 0 ≤ sizeT l.x (sizeA l.a (k - 1))
    · rw [if_pos hb] at h ⊢
      have h1 := sizeA_cnt l.a (k - 1) ha hn.1
      have h2 := sizeT_cnt l.x _ ha hb hn.2.1
      have h3 := sizeT_cnt l.y _ hb h hn.2.2
      exact ⟨⟨h1.1, h2.1, h3.1⟩, by unfold cntL; omega⟩
    · rw [if_neg hb] at h; omega
  · rw [if_neg ha, if_neg ha] at h; omega
theorem sizeLs_cnt : ∀ (l : List Li) (k : Int), 0 ≤ sizeLs l k → (∀ x ∈ l, nL x) → (∀ x ∈ l, okL x) ∧ (cntLs l : Int) + sizeLs l k = k
  | [], k, h, _ => by rw [sizeLs, cntLs]; exact ⟨by simp, by simp⟩
  | t :: r, k, h, hn => by
    rw [sizeLs] at h ⊢
    rw [cntLs]
    by_cases hk : 0 ≤ k
    · rw [if_pos hk] at h ⊢
      have h2 := sizeLs_cnt r (sizeLi t k) h fun x hx => hn x (.tail _ hx)
      have h1 := sizeLi_cnt t k (by omega) (hn t (.head _))
      refine ⟨fun x hx => ?_, by omega⟩
      rcases List.mem_cons.1 hx with rfl | hx
      · exact h1.1
      · exact h2.1 x hx
    · rw [if_neg hk] at h; omega
theorem sizeR_cnt (r : Ru) (k : Int) (h : 0 ≤ sizeR r k) (hn : nR r) : okRu r ∧ (cntR r : Int) + sizeR r k = k := by
  unfold sizeR at h ⊢
  have h2 := sizeLs_cnt r.body _ h hn.2
  have h1 := sizeA_cnt r.head (k - 1) (by omega) hn.1
  exact ⟨⟨h1.1, h2.1⟩, by unfold cntR; omega⟩
theorem sizeRs_cnt : ∀ (l : List Ru) (k : Int), 0 ≤ sizeRs l k → (∀ x ∈ l, nR x) → (∀ x ∈ l, okRu x) ∧ (cntRs l : Int) + sizeRs l k = k
  | [], k, h, _ => by rw [sizeRs, cntRs]; exact ⟨by simp, by simp⟩
  | t :: r, k, h, hn => by
    rw [sizeRs] at h ⊢
    rw [cntRs]
    by_cases hk : 0 ≤ k
    · rw [if_pos hk] at h ⊢
      have h2 := sizeRs_cnt r (sizeR t k) h fun x hx => hn x (.tail _ hx)
      have h1 := sizeR_cnt t k (by omega) (hn t (.head _))
      refine ⟨fun x hx => ?_, by omega⟩
      rcases List.mem_cons.1 hx with rfl | hx
      · exact h1.1
      · exact h2.1 x hx
    · rw [if_neg hk] at h; omega
def okDe (d : De) : Prop := d.rel.length ≤ 1000 ∧ ∀ x ∈ d.names, x.length ≤ 1000
theorem small_cnt {p : Pr} (h : smallB p = true) (hn : nP p) : (∀ d ∈ p.decls, okDe d) ∧ (∀ r ∈ p.rules, okRu r) ∧ cntRs p.rules ≤ 2000 ∧ p.decls.length ≤ 100 ∧ p.rules.length ≤ 300 := by
  unfold smallB at h
  simp only [Bool.and_eq_true, Bool.not_eq_true', decide_eq_true_eq] at h
  obtain ⟨h1, h2, h3, h4⟩ := h
  have h5 := sizeRs_cnt p.rules 2000 h2 hn
  refine ⟨fun d hd => ?_, h5.1, by omega, h3, h4⟩
  have := List.any_eq_false.1 h1 d hd
  unfold longD at this
  simp only [Bool.or_eq_true, decide_eq_true_eq, List.any_eq_true, not_or, not_exists, not_and, Nat.not_lt] at this
  exact ⟨this.1, this.2⟩
theorem cntRs_at {r : Ru} : ∀ {l : List Ru}, r ∈ l → cntR r ≤ cntRs l
  | x :: l, h => by
    rw [cntRs]
    rcases List.mem_cons.1 h with rfl | h
    · omega
    · have := cntRs_at h; omega
theorem cnt_pos : ∀ t : T, 1 ≤ cntT t
  | .mk _ _ _ l => by rw [cntT]; omega
theorem len_cnt : ∀ l : List T, l.length ≤ cntTs l
  | [] => by simp
  | t :: r => by have := len_cnt r; have := cnt_pos t; rw [cntTs]; simp; omega
end Go.Proofs.YtgkjbpnmeeibbaaGreatDoor.Tree
/-
  What is small; how many rows there are, and how long: plain. Own work.
-/
namespace Go.Proofs.YtgkjbpnmeeibbaaGreatDoor
open Go.Aw Go.RowKit Tree
open Rel (V encV encR foldPut Cl cleanV cleanR riseB)

theorem lens_cnt : ∀ l : List Li, l.length ≤ cntLs l
  | [] => by simp
  | t :: r => by have := lens_cnt r; rw [cntLs]; simp only [List.length_cons, cntL]; omega
theorem okR_of {r : Ru} (hc : cntR r ≤ 3000) : okR r := by
  have h1 := len_cnt r.head.l
  have h2 := lens_cnt r.body
  unfold cntR at hc
  exact ⟨by omega, by omega⟩
theorem small_R {p : Pr} (hb : smallB p = true) (hn : nP p) : ∀ r ∈ p.rules, okR r := fun r hr => by
  obtain ⟨_, _, h3, _, _⟩ := small_cnt hb hn
  exact okR_of (by have := cntRs_at hr; omega)
theorem smallI_0 {p : Pr} (h : smallB p = false) : smallI p = 0 := by rw [smallI, if_neg (by rw [h]; simp)]
theorem smallI_1 {p : Pr} (h : smallB p = true) : smallI p = 1 := by rw [smallI, if_pos h]
theorem right_D {p : Pr} (h : rightP p = true) : p.decls.length ≤ 60 ∧ ∀ d ∈ p.decls, d.types.length ≤ 8 ∧ ∀ b ∈ d.rel, 32 ≤ b.toNat := by
  rw [rightP] at h
  simp only [Bool.and_eq_true, Bool.not_eq_true', decide_eq_false_iff_not, List.all_eq_true] at h
  obtain ⟨h1, _, h3, _⟩ := h
  refine ⟨by omega, fun d hd => ?_⟩
  have := h3 d hd
  rw [rightD] at this
  simp only [Bool.and_eq_true, Bool.not_eq_true', decide_eq_false_iff_not, decide_eq_true_eq] at this
  obtain ⟨k1, _, k3, k4, _⟩ := this
  exact ⟨by omega, nameB_ge k1⟩
theorem valsL_len : ∀ (ss : List (List UInt8)) (ks : List Int), (valsL ss ks).1.length ≤ ks.length
  | [], _ => by simp [valsL]
  | _ :: _, [] => by simp [valsL]
  | s :: ss, k :: ks => by
    have := valsL_len ss ks
    rw [valsL]
    split
    · split
      · simp only [List.length_cons]; omega
      · simp
    · simp
theorem rowL_len {p : Pr} (hD : ∀ d ∈ p.decls, d.types.length ≤ 1000) (s : List UInt8) : (rowL p s).2.1.length ≤ 1000 := by
  cases hf : p.decls.findIdx? (namedB ((splitC 9 s).headD [])) with
  | none => rw [rowL_none hf]; simp
  | some n =>
    obtain ⟨hn, _, _⟩ := List.findIdx?_eq_some_iff_getElem.1 hf
    rw [rowL_some hf (List.getElem?_eq_getElem hn)]
    split
    · split
      · split
        · exact Nat.le_trans (valsL_len _ _) (hD _ (List.getElem_mem hn))
        · simp
      · simp
    · simp
theorem fold_rows {p : Pr} (hD : ∀ d ∈ p.decls, d.types.length ≤ 1000) : ∀ (xs : List (List UInt8 × Bool)) (o : Rows) (n : Nat), (∀ l ∈ o, l.length ≤ n ∧ ∀ r ∈ l, r.length ≤ 1000) → ∀ l ∈ xs.foldl (addX p) o, l.length ≤ n + xs.length ∧ ∀ r ∈ l, r.length ≤ 1000
  | [], o, n, h => h
  | x :: xs, o, n, h => by
    intro l hl
    rw [List.foldl_cons] at hl
    have := fold_rows hD xs (addX p o x) (n + 1) (fun l hl => by
      rw [addX, putX] at hl
      rcases List.mem_or_eq_of_mem_set hl with hl | rfl
      · exact ⟨by have := (h l hl).1; omega, (h l hl).2⟩
      · have hx := rowL_len hD x.1
        cases hg : o[(rowL p x.1).1]? with
        | none =>
          refine ⟨by simp, fun r hr => ?_⟩
          simp only [Option.getD_none, List.nil_append, List.mem_singleton] at hr
          rw [hr]; exact hx
        | some y =>
          have hy := h y (List.mem_of_getElem? hg)
          refine ⟨by simp only [Option.getD_some, List.length_append, List.length_cons, List.length_nil]; omega, fun r hr => ?_⟩
          simp only [Option.getD_some, List.mem_append, List.mem_singleton] at hr
          rcases hr with hr | hr
          · exact hy.2 r hr
          · rw [hr]; exact hx) l hl
    simp only [List.length_cons]
    exact ⟨by omega, this.2⟩
theorem outX_rows {p : Pr} (hD : ∀ d ∈ p.decls, d.types.length ≤ 1000) (xs : List (List UInt8 × Bool)) : ∀ l ∈ outX p xs, l.length ≤ xs.length ∧ ∀ r ∈ l, r.length ≤ 1000 := fun l hl => by
  have := fold_rows hD xs (List.replicate p.decls.length []) 0 (fun l hl => by
    rw [(List.mem_replicate.1 hl).2]; exact ⟨by simp, fun r hr => by cases hr⟩) l hl
  exact ⟨by omega, this.2⟩
end Go.Proofs.YtgkjbpnmeeibbaaGreatDoor
