/-
 How many terms and parts: the law's own measure. Own work.
-/
import Derived.Test.YtfeknkaioofljaaGreatDoorQ9
import Derived.Test.YtfeknkaioofljaaGreatDoorQ2
import Derived.Test.YtfeknkaioofljaaGreatDoorQ10
set_option linter.all false
set_option maxHeartbeats 4000000
set_option maxRecDepth 4000
namespace Go.Proofs.YtfeknkaioofljaaGreatDoor.Tree
open Go.Aw Go.RowKit
mutual
def sizeT : T → Int → Int
 | .mk _ s _ l,k => if 1000 < s.length then -1 else sizeTs l (k - 1)
def sizeTs : List T → Int → Int
 | [],k => k
 | t :: r,k => if 0 ≤ k then sizeTs r (sizeT t k) else k
end
theorem sizeT_eq (t : T) (k : Int) : sizeT t k = if 1000 < t.s.length then -1 else sizeTs t.l (k - 1) := by cases t; rfl
mutual
theorem sizeT_le : ∀ (t : T) (k : Int),0 ≤ k → -1 ≤ sizeT t k ∧ sizeT t k ≤ k - 1
 | .mk _ s _ l,k,h => by
  rw [sizeT]
  split
  ·omega
  ·exact sizeTs_le l (k - 1) (by omega)
theorem sizeTs_le : ∀ (l : List T) (k : Int), -1 ≤ k → -1 ≤ sizeTs l k ∧ sizeTs l k ≤ k
 | [],k,h => by rw [sizeTs]; omega
 | t :: r,k,h => by
  rw [sizeTs]
  split
  ·rename_i h0
   have h1 := sizeT_le t k h0
   have h2 := sizeTs_le r (sizeT t k) h1.1
   omega
  ·omega
end
theorem sizeTs_neg {l : List T} {k : Int} (h : k < 0) : sizeTs l k = k := by
 cases l with
 | nil => rfl
 | cons t r => rw [sizeTs,if_neg (by omega)]
theorem size_ok : ∀ (n : Nat) (t : T),SizeOf.sizeOf t ≤ n → ∀ (k : Int) (R : List En),0 ≤ k → k ≤ 100000 → ACall Tryz.prog 67 [encU t, .int .i64 k] R (fun r S => r = .int .i64 (sizeT t k) ∧ S = R)
 | 0,t,hn,k,R,_,_ => by cases t; simp at hn
 | n + 1,t,hn,k,R,h1,h2 => by
  have hs : ∀ x ∈ t.l,SizeOf.sizeOf x ≤ n := fun x hx => by
   cases t with
   | mk a b c l =>
    have := List.sizeOf_lt_of_mem (show x ∈ l from hx)
    simp at hn; omega
  have hw : IntKind.i64.wrap (k - 1) = k - 1 := wrap_i64 (by omega)
  refine ACall_body tab_ok Tryz.func67 rfl rfl rfl (by kernel_rfl) (Nat.le_of_ble_eq_true rfl) ?_
  repeat (first | refine go_ ?_ | intro _)
  rename_i p
  refine AW_iff (1000 < t.s.length) rfl (by first | (simp; done) | (simp <;> omega) | decide) (fun h => ?_) (fun h => ?_)
  ·repeat (first | refine go_ ?_ | intro _)
   refine AW_ret ?_
   repeat refine mk_ ?_
   refine ⟨_,R,AVle.eq ?_,sle_,rfl,rfl⟩
   rw [sizeT_eq,if_pos h]; rfl
  have he : sizeT t k = sizeTs t.l (k - 1) := by rw [sizeT_eq,if_neg h]
  repeat (first | refine go_ ?_ | intro _)
  refine AW_for (α := Nat × Int) (fun z => ⟨[(1, .int .i64 z.2),(2, .ptr p 0),(5, .int .i64 (z.1 : Nat))], []⟩) (fun z => .cells p (cT t) :: R) (fun z => t.l.length - z.1) (fun z => z.1 ≤ t.l.length ∧ sizeTs t.l (k - 1) = sizeTs (t.l.drop z.1) z.2 ∧ -1 ≤ z.2 ∧ (z.1 : Int) + z.2 ≤ 100000) ((0,(k - 1))) ?_ (weak_of ?_ rfl ?_) (fun z hz => ?_)
  ·refine ⟨by omega,rfl,?_,?_⟩
   ·show -1 ≤ (k - 1); omega
   ·show ((0 : Nat) : Int) + ((k - 1)) ≤ 100000; omega
  ·repeat (first | exact trivial | refine ⟨(AVle.eq (congrArg (AV.int .i64) hw)),?_⟩ | refine env_ ?_)
  ·repeat (first | exact SLe.rfl | refine SLe.tail ?_ | refine SLe.full ?_)
  obtain ⟨z,c⟩ := z
  obtain ⟨i1,i2,i3,i4⟩ : z ≤ t.l.length ∧ sizeTs t.l (k - 1) = sizeTs (t.l.drop z) c ∧ -1 ≤ c ∧ (z : Int) + c ≤ 100000 := hz
  repeat (first | refine go_ ?_ | intro _)
  refine gsplit (z < t.l.length) (by first | (simp; done) | (simp <;> omega) | decide) (fun h => ?_) (fun h => ?_)
  rotate_left
  ·have e : sizeTs t.l (k - 1) = c := by rw [i2,List.drop_of_length_le (by omega)]; rfl
   repeat (first | refine ga_ ?_ | intro _)
   refine AW_ret ?_
   repeat refine mk_ ?_
   refine ⟨_,R,AVle.eq ?_,sle_,rfl,rfl⟩
   rw [he,e]; rfl
  have hlt := h
  have hd : t.l.drop z = t.l[z] :: t.l.drop (z + 1) := (List.getElem_cons_drop hlt).symm
  repeat (first | refine go_ ?_ | intro _)
  refine AW_iff (0 ≤ c) rfl (by first | (simp; done) | (simp <;> omega) | decide) (fun h => ?_) (fun h => ?_)
  rotate_left
  ·have e : sizeTs t.l (k - 1) = c := by rw [i2,sizeTs_neg (by omega)]
   repeat (first | refine ga_ ?_ | intro _)
   refine AW_ret ?_
   repeat refine mk_ ?_
   refine ⟨_,R,AVle.eq ?_,sle_,rfl,rfl⟩
   rw [he,e]; rfl
  have h0 := h
  obtain ⟨x,hx⟩ : ∃ x,x = t.l[z] := ⟨_,rfl⟩
  rw [hd,sizeTs,if_pos h0, ← hx] at i2
  have hb := sizeT_le x c h0
  have kx := fun R => size_ok n x (hs x (hx ▸ List.getElem_mem hlt)) c R h0 (by omega)
  repeat (first | refine go_ ?_ | intro _)
  refine at_get (z) (encU x) (by first | rfl | omega | (rw [wrap_i64 (by omega)]; omega)) (by rw [hx]; exact encTs_get hlt) ?_
  repeat (first | refine go_ ?_ | intro _)
  refine Or.inl ⟨⟨_,Tryz.func67,rfl,rfl⟩,ACall.mono ?_ (kx _)⟩
  rintro _ S1 ⟨rfl,hS1⟩
  subst S1
  repeat (first | refine go_ ?_ | intro _)
  refine ⟨(z + 1,sizeT x c),?_,?_,weak_of ?_ rfl ?_⟩
  ·exact Nat.sub_lt_sub_left hlt (Nat.lt_succ_self z)
  ·exact ⟨hlt,i2,hb.1,by show ((z + 1 : Nat) : Int) + sizeT x c ≤ 100000; omega⟩
  ·repeat (first | exact trivial | refine env_ ?_)
  ·refine SW.le ?_
   repeat (first | exact SW.nil | refine sw_ ?_)
def sizeA (a : At) (k : Int) : Int := if 1000 < a.rel.length then -1 else sizeTs a.l k
theorem sizeA_ok (a : At) (k : Int) (R : List En) (h1 : -1 ≤ k) (h2 : k ≤ 100000) : ACall Tryz.prog 66 [encA a, .int .i64 k] R (fun r S => r = .int .i64 (sizeA a k) ∧ S = R) := by
 refine ACall_body tab_ok Tryz.func66 rfl rfl rfl (by kernel_rfl) (Nat.le_of_ble_eq_true rfl) ?_
 repeat (first | refine go_ ?_ | intro _)
 rename_i p
 refine AW_iff (1000 < a.rel.length) rfl (by first | (simp; done) | (simp <;> omega) | decide) (fun h => ?_) (fun h => ?_)
 ·repeat (first | refine go_ ?_ | intro _)
  refine AW_ret ?_
  repeat refine mk_ ?_
  refine ⟨_,R,AVle.eq ?_,sle_,rfl,rfl⟩
  rw [sizeA,if_pos h]; rfl
 have he : sizeA a k = sizeTs a.l k := by rw [sizeA,if_neg h]
 repeat (first | refine go_ ?_ | intro _)
 refine AW_for (α := Nat × Int) (fun z => ⟨[(1, .int .i64 z.2),(2, .ptr p 0),(5, .int .i64 (z.1 : Nat))], []⟩) (fun z => .cells p (cA a) :: R) (fun z => a.l.length - z.1) (fun z => z.1 ≤ a.l.length ∧ sizeTs a.l k = sizeTs (a.l.drop z.1) z.2 ∧ -1 ≤ z.2 ∧ (z.1 : Int) + z.2 ≤ 100000) ((0,k)) ?_ (weak_of ?_ rfl ?_) (fun z hz => ?_)
 ·refine ⟨by omega,rfl,?_,?_⟩
  ·show -1 ≤ k; omega
  ·show ((0 : Nat) : Int) + (k) ≤ 100000; omega
 ·repeat (first | exact trivial | refine ⟨(AVle.refl _),?_⟩ | refine env_ ?_)
 ·repeat (first | exact SLe.rfl | refine SLe.tail ?_ | refine SLe.full ?_)
 obtain ⟨z,c⟩ := z
 obtain ⟨i1,i2,i3,i4⟩ : z ≤ a.l.length ∧ sizeTs a.l k = sizeTs (a.l.drop z) c ∧ -1 ≤ c ∧ (z : Int) + c ≤ 100000 := hz
 repeat (first | refine go_ ?_ | intro _)
 refine gsplit (z < a.l.length) (by first | (simp; done) | (simp <;> omega) | decide) (fun h => ?_) (fun h => ?_)
 rotate_left
 ·have e : sizeTs a.l k = c := by rw [i2,List.drop_of_length_le (by omega)]; rfl
  repeat (first | refine ga_ ?_ | intro _)
  refine AW_ret ?_
  repeat refine mk_ ?_
  refine ⟨_,R,AVle.eq ?_,sle_,rfl,rfl⟩
  rw [he,e]; rfl
 have hlt := h
 have hd : a.l.drop z = a.l[z] :: a.l.drop (z + 1) := (List.getElem_cons_drop hlt).symm
 repeat (first | refine go_ ?_ | intro _)
 refine AW_iff (0 ≤ c) rfl (by first | (simp; done) | (simp <;> omega) | decide) (fun h => ?_) (fun h => ?_)
 rotate_left
 ·have e : sizeTs a.l k = c := by rw [i2,sizeTs_neg (by omega)]
  repeat (first | refine ga_ ?_ | intro _)
  refine AW_ret ?_
  repeat refine mk_ ?_
  refine ⟨_,R,AVle.eq ?_,sle_,rfl,rfl⟩
  rw [he,e]; rfl
 have h0 := h
 obtain ⟨x,hx⟩ : ∃ x,x = a.l[z] := ⟨_,rfl⟩
 rw [hd,sizeTs,if_pos h0, ← hx] at i2
 have hb := sizeT_le x c h0
 have kx := fun R => size_ok (SizeOf.sizeOf x) x (Nat.le_refl _) c R h0 (by omega)
 repeat (first | refine go_ ?_ | intro _)
 refine at_get (z) (encU x) (by first | rfl | omega | (rw [wrap_i64 (by omega)]; omega)) (by rw [hx]; exact encTs_get hlt) ?_
 repeat (first | refine go_ ?_ | intro _)
 refine Or.inl ⟨⟨_,Tryz.func67,rfl,rfl⟩,ACall.mono ?_ (kx _)⟩
 rintro _ S1 ⟨rfl,hS1⟩
 subst S1
 repeat (first | refine go_ ?_ | intro _)
 refine ⟨(z + 1,sizeT x c),?_,?_,weak_of ?_ rfl ?_⟩
 ·exact Nat.sub_lt_sub_left hlt (Nat.lt_succ_self z)
 ·exact ⟨hlt,i2,hb.1,by show ((z + 1 : Nat) : Int) + sizeT x c ≤ 100000; omega⟩
 ·repeat (first | exact trivial | refine env_ ?_)
 ·refine SW.le ?_
  repeat (first | exact SW.nil | refine sw_ ?_)
theorem sizeA_le (a : At) (k : Int) (h : -1 ≤ k) : -1 ≤ sizeA a k ∧ sizeA a k ≤ max k (-1) := by
 rw [sizeA]
 split
 ·omega
 ·have := sizeTs_le a.l k h; omega
theorem long_ok (l : List (List UInt8)) (R : List En) (hl : l.length ≤ 9223372036854775807) : ACall Tryz.prog 26 [.sl 1 (l.map AV.str) .no] R (fun r S => r = .bool (l.any fun x => decide (1000 < x.length)) ∧ S = R) := by
 refine ACall_body tab_ok Tryz.func26 rfl rfl rfl (by kernel_rfl) (Nat.le_of_ble_eq_true rfl) ?_
 repeat (first | refine go_ ?_ | intro _)
 refine AW_for (α := Nat) (fun z => ⟨[(0, .sl 1 (l.map AV.str) .no),(3, .int .i64 (z : Nat))], []⟩) (fun z => R) (fun z => l.length - z) (fun z => z ≤ l.length ∧ ∀ (i : Nat) (hi : i < l.length),i < z → ¬ 1000 < l[i].length) (0) ?_ (weak_of ?_ rfl ?_) (fun z hz => ?_)
 ·exact ⟨by omega,fun i _ h => by omega⟩
 ·repeat (first | exact trivial | refine env_ ?_)
 ·repeat (first | exact SLe.rfl | refine SLe.tail ?_ | refine SLe.full ?_)
 obtain ⟨i1,i2⟩ := hz
 repeat (first | refine go_ ?_ | intro _)
 refine AW_iff (z < l.length) rfl (by first | (simp; done) | (simp <;> omega) | decide) (fun h => ?_) (fun h => ?_)
 ·have hlt := h
  obtain ⟨x,hx⟩ : ∃ x,x = l[z] := ⟨_,rfl⟩
  repeat (first | refine go_ ?_ | intro _)
  refine at_map (z) (by first | rfl | omega | (rw [wrap_i64 (by omega)]; omega)) (by first | assumption | omega) ?_
  rw [← hx]
  repeat (first | refine go_ ?_ | intro _)
  refine AW_iff (1000 < x.length) rfl (by first | (simp; done) | (simp <;> omega) | decide) (fun h => ?_) (fun h => ?_)
  ·have e : (l.any fun x => decide (1000 < x.length)) = true := List.any_eq_true.2 ⟨_,List.getElem_mem hlt,decide_eq_true (by rw [← hx]; exact h)⟩
   repeat (first | refine go_ ?_ | intro _)
   refine AW_ret ?_
   repeat refine mk_ ?_
   refine ⟨_,R,AVle.eq ?_,sle_,rfl,rfl⟩
   rw [e]; rfl
  ·have hq := h
   repeat (first | refine go_ ?_ | intro _)
   refine ⟨z + 1,?_,?_,weak_of ?_ rfl ?_⟩
   ·omega
   ·refine ⟨by omega,fun i hi hiz => ?_⟩
    by_cases hc : i < z
    ·exact i2 i hi hc
    ·obtain rfl : i = z := by omega
     rw [← hx]; exact hq
   ·repeat (first | exact trivial | refine env_ ?_)
   ·repeat (first | exact SLe.rfl | refine SLe.tail ?_ | refine SLe.full ?_)
 ·have e : (l.any fun x => decide (1000 < x.length)) = false := by
   rw [List.any_eq_false]
   intro x hx
   obtain ⟨i,hi,rfl⟩ := List.mem_iff_getElem.1 hx
   simpa using i2 i hi (by omega)
  repeat (first | refine go_ ?_ | intro _)
  refine AW_ret ?_
  repeat refine mk_ ?_
  refine ⟨_,R,AVle.eq ?_,sle_,rfl,rfl⟩
  rw [e]; rfl
end Go.Proofs.YtfeknkaioofljaaGreatDoor.Tree
namespace Go.Proofs.YtfeknkaioofljaaGreatDoor.Tree
open Go.Aw Go.RowKit
def sizeLi (l : Li) (k : Int) : Int :=
 let a := sizeA l.a (k - 1)
 let b := if 0 ≤ a then sizeT l.x a else a
 if 0 ≤ b then sizeT l.y b else b
def sizeLs : List Li → Int → Int
 | [],k => k
 | l :: r,k => if 0 ≤ k then sizeLs r (sizeLi l k) else k
def sizeR (r : Ru) (k : Int) : Int := sizeLs r.body (sizeA r.head (k - 1))
def sizeRs : List Ru → Int → Int
 | [],k => k
 | l :: r,k => if 0 ≤ k then sizeRs r (sizeR l k) else k
theorem sizeLi_le (l : Li) (k : Int) (h : 0 ≤ k) : -1 ≤ sizeLi l k ∧ sizeLi l k ≤ max (k - 1) (-1) := by
 have h1 := sizeA_le l.a (k - 1) (by omega)
 unfold sizeLi
 simp only []
 generalize sizeA l.a (k - 1) = a at *
 split
 ·rename_i ha
  have h2 := sizeT_le l.x a ha
  split
  ·rename_i hb
   have h3 := sizeT_le l.y _ hb
   omega
  ·omega
 ·omega
theorem sizeLs_le : ∀ (l : List Li) (k : Int), -1 ≤ k → -1 ≤ sizeLs l k ∧ sizeLs l k ≤ k
 | [],k,h => by rw [sizeLs]; omega
 | t :: r,k,h => by
  rw [sizeLs]
  split
  ·rename_i h0
   have h1 := sizeLi_le t k h0
   have h2 := sizeLs_le r (sizeLi t k) h1.1
   omega
  ·omega
theorem sizeLs_neg {l : List Li} {k : Int} (h : k < 0) : sizeLs l k = k := by
 cases l with
 | nil => rfl
 | cons t r => rw [sizeLs,if_neg (by omega)]
theorem sizeR_le (r : Ru) (k : Int) (h : 0 ≤ k) : -1 ≤ sizeR r k ∧ sizeR r k ≤ max (k - 1) (-1) := by
 have h1 := sizeA_le r.head (k - 1) (by omega)
 have h2 := sizeLs_le r.body _ h1.1
 unfold sizeR; omega
theorem sizeRs_neg {l : List Ru} {k : Int} (h : k < 0) : sizeRs l k = k := by
 cases l with
 | nil => rfl
 | cons t r => rw [sizeRs,if_neg (by omega)]
theorem sizeR_ok (r : Ru) (k : Int) (R : List En) (h1 : 0 ≤ k) (h2 : k ≤ 100000) : ACall Tryz.prog 27 [encRu r, .int .i64 k] R (fun v S => v = .int .i64 (sizeR r k) ∧ S = R) := by
 have hw : IntKind.i64.wrap (k - 1) = k - 1 := wrap_i64 (by omega)
 have ka := fun R => sizeA_ok r.head (k - 1) R (by omega) (by omega)
 have hb0 := sizeA_le r.head (k - 1) (by omega)
 refine ACall_body tab_ok Tryz.func27 rfl rfl rfl (by kernel_rfl) (Nat.le_of_ble_eq_true rfl) ?_
 repeat (first | refine go_ ?_ | intro _)
 rename_i p
 refine Or.inl ⟨⟨_,Tryz.func66,rfl,rfl⟩,ACall_args (ACall.mono ?_ (ka _)) ⟨AVle.refl _,AVle.eq (congrArg (AV.int .i64) hw),trivial⟩⟩
 rintro _ S1 ⟨rfl,hS1⟩
 subst S1
 repeat (first | refine go_ ?_ | intro _)
 generalize hk0 : sizeA r.head (k - 1) = k0 at hb0
 have he : sizeR r k = sizeLs r.body k0 := by rw [sizeR,hk0]
 refine AW_for (α := Nat × Int) (fun z => ⟨[(1, .int .i64 z.2),(2, .ptr p 0),(5, .int .i64 (z.1 : Nat))], []⟩) (fun z => .cells p (cRu r) :: R) (fun z => r.body.length - z.1) (fun z => z.1 ≤ r.body.length ∧ sizeLs r.body k0 = sizeLs (r.body.drop z.1) z.2 ∧ -1 ≤ z.2 ∧ (z.1 : Int) + z.2 ≤ 100000) ((0,k0)) ?_ (weak_of ?_ rfl ?_) (fun z hz => ?_)
 ·exact ⟨by omega,rfl,hb0.1,by show ((0 : Nat) : Int) + k0 ≤ 100000; omega⟩
 ·repeat (first | exact trivial | refine ⟨(AVle.eq (congrArg (AV.int .i64) hk0)),?_⟩ | refine env_ ?_)
 ·repeat (first | exact SLe.rfl | refine SLe.tail ?_ | refine SLe.full ?_)
 obtain ⟨z,c⟩ := z
 obtain ⟨i1,i2,i3,i4⟩ : z ≤ r.body.length ∧ sizeLs r.body k0 = sizeLs (r.body.drop z) c ∧ -1 ≤ c ∧ (z : Int) + c ≤ 100000 := hz
 repeat (first | refine go_ ?_ | intro _)
 refine gsplit (z < r.body.length) (by first | (simp; done) | (simp <;> omega) | decide) (fun h => ?_) (fun h => ?_)
 rotate_left
 ·have e : sizeLs r.body k0 = c := by rw [i2,List.drop_of_length_le (by omega)]; rfl
  repeat (first | refine ga_ ?_ | intro _)
  refine AW_ret ?_
  repeat refine mk_ ?_
  refine ⟨_,R,AVle.eq ?_,sle_,rfl,rfl⟩
  rw [he,e]; rfl
 have hlt := h
 have hd : r.body.drop z = r.body[z] :: r.body.drop (z + 1) := (List.getElem_cons_drop hlt).symm
 repeat (first | refine go_ ?_ | intro _)
 refine AW_iff (0 ≤ c) rfl (by first | (simp; done) | (simp <;> omega) | decide) (fun h => ?_) (fun h => ?_)
 rotate_left
 ·have e : sizeLs r.body k0 = c := by rw [i2,sizeLs_neg (by omega)]
  repeat (first | refine ga_ ?_ | intro _)
  refine AW_ret ?_
  repeat refine mk_ ?_
  refine ⟨_,R,AVle.eq ?_,sle_,rfl,rfl⟩
  rw [he,e]; rfl
 have h0 := h
 obtain ⟨x,hx⟩ : ∃ x,x = r.body[z] := ⟨_,rfl⟩
 rw [hd,sizeLs,if_pos h0, ← hx] at i2
 have hb := sizeLi_le x c h0
 have hwc : IntKind.i64.wrap (c - 1) = c - 1 := wrap_i64 (by omega)
 have kx := fun R => sizeA_ok x.a (c - 1) R (by omega) (by omega)
 have hba := sizeA_le x.a (c - 1) (by omega)
 repeat (first | refine go_ ?_ | intro _)
 refine at_map (z) (by first | rfl | omega | (rw [wrap_i64 (by omega)]; omega)) (by first | assumption | omega) ?_
 rw [← hx]
 repeat (first | refine go_ ?_ | intro _)
 refine Or.inl ⟨⟨_,Tryz.func66,rfl,rfl⟩,ACall_args (ACall.mono ?_ (kx _)) ⟨AVle.refl _,AVle.eq (congrArg (AV.int .i64) hwc),trivial⟩⟩
 rintro _ S1 ⟨rfl,hS1⟩
 subst S1
 repeat (first | refine go_ ?_ | intro _)
 obtain ⟨a,ha⟩ : ∃ a,a = sizeA x.a (c - 1) := ⟨_,rfl⟩
 rw [← ha] at hba
 refine AW_iff (0 ≤ sizeA x.a (c - 1)) rfl (by first | (simp; done) | (simp <;> omega) | decide) (fun h => ?_) (fun h => ?_)
 rotate_left
 ·have e : sizeLi x c = sizeA x.a (c - 1) := by unfold sizeLi; simp only []; rw [if_neg h,if_neg h]
  have hn := h
  repeat (first | refine go_ ?_ | intro _)
  refine AW_iff (0 ≤ sizeA x.a (c - 1)) rfl (by first | (simp; done) | (simp <;> omega) | decide) (fun h => ?_) (fun h => ?_)
  ·exact absurd h hn
  repeat (first | refine go_ ?_ | intro _)
  refine ⟨(z + 1,sizeLi x c),?_,?_,weak_of ?_ rfl ?_⟩
  ·exact Nat.sub_lt_sub_left hlt (Nat.lt_succ_self z)
  ·exact ⟨hlt,i2,hb.1,by show ((z + 1 : Nat) : Int) + sizeLi x c ≤ 100000; omega⟩
  ·repeat (first | exact trivial | refine ⟨(AVle.eq (congrArg (AV.int .i64) (e).symm)),?_⟩ | refine env_ ?_)
  ·refine SW.le ?_
   repeat (first | exact SW.nil | refine sw_ ?_)
 have hx1 := h
 have hbx := sizeT_le x.x _ hx1
 have kt := fun R => size_ok (SizeOf.sizeOf x.x) x.x (Nat.le_refl _) (sizeA x.a (c - 1)) R hx1 (by omega)
 repeat (first | refine go_ ?_ | intro _)
 refine at_map (z) (by first | rfl | omega | (rw [wrap_i64 (by omega)]; omega)) (by first | assumption | omega) ?_
 rw [← hx]
 repeat (first | refine go_ ?_ | intro _)
 refine Or.inl ⟨⟨_,Tryz.func67,rfl,rfl⟩,ACall.mono ?_ (kt _)⟩
 rintro _ S1 ⟨rfl,hS1⟩
 subst S1
 repeat (first | refine go_ ?_ | intro _)
 refine AW_iff (0 ≤ sizeT x.x (sizeA x.a (c - 1))) rfl (by first | (simp; done) | (simp <;> omega) | decide) (fun h => ?_) (fun h => ?_)
 rotate_left
 ·have e : sizeLi x c = sizeT x.x (sizeA x.a (c - 1)) := by unfold sizeLi; simp only []; rw [if_pos hx1,if_neg h]
  repeat (first | refine go_ ?_ | intro _)
  refine ⟨(z + 1,sizeLi x c),?_,?_,weak_of ?_ rfl ?_⟩
  ·exact Nat.sub_lt_sub_left hlt (Nat.lt_succ_self z)
  ·exact ⟨hlt,i2,hb.1,by show ((z + 1 : Nat) : Int) + sizeLi x c ≤ 100000; omega⟩
  ·repeat (first | exact trivial | refine ⟨(AVle.eq (congrArg (AV.int .i64) (e).symm)),?_⟩ | refine env_ ?_)
  ·refine SW.le ?_
   repeat (first | exact SW.nil | refine sw_ ?_)
 have hx2 := h
 have ku := fun R => size_ok (SizeOf.sizeOf x.y) x.y (Nat.le_refl _) (sizeT x.x (sizeA x.a (c - 1))) R hx2 (by omega)
 have e : sizeLi x c = sizeT x.y (sizeT x.x (sizeA x.a (c - 1))) := by unfold sizeLi; simp only []; rw [if_pos hx1,if_pos hx2]
 repeat (first | refine go_ ?_ | intro _)
 refine at_map (z) (by first | rfl | omega | (rw [wrap_i64 (by omega)]; omega)) (by first | assumption | omega) ?_
 rw [← hx]
 repeat (first | refine go_ ?_ | intro _)
 refine Or.inl ⟨⟨_,Tryz.func67,rfl,rfl⟩,ACall.mono ?_ (ku _)⟩
 rintro _ S1 ⟨rfl,hS1⟩
 subst S1
 repeat (first | refine go_ ?_ | intro _)
 refine ⟨(z + 1,sizeLi x c),?_,?_,weak_of ?_ rfl ?_⟩
 ·exact Nat.sub_lt_sub_left hlt (Nat.lt_succ_self z)
 ·exact ⟨hlt,i2,hb.1,by show ((z + 1 : Nat) : Int) + sizeLi x c ≤ 100000; omega⟩
 ·repeat (first | exact trivial | refine ⟨(AVle.eq (congrArg (AV.int .i64) (e).symm)),?_⟩ | refine env_ ?_)
 ·refine SW.le ?_
  repeat (first | exact SW.nil | refine sw_ ?_)
end Go.Proofs.YtfeknkaioofljaaGreatDoor.Tree
namespace Go.Proofs.YtfeknkaioofljaaGreatDoor.Tree
open Go.Aw Go.RowKit
def okP (p : Pr) : Prop := p.decls.length ≤ 9223372036854775807 ∧ ∀ d ∈ p.decls,d.names.length ≤ 9223372036854775807 ∧ d.types.length ≤ 9223372036854775807
def longD (d : De) : Bool := decide (1000 < d.rel.length) || d.names.any fun x => decide (1000 < x.length)
def smallB (p : Pr) : Bool := !p.decls.any longD && (decide (0 ≤ sizeRs p.rules 2000) && (decide (p.decls.length ≤ 100) && decide (p.rules.length ≤ 300)))
def smallI (p : Pr) : Int := if smallB p = true then 1 else 0
theorem small_ok (p : Pr) (R : List En) (hp : okP p) : ACall Tryz.prog 12 [encP p] R (fun v S => v = .int .i64 (smallI p) ∧ S = R) := by
 obtain ⟨hp1,hp2⟩ := hp
 refine ACall_body tab_ok Tryz.func12 rfl rfl rfl (by kernel_rfl) (Nat.le_of_ble_eq_true rfl) ?_
 repeat (first | refine go_ ?_ | intro _)
 rename_i q
 refine AW_for (α := Nat) (fun z => ⟨[(1, .ptr q 0),(3, .int .i64 2000),(4, .int .i64 (z : Nat))], []⟩) (fun z => .cells q [.sl 6 (p.decls.map encD) .no, .sl 4 (p.rules.map encRu) .no] :: R) (fun z => p.decls.length - z) (fun z => z ≤ p.decls.length ∧ ∀ (i : Nat) (hi : i < p.decls.length),i < z → longD p.decls[i] = false) (0) ?_ (weak_of ?_ rfl ?_) (fun z hz => ?_)
 ·exact ⟨by omega,fun i _ h => by omega⟩
 ·repeat (first | exact trivial | refine env_ ?_)
 ·repeat (first | exact SLe.rfl | refine SLe.tail ?_ | refine SLe.full ?_)
 obtain ⟨i1,i2⟩ := hz
 repeat (first | refine go_ ?_ | intro _)
 refine AW_iff (z < p.decls.length) rfl (by first | (simp; done) | (simp <;> omega) | decide) (fun h => ?_) (fun h => ?_)
 ·have hlt := h
  obtain ⟨d,hd⟩ : ∃ x,x = p.decls[z] := ⟨_,rfl⟩
  have hdl := (hp2 d (hd ▸ List.getElem_mem hlt)).1
  have kl := fun R => long_ok d.names R hdl
  have bad : longD d = true → smallI p = 0 := fun hb => by
   have : p.decls.any longD = true := List.any_eq_true.2 ⟨_,List.getElem_mem hlt,by rw [← hd]; exact hb⟩
   rw [smallI,smallB,this]; rfl
  repeat (first | refine go_ ?_ | intro _)
  refine at_map (z) (by first | rfl | omega | (rw [wrap_i64 (by omega)]; omega)) (by first | assumption | omega) ?_
  rw [← hd]
  repeat (first | refine go_ ?_ | intro _)
  refine gsplit (1000 < d.rel.length) (by first | (simp; done) | (simp <;> omega) | decide) (fun h => ?_) (fun h => ?_)
  ·repeat (first | refine ga_ ?_ | intro _)
   refine AW_ret ?_
   repeat refine mk_ ?_
   refine ⟨_,R,AVle.eq ?_,sle_,rfl,rfl⟩
   rw [bad (by rw [longD,decide_eq_true h]; rfl)]; rfl
  have h1 := h
  repeat (first | refine ga_ ?_ | intro _)
  refine at_map (z) (by first | rfl | omega | (rw [wrap_i64 (by omega)]; omega)) (by first | assumption | omega) ?_
  rw [← hd]
  repeat (first | refine go_ ?_ | intro _)
  refine Or.inl ⟨⟨_,Tryz.func26,rfl,rfl⟩,ACall.mono ?_ (kl _)⟩
  rintro _ S1 ⟨rfl,hS1⟩
  subst S1
  repeat (first | refine go_ ?_ | intro _)
  refine AW_cond (b := d.names.any fun x => decide (1000 < x.length)) rfl (fun h => ?_) (fun h => ?_)
  ·repeat (first | refine go_ ?_ | intro _)
   refine AW_ret ?_
   repeat refine mk_ ?_
   refine ⟨_,R,AVle.eq ?_,sle_,rfl,rfl⟩
   rw [bad (by rw [longD,h]; simp)]; rfl
  ·have h2 := h
   repeat (first | refine go_ ?_ | intro _)
   refine ⟨z + 1,?_,?_,weak_of ?_ rfl ?_⟩
   ·omega
   ·refine ⟨by omega,fun i hi hiz => ?_⟩
    by_cases hc : i < z
    ·exact i2 i hi hc
    ·obtain rfl : i = z := by omega
     rw [← hd,longD,h2,decide_eq_false h1]; rfl
   ·repeat (first | exact trivial | refine env_ ?_)
   ·repeat (first | exact SLe.rfl | refine SLe.tail ?_ | refine SLe.full ?_)
 have hld : p.decls.any longD = false := by
  rw [List.any_eq_false]
  intro x hx
  obtain ⟨i,hi,rfl⟩ := List.mem_iff_getElem.1 hx
  simpa using i2 i hi (by omega)
 clear i1 i2
 repeat (first | refine go_ ?_ | intro _)
 refine AW_for (α := Nat × Int) (fun z => ⟨[(1, .ptr q 0),(3, .int .i64 z.2),(5, .int .i64 (z.1 : Nat))], []⟩) (fun z => .cells q [.sl 6 (p.decls.map encD) .no, .sl 4 (p.rules.map encRu) .no] :: R) (fun z => p.rules.length - z.1) (fun z => z.1 ≤ p.rules.length ∧ sizeRs p.rules 2000 = sizeRs (p.rules.drop z.1) z.2 ∧ -1 ≤ z.2 ∧ (z.1 : Int) + z.2 ≤ 100000) ((0,2000)) ?_ (weak_of ?_ rfl ?_) (fun z hz => ?_)
 ·exact ⟨by omega,rfl,by show (-1 : Int) ≤ 2000; omega,by show ((0 : Nat) : Int) + 2000 ≤ 100000; omega⟩
 ·repeat (first | exact trivial | refine env_ ?_)
 ·repeat (first | exact SLe.rfl | refine SLe.tail ?_ | refine SLe.full ?_)
 obtain ⟨z,c⟩ := z
 obtain ⟨i1,i2,i3,i4⟩ : z ≤ p.rules.length ∧ sizeRs p.rules 2000 = sizeRs (p.rules.drop z) c ∧ -1 ≤ c ∧ (z : Int) + c ≤ 100000 := hz
 repeat (first | refine go_ ?_ | intro _)
 refine gsplit (z < p.rules.length) (by first | (simp; done) | (simp <;> omega) | decide) (fun h => ?_) (fun h => ?_)
 ·have hlt := h
  have hd : p.rules.drop z = p.rules[z] :: p.rules.drop (z + 1) := (List.getElem_cons_drop hlt).symm
  repeat (first | refine go_ ?_ | intro _)
  refine AW_iff (0 ≤ c) rfl (by first | (simp; done) | (simp <;> omega) | decide) (fun h => ?_) (fun h => ?_)
  ·have h0 := h
   obtain ⟨x,hx⟩ : ∃ x,x = p.rules[z] := ⟨_,rfl⟩
   rw [hd,sizeRs,if_pos h0, ← hx] at i2
   have hb := sizeR_le x c h0
   have kx := fun R => sizeR_ok x c R h0 (by omega)
   repeat (first | refine go_ ?_ | intro _)
   refine at_map (z) (by first | rfl | omega | (rw [wrap_i64 (by omega)]; omega)) (by first | assumption | omega) ?_
   rw [← hx]
   repeat (first | refine go_ ?_ | intro _)
   refine Or.inl ⟨⟨_,Tryz.func27,rfl,rfl⟩,ACall.mono ?_ (kx _)⟩
   rintro _ S1 ⟨rfl,hS1⟩
   subst S1
   repeat (first | refine go_ ?_ | intro _)
   refine ⟨(z + 1,sizeR x c),?_,?_,weak_of ?_ rfl ?_⟩
   ·exact Nat.sub_lt_sub_left hlt (Nat.lt_succ_self z)
   ·exact ⟨hlt,i2,hb.1,by show ((z + 1 : Nat) : Int) + sizeR x c ≤ 100000; omega⟩
   ·repeat (first | exact trivial | refine env_ ?_)
   ·refine SW.le ?_
    repeat (first | exact SW.nil | refine sw_ ?_)
  ·have e : sizeRs p.rules 2000 = c := by rw [i2,sizeRs_neg (by omega)]
   have e2 : smallI p = 0 := by rw [smallI,smallB,e,decide_eq_false h]; simp
   repeat (first | refine go_ ?_ | intro _)
   refine gsplit (c < 0) (by first | (simp; done) | (simp <;> omega) | decide) (fun h => ?_) (fun h => ?_)
   ·repeat (first | refine ga_ ?_ | intro _)
    refine AW_ret ?_
    repeat refine mk_ ?_
    refine ⟨_,R,AVle.eq ?_,sle_,rfl,rfl⟩
    rw [e2]; rfl
   ·omega
 ·have e : sizeRs p.rules 2000 = c := by rw [i2,List.drop_of_length_le (by omega)]; rfl
  repeat (first | refine ga_ ?_ | intro _)
  refine gsplit (c < 0) (by first | (simp; done) | (simp <;> omega) | decide) (fun h => ?_) (fun h => ?_)
  ·have e2 : smallI p = 0 := by rw [smallI,smallB,e,decide_eq_false (show ¬ 0 ≤ c by omega)]; simp
   repeat (first | refine ga_ ?_ | intro _)
   refine AW_ret ?_
   repeat refine mk_ ?_
   refine ⟨_,R,AVle.eq ?_,sle_,rfl,rfl⟩
   rw [e2]; rfl
  have h0 : 0 ≤ c := by omega
  repeat (first | refine ga_ ?_ | intro _)
  refine gsplit (100 < p.decls.length) (by first | (simp; done) | (simp <;> omega) | decide) (fun h => ?_) (fun h => ?_)
  ·have e2 : smallI p = 0 := by rw [smallI,smallB,decide_eq_false (show ¬ p.decls.length ≤ 100 by omega)]; simp
   repeat (first | refine ga_ ?_ | intro _)
   refine AW_ret ?_
   repeat refine mk_ ?_
   refine ⟨_,R,AVle.eq ?_,sle_,rfl,rfl⟩
   rw [e2]; rfl
  have h1 : p.decls.length ≤ 100 := by omega
  repeat (first | refine ga_ ?_ | intro _)
  refine AW_iff (300 < p.rules.length) rfl (by first | (simp; done) | (simp <;> omega) | decide) (fun h => ?_) (fun h => ?_)
  ·have e2 : smallI p = 0 := by rw [smallI,smallB,decide_eq_false (show ¬ p.rules.length ≤ 300 by omega)]; simp
   repeat (first | refine ga_ ?_ | intro _)
   refine AW_ret ?_
   repeat refine mk_ ?_
   refine ⟨_,R,AVle.eq ?_,sle_,rfl,rfl⟩
   rw [e2]; rfl
  have e2 : smallI p = 1 := by rw [smallI,smallB,e,decide_eq_true h0,decide_eq_true h1,decide_eq_true (show p.rules.length ≤ 300 by omega),hld]; rfl
  repeat (first | refine go_ ?_ | intro _)
  refine AW_ret ?_
  repeat refine mk_ ?_
  refine ⟨_,R,AVle.eq ?_,sle_,rfl,rfl⟩
  rw [e2]; rfl
end Go.Proofs.YtfeknkaioofljaaGreatDoor.Tree
namespace Go.Proofs.YtfeknkaioofljaaGreatDoor.Tree
open Go.Aw Go.RowKit
def signL (op : Int) : List UInt8 := if op = 5 then [32,43,32] else if op = 6 then [32,45,32] else [32,42,32]
mutual
def showT : T → List UInt8
 | .mk op s n l => if op = 1 then s else if op = 2 then Lib.itoa n else if op = 3 then quoteL s else if op = 4 then [95] else 40 :: ((showTs l).getD 0 [] ++ (signL op ++ ((showTs l).getD 1 [] ++ [41])))
def showTs : List T → List (List UInt8)
 | [] => []
 | t :: r => showT t :: showTs r
end
theorem showTs_map : ∀ l : List T,showTs l = l.map showT
 | [] => rfl
 | t :: l => by rw [showTs,showTs_map l]; rfl
mutual
def okT : T → Prop
 | .mk _ s n l => inR64 n ∧ s.length ≤ 1000 ∧ okTs l
def okTs : List T → Prop
 | [] => True
 | t :: r => okT t ∧ okTs r
end
mutual
def cntT : T → Nat
 | .mk _ _ _ l => cntTs l + 1
def cntTs : List T → Nat
 | [] => 0
 | t :: r => cntT t + cntTs r
end
theorem two_len (l : List (List UInt8)) : (l.getD 0 []).length + (l.getD 1 []).length ≤ (l.map List.length).sum := by
 match l with
 | [] => simp
 | [a] => simp
 | a :: b :: r => simp only [List.getD_cons_zero,List.getD_cons_succ,List.map_cons,List.sum_cons]; omega
theorem sign_len (op : Int) : (signL op).length = 3 := by
 unfold signL
 split
 ·rfl
 ·split <;> rfl
mutual
theorem showT_len : ∀ t : T,okT t → (showT t).length ≤ 5000 * cntT t
 | .mk op s n l,h => by
  rw [okT] at h
  obtain ⟨h1,h2,h3⟩ := h
  have hs := showTs_len l h3
  have h2l := two_len (showTs l)
  have hsg := sign_len op
  have hi := itoa_len h1
  have hq := flat_len s
  rw [showT,cntT]
  split
  ·omega
  ·split
   ·omega
   ·split
    ·simp only [quoteL,List.length_append,List.length_cons,List.length_nil]; omega
    ·split
     ·simp; omega
     ·simp only [List.length_append,List.length_cons,List.length_nil]; omega
theorem showTs_len : ∀ l : List T,okTs l → ((showTs l).map List.length).sum ≤ 5000 * cntTs l
 | [],_ => by simp [showTs]
 | t :: r,h => by
  rw [okTs] at h
  have h1 := showT_len t h.1
  have h2 := showTs_len r h.2
  rw [showTs,cntTs]
  simp only [List.map_cons,List.sum_cons]; omega
end
end Go.Proofs.YtfeknkaioofljaaGreatDoor.Tree
namespace Go.Proofs.YtfeknkaioofljaaGreatDoor.Tree
open Go.Aw Go.RowKit
theorem cntTs_at : ∀ {l : List T} {i : Nat} (h : i < l.length),cntT l[i] ≤ cntTs l
 | t :: r,0,_ => by rw [cntTs]; simp
 | t :: r,i + 1,hi => by rw [cntTs]; have := cntTs_at (l := r) (i := i) (by simpa using hi); simp; omega
end Go.Proofs.YtfeknkaioofljaaGreatDoor.Tree
namespace Go.Proofs.YtfeknkaioofljaaGreatDoor.Tree
open Go.Aw Go.RowKit
end Go.Proofs.YtfeknkaioofljaaGreatDoor.Tree
namespace Go.Proofs.YtfeknkaioofljaaGreatDoor.Tree
open Go.Aw Go.RowKit
def showA (a : At) : List UInt8 := a.rel ++ ([40] ++ (Lib.join (a.l.map showT) [44,32] ++ [41]))
def eqL (op : Int) : List UInt8 := if op = 3 then [32,61,32] else if op = 4 then [32,33,61,32] else if op = 5 then [32,60,32] else [32,60,61,32]
def howL (l : Li) : List UInt8 := if l.op = 7 then [99,111,117,110,116] else (if l.op = 8 then [115,117,109,32] else if l.op = 9 then [109,105,110,32] else [109,97,120,32]) ++ showT l.y
def showL (l : Li) : List UInt8 := if l.op = 1 then showA l.a else if l.op = 2 then [33] ++ showA l.a else if l.op ≤ 6 then showT l.x ++ (eqL l.op ++ showT l.y) else showT l.x ++ ([32,61,32] ++ (howL l ++ ([32,58,32,123,32] ++ (showA l.a ++ [32,125]))))
def bodyL (l : List Li) : List UInt8 := if l.length = 0 then [] else [32,58,45,32] ++ Lib.join (l.map showL) [44,32]
def showR (r : Ru) : List UInt8 := showA r.head ++ (bodyL r.body ++ [46])
def colD (x : List UInt8 × Int) : List UInt8 := x.1 ++ (if x.2 = 1 then [58,32,110,117,109,98,101,114] else [58,32,115,121,109,98,111,108])
def inD (d : De) : List UInt8 := if d.inp = true then [46,105,110,112,117,116,32] ++ (d.rel ++ [10]) else []
def outD (d : De) : List UInt8 := if d.out = true then [46,111,117,116,112,117,116,32] ++ (d.rel ++ [10]) else []
def showD (d : De) : List UInt8 := [46,100,101,99,108,32] ++ (d.rel ++ ([40] ++ (Lib.join ((d.names.zip d.types).map colD) [44,32] ++ ([41,10] ++ (inD d ++ outD d)))))
def showDs (l : List De) : List UInt8 := (l.map showD).flatten
def showRs (l : List Ru) : List UInt8 := (l.map fun r => showR r ++ [10]).flatten
def showP (p : Pr) : List UInt8 := showDs p.decls ++ showRs p.rules
mutual
def nT : T → Prop
 | .mk _ _ n l => inR64 n ∧ nTs l
def nTs : List T → Prop
 | [] => True
 | t :: r => nT t ∧ nTs r
end
def nL (l : Li) : Prop := nTs l.a.l ∧ nT l.x ∧ nT l.y
def nR (r : Ru) : Prop := nTs r.head.l ∧ ∀ l ∈ r.body,nL l
def nP (p : Pr) : Prop := ∀ r ∈ p.rules,nR r
theorem flat_cons (a : AV) (l : List AV) : flat (a :: l) = a.cells ++ flat l := by simp [Aw.flat]
mutual
theorem nT_of : ∀ t : T,(∀ c ∈ cT t,Sat c) → nT t
 | .mk op s n l,h => by
  rw [nT]
  refine ⟨i64_of (h (.int .i64 n) (by simp [cT,T.n])).int,nTs_of l fun c hc => ?_⟩
  exact (h (.sl 4 (encTs l) .no) (by simp [cT,T.l])).flat hc
theorem nTs_of : ∀ l : List T,(∀ c ∈ flat (encTs l),Sat c) → nTs l
 | [],_ => by rw [nTs]; trivial
 | t :: r,h => by
  rw [encTs,encT_eq,flat_cons] at h
  rw [nTs]
  exact ⟨nT_of t fun c hc => h c (List.mem_append_left _ hc),nTs_of r fun c hc => h c (List.mem_append_right _ hc)⟩
end
theorem flat_mem {α : Type} {f : α → AV} {l : List α} {x : α} (hx : x ∈ l) {c : AV} (hc : c ∈ (f x).cells) : c ∈ flat (l.map f) :=
 List.mem_flatMap.2 ⟨f x,List.mem_map.2 ⟨x,hx,rfl⟩,hc⟩
theorem nL_of (l : Li) (h : ∀ c ∈ cL l,Sat c) : nL l := by
 refine ⟨nTs_of _ fun c hc => (h (.sl 4 (encTs l.a.l) .no) (by simp [cL])).flat hc,nT_of _ fun c hc => h c ?_,nT_of _ fun c hc => h c ?_⟩
 ·simp only [cT,cL,List.mem_cons,List.not_mem_nil,or_false] at hc ⊢
  rcases hc with h | h | h | h <;> simp [h]
 ·simp only [cT,cL,List.mem_cons,List.not_mem_nil,or_false] at hc ⊢
  rcases hc with h | h | h | h <;> simp [h]
theorem nR_of (r : Ru) (h : ∀ c ∈ cRu r,Sat c) : nR r := by
 refine ⟨nTs_of _ fun c hc => (h (.sl 4 (encTs r.head.l) .no) (by simp [cRu])).flat hc,fun l hl => nL_of l fun c hc => ?_⟩
 exact (h (.sl 11 (r.body.map encL) .no) (by simp [cRu])).flat (flat_mem hl hc)
theorem nP_of (p : Pr) (h : Sat (encP p)) : nP p := fun r hr => nR_of r fun c hc =>
 (h.agg (c := .sl 4 (p.rules.map encRu) .no) (by simp)).flat (flat_mem hr hc)
theorem okP_of (p : Pr) (h : Sat (encP p)) : okP p := by
 refine ⟨by have := (h.agg (c := .sl 6 (p.decls.map encD) .no) (by simp)).sl; simpa using this,fun d hd => ?_⟩
 have hc : ∀ c ∈ cD d,Sat c := fun c hc => (h.agg (c := .sl 6 (p.decls.map encD) .no) (by simp)).flat (flat_mem hd hc)
 have h1 := (hc (.sl 1 (d.names.map AV.str) .no) (by simp [cD])).sl
 have h2 := (hc (.sl 1 (d.types.map encI) .no) (by simp [cD])).sl
 exact ⟨by simpa using h1,by simpa using h2⟩
def okA (a : At) : Prop := okTs a.l ∧ a.rel.length ≤ 1000
def okL (l : Li) : Prop := okA l.a ∧ okT l.x ∧ okT l.y
def okRu (r : Ru) : Prop := okA r.head ∧ ∀ l ∈ r.body,okL l
def cntL (l : Li) : Nat := cntTs l.a.l + cntT l.x + cntT l.y + 1
def cntLs : List Li → Nat
 | [] => 0
 | l :: r => cntL l + cntLs r
def cntR (r : Ru) : Nat := cntTs r.head.l + cntLs r.body + 1
def cntRs : List Ru → Nat
 | [] => 0
 | l :: r => cntR l + cntRs r
mutual
theorem sizeT_cnt : ∀ (t : T) (k : Int),0 ≤ k → 0 ≤ sizeT t k → nT t → okT t ∧ (cntT t : Int) + sizeT t k = k
 | .mk op s n l,k,h0,h,hn => by
  rw [sizeT] at h ⊢
  rw [nT] at hn
  rw [okT,cntT]
  by_cases hs : 1000 < s.length
  ·rw [if_pos hs] at h; omega
  ·rw [if_neg hs] at h ⊢
   have := sizeTs_cnt l (k - 1) h hn.2
   exact ⟨⟨hn.1,by omega,this.1⟩,by omega⟩
theorem sizeTs_cnt : ∀ (l : List T) (k : Int),0 ≤ sizeTs l k → nTs l → okTs l ∧ (cntTs l : Int) + sizeTs l k = k
 | [],k,h,_ => by rw [sizeTs,okTs,cntTs]; exact ⟨trivial,by simp⟩
 | t :: r,k,h,hn => by
  rw [sizeTs] at h ⊢
  rw [nTs] at hn
  rw [okTs,cntTs]
  by_cases hk : 0 ≤ k
  ·rw [if_pos hk] at h ⊢
   have h2 := sizeTs_cnt r (sizeT t k) h hn.2
   have h1 := sizeT_cnt t k hk (by omega) hn.1
   exact ⟨⟨h1.1,h2.1⟩,by omega⟩
  ·rw [if_neg hk] at h; omega
end
theorem sizeA_cnt (a : At) (k : Int) (h : 0 ≤ sizeA a k) (hn : nTs a.l) : okA a ∧ (cntTs a.l : Int) + sizeA a k = k := by
 unfold sizeA at h ⊢
 by_cases hs : 1000 < a.rel.length
 ·rw [if_pos hs] at h; omega
 ·rw [if_neg hs] at h ⊢
  have := sizeTs_cnt a.l k h hn
  exact ⟨⟨this.1,by omega⟩,this.2⟩
theorem sizeLi_cnt (l : Li) (k : Int) (h : 0 ≤ sizeLi l k) (hn : nL l) : okL l ∧ (cntL l : Int) + sizeLi l k = k := by
 unfold sizeLi at h ⊢
 simp only [] at h ⊢
 by_cases ha : 0 ≤ sizeA l.a (k - 1)
 ·rw [if_pos ha] at h ⊢
  by_cases hb : 0 ≤ sizeT l.x (sizeA l.a (k - 1))
  ·rw [if_pos hb] at h ⊢
   have h1 := sizeA_cnt l.a (k - 1) ha hn.1
   have h2 := sizeT_cnt l.x _ ha hb hn.2.1
   have h3 := sizeT_cnt l.y _ hb h hn.2.2
   exact ⟨⟨h1.1,h2.1,h3.1⟩,by unfold cntL; omega⟩
  ·rw [if_neg hb] at h; omega
 ·rw [if_neg ha,if_neg ha] at h; omega
theorem sizeLs_cnt : ∀ (l : List Li) (k : Int),0 ≤ sizeLs l k → (∀ x ∈ l,nL x) → (∀ x ∈ l,okL x) ∧ (cntLs l : Int) + sizeLs l k = k
 | [],k,h,_ => by rw [sizeLs,cntLs]; exact ⟨by simp,by simp⟩
 | t :: r,k,h,hn => by
  rw [sizeLs] at h ⊢
  rw [cntLs]
  by_cases hk : 0 ≤ k
  ·rw [if_pos hk] at h ⊢
   have h2 := sizeLs_cnt r (sizeLi t k) h fun x hx => hn x (.tail _ hx)
   have h1 := sizeLi_cnt t k (by omega) (hn t (.head _))
   refine ⟨fun x hx => ?_,by omega⟩
   rcases List.mem_cons.1 hx with rfl | hx
   ·exact h1.1
   ·exact h2.1 x hx
  ·rw [if_neg hk] at h; omega
theorem sizeR_cnt (r : Ru) (k : Int) (h : 0 ≤ sizeR r k) (hn : nR r) : okRu r ∧ (cntR r : Int) + sizeR r k = k := by
 unfold sizeR at h ⊢
 have h2 := sizeLs_cnt r.body _ h hn.2
 have h1 := sizeA_cnt r.head (k - 1) (by omega) hn.1
 exact ⟨⟨h1.1,h2.1⟩,by unfold cntR; omega⟩
theorem sizeRs_cnt : ∀ (l : List Ru) (k : Int),0 ≤ sizeRs l k → (∀ x ∈ l,nR x) → (∀ x ∈ l,okRu x) ∧ (cntRs l : Int) + sizeRs l k = k
 | [],k,h,_ => by rw [sizeRs,cntRs]; exact ⟨by simp,by simp⟩
 | t :: r,k,h,hn => by
  rw [sizeRs] at h ⊢
  rw [cntRs]
  by_cases hk : 0 ≤ k
  ·rw [if_pos hk] at h ⊢
   have h2 := sizeRs_cnt r (sizeR t k) h fun x hx => hn x (.tail _ hx)
   have h1 := sizeR_cnt t k (by omega) (hn t (.head _))
   refine ⟨fun x hx => ?_,by omega⟩
   rcases List.mem_cons.1 hx with rfl | hx
   ·exact h1.1
   ·exact h2.1 x hx
  ·rw [if_neg hk] at h; omega
def okDe (d : De) : Prop := d.rel.length ≤ 1000 ∧ ∀ x ∈ d.names,x.length ≤ 1000
theorem small_cnt {p : Pr} (h : smallB p = true) (hn : nP p) : (∀ d ∈ p.decls,okDe d) ∧ (∀ r ∈ p.rules,okRu r) ∧ cntRs p.rules ≤ 2000 ∧ p.decls.length ≤ 100 ∧ p.rules.length ≤ 300 := by
 unfold smallB at h
 simp only [Bool.and_eq_true,Bool.not_eq_true',decide_eq_true_eq] at h
 obtain ⟨h1,h2,h3,h4⟩ := h
 have h5 := sizeRs_cnt p.rules 2000 h2 hn
 refine ⟨fun d hd => ?_,h5.1,by omega,h3,h4⟩
 have := List.any_eq_false.1 h1 d hd
 unfold longD at this
 simp only [Bool.or_eq_true,decide_eq_true_eq,List.any_eq_true,not_or,not_exists,not_and,Nat.not_lt] at this
 exact ⟨this.1,this.2⟩
theorem cntRs_at {r : Ru} : ∀ {l : List Ru},r ∈ l → cntR r ≤ cntRs l
 | x :: l,h => by
  rw [cntRs]
  rcases List.mem_cons.1 h with rfl | h
  ·omega
  ·have := cntRs_at h; omega
theorem cntLs_at {r : Li} : ∀ {l : List Li},r ∈ l → cntL r ≤ cntLs l
 | x :: l,h => by
  rw [cntLs]
  rcases List.mem_cons.1 h with rfl | h
  ·omega
  ·have := cntLs_at h; omega
theorem join_len (xs : List (List UInt8)) (sep : List UInt8) : (Lib.join xs sep).length ≤ (xs.map List.length).sum + sep.length * xs.length := by
 cases xs with
 | nil => simp [Lib.join_nil]
 | cons x r =>
  have h := Lib.join_length x r sep
  have e : Lib.lens (x :: r) = ((x :: r).map List.length).sum := rfl
  rw [e] at h
  rw [h,List.length_cons,Nat.mul_succ]
  omega
theorem cnt_pos : ∀ t : T,1 ≤ cntT t
 | .mk _ _ _ l => by rw [cntT]; omega
theorem len_cnt : ∀ l : List T,l.length ≤ cntTs l
 | [] => by simp
 | t :: r => by have := len_cnt r; have := cnt_pos t; rw [cntTs]; simp; omega
theorem showA_len (a : At) (h : okA a) : (showA a).length ≤ 5002 * cntTs a.l + 1002 := by
 have h1 := showTs_len a.l h.1
 rw [showTs_map] at h1
 have h2 := join_len (a.l.map showT) [44,32]
 have h3 := len_cnt a.l
 have h4 := h.2
 simp only [List.length_map,List.length_cons,List.length_nil] at h2
 simp only [showA,List.length_append,List.length_cons,List.length_nil]
 omega
theorem eq_len (op : Int) : (eqL op).length ≤ 4 := by unfold eqL; split; simp; split; simp; split <;> simp
theorem how_len (l : Li) : (howL l).length ≤ (showT l.y).length + 5 := by
 unfold howL
 split
 ·simp
 ·rw [List.length_append]
  split
  ·simp; omega
  ·split <;> (simp; omega)
theorem showL_len (l : Li) (h : okL l) : (showL l).length + 2 ≤ 5002 * cntL l := by
 have h1 := showA_len l.a h.1
 have h2 := showT_len l.x h.2.1
 have h3 := showT_len l.y h.2.2
 have h4 := eq_len l.op
 have h5 := how_len l
 unfold showL cntL
 split
 ·omega
 ·split
  ·simp; omega
  ·split
   ·simp; omega
   ·simp; omega
theorem showLs_len : ∀ (l : List Li),(∀ x ∈ l,okL x) → ((l.map showL).map List.length).sum + 2 * l.length ≤ 5002 * cntLs l
 | [],_ => by simp
 | t :: r,h => by
  have h1 := showL_len t (h t (.head _))
  have h2 := showLs_len r fun x hx => h x (.tail _ hx)
  rw [cntLs]
  simp only [List.map_cons,List.sum_cons,List.length_cons]; omega
theorem body_len (l : List Li) (h : ∀ x ∈ l,okL x) : (bodyL l).length ≤ 5002 * cntLs l + 4 := by
 have h1 := showLs_len l h
 have h2 := join_len (l.map showL) [44,32]
 simp only [List.length_map,List.length_cons,List.length_nil] at h2
 unfold bodyL
 split
 ·simp
 ·simp; omega
theorem showR_len (r : Ru) (h : okRu r) : (showR r).length + 1 ≤ 5002 * cntR r := by
 have h1 := showA_len r.head h.1
 have h2 := body_len r.body h.2
 unfold showR cntR
 simp; omega
theorem showRs_len : ∀ (l : List Ru),(∀ x ∈ l,okRu x) → (showRs l).length ≤ 5002 * cntRs l
 | [],_ => by simp [showRs]
 | t :: r,h => by
  have h1 := showR_len t (h t (.head _))
  have h2 := showRs_len r fun x hx => h x (.tail _ hx)
  unfold showRs at h2 ⊢
  rw [cntRs]
  simp only [List.map_cons,List.flatten_cons,List.length_append,List.length_cons,List.length_nil]; omega
theorem col_len (x : List UInt8 × Int) : (colD x).length = x.1.length + 8 := by
 unfold colD; rw [List.length_append]; split <;> rfl
theorem cols_len : ∀ (l : List (List UInt8 × Int)),(∀ x ∈ l,x.1.length ≤ 1000) → ((l.map colD).map List.length).sum ≤ 1008 * l.length
 | [],_ => by simp
 | x :: l,h => by
  have h1 := cols_len l fun y hy => h y (.tail _ hy)
  have h2 := h x (.head _)
  have h3 := col_len x
  simp only [List.map_cons,List.sum_cons,List.length_cons]; omega
theorem inD_len (d : De) : (inD d).length ≤ d.rel.length + 8 := by
 unfold inD; split
 ·simp
 ·simp
theorem outD_len (d : De) : (outD d).length ≤ d.rel.length + 9 := by
 unfold outD; split
 ·simp
 ·simp
theorem showD_len (d : De) (h : okDe d) (hr : d.names.length ≤ 8) : (showD d).length ≤ 12000 := by
 have h1 := cols_len (d.names.zip d.types) fun x hx => h.2 _ (List.of_mem_zip hx).1
 have h2 := join_len ((d.names.zip d.types).map colD) [44,32]
 have h3 := inD_len d
 have h4 := outD_len d
 have h5 : (d.names.zip d.types).length ≤ 8 := by rw [List.length_zip]; omega
 have h6 := h.1
 simp only [List.length_map,List.length_cons,List.length_nil] at h2
 simp only [showD,List.length_append,List.length_cons,List.length_nil]
 omega
theorem showDs_len : ∀ (l : List De),(∀ d ∈ l,okDe d ∧ d.names.length ≤ 8) → (showDs l).length ≤ 12000 * l.length
 | [],_ => by simp [showDs]
 | t :: r,h => by
  have h0 := h t (.head _)
  have h1 := showD_len t h0.1 h0.2
  have h2 := showDs_len r fun x hx => h x (.tail _ hx)
  unfold showDs at h2 ⊢
  simp only [List.map_cons,List.flatten_cons,List.length_append,List.length_cons]; omega
end Go.Proofs.YtfeknkaioofljaaGreatDoor.Tree
namespace Go.Proofs.YtfeknkaioofljaaGreatDoor.Tree
open Go.Aw Go.RowKit
theorem take_snoc {α β : Type} {f : α → β} {l : List α} {z : Nat} {x : α} (h : z < l.length) (hx : x = l[z]) : (l.take (z + 1)).map f = (l.take z).map f ++ [f x] := by
 rw [List.take_succ_eq_append_getElem h, ← hx,List.map_append]; rfl
theorem rightA_at {a : At} (hr : rightA a = true) : a.l.length ≤ 8 ∧ ∀ (i : Nat) (hi : i < a.l.length),rightT a.l[i] 20 = true := by
 rw [rightA] at hr
 simp only [Bool.and_eq_true,Bool.not_eq_true',decide_eq_false_iff_not,List.all_eq_true] at hr
 exact ⟨by omega,fun i hi => hr.2.2.2 _ (List.getElem_mem hi)⟩
end Go.Proofs.YtfeknkaioofljaaGreatDoor.Tree
