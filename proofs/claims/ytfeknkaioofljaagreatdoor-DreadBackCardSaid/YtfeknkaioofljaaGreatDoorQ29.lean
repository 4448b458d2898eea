/-
 The least number of all: is it in a rule? Own work.
-/
import Derived.Test.YtfeknkaioofljaaGreatDoorQ25
import Derived.Test.YtfeknkaioofljaaGreatDoorQ28
import Derived.Test.YtfeknkaioofljaaGreatDoorQ26
set_option linter.all false
set_option maxHeartbeats 4000000
set_option maxRecDepth 4000
namespace Go.Proofs.YtfeknkaioofljaaGreatDoor
open Go.Aw Go.RowKit Tree
theorem lo_eq (t : T) : lo t ↔ ((t.op = 2 → t.n ≠ -9223372036854775808) ∧ ∀ x ∈ t.l,lo x) := by
 cases t; rw [lo,los_all]; rfl
theorem least_ok : ∀ (n : Nat) (t : T),SizeOf.sizeOf t ≤ n → ∀ (R : List En),ACall Tryz.prog 33 [encU t] R (fun r S => r = .bool (isB (¬ lo t)) ∧ S = R)
 | 0,t,hn,R => by cases t; simp at hn
 | n + 1,t,hn,R => by
  have hs : ∀ x ∈ t.l,SizeOf.sizeOf x ≤ n := fun x hx => by
   cases t with
   | mk a b c l =>
    have := List.sizeOf_lt_of_mem (show x ∈ l from hx)
    simp at hn; omega
  refine ACall_sat fun hsat => ?_
  have hl : t.l.length ≤ 9223372036854775807 := by
   have := ((hsat _ (.head _)).agg (show AV.sl 4 (encTs t.l) .no ∈ cT t from .tail _ (.tail _ (.tail _ (.head _))))).sl
   rw [encTs_len] at this; exact this
  refine ACall_body tab_ok Tryz.func33 rfl rfl rfl (by kernel_rfl) (Nat.le_of_ble_eq_true rfl) ?_
  repeat (first | refine go_ ?_ | intro _)
  rename_i p
  refine AW_for (α := Nat) (fun z => ⟨[(1, .ptr p 0),(3, .int .i64 (z : Nat))], []⟩) (fun z => .cells p (cT t) :: R) (fun z => t.l.length - z) (fun z => z ≤ t.l.length ∧ ∀ (i : Nat) (hi : i < t.l.length),i < z → lo t.l[i]) (0) ?_ (weak_of ?_ rfl ?_) (fun z hz => ?_)
  ·exact ⟨Nat.zero_le _,fun i _ h => absurd h (Nat.not_lt_zero _)⟩
  ·repeat (first | exact trivial | refine env_ ?_)
  ·repeat (first | exact SLe.rfl | refine SLe.tail ?_ | refine SLe.full ?_)
  obtain ⟨z1,z2⟩ := hz
  repeat (first | refine go_ ?_ | intro _)
  refine AW_iff (z < t.l.length) rfl (by first | (simp; done) | (simp <;> omega) | decide) (fun h => ?_) (fun h => ?_)
  ·have hlt := h
   obtain ⟨x,hx⟩ : ∃ x,x = t.l[z] := ⟨_,rfl⟩
   have hxm : x ∈ t.l := hx ▸ List.getElem_mem hlt
   have kx := fun R => least_ok n x (hs x hxm) R
   repeat (first | refine go_ ?_ | intro _)
   refine at_get (z) (encU x) (by first | rfl | omega | (rw [wrap_i64 (by omega)]; omega)) (by rw [hx]; exact encTs_get hlt) ?_
   repeat (first | refine go_ ?_ | intro _)
   refine Or.inl ⟨⟨_,Tryz.func33,rfl,rfl⟩,ACall.mono ?_ (kx _)⟩
   rintro _ S1 ⟨rfl,hS1⟩
   subst S1
   repeat (first | refine go_ ?_ | intro _)
   by_cases hq : lo x
   ·refine AW_false (b := isB (¬ lo x)) rfl (by exact isB_f (fun h => h hq)) ?_
    repeat (first | refine ga_ ?_ | intro _)
    refine ⟨(z + 1),?_,?_,weak_of ?_ rfl ?_⟩
    ·exact Nat.sub_lt_sub_left hlt (Nat.lt_succ_self z)
    ·refine ⟨hlt,fun i hi hiz => ?_⟩
     by_cases hz : i = z
     ·subst hz; rw [← hx]; exact hq
     ·exact z2 i hi (by omega)
    ·repeat (first | exact trivial | refine env_ ?_)
    ·repeat (first | exact SLe.rfl | refine SLe.tail ?_ | refine SLe.full ?_)
   ·refine AW_true (b := isB (¬ lo x)) rfl (by exact isB_t hq) ?_
    repeat (first | refine ga_ ?_ | intro _)
    refine AW_ret ?_
    repeat refine mk_ ?_
    refine ⟨_,R,AVle.eq ?_,sle_,rfl,rfl⟩
    exact congrArg AV.bool (isB_t (fun h => hq (((lo_eq t).1 h).2 x hxm))).symm
  have hall : ∀ x ∈ t.l,lo x := fun x hx => by
   obtain ⟨i,hi,rfl⟩ := List.mem_iff_getElem.1 hx
   exact z2 i hi (by omega)
  repeat (first | refine go_ ?_ | intro _)
  by_cases h2 : t.op = 2
  ·refine known_true (b := decide (t.op = 2)) (by exact decide_eq_true h2) ?_
   repeat (first | refine ga_ ?_ | intro _)
   refine AW_ret ?_
   repeat refine mk_ ?_
   refine ⟨_,R,AVle.eq ?_,sle_,rfl,rfl⟩
   by_cases hm : t.n = -9223372036854775808
   ·exact congrArg AV.bool ((decide_eq_true hm).trans (isB_t (fun h => ((lo_eq t).1 h).1 h2 hm)).symm)
   ·exact congrArg AV.bool ((decide_eq_false hm).trans (isB_f (fun h => h ((lo_eq t).2 ⟨fun _ => hm,hall⟩))).symm)
  ·refine known_false (b := decide (t.op = 2)) (by exact decide_eq_false h2) ?_
   repeat (first | refine ga_ ?_ | intro _)
   refine AW_ret ?_
   repeat refine mk_ ?_
   refine ⟨_,R,AVle.eq ?_,sle_,rfl,rfl⟩
   exact congrArg AV.bool (isB_f (fun h => h ((lo_eq t).2 ⟨fun e => absurd e h2,hall⟩))).symm
theorem leastIn_ok (a : At) (R : List En) : ACall Tryz.prog 32 [encA a] R (fun r S => r = .bool (isB (¬ los a.l)) ∧ S = R) := by
 refine ACall_sat fun hsat => ?_
 have hl : a.l.length ≤ 9223372036854775807 := by
  have := ((hsat _ (.head _)).agg (show AV.sl 4 (encTs a.l) .no ∈ cA a from .tail _ (.head _))).sl
  rw [encTs_len] at this; exact this
 refine ACall_body tab_ok Tryz.func32 rfl rfl rfl (by kernel_rfl) (Nat.le_of_ble_eq_true rfl) ?_
 repeat (first | refine go_ ?_ | intro _)
 rename_i p
 refine AW_for (α := Nat) (fun z => ⟨[(1, .ptr p 0),(3, .int .i64 (z : Nat))], []⟩) (fun z => .cells p (cA a) :: R) (fun z => a.l.length - z) (fun z => z ≤ a.l.length ∧ ∀ (i : Nat) (hi : i < a.l.length),i < z → lo a.l[i]) (0) ?_ (weak_of ?_ rfl ?_) (fun z hz => ?_)
 ·exact ⟨Nat.zero_le _,fun i _ h => absurd h (Nat.not_lt_zero _)⟩
 ·repeat (first | exact trivial | refine env_ ?_)
 ·repeat (first | exact SLe.rfl | refine SLe.tail ?_ | refine SLe.full ?_)
 obtain ⟨z1,z2⟩ := hz
 repeat (first | refine go_ ?_ | intro _)
 refine AW_iff (z < a.l.length) rfl (by first | (simp; done) | (simp <;> omega) | decide) (fun h => ?_) (fun h => ?_)
 ·have hlt := h
  obtain ⟨x,hx⟩ : ∃ x,x = a.l[z] := ⟨_,rfl⟩
  have hxm : x ∈ a.l := hx ▸ List.getElem_mem hlt
  have kx := fun R => least_ok _ x (Nat.le_refl _) R
  repeat (first | refine go_ ?_ | intro _)
  refine at_get (z) (encU x) (by first | rfl | omega | (rw [wrap_i64 (by omega)]; omega)) (by rw [hx]; exact encTs_get hlt) ?_
  repeat (first | refine go_ ?_ | intro _)
  refine Or.inl ⟨⟨_,Tryz.func33,rfl,rfl⟩,ACall.mono ?_ (kx _)⟩
  rintro _ S1 ⟨rfl,hS1⟩
  subst S1
  repeat (first | refine go_ ?_ | intro _)
  by_cases hq : lo x
  ·refine AW_false (b := isB (¬ lo x)) rfl (by exact isB_f (fun h => h hq)) ?_
   repeat (first | refine ga_ ?_ | intro _)
   refine ⟨(z + 1),?_,?_,weak_of ?_ rfl ?_⟩
   ·exact Nat.sub_lt_sub_left hlt (Nat.lt_succ_self z)
   ·refine ⟨hlt,fun i hi hiz => ?_⟩
    by_cases hz : i = z
    ·subst hz; rw [← hx]; exact hq
    ·exact z2 i hi (by omega)
   ·repeat (first | exact trivial | refine env_ ?_)
   ·repeat (first | exact SLe.rfl | refine SLe.tail ?_ | refine SLe.full ?_)
  ·refine AW_true (b := isB (¬ lo x)) rfl (by exact isB_t hq) ?_
   repeat (first | refine ga_ ?_ | intro _)
   refine AW_ret ?_
   repeat refine mk_ ?_
   refine ⟨_,R,AVle.eq ?_,sle_,rfl,rfl⟩
   exact congrArg AV.bool (isB_t (fun h => hq (los_all.1 h x hxm))).symm
 have hall : los a.l := los_all.2 fun x hx => by
  obtain ⟨i,hi,rfl⟩ := List.mem_iff_getElem.1 hx
  exact z2 i hi (by omega)
 repeat (first | refine go_ ?_ | intro _)
 refine AW_ret ?_
 repeat refine mk_ ?_
 refine ⟨_,R,AVle.eq ?_,sle_,rfl,rfl⟩
 exact congrArg AV.bool (isB_f (fun h => h hall)).symm
theorem odd_ok (x : Ru) (R : List En) : ACall Tryz.prog 14 [encRu x] R (fun r S => r = .bool (isB (¬ loR x)) ∧ S = R) := by
 refine ACall_sat fun hsat => ?_
 have hl : x.body.length ≤ 9223372036854775807 := by
  have := ((hsat _ (.head _)).agg (show AV.sl 11 (x.body.map encL) .no ∈ cRu x from .tail _ (.tail _ (.head _)))).sl
  rw [List.length_map] at this; exact this
 have kh := fun R => leastIn_ok x.head R
 refine ACall_body tab_ok Tryz.func14 rfl rfl rfl (by kernel_rfl) (Nat.le_of_ble_eq_true rfl) ?_
 repeat (first | refine go_ ?_ | intro _)
 rename_i p
 refine Or.inl ⟨⟨_,Tryz.func32,rfl,rfl⟩,ACall.mono ?_ (kh _)⟩
 rintro _ S1 ⟨rfl,hS1⟩
 subst S1
 repeat (first | refine go_ ?_ | intro _)
 by_cases hh : los x.head.l
 rotate_left
 ·refine AW_true (b := isB (¬ los x.head.l)) rfl (by exact isB_t hh) ?_
  repeat (first | refine ga_ ?_ | intro _)
  refine AW_ret ?_
  repeat refine mk_ ?_
  refine ⟨_,R,AVle.eq ?_,sle_,rfl,rfl⟩
  exact congrArg AV.bool (isB_t (fun h => hh h.1)).symm
 refine AW_false (b := isB (¬ los x.head.l)) rfl (by exact isB_f (fun h => h hh)) ?_
 repeat (first | refine go_ ?_ | intro _)
 refine AW_for (α := Nat) (fun z => ⟨[(1, .ptr p 0),(3, .int .i64 (z : Nat))], []⟩) (fun z => .cells p (cRu x) :: R) (fun z => x.body.length - z) (fun z => z ≤ x.body.length ∧ ∀ (i : Nat) (hi : i < x.body.length),i < z → loL x.body[i]) (0) ?_ (weak_of ?_ rfl ?_) (fun z hz => ?_)
 ·exact ⟨Nat.zero_le _,fun i _ h => absurd h (Nat.not_lt_zero _)⟩
 ·repeat (first | exact trivial | refine env_ ?_)
 ·repeat (first | exact SLe.rfl | refine SLe.tail ?_ | refine SLe.full ?_)
 obtain ⟨z1,z2⟩ := hz
 repeat (first | refine go_ ?_ | intro _)
 refine AW_iff (z < x.body.length) rfl (by first | (simp; done) | (simp <;> omega) | decide) (fun h => ?_) (fun h => ?_)
 ·have hlt := h
  obtain ⟨l,hx⟩ : ∃ l,l = x.body[z] := ⟨_,rfl⟩
  have hxm : l ∈ x.body := hx ▸ List.getElem_mem hlt
  have hg : (x.body.map encL)[z]? = some (encL l) := by rw [hx,List.getElem?_map,List.getElem?_eq_getElem hlt]; rfl
  have ka := fun R => leastIn_ok l.a R
  have kx := fun R => least_ok _ l.x (Nat.le_refl _) R
  have ky := fun R => least_ok _ l.y (Nat.le_refl _) R
  repeat (first | refine go_ ?_ | intro _)
  refine at_get (z) (encL l) (by first | rfl | omega | (rw [wrap_i64 (by omega)]; omega)) (by exact hg) ?_
  repeat (first | refine go_ ?_ | intro _)
  refine Or.inl ⟨⟨_,Tryz.func32,rfl,rfl⟩,ACall.mono ?_ (ka _)⟩
  rintro _ S1 ⟨rfl,hS1⟩
  subst S1
  repeat (first | refine go_ ?_ | intro _)
  by_cases h1 : los l.a.l
  rotate_left
  ·refine known_true (b := isB (¬ los l.a.l)) (by exact isB_t h1) ?_
   repeat (first | refine ga_ ?_ | intro _)
   refine AW_ret ?_
   repeat refine mk_ ?_
   refine ⟨_,R,AVle.eq ?_,sle_,rfl,rfl⟩
   exact congrArg AV.bool (isB_t (fun h => h1 (h.2 l hxm).1)).symm
  refine known_false (b := isB (¬ los l.a.l)) (by exact isB_f (fun h => h h1)) ?_
  repeat (first | refine go_ ?_ | intro _)
  refine at_get (z) (encL l) (by first | rfl | omega | (rw [wrap_i64 (by omega)]; omega)) (by exact hg) ?_
  repeat (first | refine go_ ?_ | intro _)
  refine Or.inl ⟨⟨_,Tryz.func33,rfl,rfl⟩,ACall.mono ?_ (kx _)⟩
  rintro _ S1 ⟨rfl,hS1⟩
  subst S1
  repeat (first | refine go_ ?_ | intro _)
  by_cases h2 : lo l.x
  rotate_left
  ·refine known_true (b := isB (¬ lo l.x)) (by exact isB_t h2) ?_
   repeat (first | refine ga_ ?_ | intro _)
   refine AW_ret ?_
   repeat refine mk_ ?_
   refine ⟨_,R,AVle.eq ?_,sle_,rfl,rfl⟩
   exact congrArg AV.bool (isB_t (fun h => h2 (h.2 l hxm).2.1)).symm
  refine known_false (b := isB (¬ lo l.x)) (by exact isB_f (fun h => h h2)) ?_
  repeat (first | refine go_ ?_ | intro _)
  refine at_get (z) (encL l) (by first | rfl | omega | (rw [wrap_i64 (by omega)]; omega)) (by exact hg) ?_
  repeat (first | refine go_ ?_ | intro _)
  refine Or.inl ⟨⟨_,Tryz.func33,rfl,rfl⟩,ACall.mono ?_ (ky _)⟩
  rintro _ S1 ⟨rfl,hS1⟩
  subst S1
  repeat (first | refine go_ ?_ | intro _)
  by_cases h3 : lo l.y
  rotate_left
  ·refine AW_true (b := isB (¬ lo l.y)) rfl (by exact isB_t h3) ?_
   repeat (first | refine ga_ ?_ | intro _)
   refine AW_ret ?_
   repeat refine mk_ ?_
   refine ⟨_,R,AVle.eq ?_,sle_,rfl,rfl⟩
   exact congrArg AV.bool (isB_t (fun h => h3 (h.2 l hxm).2.2)).symm
  refine AW_false (b := isB (¬ lo l.y)) rfl (by exact isB_f (fun h => h h3)) ?_
  repeat (first | refine ga_ ?_ | intro _)
  refine ⟨(z + 1),?_,?_,weak_of ?_ rfl ?_⟩
  ·exact Nat.sub_lt_sub_left hlt (Nat.lt_succ_self z)
  ·refine ⟨hlt,fun i hi hiz => ?_⟩
   by_cases hz : i = z
   ·subst hz; rw [← hx]; exact ⟨h1,h2,h3⟩
   ·exact z2 i hi (by omega)
  ·repeat (first | exact trivial | refine env_ ?_)
  ·repeat (first | exact SLe.rfl | refine SLe.tail ?_ | refine SLe.full ?_)
 have hall : loR x := ⟨hh,fun l hx => by
  obtain ⟨i,hi,rfl⟩ := List.mem_iff_getElem.1 hx
  exact z2 i hi (by omega)⟩
 repeat (first | refine go_ ?_ | intro _)
 refine AW_ret ?_
 repeat refine mk_ ?_
 refine ⟨_,R,AVle.eq ?_,sle_,rfl,rfl⟩
 exact congrArg AV.bool (isB_f (fun h => h hall)).symm
end Go.Proofs.YtfeknkaioofljaaGreatDoor
namespace Go.Proofs.YtfeknkaioofljaaGreatDoor
open Go.Aw Go.RowKit Tree
theorem like_read {p : Pr} (h : (readV (showP p)).2 = (0,0) ∧ likeP (readV (showP p)).1 p) : ∃ q,readV (showP p) = (q,0,0) ∧ likeP p q := by
 obtain ⟨x,hx⟩ : ∃ x,x = readV (showP p) := ⟨_,rfl⟩
 rw [← hx] at h ⊢
 obtain ⟨q,y⟩ := x
 obtain ⟨rfl,h2⟩ := h
 exact ⟨q,rfl,likeP_symm h2⟩
theorem dreadBack_ok (p : Pr) (R : List En) (hG : LawG R) : ACall Tryz.prog 4 [encP p] R (fun r S => r = .bool true ∧ S = R) := by
 obtain ⟨hR,b,o,hE⟩ := hG
 refine ACall_sat fun hs => ?_
 have hp := hs _ (.head _)
 have hP := okP_of p hp
 have hn := nP_of p hp
 have ks := fun R => small_ok p R hP
 by_cases hb : smallB p = true
 rotate_left
 ·rw [smallI,if_neg hb] at ks
  refine ACall_body tab_ok Tryz.func4 rfl rfl rfl (by kernel_rfl) (Nat.le_of_ble_eq_true rfl) ?_
  repeat (first | refine go_ ?_ | intro _)
  refine Or.inl ⟨⟨_,Tryz.func7,rfl,rfl⟩,ACall.mono ?_ (shown_ok _ ⟨hR.cons,b,o, .tail _ hE⟩)⟩
  rintro _ S1 ⟨rfl,hS1⟩
  subst S1
  repeat (first | refine go_ ?_ | intro _)
  refine Or.inl ⟨⟨_,Tryz.func12,rfl,rfl⟩,ACall.mono ?_ (ks _)⟩
  rintro _ S1 ⟨rfl,hS1⟩
  subst S1
  repeat (first | refine ga_ ?_ | intro _)
  refine AW_ret ?_
  repeat refine mk_ ?_
  refine ⟨_,R,AVle.eq ?_,sle_,rfl,rfl⟩
  rfl
 rw [smallI,if_pos hb] at ks
 obtain ⟨s1,s2,s3,s4,s5⟩ := small_cnt hb hn
 have hS : okS p := ⟨s1,s2,s3⟩
 have k1 := fun R hE hG => showS_ok b o p R hE hS hG
 by_cases rp : rightP p = true
 rotate_left
 ·rw [shownP_f (by simpa using rp)] at k1
  refine ACall_body tab_ok Tryz.func4 rfl rfl rfl (by kernel_rfl) (Nat.le_of_ble_eq_true rfl) ?_
  repeat (first | refine go_ ?_ | intro _)
  refine Or.inl ⟨⟨_,Tryz.func7,rfl,rfl⟩,ACall.mono ?_ (shown_ok _ ⟨hR.cons,b,o, .tail _ hE⟩)⟩
  rintro _ S1 ⟨rfl,hS1⟩
  subst S1
  repeat (first | refine go_ ?_ | intro _)
  refine Or.inl ⟨⟨_,Tryz.func12,rfl,rfl⟩,ACall.mono ?_ (ks _)⟩
  rintro _ S1 ⟨rfl,hS1⟩
  subst S1
  repeat (first | refine ga_ ?_ | intro _)
  refine Or.inl ⟨⟨_,Tryz.func13,rfl,rfl⟩,ACall.mono ?_ (k1 _ (.tail _ hE) hR.cons.1)⟩
  rintro _ S1 ⟨rfl,hS1⟩
  subst S1
  repeat (first | refine ga_ ?_ | intro _)
  refine AW_ret ?_
  repeat refine mk_ ?_
  refine ⟨_,R,AVle.eq ?_,sle_,rfl,rfl⟩
  rfl
 rw [shownP_t rp] at k1
 obtain ⟨c1,c2,_,_⟩ := rightP_all rp
 refine ACall_body tab_ok Tryz.func4 rfl rfl rfl (by kernel_rfl) (Nat.le_of_ble_eq_true rfl) ?_
 repeat (first | refine go_ ?_ | intro _)
 rename_i b1
 refine Or.inl ⟨⟨_,Tryz.func7,rfl,rfl⟩,ACall.mono ?_ (shown_ok _ ⟨hR.cons,b,o, .tail _ hE⟩)⟩
 rintro _ S1 ⟨rfl,hS1⟩
 subst S1
 repeat (first | refine go_ ?_ | intro _)
 refine Or.inl ⟨⟨_,Tryz.func12,rfl,rfl⟩,ACall.mono ?_ (ks _)⟩
 rintro _ S1 ⟨rfl,hS1⟩
 subst S1
 repeat (first | refine ga_ ?_ | intro _)
 refine Or.inl ⟨⟨_,Tryz.func13,rfl,rfl⟩,ACall.mono ?_ (k1 _ (.tail _ hE) hR.cons.1)⟩
 rintro _ S1 ⟨rfl,hS1⟩
 subst S1
 repeat (first | refine gr_ ?_ | intro _)
 obtain ⟨s,hst⟩ : ∃ s,s = showP p := ⟨_,rfl⟩
 rw [← hst]
 refine AW_weak (weak_of (l := [(1, .ptr b1 0),(3, .bool true),(4, .str s),(5, .int .i64 0)]) (m := []) (S' := .cells b1 (cP p) :: R) ?_ rfl ?_) ?_
 ·repeat (first | exact trivial | refine env_ ?_)
 ·refine SW.le ?_
  repeat (first | exact SW.nil | refine sw_ ?_)
 repeat (first | refine ga_ ?_ | intro _)
 by_cases hlen : 60000 < s.length
 ·refine AW_true (b := decide (((s.length : Nat) : Int) > 60000)) rfl (by exact decide_eq_true (by omega)) ?_
  repeat (first | refine ga_ ?_ | intro _)
  refine AW_ret ?_
  repeat refine mk_ ?_
  refine ⟨_,R,AVle.eq ?_,sle_,rfl,rfl⟩
  rfl
 refine AW_false (b := decide (((s.length : Nat) : Int) > 60000)) rfl (by exact decide_eq_false (by omega)) ?_
 repeat (first | refine go_ ?_ | intro _)
 refine AW_for (α := Nat) (fun z => ⟨[(1, .ptr b1 0),(3, .bool true),(4, .str s),(6, .int .i64 (z : Nat))], []⟩) (fun z => .cells b1 (cP p) :: R) (fun z => p.decls.length - z) (fun z => z ≤ p.decls.length ∧ ∀ (i : Nat) (hi : i < p.decls.length),i < z → ∀ (j : Nat) (hj : j < i),p.decls[j].rel ≠ p.decls[i].rel) (0) ?_ (weak_of ?_ rfl ?_) (fun z hz => ?_)
 ·exact ⟨Nat.zero_le _,fun i _ h => absurd h (Nat.not_lt_zero _)⟩
 ·repeat (first | exact trivial | refine env_ ?_)
 ·repeat (first | exact SLe.rfl | refine SLe.tail ?_ | refine SLe.full ?_)
 obtain ⟨z1,z2⟩ := hz
 repeat (first | refine go_ ?_ | intro _)
 refine AW_iff (z < p.decls.length) rfl (by first | (simp; done) | (simp <;> omega) | decide) (fun h => ?_) (fun h => ?_)
 ·have hlt := h
  obtain ⟨d,hd⟩ : ∃ d,d = p.decls[z] := ⟨_,rfl⟩
  obtain ⟨i0,rfl⟩ : ∃ i0,i0 = z := ⟨_,rfl⟩
  repeat (first | refine go_ ?_ | intro _)
  refine AW_for (α := Nat) (fun z => ⟨[(1, .ptr b1 0),(3, .bool true),(4, .str s),(6, .int .i64 (i0 : Nat)),(7, .int .i64 (z : Nat))], []⟩) (fun z => .cells b1 (cP p) :: R) (fun z => i0 - z) (fun z => z ≤ i0 ∧ ∀ (j : Nat) (hj : j < z) (hj' : j < p.decls.length),p.decls[j].rel ≠ d.rel) (0) ?_ (weak_of ?_ rfl ?_) (fun z hz => ?_)
  ·exact ⟨Nat.zero_le _,fun j h => absurd h (Nat.not_lt_zero _)⟩
  ·repeat (first | exact trivial | refine env_ ?_)
  ·repeat (first | exact SLe.rfl | refine SLe.tail ?_ | refine SLe.full ?_)
  obtain ⟨y1,y2⟩ := hz
  repeat (first | refine go_ ?_ | intro _)
  refine AW_iff (z < i0) rfl (by first | (simp; done) | (simp <;> omega) | decide) (fun h => ?_) (fun h => ?_)
  ·have hlt2 := h
   have hlt3 : z < p.decls.length := by omega
   obtain ⟨x,hx⟩ : ∃ d,d = p.decls[z] := ⟨_,rfl⟩
   repeat (first | refine go_ ?_ | intro _)
   refine AW_draw tab_ok mixed 13 (by first | rfl | kernel_rfl) ?_
   repeat (first | refine go_ ?_ | intro _)
   refine at_get (z) (encD x) (by first | rfl | omega | (rw [wrap_i64 (by omega)]; omega)) (by rw [hx,List.getElem?_map,List.getElem?_eq_getElem hlt3]; rfl) ?_
   repeat (first | refine go_ ?_ | intro _)
   refine at_get (i0) (encD d) (by first | rfl | omega | (rw [wrap_i64 (by omega)]; omega)) (by rw [hd,List.getElem?_map,List.getElem?_eq_getElem hlt]; rfl) ?_
   repeat (first | refine go_ ?_ | intro _)
   by_cases hq : x.rel = d.rel
   ·refine AW_true (b := decide (x.rel = d.rel)) rfl (by exact decide_eq_true hq) ?_
    repeat (first | refine ga_ ?_ | intro _)
    refine AW_ret ?_
    repeat refine mk_ ?_
    refine ⟨_,R,AVle.eq ?_,sle_,rfl,rfl⟩
    rfl
   refine AW_false (b := decide (x.rel = d.rel)) rfl (by exact decide_eq_false hq) ?_
   repeat (first | refine go_ ?_ | intro _)
   refine ⟨(z + 1),?_,?_,weak_of ?_ rfl ?_⟩
   ·exact Nat.sub_lt_sub_left hlt2 (Nat.lt_succ_self z)
   ·refine ⟨hlt2,fun j hj hj' => ?_⟩
    by_cases hz : j = z
    ·subst hz; rw [← hx]; exact hq
    ·exact y2 j (by omega) hj'
   ·repeat (first | exact trivial | refine env_ ?_)
   ·repeat (first | exact SLe.rfl | refine SLe.tail ?_ | refine SLe.full ?_)
  ·repeat (first | refine go_ ?_ | intro _)
   refine ⟨(i0 + 1),?_,?_,weak_of ?_ rfl ?_⟩
   ·exact Nat.sub_lt_sub_left hlt (Nat.lt_succ_self i0)
   ·refine ⟨hlt,fun i hi hiz j hj => ?_⟩
    by_cases hz : i = i0
    ·subst hz
     rw [← hd]; exact y2 j (by omega) (by omega)
    ·exact z2 i hi (by omega) j hj
   ·repeat (first | exact trivial | refine env_ ?_)
   ·repeat (first | exact SLe.rfl | refine SLe.tail ?_ | refine SLe.full ?_)
 have hnd : (rels p.decls).Nodup := nodup_of fun i hi j hj => z2 i hi (by omega) j hj
 repeat (first | refine go_ ?_ | intro _)
 refine AW_for (α := Nat) (fun z => ⟨[(1, .ptr b1 0),(3, .bool true),(4, .str s),(8, .int .i64 (z : Nat))], []⟩) (fun z => .cells b1 (cP p) :: R) (fun z => p.rules.length - z) (fun z => z ≤ p.rules.length ∧ ∀ (i : Nat) (hi : i < p.rules.length),i < z → loR p.rules[i]) (0) ?_ (weak_of ?_ rfl ?_) (fun z hz => ?_)
 ·exact ⟨Nat.zero_le _,fun i _ h => absurd h (Nat.not_lt_zero _)⟩
 ·repeat (first | exact trivial | refine env_ ?_)
 ·repeat (first | exact SLe.rfl | refine SLe.tail ?_ | refine SLe.full ?_)
 obtain ⟨y1,y2⟩ := hz
 repeat (first | refine go_ ?_ | intro _)
 refine AW_iff (z < p.rules.length) rfl (by first | (simp; done) | (simp <;> omega) | decide) (fun h => ?_) (fun h => ?_)
 ·have hlt := h
  obtain ⟨x,hx⟩ : ∃ d,d = p.rules[z] := ⟨_,rfl⟩
  have ko := fun R => odd_ok x R
  repeat (first | refine go_ ?_ | intro _)
  refine at_get (z) (encRu x) (by first | rfl | omega | (rw [wrap_i64 (by omega)]; omega)) (by rw [hx,List.getElem?_map,List.getElem?_eq_getElem hlt]; rfl) ?_
  repeat (first | refine go_ ?_ | intro _)
  refine Or.inl ⟨⟨_,Tryz.func14,rfl,rfl⟩,ACall.mono ?_ (ko _)⟩
  rintro _ S1 ⟨rfl,hS1⟩
  subst S1
  repeat (first | refine go_ ?_ | intro _)
  by_cases hq : loR x
  rotate_left
  ·refine AW_true (b := isB (¬ loR x)) rfl (by exact isB_t hq) ?_
   repeat (first | refine ga_ ?_ | intro _)
   refine AW_ret ?_
   repeat refine mk_ ?_
   refine ⟨_,R,AVle.eq ?_,sle_,rfl,rfl⟩
   rfl
  refine AW_false (b := isB (¬ loR x)) rfl (by exact isB_f (fun h => h hq)) ?_
  repeat (first | refine ga_ ?_ | intro _)
  refine ⟨(z + 1),?_,?_,weak_of ?_ rfl ?_⟩
  ·exact Nat.sub_lt_sub_left hlt (Nat.lt_succ_self z)
  ·refine ⟨hlt,fun i hi hiz => ?_⟩
   by_cases hz : i = z
   ·subst hz; rw [← hx]; exact hq
   ·exact y2 i hi (by omega)
  ·repeat (first | exact trivial | refine env_ ?_)
  ·repeat (first | exact SLe.rfl | refine SLe.tail ?_ | refine SLe.full ?_)
 have hlo : ∀ r ∈ p.rules,loR r := fun r hr => by
  obtain ⟨i,hi,rfl⟩ := List.mem_iff_getElem.1 hr
  exact y2 i hi (by omega)
 have hnl : ∀ r ∈ p.rules,nR r ∧ loR r := fun r hr => ⟨hn r hr,hlo r hr⟩
 obtain ⟨q,hq1,hq2⟩ := like_read (back_core rp hnl hnd (by rw [← hst]; omega) (by have := tok_count rp hnl; omega))
 have kr := fun R hG => read_ok s R (by omega) hG
 rw [hst,hq1] at kr
 have kS := fun R => sameB_ok p q R hP (fun r hr => by have := cntRs_at hr; omega) s5
 rw [isB_t hq2] at kS
 rw [hst]
 repeat (first | refine go_ ?_ | intro _)
 refine Or.inl ⟨⟨_,Tryz.func15,rfl,rfl⟩,ACall.mono ?_ (kr _ hR.cons)⟩
 rintro _ S1 ⟨rfl,hS1⟩
 subst S1
 repeat (first | refine ga_ ?_ | intro _)
 refine Or.inl ⟨⟨_,Tryz.func16,rfl,rfl⟩,ACall.mono ?_ (kS _)⟩
 rintro _ S1 ⟨rfl,hS1⟩
 subst S1
 repeat (first | refine ga_ ?_ | intro _)
 refine AW_ret ?_
 repeat refine mk_ ?_
 refine ⟨_,R,AVle.eq ?_,sle_,rfl,rfl⟩
 rfl
end Go.Proofs.YtfeknkaioofljaaGreatDoor
