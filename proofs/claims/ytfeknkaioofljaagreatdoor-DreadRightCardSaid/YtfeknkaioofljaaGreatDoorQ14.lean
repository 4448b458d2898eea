/-
 Which programs are alike: the program's answer. Own work.
-/
import Derived.Test.YtfeknkaioofljaaGreatDoorQ13
set_option linter.all false
set_option maxHeartbeats 4000000
set_option maxRecDepth 4000
namespace Go.Proofs.YtfeknkaioofljaaGreatDoor.Tree
open Go.Aw Go.RowKit
noncomputable def isB (p : Prop) : Bool := @decide p (Classical.propDecidable p)
theorem isB_t {p : Prop} (h : p) : isB p = true := @decide_eq_true p (Classical.propDecidable p) h
theorem isB_f {p : Prop} (h : ¬ p) : isB p = false := @decide_eq_false p (Classical.propDecidable p) h
@[simp] theorem isB_iff {p : Prop} : isB p = true ↔ p := ⟨fun h => @of_decide_eq_true p (Classical.propDecidable p) h,isB_t⟩
@[simp] theorem isB_not {p : Prop} : isB p = false ↔ ¬ p := by
 constructor
 ·intro h hp
  rw [isB_t hp] at h; cases h
 ·exact isB_f
theorem isB_eq {p q : Prop} (h : p ↔ q) : isB p = isB q := by rw [propext h]
def allQ {α : Type} (Q : α → α → Prop) (l m : List α) : Prop := l.length = m.length ∧ ∀ (i : Nat) (h : i < l.length) (h' : i < m.length),Q l[i] m[i]
theorem allQ_eq {α : Type} {l m : List α} : allQ Eq l m ↔ l = m := ⟨fun h => List.ext_getElem h.1 h.2,fun h => by subst h; exact ⟨rfl,fun _ _ _ => rfl⟩⟩
theorem allQ_cons {α : Type} {Q : α → α → Prop} {a b : α} {l m : List α} : allQ Q (a :: l) (b :: m) ↔ Q a b ∧ allQ Q l m := by
 constructor
 ·rintro ⟨h1,h2⟩
  refine ⟨h2 0 (by simp) (by simp),by simpa using h1,fun i h h' => ?_⟩
  have := h2 (i + 1) (by simpa using h) (by simpa using h')
  simpa using this
 ·rintro ⟨h1,h2,h3⟩
  refine ⟨by simp [h2],fun i h h' => ?_⟩
  cases i with
  | zero => exact h1
  | succ i => simpa using h3 i (by simpa using h) (by simpa using h')
theorem allQ_R : ∀ {l m : List Ru},allQ likeR l m ↔ likeRs l m
 | [], [] => ⟨fun _ => trivial,fun _ => ⟨rfl,fun i h => by simp at h⟩⟩
 | [],_ :: _ => ⟨fun h => by have := h.1; simp at this,fun h => h.elim⟩
 | _ :: _, [] => ⟨fun h => by have := h.1; simp at this,fun h => h.elim⟩
 | r :: l,q :: m => by rw [allQ_cons,allQ_R]; rfl
theorem allQ_D : ∀ {l m : List De},allQ likeD l m ↔ likeDs l m
 | [], [] => ⟨fun _ => trivial,fun _ => ⟨rfl,fun i h => by simp at h⟩⟩
 | [],_ :: _ => ⟨fun h => by have := h.1; simp at this,fun h => h.elim⟩
 | _ :: _, [] => ⟨fun h => by have := h.1; simp at this,fun h => h.elim⟩
 | r :: l,q :: m => by rw [allQ_cons,allQ_D]; rfl
theorem T_ext {t u : T} : t = u ↔ t.op = u.op ∧ t.s = u.s ∧ t.n = u.n ∧ t.l = u.l := by
 obtain ⟨a,b,c,d⟩ := t
 obtain ⟨e,f,g,h⟩ := u
 rw [T.mk.injEq]; rfl
theorem At_ext {a b : At} : a = b ↔ a.rel = b.rel ∧ a.l = b.l := by
 obtain ⟨c,d⟩ := a
 obtain ⟨e,f⟩ := b
 rw [At.mk.injEq]
theorem Li_ext {a b : Li} : a = b ↔ a.op = b.op ∧ a.a = b.a ∧ a.x = b.x ∧ a.y = b.y := by
 obtain ⟨c,d,e,f⟩ := a
 obtain ⟨g,h,i,j⟩ := b
 rw [Li.mk.injEq]
theorem eqT_ok (l m : List T) (hl : l.length ≤ 9223372036854775807) (hk : ∀ x ∈ l, ∀ (y : T) (R : List En),ACall Tryz.prog 116 [encU x,encU y] R (fun r S => r = .bool (isB (x = y)) ∧ S = R)) (R : List En) : ACall Tryz.prog 115 [.sl 4 (encTs l) .no, .sl 4 (encTs m) .no, .fn (.func 116) [] []] R (fun r S => r = .bool (isB (allQ Eq l m)) ∧ S = R) := by
 refine ACall_body tab_ok Tryz.func115 rfl rfl rfl (by kernel_rfl) (Nat.le_of_ble_eq_true rfl) ?_
 repeat (first | refine go_ ?_ | intro _)
 refine AW_iff (¬ l.length = m.length) rfl (by first | (simp; done) | (simp <;> omega) | decide) (fun h => ?_) (fun h => ?_)
 ·repeat (first | refine go_ ?_ | intro _)
  refine AW_ret ?_
  repeat refine mk_ ?_
  refine ⟨_,R,AVle.eq ?_,sle_,rfl,rfl⟩
  exact congrArg AV.bool (isB_f (fun hq => h hq.1)).symm
 have hlen : l.length = m.length := Decidable.not_not.1 h
 repeat (first | refine go_ ?_ | intro _)
 refine AW_for (α := Nat) (fun z => ⟨[(0, .sl 4 (encTs l) .no),(1, .sl 4 (encTs m) .no),(2, .fn (.func 116) [] []),(15, .sl 4 (encTs l) .no),(16, .int .i64 (l.length : Nat)),(17, .int .i64 (z : Nat))], []⟩) (fun z => R) (fun z => l.length - z) (fun z => z ≤ l.length ∧ ∀ (i : Nat) (h : i < l.length) (h' : i < m.length),i < z → Eq l[i] m[i]) (0) ?_ (weak_of ?_ rfl ?_) (fun z hz => ?_)
 ·exact ⟨by omega,fun i _ _ h => by omega⟩
 ·repeat (first | exact trivial | refine ⟨(AVle.eq (congrArg (AV.int .i64) (by simp))),?_⟩ | refine env_ ?_)
 ·repeat (first | exact SLe.rfl | refine SLe.tail ?_ | refine SLe.full ?_)
 obtain ⟨i1,i2⟩ := hz
 repeat (first | refine go_ ?_ | intro _)
 refine AW_iff (z < l.length) rfl (by first | (simp; done) | (simp <;> omega) | decide) (fun h => ?_) (fun h => ?_)
 ·have hlt := h
  have hlt2 : z < m.length := by omega
  obtain ⟨x,hx⟩ : ∃ x,x = l[z] := ⟨_,rfl⟩
  obtain ⟨y,hy⟩ : ∃ x,x = m[z] := ⟨_,rfl⟩
  repeat (first | refine go_ ?_ | intro _)
  refine at_get (z) (encU x) (by first | rfl | omega | (rw [wrap_i64 (by omega)]; omega)) (by rw [hx]; exact encTs_get hlt) ?_
  repeat (first | refine go_ ?_ | intro _)
  refine at_get (z) (encU y) (by first | rfl | omega | (rw [wrap_i64 (by omega)]; omega)) (by rw [hy]; exact encTs_get hlt2) ?_
  repeat (first | refine go_ ?_ | intro _)
  refine Or.inl ⟨⟨_,Tryz.func116,rfl,rfl⟩,ACall.mono ?_ (hk x (hx ▸ List.getElem_mem hlt) y _)⟩
  rintro _ S1 ⟨rfl,hS1⟩
  subst S1
  repeat (first | refine go_ ?_ | intro _)
  refine AW_cond (b := !isB (Eq x y)) rfl (fun h => ?_) (fun h => ?_)
  ·have hq : ¬ Eq x y := isB_not.1 (by simpa using h)
   repeat (first | refine go_ ?_ | intro _)
   refine AW_ret ?_
   repeat refine mk_ ?_
   refine ⟨_,R,AVle.eq ?_,sle_,rfl,rfl⟩
   exact congrArg AV.bool (isB_f (fun ha => hq (by rw [hx,hy]; exact ha.2 z hlt hlt2))).symm
  ·have hq : Eq x y := isB_iff.1 (by simpa using h)
   repeat (first | refine go_ ?_ | intro _)
   refine ⟨z + 1,?_,?_,weak_of ?_ rfl ?_⟩
   ·omega
   ·refine ⟨by omega,fun i h h' hi => ?_⟩
    by_cases hc : i < z
    ·exact i2 i h h' hc
    ·obtain rfl : i = z := by omega
     rw [← hx, ← hy]; exact hq
   ·repeat (first | exact trivial | refine env_ ?_)
   ·repeat (first | exact SLe.rfl | refine SLe.tail ?_ | refine SLe.full ?_)
 ·repeat (first | refine go_ ?_ | intro _)
  refine AW_ret ?_
  repeat refine mk_ ?_
  refine ⟨_,R,AVle.eq ?_,sle_,rfl,rfl⟩
  exact congrArg AV.bool (isB_t ⟨hlen,fun i h h' => i2 i h h' (by omega)⟩).symm
theorem eqL_ok (l m : List Li) (hl : l.length ≤ 9223372036854775807) (hk : ∀ x ∈ l, ∀ (y : Li) (R : List En),ACall Tryz.prog 76 [encL x,encL y] R (fun r S => r = .bool (isB (x = y)) ∧ S = R)) (R : List En) : ACall Tryz.prog 75 [.sl 11 (l.map encL) .no, .sl 11 (m.map encL) .no, .fn (.func 76) [] []] R (fun r S => r = .bool (isB (allQ Eq l m)) ∧ S = R) := by
 refine ACall_body tab_ok Tryz.func75 rfl rfl rfl (by kernel_rfl) (Nat.le_of_ble_eq_true rfl) ?_
 repeat (first | refine go_ ?_ | intro _)
 refine AW_iff (¬ l.length = m.length) rfl (by first | (simp; done) | (simp <;> omega) | decide) (fun h => ?_) (fun h => ?_)
 ·repeat (first | refine go_ ?_ | intro _)
  refine AW_ret ?_
  repeat refine mk_ ?_
  refine ⟨_,R,AVle.eq ?_,sle_,rfl,rfl⟩
  exact congrArg AV.bool (isB_f (fun hq => h hq.1)).symm
 have hlen : l.length = m.length := Decidable.not_not.1 h
 repeat (first | refine go_ ?_ | intro _)
 refine AW_for (α := Nat) (fun z => ⟨[(0, .sl 11 (List.map encL l) .no),(1, .sl 11 (List.map encL m) .no),(2, .fn (.func 76) [] []),(15, .sl 11 (List.map encL l) .no),(16, .int .i64 (l.length : Nat)),(17, .int .i64 (z : Nat))], []⟩) (fun z => R) (fun z => l.length - z) (fun z => z ≤ l.length ∧ ∀ (i : Nat) (h : i < l.length) (h' : i < m.length),i < z → Eq l[i] m[i]) (0) ?_ (weak_of ?_ rfl ?_) (fun z hz => ?_)
 ·exact ⟨by omega,fun i _ _ h => by omega⟩
 ·repeat (first | exact trivial | refine ⟨(AVle.eq (congrArg (AV.int .i64) (by simp))),?_⟩ | refine env_ ?_)
 ·repeat (first | exact SLe.rfl | refine SLe.tail ?_ | refine SLe.full ?_)
 obtain ⟨i1,i2⟩ := hz
 repeat (first | refine go_ ?_ | intro _)
 refine AW_iff (z < l.length) rfl (by first | (simp; done) | (simp <;> omega) | decide) (fun h => ?_) (fun h => ?_)
 ·have hlt := h
  have hlt2 : z < m.length := by omega
  obtain ⟨x,hx⟩ : ∃ x,x = l[z] := ⟨_,rfl⟩
  obtain ⟨y,hy⟩ : ∃ x,x = m[z] := ⟨_,rfl⟩
  repeat (first | refine go_ ?_ | intro _)
  refine at_get (z) (encL x) (by first | rfl | omega | (rw [wrap_i64 (by omega)]; omega)) (by rw [List.getElem?_map,List.getElem?_eq_getElem hlt,hx]; rfl) ?_
  repeat (first | refine go_ ?_ | intro _)
  refine at_get (z) (encL y) (by first | rfl | omega | (rw [wrap_i64 (by omega)]; omega)) (by rw [List.getElem?_map,List.getElem?_eq_getElem hlt2,hy]; rfl) ?_
  repeat (first | refine go_ ?_ | intro _)
  refine Or.inl ⟨⟨_,Tryz.func76,rfl,rfl⟩,ACall.mono ?_ (hk x (hx ▸ List.getElem_mem hlt) y _)⟩
  rintro _ S1 ⟨rfl,hS1⟩
  subst S1
  repeat (first | refine go_ ?_ | intro _)
  refine AW_cond (b := !isB (Eq x y)) rfl (fun h => ?_) (fun h => ?_)
  ·have hq : ¬ Eq x y := isB_not.1 (by simpa using h)
   repeat (first | refine go_ ?_ | intro _)
   refine AW_ret ?_
   repeat refine mk_ ?_
   refine ⟨_,R,AVle.eq ?_,sle_,rfl,rfl⟩
   exact congrArg AV.bool (isB_f (fun ha => hq (by rw [hx,hy]; exact ha.2 z hlt hlt2))).symm
  ·have hq : Eq x y := isB_iff.1 (by simpa using h)
   repeat (first | refine go_ ?_ | intro _)
   refine ⟨z + 1,?_,?_,weak_of ?_ rfl ?_⟩
   ·omega
   ·refine ⟨by omega,fun i h h' hi => ?_⟩
    by_cases hc : i < z
    ·exact i2 i h h' hc
    ·obtain rfl : i = z := by omega
     rw [← hx, ← hy]; exact hq
   ·repeat (first | exact trivial | refine env_ ?_)
   ·repeat (first | exact SLe.rfl | refine SLe.tail ?_ | refine SLe.full ?_)
 ·repeat (first | refine go_ ?_ | intro _)
  refine AW_ret ?_
  repeat refine mk_ ?_
  refine ⟨_,R,AVle.eq ?_,sle_,rfl,rfl⟩
  exact congrArg AV.bool (isB_t ⟨hlen,fun i h h' => i2 i h h' (by omega)⟩).symm
theorem eqR_ok (l m : List Ru) (hl : l.length ≤ 9223372036854775807) (hk : ∀ x ∈ l, ∀ (y : Ru) (R : List En),ACall Tryz.prog 37 [encRu x,encRu y] R (fun r S => r = .bool (isB (likeR x y)) ∧ S = R)) (R : List En) : ACall Tryz.prog 36 [.sl 4 (l.map encRu) .no, .sl 4 (m.map encRu) .no, .fn (.func 37) [] []] R (fun r S => r = .bool (isB (allQ likeR l m)) ∧ S = R) := by
 refine ACall_body tab_ok Tryz.func36 rfl rfl rfl (by kernel_rfl) (Nat.le_of_ble_eq_true rfl) ?_
 repeat (first | refine go_ ?_ | intro _)
 refine AW_iff (¬ l.length = m.length) rfl (by first | (simp; done) | (simp <;> omega) | decide) (fun h => ?_) (fun h => ?_)
 ·repeat (first | refine go_ ?_ | intro _)
  refine AW_ret ?_
  repeat refine mk_ ?_
  refine ⟨_,R,AVle.eq ?_,sle_,rfl,rfl⟩
  exact congrArg AV.bool (isB_f (fun hq => h hq.1)).symm
 have hlen : l.length = m.length := Decidable.not_not.1 h
 repeat (first | refine go_ ?_ | intro _)
 refine AW_for (α := Nat) (fun z => ⟨[(0, .sl 4 (List.map encRu l) .no),(1, .sl 4 (List.map encRu m) .no),(2, .fn (.func 37) [] []),(15, .sl 4 (List.map encRu l) .no),(16, .int .i64 (l.length : Nat)),(17, .int .i64 (z : Nat))], []⟩) (fun z => R) (fun z => l.length - z) (fun z => z ≤ l.length ∧ ∀ (i : Nat) (h : i < l.length) (h' : i < m.length),i < z → likeR l[i] m[i]) (0) ?_ (weak_of ?_ rfl ?_) (fun z hz => ?_)
 ·exact ⟨by omega,fun i _ _ h => by omega⟩
 ·repeat (first | exact trivial | refine ⟨(AVle.eq (congrArg (AV.int .i64) (by simp))),?_⟩ | refine env_ ?_)
 ·repeat (first | exact SLe.rfl | refine SLe.tail ?_ | refine SLe.full ?_)
 obtain ⟨i1,i2⟩ := hz
 repeat (first | refine go_ ?_ | intro _)
 refine AW_iff (z < l.length) rfl (by first | (simp; done) | (simp <;> omega) | decide) (fun h => ?_) (fun h => ?_)
 ·have hlt := h
  have hlt2 : z < m.length := by omega
  obtain ⟨x,hx⟩ : ∃ x,x = l[z] := ⟨_,rfl⟩
  obtain ⟨y,hy⟩ : ∃ x,x = m[z] := ⟨_,rfl⟩
  repeat (first | refine go_ ?_ | intro _)
  refine at_get (z) (encRu x) (by first | rfl | omega | (rw [wrap_i64 (by omega)]; omega)) (by rw [List.getElem?_map,List.getElem?_eq_getElem hlt,hx]; rfl) ?_
  repeat (first | refine go_ ?_ | intro _)
  refine at_get (z) (encRu y) (by first | rfl | omega | (rw [wrap_i64 (by omega)]; omega)) (by rw [List.getElem?_map,List.getElem?_eq_getElem hlt2,hy]; rfl) ?_
  repeat (first | refine go_ ?_ | intro _)
  refine Or.inl ⟨⟨_,Tryz.func37,rfl,rfl⟩,ACall.mono ?_ (hk x (hx ▸ List.getElem_mem hlt) y _)⟩
  rintro _ S1 ⟨rfl,hS1⟩
  subst S1
  repeat (first | refine go_ ?_ | intro _)
  refine AW_cond (b := !isB (likeR x y)) rfl (fun h => ?_) (fun h => ?_)
  ·have hq : ¬ likeR x y := isB_not.1 (by simpa using h)
   repeat (first | refine go_ ?_ | intro _)
   refine AW_ret ?_
   repeat refine mk_ ?_
   refine ⟨_,R,AVle.eq ?_,sle_,rfl,rfl⟩
   exact congrArg AV.bool (isB_f (fun ha => hq (by rw [hx,hy]; exact ha.2 z hlt hlt2))).symm
  ·have hq : likeR x y := isB_iff.1 (by simpa using h)
   repeat (first | refine go_ ?_ | intro _)
   refine ⟨z + 1,?_,?_,weak_of ?_ rfl ?_⟩
   ·omega
   ·refine ⟨by omega,fun i h h' hi => ?_⟩
    by_cases hc : i < z
    ·exact i2 i h h' hc
    ·obtain rfl : i = z := by omega
     rw [← hx, ← hy]; exact hq
   ·repeat (first | exact trivial | refine env_ ?_)
   ·repeat (first | exact SLe.rfl | refine SLe.tail ?_ | refine SLe.full ?_)
 ·repeat (first | refine go_ ?_ | intro _)
  refine AW_ret ?_
  repeat refine mk_ ?_
  refine ⟨_,R,AVle.eq ?_,sle_,rfl,rfl⟩
  exact congrArg AV.bool (isB_t ⟨hlen,fun i h h' => i2 i h h' (by omega)⟩).symm
theorem eqD_ok (l m : List De) (hl : l.length ≤ 9223372036854775807) (hk : ∀ x ∈ l, ∀ (y : De) (R : List En),ACall Tryz.prog 35 [encD x,encD y] R (fun r S => r = .bool (isB (likeD x y)) ∧ S = R)) (R : List En) : ACall Tryz.prog 34 [.sl 6 (l.map encD) .no, .sl 6 (m.map encD) .no, .fn (.func 35) [] []] R (fun r S => r = .bool (isB (allQ likeD l m)) ∧ S = R) := by
 refine ACall_body tab_ok Tryz.func34 rfl rfl rfl (by kernel_rfl) (Nat.le_of_ble_eq_true rfl) ?_
 repeat (first | refine go_ ?_ | intro _)
 refine AW_iff (¬ l.length = m.length) rfl (by first | (simp; done) | (simp <;> omega) | decide) (fun h => ?_) (fun h => ?_)
 ·repeat (first | refine go_ ?_ | intro _)
  refine AW_ret ?_
  repeat refine mk_ ?_
  refine ⟨_,R,AVle.eq ?_,sle_,rfl,rfl⟩
  exact congrArg AV.bool (isB_f (fun hq => h hq.1)).symm
 have hlen : l.length = m.length := Decidable.not_not.1 h
 repeat (first | refine go_ ?_ | intro _)
 refine AW_for (α := Nat) (fun z => ⟨[(0, .sl 6 (List.map encD l) .no),(1, .sl 6 (List.map encD m) .no),(2, .fn (.func 35) [] []),(15, .sl 6 (List.map encD l) .no),(16, .int .i64 (l.length : Nat)),(17, .int .i64 (z : Nat))], []⟩) (fun z => R) (fun z => l.length - z) (fun z => z ≤ l.length ∧ ∀ (i : Nat) (h : i < l.length) (h' : i < m.length),i < z → likeD l[i] m[i]) (0) ?_ (weak_of ?_ rfl ?_) (fun z hz => ?_)
 ·exact ⟨by omega,fun i _ _ h => by omega⟩
 ·repeat (first | exact trivial | refine ⟨(AVle.eq (congrArg (AV.int .i64) (by simp))),?_⟩ | refine env_ ?_)
 ·repeat (first | exact SLe.rfl | refine SLe.tail ?_ | refine SLe.full ?_)
 obtain ⟨i1,i2⟩ := hz
 repeat (first | refine go_ ?_ | intro _)
 refine AW_iff (z < l.length) rfl (by first | (simp; done) | (simp <;> omega) | decide) (fun h => ?_) (fun h => ?_)
 ·have hlt := h
  have hlt2 : z < m.length := by omega
  obtain ⟨x,hx⟩ : ∃ x,x = l[z] := ⟨_,rfl⟩
  obtain ⟨y,hy⟩ : ∃ x,x = m[z] := ⟨_,rfl⟩
  repeat (first | refine go_ ?_ | intro _)
  refine at_get (z) (encD x) (by first | rfl | omega | (rw [wrap_i64 (by omega)]; omega)) (by rw [List.getElem?_map,List.getElem?_eq_getElem hlt,hx]; rfl) ?_
  repeat (first | refine go_ ?_ | intro _)
  refine at_get (z) (encD y) (by first | rfl | omega | (rw [wrap_i64 (by omega)]; omega)) (by rw [List.getElem?_map,List.getElem?_eq_getElem hlt2,hy]; rfl) ?_
  repeat (first | refine go_ ?_ | intro _)
  refine Or.inl ⟨⟨_,Tryz.func35,rfl,rfl⟩,ACall.mono ?_ (hk x (hx ▸ List.getElem_mem hlt) y _)⟩
  rintro _ S1 ⟨rfl,hS1⟩
  subst S1
  repeat (first | refine go_ ?_ | intro _)
  refine AW_cond (b := !isB (likeD x y)) rfl (fun h => ?_) (fun h => ?_)
  ·have hq : ¬ likeD x y := isB_not.1 (by simpa using h)
   repeat (first | refine go_ ?_ | intro _)
   refine AW_ret ?_
   repeat refine mk_ ?_
   refine ⟨_,R,AVle.eq ?_,sle_,rfl,rfl⟩
   exact congrArg AV.bool (isB_f (fun ha => hq (by rw [hx,hy]; exact ha.2 z hlt hlt2))).symm
  ·have hq : likeD x y := isB_iff.1 (by simpa using h)
   repeat (first | refine go_ ?_ | intro _)
   refine ⟨z + 1,?_,?_,weak_of ?_ rfl ?_⟩
   ·omega
   ·refine ⟨by omega,fun i h h' hi => ?_⟩
    by_cases hc : i < z
    ·exact i2 i h h' hc
    ·obtain rfl : i = z := by omega
     rw [← hx, ← hy]; exact hq
   ·repeat (first | exact trivial | refine env_ ?_)
   ·repeat (first | exact SLe.rfl | refine SLe.tail ?_ | refine SLe.full ?_)
 ·repeat (first | refine go_ ?_ | intro _)
  refine AW_ret ?_
  repeat refine mk_ ?_
  refine ⟨_,R,AVle.eq ?_,sle_,rfl,rfl⟩
  exact congrArg AV.bool (isB_t ⟨hlen,fun i h h' => i2 i h h' (by omega)⟩).symm
theorem eqS_ok (l m : List (List UInt8)) (hl : l.length ≤ 9223372036854775807) (R : List En) : ACall Tryz.prog 72 [.sl 1 (l.map AV.str) .no, .sl 1 (m.map AV.str) .no] R (fun r S => r = .bool (isB (l = m)) ∧ S = R) := by
 refine ACall_body tab_ok Tryz.func72 rfl rfl rfl (by kernel_rfl) (Nat.le_of_ble_eq_true rfl) ?_
 repeat (first | refine go_ ?_ | intro _)
 refine AW_iff (¬ l.length = m.length) rfl (by first | (simp; done) | (simp <;> omega) | decide) (fun h => ?_) (fun h => ?_)
 ·repeat (first | refine go_ ?_ | intro _)
  refine AW_ret ?_
  repeat refine mk_ ?_
  refine ⟨_,R,AVle.eq ?_,sle_,rfl,rfl⟩
  exact congrArg AV.bool (isB_f (fun hq => h (by rw [hq]))).symm
 have hlen : l.length = m.length := Decidable.not_not.1 h
 repeat (first | refine go_ ?_ | intro _)
 refine AW_for (α := Nat) (fun z => ⟨[(0, .sl 1 (l.map AV.str) .no),(1, .sl 1 (m.map AV.str) .no),(12, .int .i64 (l.length : Nat)),(13, .int .i64 (z : Nat))], []⟩) (fun z => R) (fun z => l.length - z) (fun z => z ≤ l.length ∧ ∀ (i : Nat) (h : i < l.length) (h' : i < m.length),i < z → l[i] = m[i]) (0) ?_ (weak_of ?_ rfl ?_) (fun z hz => ?_)
 ·exact ⟨by omega,fun i _ _ h => by omega⟩
 ·repeat (first | exact trivial | refine ⟨(AVle.eq (congrArg (AV.int .i64) (by simp))),?_⟩ | refine env_ ?_)
 ·repeat (first | exact SLe.rfl | refine SLe.tail ?_ | refine SLe.full ?_)
 obtain ⟨i1,i2⟩ := hz
 repeat (first | refine go_ ?_ | intro _)
 refine AW_iff (z < l.length) rfl (by first | (simp; done) | (simp <;> omega) | decide) (fun h => ?_) (fun h => ?_)
 ·have hlt := h
  have hlt2 : z < m.length := by omega
  obtain ⟨x,hx⟩ : ∃ x,x = l[z] := ⟨_,rfl⟩
  obtain ⟨y,hy⟩ : ∃ x,x = m[z] := ⟨_,rfl⟩
  repeat (first | refine go_ ?_ | intro _)
  refine AW_draw tab_ok mixed 9 (by first | rfl | kernel_rfl) ?_
  repeat (first | refine go_ ?_ | intro _)
  refine at_get (z) (AV.str x) (by first | rfl | omega | (rw [wrap_i64 (by omega)]; omega)) (by rw [List.getElem?_map,List.getElem?_eq_getElem hlt,hx]; rfl) ?_
  repeat (first | refine go_ ?_ | intro _)
  refine at_get (z) (AV.str y) (by first | rfl | omega | (rw [wrap_i64 (by omega)]; omega)) (by rw [List.getElem?_map,List.getElem?_eq_getElem hlt2,hy]; rfl) ?_
  repeat (first | refine go_ ?_ | intro _)
  refine AW_iff (¬ x = y) rfl (by first | (simp; done) | (simp <;> omega) | decide) (fun h => ?_) (fun h => ?_)
  ·have hq := h
   repeat (first | refine go_ ?_ | intro _)
   refine AW_ret ?_
   repeat refine mk_ ?_
   refine ⟨_,R,AVle.eq ?_,sle_,rfl,rfl⟩
   exact congrArg AV.bool (isB_f (fun ha => hq (by subst ha; rw [hx,hy]))).symm
  ·have hq : x = y := Decidable.not_not.1 h
   repeat (first | refine go_ ?_ | intro _)
   refine ⟨z + 1,?_,?_,weak_of ?_ rfl ?_⟩
   ·omega
   ·refine ⟨by omega,fun i h h' hi => ?_⟩
    by_cases hc : i < z
    ·exact i2 i h h' hc
    ·obtain rfl : i = z := by omega
     rw [← hx, ← hy]; exact hq
   ·repeat (first | exact trivial | refine env_ ?_)
   ·repeat (first | exact SLe.rfl | refine SLe.tail ?_ | refine SLe.full ?_)
 ·repeat (first | refine go_ ?_ | intro _)
  refine AW_ret ?_
  repeat refine mk_ ?_
  refine ⟨_,R,AVle.eq ?_,sle_,rfl,rfl⟩
  exact congrArg AV.bool (isB_t (List.ext_getElem hlen fun i h h' => i2 i h h' (by omega))).symm
theorem eqI_ok (l m : List Int) (hl : l.length ≤ 9223372036854775807) (R : List En) : ACall Tryz.prog 73 [.sl 1 (l.map encI) .no, .sl 1 (m.map encI) .no] R (fun r S => r = .bool (isB (l = m)) ∧ S = R) := by
 refine ACall_body tab_ok Tryz.func73 rfl rfl rfl (by kernel_rfl) (Nat.le_of_ble_eq_true rfl) ?_
 repeat (first | refine go_ ?_ | intro _)
 refine AW_iff (¬ l.length = m.length) rfl (by first | (simp; done) | (simp <;> omega) | decide) (fun h => ?_) (fun h => ?_)
 ·repeat (first | refine go_ ?_ | intro _)
  refine AW_ret ?_
  repeat refine mk_ ?_
  refine ⟨_,R,AVle.eq ?_,sle_,rfl,rfl⟩
  exact congrArg AV.bool (isB_f (fun hq => h (by rw [hq]))).symm
 have hlen : l.length = m.length := Decidable.not_not.1 h
 repeat (first | refine go_ ?_ | intro _)
 refine AW_for (α := Nat) (fun z => ⟨[(0, .sl 1 (l.map encI) .no),(1, .sl 1 (m.map encI) .no),(12, .int .i64 (l.length : Nat)),(13, .int .i64 (z : Nat))], []⟩) (fun z => R) (fun z => l.length - z) (fun z => z ≤ l.length ∧ ∀ (i : Nat) (h : i < l.length) (h' : i < m.length),i < z → l[i] = m[i]) (0) ?_ (weak_of ?_ rfl ?_) (fun z hz => ?_)
 ·exact ⟨by omega,fun i _ _ h => by omega⟩
 ·repeat (first | exact trivial | refine ⟨(AVle.eq (congrArg (AV.int .i64) (by simp))),?_⟩ | refine env_ ?_)
 ·repeat (first | exact SLe.rfl | refine SLe.tail ?_ | refine SLe.full ?_)
 obtain ⟨i1,i2⟩ := hz
 repeat (first | refine go_ ?_ | intro _)
 refine AW_iff (z < l.length) rfl (by first | (simp; done) | (simp <;> omega) | decide) (fun h => ?_) (fun h => ?_)
 ·have hlt := h
  have hlt2 : z < m.length := by omega
  obtain ⟨x,hx⟩ : ∃ x,x = l[z] := ⟨_,rfl⟩
  obtain ⟨y,hy⟩ : ∃ x,x = m[z] := ⟨_,rfl⟩
  repeat (first | refine go_ ?_ | intro _)
  refine AW_draw tab_ok mixed 9 (by first | rfl | kernel_rfl) ?_
  repeat (first | refine go_ ?_ | intro _)
  refine at_get (z) (encI x) (by first | rfl | omega | (rw [wrap_i64 (by omega)]; omega)) (by rw [List.getElem?_map,List.getElem?_eq_getElem hlt,hx]; rfl) ?_
  repeat (first | refine go_ ?_ | intro _)
  refine at_get (z) (encI y) (by first | rfl | omega | (rw [wrap_i64 (by omega)]; omega)) (by rw [List.getElem?_map,List.getElem?_eq_getElem hlt2,hy]; rfl) ?_
  repeat (first | refine go_ ?_ | intro _)
  refine AW_iff (¬ x = y) rfl (by first | (simp; done) | (simp <;> omega) | decide) (fun h => ?_) (fun h => ?_)
  ·have hq := h
   repeat (first | refine go_ ?_ | intro _)
   refine AW_ret ?_
   repeat refine mk_ ?_
   refine ⟨_,R,AVle.eq ?_,sle_,rfl,rfl⟩
   exact congrArg AV.bool (isB_f (fun ha => hq (by subst ha; rw [hx,hy]))).symm
  ·have hq : x = y := Decidable.not_not.1 h
   repeat (first | refine go_ ?_ | intro _)
   refine ⟨z + 1,?_,?_,weak_of ?_ rfl ?_⟩
   ·omega
   ·refine ⟨by omega,fun i h h' hi => ?_⟩
    by_cases hc : i < z
    ·exact i2 i h h' hc
    ·obtain rfl : i = z := by omega
     rw [← hx, ← hy]; exact hq
   ·repeat (first | exact trivial | refine env_ ?_)
   ·repeat (first | exact SLe.rfl | refine SLe.tail ?_ | refine SLe.full ?_)
 ·repeat (first | refine go_ ?_ | intro _)
  refine AW_ret ?_
  repeat refine mk_ ?_
  refine ⟨_,R,AVle.eq ?_,sle_,rfl,rfl⟩
  exact congrArg AV.bool (isB_t (List.ext_getElem hlen fun i h h' => i2 i h h' (by omega))).symm
end Go.Proofs.YtfeknkaioofljaaGreatDoor.Tree
namespace Go.Proofs.YtfeknkaioofljaaGreatDoor.Tree
open Go.Aw Go.RowKit
theorem sameTerm_ok : ∀ (n : Nat) (t : T),cntT t ≤ n → n ≤ 9000 → ∀ (u : T) (R : List En),ACall Tryz.prog 116 [encU t,encU u] R (fun r S => r = .bool (isB (t = u)) ∧ S = R)
 | 0,t,hn,_,u,R => by have := cnt_pos t; omega
 | n + 1,t,hn,hm,u,R => by
  have hc : cntTs t.l ≤ n := by
   cases t with
   | mk a b c l => rw [cntT] at hn; exact Nat.le_of_succ_le_succ hn
  have hl := len_cnt t.l
  have kl := fun R => eqT_ok t.l u.l (by omega) (fun x hx => sameTerm_ok n x (by obtain ⟨i,hi,rfl⟩ := List.mem_iff_getElem.1 hx; have := cntTs_at hi; omega) (by omega)) R
  rw [isB_eq allQ_eq] at kl
  refine ACall_body tab_ok Tryz.func116 rfl rfl rfl (by kernel_rfl) (Nat.le_of_ble_eq_true rfl) ?_
  repeat (first | refine go_ ?_ | intro _)
  refine gsplit (t.op = u.op) (by first | (simp; done) | (simp <;> omega) | decide) (fun h => ?_) (fun h => ?_)
  ·have h1 := h
   repeat (first | refine ga_ ?_ | intro _)
   refine gsplit (t.s = u.s) (by first | (simp; done) | (simp <;> omega) | decide) (fun h => ?_) (fun h => ?_)
   ·have h2 := h
    repeat (first | refine ga_ ?_ | intro _)
    refine gsplit (t.n = u.n) (by first | (simp; done) | (simp <;> omega) | decide) (fun h => ?_) (fun h => ?_)
    ·have h3 := h
     repeat (first | refine ga_ ?_ | intro _)
     refine Or.inl ⟨⟨_,Tryz.func115,rfl,rfl⟩,ACall.mono ?_ (kl _)⟩
     rintro _ S1 ⟨rfl,hS1⟩
     subst S1
     repeat (first | refine ga_ ?_ | intro _)
     refine AW_ret ?_
     repeat refine mk_ ?_
     refine ⟨_,R,AVle.eq ?_,sle_,rfl,rfl⟩
     exact congrArg AV.bool (isB_eq ⟨fun h => T_ext.2 ⟨h1,h2,h3,h⟩,fun h => (T_ext.1 h).2.2.2⟩)
    ·have hq := h
     repeat (first | refine ga_ ?_ | intro _)
     refine AW_ret ?_
     repeat refine mk_ ?_
     refine ⟨_,R,AVle.eq ?_,sle_,rfl,rfl⟩
     exact congrArg AV.bool (isB_f (fun e => hq (T_ext.1 e).2.2.1)).symm
   ·have hq := h
    repeat (first | refine ga_ ?_ | intro _)
    refine AW_ret ?_
    repeat refine mk_ ?_
    refine ⟨_,R,AVle.eq ?_,sle_,rfl,rfl⟩
    exact congrArg AV.bool (isB_f (fun e => hq (T_ext.1 e).2.1)).symm
  ·have hq := h
   repeat (first | refine ga_ ?_ | intro _)
   refine AW_ret ?_
   repeat refine mk_ ?_
   refine ⟨_,R,AVle.eq ?_,sle_,rfl,rfl⟩
   exact congrArg AV.bool (isB_f (fun e => hq (T_ext.1 e).1)).symm
theorem sameAtom_ok (a b : At) (R : List En) (hc : cntTs a.l ≤ 8900) : ACall Tryz.prog 74 [encA a,encA b] R (fun r S => r = .bool (isB (a = b)) ∧ S = R) := by
 have hl := len_cnt a.l
 have kl := fun R => eqT_ok a.l b.l (by omega) (fun x hx => sameTerm_ok 9000 x (by obtain ⟨i,hi,rfl⟩ := List.mem_iff_getElem.1 hx; have := cntTs_at hi; omega) (by omega)) R
 rw [isB_eq allQ_eq] at kl
 refine ACall_body tab_ok Tryz.func74 rfl rfl rfl (by kernel_rfl) (Nat.le_of_ble_eq_true rfl) ?_
 repeat (first | refine go_ ?_ | intro _)
 refine gsplit (a.rel = b.rel) (by first | (simp; done) | (simp <;> omega) | decide) (fun h => ?_) (fun h => ?_)
 ·have h1 := h
  repeat (first | refine ga_ ?_ | intro _)
  refine Or.inl ⟨⟨_,Tryz.func115,rfl,rfl⟩,ACall.mono ?_ (kl _)⟩
  rintro _ S1 ⟨rfl,hS1⟩
  subst S1
  repeat (first | refine ga_ ?_ | intro _)
  refine AW_ret ?_
  repeat refine mk_ ?_
  refine ⟨_,R,AVle.eq ?_,sle_,rfl,rfl⟩
  exact congrArg AV.bool (isB_eq ⟨fun h => At_ext.2 ⟨h1,h⟩,fun h => (At_ext.1 h).2⟩)
 ·have hq := h
  repeat (first | refine ga_ ?_ | intro _)
  refine AW_ret ?_
  repeat refine mk_ ?_
  refine ⟨_,R,AVle.eq ?_,sle_,rfl,rfl⟩
  exact congrArg AV.bool (isB_f (fun e => hq (At_ext.1 e).1)).symm
theorem sameLit_ok (l m : Li) (R : List En) (hc : cntL l ≤ 8900) : ACall Tryz.prog 76 [encL l,encL m] R (fun r S => r = .bool (isB (l = m)) ∧ S = R) := by
 unfold cntL at hc
 have ka := fun R => sameAtom_ok l.a m.a R (by omega)
 have kx := fun R => sameTerm_ok 9000 l.x (by omega) (by omega) m.x R
 have ky := fun R => sameTerm_ok 9000 l.y (by omega) (by omega) m.y R
 refine ACall_body tab_ok Tryz.func76 rfl rfl rfl (by kernel_rfl) (Nat.le_of_ble_eq_true rfl) ?_
 repeat (first | refine go_ ?_ | intro _)
 refine gsplit (l.op = m.op) (by first | (simp; done) | (simp <;> omega) | decide) (fun h => ?_) (fun h => ?_)
 ·have h1 := h
  repeat (first | refine ga_ ?_ | intro _)
  refine Or.inl ⟨⟨_,Tryz.func74,rfl,rfl⟩,ACall.mono ?_ (ka _)⟩
  rintro _ S1 ⟨rfl,hS1⟩
  subst S1
  repeat (first | refine ga_ ?_ | intro _)
  refine gsplit (l.a = m.a) (by first | (simp; done) | (simp <;> omega) | decide) (fun h => ?_) (fun h => ?_)
  ·have h2 := h
   repeat (first | refine ga_ ?_ | intro _)
   refine Or.inl ⟨⟨_,Tryz.func116,rfl,rfl⟩,ACall.mono ?_ (kx _)⟩
   rintro _ S1 ⟨rfl,hS1⟩
   subst S1
   repeat (first | refine ga_ ?_ | intro _)
   refine gsplit (l.x = m.x) (by first | (simp; done) | (simp <;> omega) | decide) (fun h => ?_) (fun h => ?_)
   ·have h3 := h
    repeat (first | refine ga_ ?_ | intro _)
    refine Or.inl ⟨⟨_,Tryz.func116,rfl,rfl⟩,ACall.mono ?_ (ky _)⟩
    rintro _ S1 ⟨rfl,hS1⟩
    subst S1
    repeat (first | refine ga_ ?_ | intro _)
    refine AW_ret ?_
    repeat refine mk_ ?_
    refine ⟨_,R,AVle.eq ?_,sle_,rfl,rfl⟩
    exact congrArg AV.bool (isB_eq ⟨fun h => Li_ext.2 ⟨h1,h2,h3,h⟩,fun h => (Li_ext.1 h).2.2.2⟩)
   ·have hq := h
    repeat (first | refine ga_ ?_ | intro _)
    refine AW_ret ?_
    repeat refine mk_ ?_
    refine ⟨_,R,AVle.eq ?_,sle_,rfl,rfl⟩
    exact congrArg AV.bool (isB_f (fun e => hq (Li_ext.1 e).2.2.1)).symm
  ·have hq := h
   repeat (first | refine ga_ ?_ | intro _)
   refine AW_ret ?_
   repeat refine mk_ ?_
   refine ⟨_,R,AVle.eq ?_,sle_,rfl,rfl⟩
   exact congrArg AV.bool (isB_f (fun e => hq (Li_ext.1 e).2.1)).symm
 ·have hq := h
  repeat (first | refine ga_ ?_ | intro _)
  refine AW_ret ?_
  repeat refine mk_ ?_
  refine ⟨_,R,AVle.eq ?_,sle_,rfl,rfl⟩
  exact congrArg AV.bool (isB_f (fun e => hq (Li_ext.1 e).1)).symm
theorem sameRule_ok (r q : Ru) (R : List En) (hc : cntR r ≤ 8800) : ACall Tryz.prog 37 [encRu r,encRu q] R (fun v S => v = .bool (isB (likeR r q)) ∧ S = R) := by
 have hl := lens_cnt r.body
 unfold cntR at hc
 have ka := fun R => sameAtom_ok r.head q.head R (by omega)
 have kl := fun R => eqL_ok r.body q.body (by omega) (fun x hx y R => sameLit_ok x y R (by have := cntLs_at hx; omega)) R
 rw [isB_eq allQ_eq] at kl
 refine ACall_body tab_ok Tryz.func37 rfl rfl rfl (by kernel_rfl) (Nat.le_of_ble_eq_true rfl) ?_
 repeat (first | refine go_ ?_ | intro _)
 refine Or.inl ⟨⟨_,Tryz.func74,rfl,rfl⟩,ACall.mono ?_ (ka _)⟩
 rintro _ S1 ⟨rfl,hS1⟩
 subst S1
 repeat (first | refine go_ ?_ | intro _)
 refine gsplit (r.head = q.head) (by first | (simp; done) | (simp <;> omega) | decide) (fun h => ?_) (fun h => ?_)
 ·have h1 := h
  repeat (first | refine ga_ ?_ | intro _)
  refine Or.inl ⟨⟨_,Tryz.func75,rfl,rfl⟩,ACall.mono ?_ (kl _)⟩
  rintro _ S1 ⟨rfl,hS1⟩
  subst S1
  repeat (first | refine ga_ ?_ | intro _)
  refine AW_ret ?_
  repeat refine mk_ ?_
  refine ⟨_,R,AVle.eq ?_,sle_,rfl,rfl⟩
  exact congrArg AV.bool (isB_eq ⟨fun h => ⟨h1,h⟩,fun h => h.2⟩)
 ·have hq := h
  repeat (first | refine ga_ ?_ | intro _)
  refine AW_ret ?_
  repeat refine mk_ ?_
  refine ⟨_,R,AVle.eq ?_,sle_,rfl,rfl⟩
  exact congrArg AV.bool (isB_f (fun e => hq e.1)).symm
theorem sameDecl_ok (d e : De) (R : List En) (h1 : d.names.length ≤ 9223372036854775807) (h2 : d.types.length ≤ 9223372036854775807) : ACall Tryz.prog 35 [encD d,encD e] R (fun v S => v = .bool (isB (likeD d e)) ∧ S = R) := by
 have k1 := fun R => eqS_ok d.names e.names h1 R
 have k2 := fun R => eqI_ok d.types e.types h2 R
 refine ACall_body tab_ok Tryz.func35 rfl rfl rfl (by kernel_rfl) (Nat.le_of_ble_eq_true rfl) ?_
 repeat (first | refine go_ ?_ | intro _)
 refine gsplit (d.rel = e.rel) (by first | (simp; done) | (simp <;> omega) | decide) (fun h => ?_) (fun h => ?_)
 ·have h1 := h
  repeat (first | refine ga_ ?_ | intro _)
  refine gsplit (d.inp = e.inp) (by first | (simp; done) | (simp <;> omega) | decide) (fun h => ?_) (fun h => ?_)
  ·have h2 := h
   repeat (first | refine ga_ ?_ | intro _)
   refine gsplit (d.out = e.out) (by first | (simp; done) | (simp <;> omega) | decide) (fun h => ?_) (fun h => ?_)
   ·have h3 := h
    repeat (first | refine ga_ ?_ | intro _)
    refine Or.inl ⟨⟨_,Tryz.func72,rfl,rfl⟩,ACall.mono ?_ (k1 _)⟩
    rintro _ S1 ⟨rfl,hS1⟩
    subst S1
    repeat (first | refine ga_ ?_ | intro _)
    refine gsplit (d.names = e.names) (by first | (simp; done) | (simp <;> omega) | decide) (fun h => ?_) (fun h => ?_)
    ·have h4 := h
     repeat (first | refine ga_ ?_ | intro _)
     refine Or.inl ⟨⟨_,Tryz.func73,rfl,rfl⟩,ACall.mono ?_ (k2 _)⟩
     rintro _ S1 ⟨rfl,hS1⟩
     subst S1
     repeat (first | refine ga_ ?_ | intro _)
     refine AW_ret ?_
     repeat refine mk_ ?_
     refine ⟨_,R,AVle.eq ?_,sle_,rfl,rfl⟩
     exact congrArg AV.bool (isB_eq ⟨fun h => ⟨h1,h4,h,h2,h3⟩,fun h => h.2.2.1⟩)
    ·have hq := h
     repeat (first | refine ga_ ?_ | intro _)
     refine AW_ret ?_
     repeat refine mk_ ?_
     refine ⟨_,R,AVle.eq ?_,sle_,rfl,rfl⟩
     exact congrArg AV.bool (isB_f (fun e => hq e.2.1)).symm
   ·have hq := h
    repeat (first | refine ga_ ?_ | intro _)
    refine AW_ret ?_
    repeat refine mk_ ?_
    refine ⟨_,R,AVle.eq ?_,sle_,rfl,rfl⟩
    exact congrArg AV.bool (isB_f (fun e => hq e.2.2.2.2)).symm
  ·have hq := h
   repeat (first | refine ga_ ?_ | intro _)
   refine AW_ret ?_
   repeat refine mk_ ?_
   refine ⟨_,R,AVle.eq ?_,sle_,rfl,rfl⟩
   exact congrArg AV.bool (isB_f (fun e => hq e.2.2.2.1)).symm
 ·have hq := h
  repeat (first | refine ga_ ?_ | intro _)
  refine AW_ret ?_
  repeat refine mk_ ?_
  refine ⟨_,R,AVle.eq ?_,sle_,rfl,rfl⟩
  exact congrArg AV.bool (isB_f (fun e => hq e.1)).symm
end Go.Proofs.YtfeknkaioofljaaGreatDoor.Tree
namespace Go.Proofs.YtfeknkaioofljaaGreatDoor.Tree
open Go.Aw Go.RowKit
end Go.Proofs.YtfeknkaioofljaaGreatDoor.Tree
