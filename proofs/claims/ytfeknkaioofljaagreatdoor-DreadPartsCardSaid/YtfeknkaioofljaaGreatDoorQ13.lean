/-
 The text of a part of a body. Own work.
-/
import Derived.Test.YtfeknkaioofljaaGreatDoorQ11
import Derived.Test.YtfeknkaioofljaaGreatDoorQ12
set_option linter.all false
namespace Go.Proofs.YtfeknkaioofljaaGreatDoor.Tree
open Go.Aw Go.RowKit
set_option maxHeartbeats 4000000
set_option maxRecDepth 4000

theorem showLit_ok (l : Li) (R : List En) (hr : rightL l = true) (ho : okL l) (hc : cntL l ≤ 3000) (hG : NumG R) : ACall Tryz.prog 71 [encL l] R (fun r S => r = .str (showL l) ∧ S = R) := by
 have hcs := rightL_cases hr
 obtain ⟨op, a, x, y⟩ := l
 obtain ⟨oa, ox, oy⟩ := ho
 simp only [cntL] at hc
 have la := showA_len a oa
 have lx := showT_len x ox
 have ly := showT_len y oy
 simp only [] at hcs oa ox oy hc la lx ly
 have ka : rightA a = true → ∀ R, NumG R → ACall Tryz.prog 70 [encA a] R (fun r S => r = .str (showA a) ∧ S = R) := fun h R hG => showAtom_ok a R h oa (by omega) hG
 have kx : rightT x 20 = true → ∀ R, NumG R → ACall Tryz.prog 114 [encU x] R (fun r S => r = .str (showT x) ∧ S = R) := fun h R hG => showTerm_ok 20 x R h ox (by omega) hG
 have ky : rightT y 20 = true → ∀ R, NumG R → ACall Tryz.prog 114 [encU y] R (fun r S => r = .str (showT y) ∧ S = R) := fun h R hG => showTerm_ok 20 y R h oy (by omega) hG
 refine ACall_body tab_ok Tryz.func71 rfl rfl rfl (by kernel_rfl) (Nat.le_of_ble_eq_true rfl) ?_
 rcases hcs with ⟨o, ra, ex, ey⟩ | ⟨o, ea, rx, ry⟩ | ⟨o, ra, rx, ey⟩ | ⟨o, ra, rx, ry⟩
 ·replace ka := ka ra
  rcases o with o | o
  ·subst o
   repeat (first | refine ga_ ?_ | intro _)
   refine Or.inl ⟨⟨_, Tryz.func70, rfl, rfl⟩, ACall.mono ?_ (ka _ hG.cons)⟩
   rintro _ S1 ⟨rfl, hS1⟩
   subst S1
   repeat (first | refine go_ ?_ | intro _)
   refine AW_ret ?_
   repeat refine mk_ ?_
   refine ⟨_, R, AVle.eq ?_, sle_, rfl, rfl⟩
   rfl
  ·subst o
   repeat (first | refine ga_ ?_ | intro _)
   refine Or.inl ⟨⟨_, Tryz.func70, rfl, rfl⟩, ACall.mono ?_ (ka _ hG.cons)⟩
   rintro _ S1 ⟨rfl, hS1⟩
   subst S1
   repeat (first | refine go_ ?_ | intro _)
   refine cat_ ?_
   repeat (first | refine go_ ?_ | intro _)
   refine AW_ret ?_
   repeat refine mk_ ?_
   refine ⟨_, R, AVle.eq ?_, sle_, rfl, rfl⟩
   rfl
 ·replace kx := kx rx
  replace ky := ky ry
  rcases o with o | o | o | o
  ·subst o
   have e : showL ⟨3, a, x, y⟩ = showT x ++ ([32, 61, 32] ++ showT y) := sL3 (l := ⟨3, a, x, y⟩) (by simp)
   repeat (first | refine ga_ ?_ | intro _)
   refine AW_draw tab_ok mixed 9 (by first | rfl | kernel_rfl) ?_
   repeat (first | refine go_ ?_ | intro _)
   apply call_step
   ·rfl
   ·exact Or.inl ⟨⟨_, Tryz.func114, rfl, rfl⟩, kx _ hG.cons⟩
   repeat (first | refine go_ ?_ | intro _)
   refine cat_ ?_
   repeat (first | refine go_ ?_ | intro _)
   apply call_step
   ·rfl
   ·exact Or.inl ⟨⟨_, Tryz.func114, rfl, rfl⟩, ky _ hG.cons⟩
   repeat (first | refine go_ ?_ | intro _)
   refine cat_ ?_
   repeat (first | refine go_ ?_ | intro _)
   refine AW_ret ?_
   repeat refine mk_ ?_
   refine ⟨_, R, AVle.eq ?_, sle_, rfl, rfl⟩
   exact congrArg AV.str (show (showT x ++ [32, 61, 32]) ++ showT y = _ by rw [e]; simp)
  ·subst o
   have e : showL ⟨4, a, x, y⟩ = showT x ++ ([32, 33, 61, 32] ++ showT y) := sL3 (l := ⟨4, a, x, y⟩) (by simp)
   repeat (first | refine ga_ ?_ | intro _)
   refine AW_draw tab_ok mixed 9 (by first | rfl | kernel_rfl) ?_
   repeat (first | refine go_ ?_ | intro _)
   apply call_step
   ·rfl
   ·exact Or.inl ⟨⟨_, Tryz.func114, rfl, rfl⟩, kx _ hG.cons⟩
   repeat (first | refine go_ ?_ | intro _)
   refine cat_ ?_
   repeat (first | refine go_ ?_ | intro _)
   apply call_step
   ·rfl
   ·exact Or.inl ⟨⟨_, Tryz.func114, rfl, rfl⟩, ky _ hG.cons⟩
   repeat (first | refine go_ ?_ | intro _)
   refine cat_ ?_
   repeat (first | refine go_ ?_ | intro _)
   refine AW_ret ?_
   repeat refine mk_ ?_
   refine ⟨_, R, AVle.eq ?_, sle_, rfl, rfl⟩
   exact congrArg AV.str (show (showT x ++ [32, 33, 61, 32]) ++ showT y = _ by rw [e]; simp)
  ·subst o
   have e : showL ⟨5, a, x, y⟩ = showT x ++ ([32, 60, 32] ++ showT y) := sL3 (l := ⟨5, a, x, y⟩) (by simp)
   repeat (first | refine ga_ ?_ | intro _)
   refine AW_draw tab_ok mixed 9 (by first | rfl | kernel_rfl) ?_
   repeat (first | refine go_ ?_ | intro _)
   apply call_step
   ·rfl
   ·exact Or.inl ⟨⟨_, Tryz.func114, rfl, rfl⟩, kx _ hG.cons⟩
   repeat (first | refine go_ ?_ | intro _)
   refine cat_ ?_
   repeat (first | refine go_ ?_ | intro _)
   apply call_step
   ·rfl
   ·exact Or.inl ⟨⟨_, Tryz.func114, rfl, rfl⟩, ky _ hG.cons⟩
   repeat (first | refine go_ ?_ | intro _)
   refine cat_ ?_
   repeat (first | refine go_ ?_ | intro _)
   refine AW_ret ?_
   repeat refine mk_ ?_
   refine ⟨_, R, AVle.eq ?_, sle_, rfl, rfl⟩
   exact congrArg AV.str (show (showT x ++ [32, 60, 32]) ++ showT y = _ by rw [e]; simp)
  ·subst o
   have e : showL ⟨6, a, x, y⟩ = showT x ++ ([32, 60, 61, 32] ++ showT y) := sL3 (l := ⟨6, a, x, y⟩) (by simp)
   repeat (first | refine ga_ ?_ | intro _)
   refine AW_draw tab_ok mixed 9 (by first | rfl | kernel_rfl) ?_
   repeat (first | refine go_ ?_ | intro _)
   apply call_step
   ·rfl
   ·exact Or.inl ⟨⟨_, Tryz.func114, rfl, rfl⟩, kx _ hG.cons⟩
   repeat (first | refine go_ ?_ | intro _)
   refine cat_ ?_
   repeat (first | refine go_ ?_ | intro _)
   apply call_step
   ·rfl
   ·exact Or.inl ⟨⟨_, Tryz.func114, rfl, rfl⟩, ky _ hG.cons⟩
   repeat (first | refine go_ ?_ | intro _)
   refine cat_ ?_
   repeat (first | refine go_ ?_ | intro _)
   refine AW_ret ?_
   repeat refine mk_ ?_
   refine ⟨_, R, AVle.eq ?_, sle_, rfl, rfl⟩
   exact congrArg AV.str (show (showT x ++ [32, 60, 61, 32]) ++ showT y = _ by rw [e]; simp)
 ·replace kx := kx rx
  replace ka := ka ra
  subst o
  have e : showL ⟨7, a, x, y⟩ = showT x ++ ([32, 61, 32] ++ ([99, 111, 117, 110, 116] ++ ([32, 58, 32, 123, 32] ++ (showA a ++ [32, 125])))) := by
   rw [sL7 (l := ⟨7, a, x, y⟩) (by simp), how7 (l := ⟨7, a, x, y⟩) rfl]
  repeat (first | refine ga_ ?_ | intro _)
  refine AW_draw tab_ok mixed 13 (by first | rfl | kernel_rfl) ?_
  repeat (first | refine go_ ?_ | intro _)
  apply call_step
  ·rfl
  ·exact Or.inl ⟨⟨_, Tryz.func114, rfl, rfl⟩, kx _ hG.cons⟩
  repeat (first | refine go_ ?_ | intro _)
  refine cat_ ?_
  repeat (first | refine go_ ?_ | intro _)
  refine cat_ ?_
  repeat (first | refine go_ ?_ | intro _)
  refine cat_ ?_
  repeat (first | refine go_ ?_ | intro _)
  apply call_step
  ·rfl
  ·exact Or.inl ⟨⟨_, Tryz.func70, rfl, rfl⟩, ka _ hG.cons⟩
  repeat (first | refine go_ ?_ | intro _)
  refine cat_ ?_
  repeat (first | refine go_ ?_ | intro _)
  refine cat_ ?_
  repeat (first | refine go_ ?_ | intro _)
  refine AW_ret ?_
  repeat refine mk_ ?_
  refine ⟨_, R, AVle.eq ?_, sle_, rfl, rfl⟩
  exact congrArg AV.str (show (((((showT x ++ [32, 61, 32]) ++ ([99, 111, 117, 110, 116])) ++ [32, 58, 32, 123, 32]) ++ showA a) ++ [32, 125]) = _ by rw [e]; simp)
 ·replace kx := kx rx
  replace ky := ky ry
  replace ka := ka ra
  rcases o with o | o | o
  ·subst o
   have e : showL ⟨8, a, x, y⟩ = showT x ++ ([32, 61, 32] ++ (([115, 117, 109, 32] ++ showT y) ++ ([32, 58, 32, 123, 32] ++ (showA a ++ [32, 125])))) := by
    rw [sL7 (l := ⟨8, a, x, y⟩) (by simp), how8 (l := ⟨8, a, x, y⟩) rfl]
   repeat (first | refine ga_ ?_ | intro _)
   refine Or.inl ⟨⟨_, Tryz.func114, rfl, rfl⟩, ACall.mono ?_ (ky _ hG.cons)⟩
   rintro _ S1 ⟨rfl, hS1⟩
   subst S1
   repeat (first | refine go_ ?_ | intro _)
   refine cat_ ?_
   repeat (first | refine go_ ?_ | intro _)
   refine AW_draw tab_ok mixed 13 (by first | rfl | kernel_rfl) ?_
   repeat (first | refine go_ ?_ | intro _)
   apply call_step
   ·rfl
   ·exact Or.inl ⟨⟨_, Tryz.func114, rfl, rfl⟩, kx _ hG.cons⟩
   repeat (first | refine go_ ?_ | intro _)
   refine cat_ ?_
   repeat (first | refine go_ ?_ | intro _)
   refine cat_ ?_
   repeat (first | refine go_ ?_ | intro _)
   refine cat_ ?_
   repeat (first | refine go_ ?_ | intro _)
   apply call_step
   ·rfl
   ·exact Or.inl ⟨⟨_, Tryz.func70, rfl, rfl⟩, ka _ hG.cons⟩
   repeat (first | refine go_ ?_ | intro _)
   refine cat_ ?_
   repeat (first | refine go_ ?_ | intro _)
   refine cat_ ?_
   repeat (first | refine go_ ?_ | intro _)
   refine AW_ret ?_
   repeat refine mk_ ?_
   refine ⟨_, R, AVle.eq ?_, sle_, rfl, rfl⟩
   exact congrArg AV.str (show (((((showT x ++ [32, 61, 32]) ++ ([115, 117, 109, 32] ++ showT y)) ++ [32, 58, 32, 123, 32]) ++ showA a) ++ [32, 125]) = _ by rw [e]; simp)
  ·subst o
   have e : showL ⟨9, a, x, y⟩ = showT x ++ ([32, 61, 32] ++ (([109, 105, 110, 32] ++ showT y) ++ ([32, 58, 32, 123, 32] ++ (showA a ++ [32, 125])))) := by
    rw [sL7 (l := ⟨9, a, x, y⟩) (by simp), how9 (l := ⟨9, a, x, y⟩) rfl]
   repeat (first | refine ga_ ?_ | intro _)
   refine Or.inl ⟨⟨_, Tryz.func114, rfl, rfl⟩, ACall.mono ?_ (ky _ hG.cons)⟩
   rintro _ S1 ⟨rfl, hS1⟩
   subst S1
   repeat (first | refine go_ ?_ | intro _)
   refine cat_ ?_
   repeat (first | refine go_ ?_ | intro _)
   refine AW_draw tab_ok mixed 13 (by first | rfl | kernel_rfl) ?_
   repeat (first | refine go_ ?_ | intro _)
   apply call_step
   ·rfl
   ·exact Or.inl ⟨⟨_, Tryz.func114, rfl, rfl⟩, kx _ hG.cons⟩
   repeat (first | refine go_ ?_ | intro _)
   refine cat_ ?_
   repeat (first | refine go_ ?_ | intro _)
   refine cat_ ?_
   repeat (first | refine go_ ?_ | intro _)
   refine cat_ ?_
   repeat (first | refine go_ ?_ | intro _)
   apply call_step
   ·rfl
   ·exact Or.inl ⟨⟨_, Tryz.func70, rfl, rfl⟩, ka _ hG.cons⟩
   repeat (first | refine go_ ?_ | intro _)
   refine cat_ ?_
   repeat (first | refine go_ ?_ | intro _)
   refine cat_ ?_
   repeat (first | refine go_ ?_ | intro _)
   refine AW_ret ?_
   repeat refine mk_ ?_
   refine ⟨_, R, AVle.eq ?_, sle_, rfl, rfl⟩
   exact congrArg AV.str (show (((((showT x ++ [32, 61, 32]) ++ ([109, 105, 110, 32] ++ showT y)) ++ [32, 58, 32, 123, 32]) ++ showA a) ++ [32, 125]) = _ by rw [e]; simp)
  ·subst o
   have e : showL ⟨10, a, x, y⟩ = showT x ++ ([32, 61, 32] ++ (([109, 97, 120, 32] ++ showT y) ++ ([32, 58, 32, 123, 32] ++ (showA a ++ [32, 125])))) := by
    rw [sL7 (l := ⟨10, a, x, y⟩) (by simp), how10 (l := ⟨10, a, x, y⟩) rfl]
   repeat (first | refine ga_ ?_ | intro _)
   refine Or.inl ⟨⟨_, Tryz.func114, rfl, rfl⟩, ACall.mono ?_ (ky _ hG.cons)⟩
   rintro _ S1 ⟨rfl, hS1⟩
   subst S1
   repeat (first | refine go_ ?_ | intro _)
   refine cat_ ?_
   repeat (first | refine go_ ?_ | intro _)
   refine AW_draw tab_ok mixed 13 (by first | rfl | kernel_rfl) ?_
   repeat (first | refine go_ ?_ | intro _)
   apply call_step
   ·rfl
   ·exact Or.inl ⟨⟨_, Tryz.func114, rfl, rfl⟩, kx _ hG.cons⟩
   repeat (first | refine go_ ?_ | intro _)
   refine cat_ ?_
   repeat (first | refine go_ ?_ | intro _)
   refine cat_ ?_
   repeat (first | refine go_ ?_ | intro _)
   refine cat_ ?_
   repeat (first | refine go_ ?_ | intro _)
   apply call_step
   ·rfl
   ·exact Or.inl ⟨⟨_, Tryz.func70, rfl, rfl⟩, ka _ hG.cons⟩
   repeat (first | refine go_ ?_ | intro _)
   refine cat_ ?_
   repeat (first | refine go_ ?_ | intro _)
   refine cat_ ?_
   repeat (first | refine go_ ?_ | intro _)
   refine AW_ret ?_
   repeat refine mk_ ?_
   refine ⟨_, R, AVle.eq ?_, sle_, rfl, rfl⟩
   exact congrArg AV.str (show (((((showT x ++ [32, 61, 32]) ++ ([109, 97, 120, 32] ++ showT y)) ++ [32, 58, 32, 123, 32]) ++ showA a) ++ [32, 125]) = _ by rw [e]; simp)
end Go.Proofs.YtfeknkaioofljaaGreatDoor.Tree
/-
 A rule's text. Own work.
-/
namespace Go.Proofs.YtfeknkaioofljaaGreatDoor.Tree
open Go.Aw Go.RowKit
set_option maxHeartbeats 4000000
set_option maxRecDepth 4000

theorem lens_cnt : ∀ l : List Li, l.length ≤ cntLs l
 | [] => by simp
 | t :: r => by have := lens_cnt r; rw [cntLs]; simp only [List.length_cons, cntL]; omega
theorem okR_of {r : Ru} (hc : cntR r ≤ 3000) : okR r := by
 have h1 := len_cnt r.head.l
 have h2 := lens_cnt r.body
 unfold cntR at hc
 exact ⟨by omega, by omega⟩
theorem cntLs_take : ∀ (l : List Li) (z : Nat), cntLs (l.take z) ≤ cntLs l
 | [], z => by simp
 | t :: r, 0 => by rw [List.take_zero, cntLs]; omega
 | t :: r, z + 1 => by have := cntLs_take r z; rw [List.take_succ_cons, cntLs, cntLs]; omega
theorem joinL_len (l : List Li) (h : ∀ x ∈ l, okL x) : (Lib.join (l.map showL) [44, 32]).length ≤ 5002 * cntLs l := by
 have h1 := showLs_len l h
 have h2 := join_len (l.map showL) [44, 32]
 simp only [List.length_map, List.length_cons, List.length_nil] at h2
 omega
theorem joinL_take (l : List Li) (z : Nat) (h : ∀ x ∈ l, okL x) : (Lib.join ((l.take z).map showL) [44, 32]).length ≤ 5002 * cntLs l := by
 have h1 := joinL_len (l.take z) fun x hx => h x (List.mem_of_mem_take hx)
 have h2 := cntLs_take l z
 omega
def shownR (r : Ru) : AV := .tup [.str (if rightR r = true then showR r else []), .int .i64 (if rightR r = true then 0 else 30)]
theorem shownR_t {r : Ru} (h : rightR r = true) : shownR r = .tup [.str (showR r), .int .i64 0] := by rw [shownR, if_pos h, if_pos h]
theorem shownR_f {r : Ru} (h : rightR r = false) : shownR r = .tup [.str [], .int .i64 30] := by rw [shownR, if_neg (by rw [h]; simp), if_neg (by rw [h]; simp)]
theorem showRule_ok (b o : Nat) (r : Ru) (R : List En) (hE : En.glob 1 [errE b o] ∈ R) (ho : okRu r) (hc : cntR r ≤ 2500) (hG : NumG R) : ACall Tryz.prog 30 [encRu r] R (fun v S => v = shownR r ∧ S = R) := by
 have hk := okR_of (r := r) (by omega)
 unfold cntR at hc
 refine ACall_body tab_ok Tryz.func30 rfl rfl rfl (by kernel_rfl) (Nat.le_of_ble_eq_true rfl) ?_
 repeat (first | refine go_ ?_ | intro _)
 rename_i p
 refine Or.inl ⟨⟨_, Tryz.func43, rfl, rfl⟩, ACall.mono ?_ (rightRule_ok b o r _ (.tail _ hE) hk.1 hk.2)⟩
 rintro _ S1 ⟨rfl, hS1⟩
 subst S1
 repeat (first | refine go_ ?_ | intro _)
 refine AW_cond (b := !rightR r) rfl (fun h => ?_) (fun h => ?_)
 ·have hr : rightR r = false := by simpa using h
  repeat (first | refine go_ ?_ | intro _)
  refine AW_ret ?_
  repeat refine mk_ ?_
  refine ⟨_, R, AVle.eq ?_, sle_, rfl, rfl⟩
  rw [shownR_f hr]; rfl
 have hr : rightR r = true := by simpa using h
 obtain ⟨ra, rb, rl⟩ := rightR_all hr
 have ka := fun R hG => showAtom_ok r.head R ra ho.1 (by omega) hG
 have la := showA_len r.head ho.1
 repeat (first | refine go_ ?_ | intro _)
 refine Or.inl ⟨⟨_, Tryz.func70, rfl, rfl⟩, ACall.mono ?_ (ka _ hG.cons)⟩
 rintro _ S1 ⟨rfl, hS1⟩
 subst S1
 repeat (first | refine go_ ?_ | intro _)
 refine AW_for (α := Nat × Tk) (fun z => ⟨[(1, .ptr p 0), (4, .str (showA r.head)), (5, .sl 1 (((r.body.take z.1).map showL).map AV.str) z.2), (15, .sl 11 (r.body.map encL) .no), (16, .int .i64 (r.body.length : Nat)), (17, .int .i64 (z.1 : Nat))], []⟩) (fun z => .grow z.2 :: .cells p (cRu r) :: R) (fun z => r.body.length - z.1) (fun z => z.1 ≤ r.body.length) ((0, .full)) ?_ (weak_of ?_ rfl ?_) (fun z hz => ?_)
 ·exact Nat.zero_le _
 ·repeat (first | exact trivial | refine ⟨(AVle.eq (congrArg (AV.int .i64) (by simp))), ?_⟩ | refine env_ ?_)
 ·refine SW.le ?_
  repeat (first | exact SW.nil | refine sw_ ?_)
 obtain ⟨z, tk⟩ := z
 replace hz : z ≤ r.body.length := hz
 repeat (first | refine go_ ?_ | intro _)
 refine AW_iff (z < r.body.length) rfl (by first | (simp; done) | (simp <;> omega) | decide) (fun h => ?_) (fun h => ?_)
 ·have hlt := h
  obtain ⟨x, hx⟩ : ∃ x, x = r.body[z] := ⟨_, rfl⟩
  have hm : x ∈ r.body := hx ▸ List.getElem_mem hlt
  have cx := cntLs_at hm
  have kx := fun R hG => showLit_ok x R (rl x hm) (ho.2 x hm) (by omega) hG
  repeat (first | refine go_ ?_ | intro _)
  refine at_get (z) (encL x) (by first | rfl | omega | (rw [wrap_i64 (by omega)]; omega)) (by rw [List.getElem?_map, List.getElem?_eq_getElem hlt, hx]; rfl) ?_
  repeat (first | refine go_ ?_ | intro _)
  refine Or.inl ⟨⟨_, Tryz.func71, rfl, rfl⟩, ACall.mono ?_ (kx _ hG.cons.cons.cons)⟩
  rintro _ S1 ⟨rfl, hS1⟩
  subst S1
  repeat (first | refine go_ ?_ | intro _)
  refine ⟨room (by first | omega | (simp; done) | (simp; omega) | (simp at *; done) | (simp at *; omega)) rfl, .inl rfl, .inr (.inl ⟨rfl, 1, rfl, ((r.body.take (z + 1)).map showL).map AV.str, by rw [take_snoc hlt hx, List.map_append]; rfl, fun t1 => ?_⟩)⟩
  repeat (first | refine go_ ?_ | intro _)
  refine ⟨(z + 1, t1), ?_, ?_, weak_of ?_ rfl ?_⟩
  ·exact Nat.sub_lt_sub_left hlt (Nat.lt_succ_self z)
  ·exact hlt
  ·repeat (first | exact trivial | refine env_ ?_)
  ·refine SW.le ?_
   repeat (first | exact SW.nil | refine sw_ ?_)
 have hz' : z = r.body.length := by omega
 have hj := joinL_len r.body ho.2
 repeat (first | refine go_ ?_ | intro _)
 refine AW_iff (0 < r.body.length) rfl (by simp [hz']) (fun h => ?_) (fun h => ?_)
 ·have kj := fun R => join_ok ((r.body.take z).map showL) [44, 32] tk R (by rw [List.length_map, List.length_take]; omega) (by have := joinL_take r.body z ho.2; omega)
  have hjz := joinL_take r.body z ho.2
  have h0 : ¬ r.body.length = 0 := by omega
  repeat (first | refine go_ ?_ | intro _)
  refine Or.inl ⟨⟨_, Tryz.func69, rfl, rfl⟩, ACall.mono ?_ (kj _)⟩
  rintro _ S1 ⟨rfl, hS1⟩
  subst S1
  repeat (first | refine go_ ?_ | intro _)
  refine cat_ ?_
  repeat (first | refine go_ ?_ | intro _)
  refine cat_ ?_
  repeat (first | refine go_ ?_ | intro _)
  refine cat_ ?_
  repeat (first | refine go_ ?_ | intro _)
  refine AW_ret ?_
  repeat refine mk_ ?_
  refine ⟨_, R, AVle.eq ?_, sle_, rfl, rfl⟩
  rw [shownR_t hr]
  exact congrArg (fun s => AV.tup [.str s, .int .i64 0]) (show (showA r.head ++ ([32, 58, 45, 32] ++ Lib.join ((r.body.take z).map showL) [44, 32])) ++ [46] = _ by rw [hz', List.take_length, showR, bodyL, if_neg h0]; simp)
 ·have h0 : r.body.length = 0 := by omega
  repeat (first | refine go_ ?_ | intro _)
  refine cat_ ?_
  repeat (first | refine go_ ?_ | intro _)
  refine AW_ret ?_
  repeat refine mk_ ?_
  refine ⟨_, R, AVle.eq ?_, sle_, rfl, rfl⟩
  rw [shownR_t hr]
  exact congrArg (fun s => AV.tup [.str s, .int .i64 0]) (show showA r.head ++ [46] = _ by rw [showR, bodyL, if_pos h0]; simp)
end Go.Proofs.YtfeknkaioofljaaGreatDoor.Tree
/-
 A relation's text. Own work.
-/
namespace Go.Proofs.YtfeknkaioofljaaGreatDoor.Tree
open Go.Aw Go.RowKit
set_option maxHeartbeats 4000000
set_option maxRecDepth 4000

theorem joinD_take (d : De) (z : Nat) (h : okDe d) (hr : d.names.length ≤ 8) : (Lib.join (((d.names.zip d.types).take z).map colD) [44, 32]).length ≤ 9000 := by
 have h1 := cols_len ((d.names.zip d.types).take z) fun x hx => h.2 _ (List.of_mem_zip (List.mem_of_mem_take hx)).1
 have h2 := join_len (((d.names.zip d.types).take z).map colD) [44, 32]
 have h5 : ((d.names.zip d.types).take z).length ≤ 8 := by rw [List.length_take, List.length_zip]; omega
 simp only [List.length_map, List.length_cons, List.length_nil] at h2
 omega
theorem colD_1 {s : List UInt8} {n : Int} (h : n = 1) : colD (s, n) = s ++ [58, 32, 110, 117, 109, 98, 101, 114] := by rw [colD, if_pos h]
theorem colD_2 {s : List UInt8} {n : Int} (h : ¬ n = 1) : colD (s, n) = s ++ [58, 32, 115, 121, 109, 98, 111, 108] := by rw [colD, if_neg h]
theorem showDecl_ok (d : De) (R : List En) (hd : rightD d = true) (hk : okDe d) : ACall Tryz.prog 29 [encD d] R (fun r S => r = .str (showD d) ∧ S = R) := by
 obtain ⟨_, _, d8, dt, dc⟩ := rightD_all hd
 have hj := fun z => joinD_take d z hk d8
 have hlr := hk.1
 have hzl : (d.names.zip d.types).length = d.names.length := by rw [List.length_zip]; omega
 refine ACall_body tab_ok Tryz.func29 rfl rfl rfl (by kernel_rfl) (Nat.le_of_ble_eq_true rfl) ?_
 repeat (first | refine go_ ?_ | intro _)
 rename_i p
 refine AW_for (α := Nat × Tk) (fun z => ⟨[(1, .ptr p 0), (3, .sl 1 ((((d.names.zip d.types).take z.1).map colD).map AV.str) z.2), (8, .sl 1 (d.names.map AV.str) .no), (9, .int .i64 (d.names.length : Nat)), (10, .int .i64 (z.1 : Nat))], []⟩) (fun z => .grow z.2 :: .cells p (cD d) :: R) (fun z => d.names.length - z.1) (fun z => z.1 ≤ d.names.length) ((0, .full)) ?_ (weak_of ?_ rfl ?_) (fun z hz => ?_)
 ·exact Nat.zero_le _
 ·repeat (first | exact trivial | refine ⟨(AVle.eq (congrArg (AV.int .i64) (by simp))), ?_⟩ | refine env_ ?_)
 ·refine SW.le ?_
  repeat (first | exact SW.nil | refine sw_ ?_)
 obtain ⟨z, tk⟩ := z
 replace hz : z ≤ d.names.length := hz
 repeat (first | refine go_ ?_ | intro _)
 refine AW_iff (z < d.names.length) rfl (by first | (simp; done) | (simp <;> omega) | decide) (fun h => ?_) (fun h => ?_)
 ·have hlt := h
  have hlt2 : z < d.types.length := by omega
  have hlz : z < (d.names.zip d.types).length := by omega
  obtain ⟨s, hs⟩ : ∃ x, x = d.names[z] := ⟨_, rfl⟩
  obtain ⟨n, hn⟩ : ∃ x, x = d.types[z] := ⟨_, rfl⟩
  have hx : (s, n) = (d.names.zip d.types)[z] := by rw [List.getElem_zip, hs, hn]
  have hsl : s.length ≤ 1000 := hk.2 s (hs ▸ List.getElem_mem hlt)
  repeat (first | refine go_ ?_ | intro _)
  refine at_get (z) (.str s) (by first | rfl | omega | (rw [wrap_i64 (by omega)]; omega)) (by rw [List.getElem?_map, List.getElem?_eq_getElem hlt, hs]; rfl) ?_
  repeat (first | refine go_ ?_ | intro _)
  refine at_get (z) (encI n) (by first | rfl | omega | (rw [wrap_i64 (by omega)]; omega)) (by rw [List.getElem?_map, List.getElem?_eq_getElem hlt2, hn]; rfl) ?_
  repeat (first | refine go_ ?_ | intro _)
  refine AW_iff (n = 1) rfl (by first | (simp; done) | (simp <;> omega) | decide) (fun h => ?_) (fun h => ?_)
  ·have h1 := h
   repeat (first | refine go_ ?_ | intro _)
   refine cat_ ?_
   repeat (first | refine go_ ?_ | intro _)
   refine ⟨room (by first | omega | (simp; done) | (simp; omega) | (simp at *; done) | (simp at *; omega)) rfl, .inl rfl, .inr (.inl ⟨rfl, 0, rfl, (((d.names.zip d.types).take (z + 1)).map colD).map AV.str, by rw [take_snoc hlz hx, colD_1 h1, List.map_append]; rfl, fun t1 => ?_⟩)⟩
   repeat (first | refine go_ ?_ | intro _)
   refine ⟨(z + 1, t1), ?_, ?_, weak_of ?_ rfl ?_⟩
   ·exact Nat.sub_lt_sub_left hlt (Nat.lt_succ_self z)
   ·exact hlt
   ·repeat (first | exact trivial | refine env_ ?_)
   ·refine SW.le ?_
    repeat (first | exact SW.nil | refine sw_ ?_)
  ·have h1 := h
   repeat (first | refine go_ ?_ | intro _)
   refine cat_ ?_
   repeat (first | refine go_ ?_ | intro _)
   refine ⟨room (by first | omega | (simp; done) | (simp; omega) | (simp at *; done) | (simp at *; omega)) rfl, .inl rfl, .inr (.inl ⟨rfl, 0, rfl, (((d.names.zip d.types).take (z + 1)).map colD).map AV.str, by rw [take_snoc hlz hx, colD_2 h1, List.map_append]; rfl, fun t1 => ?_⟩)⟩
   repeat (first | refine go_ ?_ | intro _)
   refine ⟨(z + 1, t1), ?_, ?_, weak_of ?_ rfl ?_⟩
   ·exact Nat.sub_lt_sub_left hlt (Nat.lt_succ_self z)
   ·exact hlt
   ·repeat (first | exact trivial | refine env_ ?_)
   ·refine SW.le ?_
    repeat (first | exact SW.nil | refine sw_ ?_)
 have hz' : z = d.names.length := by omega
 have hjz := hj z
 have kj := fun R => join_ok (((d.names.zip d.types).take z).map colD) [44, 32] tk R (by rw [List.length_map, List.length_take]; omega) (by omega)
 have ej : Lib.join (((d.names.zip d.types).take z).map colD) [44, 32] = Lib.join ((d.names.zip d.types).map colD) [44, 32] := by rw [List.take_of_length_le (by omega)]
 have lj : (Lib.join ((d.names.zip d.types).map colD) [44, 32]).length ≤ 9000 := ej ▸ hjz
 repeat (first | refine go_ ?_ | intro _)
 refine AW_draw tab_ok mixed 9 (by first | rfl | kernel_rfl) ?_
 repeat (first | refine go_ ?_ | intro _)
 refine cat_ ?_
 repeat (first | refine go_ ?_ | intro _)
 refine cat_ ?_
 repeat (first | refine go_ ?_ | intro _)
 apply call_step
 ·rfl
 ·exact Or.inl ⟨⟨_, Tryz.func69, rfl, rfl⟩, kj _⟩
 repeat (first | refine go_ ?_ | intro _)
 refine cat_ ?_
 repeat (first | refine go_ ?_ | intro _)
 refine cat_ ?_
 repeat (first | refine go_ ?_ | intro _)
 refine AW_weak (weak_of (l := [(1, .ptr p 0), (39, .bool d.inp), (6, .str ([46, 100, 101, 99, 108, 32] ++ (d.rel ++ ([40] ++ (Lib.join ((d.names.zip d.types).map colD) [44, 32] ++ [41, 10])))))]) (m := []) (S' := .cells p (cD d) :: R) ?_ rfl ?_) ?_
 ·repeat (first | exact trivial | refine ⟨(AVle.eq (congrArg AV.str (by rw [ej]; simp))), ?_⟩ | refine env_ ?_)
 ·refine SW.le ?_
  repeat (first | exact SW.nil | refine sw_ ?_)
 repeat (first | refine go_ ?_ | intro _)
 refine AW_iff (d.inp) rfl (by first | (simp; done) | (simp <;> omega) | decide) (fun h => ?_) (fun h => ?_)
 ·have hi := h
  repeat (first | refine go_ ?_ | intro _)
  refine cat_ ?_
  repeat (first | refine go_ ?_ | intro _)
  refine cat_ ?_
  repeat (first | refine go_ ?_ | intro _)
  refine cat_ ?_
  repeat (first | refine go_ ?_ | intro _)
  refine AW_iff (d.out) rfl (by first | (simp; done) | (simp <;> omega) | decide) (fun h => ?_) (fun h => ?_)
  ·have ho := h
   repeat (first | refine go_ ?_ | intro _)
   refine cat_ ?_
   repeat (first | refine go_ ?_ | intro _)
   refine cat_ ?_
   repeat (first | refine go_ ?_ | intro _)
   refine cat_ ?_
   repeat (first | refine go_ ?_ | intro _)
   refine AW_ret ?_
   repeat refine mk_ ?_
   refine ⟨_, R, AVle.eq ?_, sle_, rfl, rfl⟩
   exact congrArg AV.str (show _ ++ (([46, 111, 117, 116, 112, 117, 116, 32] ++ d.rel) ++ [10]) = showD d by rw [showD, inD, outD, hi, ho]; simp)
  ·have ho : d.out = false := by simpa using h
   repeat (first | refine go_ ?_ | intro _)
   refine AW_ret ?_
   repeat refine mk_ ?_
   refine ⟨_, R, AVle.eq ?_, sle_, rfl, rfl⟩
   exact congrArg AV.str (show _ = showD d by rw [showD, inD, outD, hi, ho]; simp)
 ·have hi : d.inp = false := by simpa using h
  repeat (first | refine go_ ?_ | intro _)
  refine AW_iff (d.out) rfl (by first | (simp; done) | (simp <;> omega) | decide) (fun h => ?_) (fun h => ?_)
  ·have ho := h
   repeat (first | refine go_ ?_ | intro _)
   refine cat_ ?_
   repeat (first | refine go_ ?_ | intro _)
   refine cat_ ?_
   repeat (first | refine go_ ?_ | intro _)
   refine cat_ ?_
   repeat (first | refine go_ ?_ | intro _)
   refine AW_ret ?_
   repeat refine mk_ ?_
   refine ⟨_, R, AVle.eq ?_, sle_, rfl, rfl⟩
   exact congrArg AV.str (show _ ++ (([46, 111, 117, 116, 112, 117, 116, 32] ++ d.rel) ++ [10]) = showD d by rw [showD, inD, outD, hi, ho]; simp)
  ·have ho : d.out = false := by simpa using h
   repeat (first | refine go_ ?_ | intro _)
   refine AW_ret ?_
   repeat refine mk_ ?_
   refine ⟨_, R, AVle.eq ?_, sle_, rfl, rfl⟩
   exact congrArg AV.str (show _ = showD d by rw [showD, inD, outD, hi, ho]; simp)
end Go.Proofs.YtfeknkaioofljaaGreatDoor.Tree
/-
 A program's text. Own work.
-/
namespace Go.Proofs.YtfeknkaioofljaaGreatDoor.Tree
open Go.Aw Go.RowKit
set_option maxHeartbeats 4000000
set_option maxRecDepth 4000

def shownP (p : Pr) : AV := .tup [.str (if rightP p = true then showP p else []), .int .i64 (if rightP p = true then 0 else 30)]
theorem shownP_t {r : Pr} (h : rightP r = true) : shownP r = .tup [.str (showP r), .int .i64 0] := by rw [shownP, if_pos h, if_pos h]
theorem shownP_f {r : Pr} (h : rightP r = false) : shownP r = .tup [.str [], .int .i64 30] := by rw [shownP, if_neg (by rw [h]; simp), if_neg (by rw [h]; simp)]
theorem rightP_all {p : Pr} (h : rightP p = true) : p.decls.length ≤ 60 ∧ p.rules.length ≤ 200 ∧ (∀ d ∈ p.decls, rightD d = true) ∧ ∀ r ∈ p.rules, rightR r = true := by
 unfold rightP at h
 simp only [Bool.and_eq_true, List.all_eq_true, Bool.not_eq_true', decide_eq_false_iff_not] at h
 exact ⟨by omega, by omega, h.2.2.1, h.2.2.2⟩
theorem showDs_take {l : List De} {d : De} {z : Nat} (h : z < l.length) (hx : d = l[z]) : showDs (l.take (z + 1)) = showDs (l.take z) ++ showD d := by
 rw [showDs, showDs, take_snoc h hx, List.flatten_append]; simp
theorem showRs_take {l : List Ru} {r : Ru} {z : Nat} (h : z < l.length) (hx : r = l[z]) : showRs (l.take (z + 1)) = showRs (l.take z) ++ (showR r ++ [10]) := by
 rw [showRs, showRs, take_snoc h hx, List.flatten_append]; simp
theorem cntRs_take : ∀ (l : List Ru) (z : Nat), cntRs (l.take z) ≤ cntRs l
 | [], z => by simp
 | t :: r, 0 => by rw [List.take_zero, cntRs]; omega
 | t :: r, z + 1 => by have := cntRs_take r z; rw [List.take_succ_cons, cntRs, cntRs]; omega
/-- small enough to be told -/
def okS (p : Pr) : Prop := (∀ d ∈ p.decls, okDe d) ∧ (∀ r ∈ p.rules, okRu r) ∧ cntRs p.rules ≤ 2000
theorem ACall_drop {f : FuncId} {args : List AV} {S S' : List En} {k : AV → List En → Prop} (hS : SLe S S') (hc : ACall Tryz.prog f args S' k) : ACall Tryz.prog f args S k := by
 unfold ACall at hc ⊢
 exact fun w0 K w vs hv h => hc w0 K w vs hv (hS _ _ _ h)
theorem mem_bld {b : Nat} {u : Bool} {s : List UInt8} {bb cap : Nat} {rest : List AV} {R : List En} {e : En} (h : e ∈ R) : e ∈ Bld b u s bb cap rest R := by
 cases s with
 | nil => exact .tail _ (.tail _ h)
 | cons => exact .tail _ (.tail _ (.tail _ (.tail _ h)))
theorem numG_bld {b : Nat} {u : Bool} {s : List UInt8} {bb cap : Nat} {rest : List AV} {R : List En} (h : NumG R) : NumG (Bld b u s bb cap rest R) := by
 cases s with
 | nil => exact h.cons.cons
 | cons => exact h.cons.cons.cons.cons
theorem bld_in {b : Nat} {u : Bool} {s : List UInt8} {bb cap : Nat} {rest : List AV} {R : List En} {e : En} : SLe (Bld b u s bb cap rest (e :: R)) (e :: Bld b u s bb cap rest R) := by
 cases s with
 | nil => exact fun _ _ _ h => h.perm (List.perm_middle (l₁ := [_, _])).symm
 | cons => exact fun _ _ _ h => h.perm (List.perm_middle (l₁ := [_, _, _, _])).symm
theorem bld_out {b : Nat} {u : Bool} {s : List UInt8} {bb cap : Nat} {rest : List AV} {R : List En} {e : En} : SLe (e :: Bld b u s bb cap rest R) (Bld b u s bb cap rest (e :: R)) := by
 cases s with
 | nil => exact fun _ _ _ h => h.perm (List.perm_middle (l₁ := [_, _]))
 | cons => exact fun _ _ _ h => h.perm (List.perm_middle (l₁ := [_, _, _, _]))
theorem show_ok (bE oE : Nat) (p : Pr) (R : List En) (hE : En.glob 1 [errE bE oE] ∈ R) (hp : okS p) (hG : NumG R) : ACall Tryz.prog 13 [encP p] R (fun v S => v = shownP p ∧ S = R) := by
 obtain ⟨k1, k2, k3⟩ := hp
 refine ACall_body tab_ok Tryz.func13 rfl rfl rfl (by kernel_rfl) (Nat.le_of_ble_eq_true rfl) ?_
 repeat (first | refine go_ ?_ | intro _)
 rename_i q
 refine Or.inl ⟨⟨_, Tryz.func18, rfl, rfl⟩, ACall.mono ?_ (right_ok bE oE p _ (.tail _ hE) (fun r hr => okR_of (by have := cntRs_at hr; omega)))⟩
 rintro _ S1 ⟨rfl, hS1⟩
 subst S1
 repeat (first | refine go_ ?_ | intro _)
 refine AW_cond (b := !rightP p) rfl (fun h => ?_) (fun h => ?_)
 ·have hr : rightP p = false := by simpa using h
  repeat (first | refine go_ ?_ | intro _)
  refine AW_ret ?_
  repeat refine mk_ ?_
  refine ⟨_, R, AVle.eq ?_, sle_, rfl, rfl⟩
  rw [shownP_f hr]; rfl
 have hr : rightP p = true := by simpa using h
 obtain ⟨r1, r2, r3, r4⟩ := rightP_all hr
 have hDl : ∀ z, (showDs (p.decls.take z)).length ≤ 12000 * 60 := fun z => by
  have := showDs_len (p.decls.take z) fun d hd => ⟨k1 d (List.mem_of_mem_take hd), (rightD_all (r3 d (List.mem_of_mem_take hd))).2.2.1⟩
  rw [List.length_take] at this
  omega
 have hRl : ∀ z, (showRs (p.rules.take z)).length ≤ 5002 * 2000 := fun z => by
  have h1 := showRs_len (p.rules.take z) fun d hd => k2 d (List.mem_of_mem_take hd)
  have h2 := cntRs_take p.rules z
  omega
 repeat (first | refine go_ ?_ | intro _)
 rename_i b
 refine AW_for (α := Nat × Bool × Nat × Nat × List AV) (fun z => ⟨[(1, .ptr q 0), (4, .ptr b 0), (15, .sl 6 (p.decls.map encD) .no), (16, .int .i64 (p.decls.length : Nat)), (17, .int .i64 (z.1 : Nat))], []⟩) (fun z => .cells q [.sl 6 (p.decls.map encD) .no, .sl 4 (p.rules.map encRu) .no] :: Bld b z.2.1 (showDs (p.decls.take z.1)) z.2.2.1 z.2.2.2.1 z.2.2.2.2 R) (fun z => p.decls.length - z.1) (fun z => z.1 ≤ p.decls.length ∧ (showDs (p.decls.take z.1)).length ≤ z.2.2.2.1 ∧ z.2.2.2.2.length = z.2.2.2.1 - (showDs (p.decls.take z.1)).length) ((0, false, 0, 0, [])) ?_ (weak_of ?_ rfl ?_) (fun z hz => ?_)
 ·exact ⟨Nat.zero_le _, Nat.le_refl 0, rfl⟩
 ·repeat (first | exact trivial | refine ⟨(AVle.eq (congrArg (AV.int .i64) (by simp))), ?_⟩ | refine env_ ?_)
 ·exact bld_in (s := []) (u := false) (bb := 0) (cap := 0) (rest := [])
 obtain ⟨z, u, bb, cap, rest⟩ := z
 obtain ⟨hz, h1, h2⟩ := hz
 replace hz : z ≤ p.decls.length := hz
 replace h1 : (showDs (p.decls.take z)).length ≤ cap := h1
 replace h2 : rest.length = cap - (showDs (p.decls.take z)).length := h2
 have hD1 := hDl (z + 1)
 repeat (first | refine go_ ?_ | intro _)
 refine AW_iff (z < p.decls.length) rfl (by first | (simp; done) | (simp <;> omega) | decide) (fun h => ?_) (fun h => ?_)
 ·have hlt := h
  obtain ⟨d, hd⟩ : ∃ x, x = p.decls[z] := ⟨_, rfl⟩
  have hm : d ∈ p.decls := hd ▸ List.getElem_mem hlt
  have kd := fun R => showDecl_ok d R (r3 d hm) (k1 d hm)
  have e' : showDs (p.decls.take z) ++ showD d = showDs (p.decls.take (z + 1)) := (showDs_take hlt hd).symm
  have el := congrArg List.length e'
  rw [List.length_append] at el
  repeat (first | refine go_ ?_ | intro _)
  refine at_get (z) (encD d) (by first | rfl | omega | (rw [wrap_i64 (by omega)]; omega)) (by rw [List.getElem?_map, List.getElem?_eq_getElem hlt, hd]; rfl) ?_
  repeat (first | refine go_ ?_ | intro _)
  refine Or.inl ⟨⟨_, Tryz.func29, rfl, rfl⟩, ACall.mono ?_ (kd _)⟩
  rintro _ S1 ⟨rfl, hS1⟩
  subst S1
  repeat (first | refine go_ ?_ | intro _)
  refine Or.inl ⟨⟨_, Tryz.func28, rfl, rfl⟩, ACall.mono ?_ (ACall_drop (SLe.tail bld_out) (writeString_ok b u (showDs (p.decls.take z)) bb cap rest (showD d) _ h1 h2 (by omega)))⟩
  rintro _ S1 ⟨rfl, bb, cap, rest, h1, h2, hS1⟩
  subst S1
  repeat (first | refine go_ ?_ | intro _)
  refine ⟨((z + 1, true, bb, cap, rest) : Nat × Bool × Nat × Nat × List AV), ?_, ?_, weak_of ?_ rfl ?_⟩
  ·exact Nat.sub_lt_sub_left hlt (Nat.lt_succ_self z)
  ·exact ⟨hlt, e' ▸ h1, e' ▸ h2⟩
  ·repeat (first | exact trivial | refine env_ ?_)
  ·exact SLe.trans bld_in (SLe.of_eq (congrArg (fun x => _ :: Bld b true x bb cap rest R) e'))
 have hz' : z = p.decls.length := by omega
 have e0 : showDs (p.decls.take z) = showDs p.decls ++ showRs (p.rules.take 0) := by rw [hz', List.take_length]; simp [showRs]
 have hDD := hDl p.decls.length
 rw [List.take_length] at hDD
 rw [e0] at h1 h2
 repeat (first | refine go_ ?_ | intro _)
 refine AW_for (α := Nat × Bool × Nat × Nat × List AV) (fun z => ⟨[(1, .ptr q 0), (4, .ptr b 0), (26, .sl 4 (p.rules.map encRu) .no), (27, .int .i64 (p.rules.length : Nat)), (28, .int .i64 (z.1 : Nat))], []⟩) (fun z => .cells q [.sl 6 (p.decls.map encD) .no, .sl 4 (p.rules.map encRu) .no] :: Bld b z.2.1 (showDs p.decls ++ showRs (p.rules.take z.1)) z.2.2.1 z.2.2.2.1 z.2.2.2.2 R) (fun z => p.rules.length - z.1) (fun z => z.1 ≤ p.rules.length ∧ (showDs p.decls ++ showRs (p.rules.take z.1)).length ≤ z.2.2.2.1 ∧ z.2.2.2.2.length = z.2.2.2.1 - (showDs p.decls ++ showRs (p.rules.take z.1)).length) ((0, u, bb, cap, rest)) ?_ (weak_of ?_ rfl ?_) (fun z hz => ?_)
 ·exact ⟨Nat.zero_le _, h1, h2⟩
 ·repeat (first | exact trivial | refine ⟨(AVle.eq (congrArg (AV.int .i64) (by simp))), ?_⟩ | refine env_ ?_)
 ·exact SLe.of_eq (congrArg (fun x => _ :: Bld b u x bb cap rest R) e0)
 obtain ⟨z, u, bb, cap, rest⟩ := z
 obtain ⟨hz, h1, h2⟩ := hz
 replace hz : z ≤ p.rules.length := hz
 replace h1 : (showDs p.decls ++ showRs (p.rules.take z)).length ≤ cap := h1
 replace h2 : rest.length = cap - (showDs p.decls ++ showRs (p.rules.take z)).length := h2
 have hR0 := hRl z
 have hR1 := hRl (z + 1)
 repeat (first | refine go_ ?_ | intro _)
 refine AW_iff (z < p.rules.length) rfl (by first | (simp; done) | (simp <;> omega) | decide) (fun h => ?_) (fun h => ?_)
 ·have hlt := h
  obtain ⟨r, hd⟩ : ∃ x, x = p.rules[z] := ⟨_, rfl⟩
  have hm : r ∈ p.rules := hd ▸ List.getElem_mem hlt
  have kr : ∀ R, En.glob 1 [errE bE oE] ∈ R → NumG R → ACall Tryz.prog 30 [encRu r] R (fun v S => v = .tup [.str (showR r), .int .i64 0] ∧ S = R) := fun R hE hG => by
   have := showRule_ok bE oE r R hE (k2 r hm) (by have := cntRs_at hm; omega) hG
   rwa [shownR_t (r4 r hm)] at this
  have e' : (showDs p.decls ++ showRs (p.rules.take z)) ++ (showR r ++ [10]) = showDs p.decls ++ showRs (p.rules.take (z + 1)) := by rw [showRs_take hlt hd, List.append_assoc]
  have el : (showDs p.decls ++ showRs (p.rules.take z)).length + (showR r ++ [10]).length = (showDs p.decls).length + (showRs (p.rules.take (z + 1))).length := by rw [← List.length_append, e', List.length_append]
  have el2 : (showR r ++ [10]).length = (showR r).length + 1 := by simp
  repeat (first | refine go_ ?_ | intro _)
  refine at_get (z) (encRu r) (by first | rfl | omega | (rw [wrap_i64 (by omega)]; omega)) (by rw [List.getElem?_map, List.getElem?_eq_getElem hlt, hd]; rfl) ?_
  repeat (first | refine go_ ?_ | intro _)
  refine Or.inl ⟨⟨_, Tryz.func30, rfl, rfl⟩, ACall.mono ?_ (kr _ (.tail _ (.tail _ (mem_bld hE))) (numG_bld hG).cons.cons)⟩
  rintro _ S1 ⟨rfl, hS1⟩
  subst S1
  repeat (first | refine go_ ?_ | intro _)
  refine cat_ ?_
  repeat (first | refine go_ ?_ | intro _)
  refine Or.inl ⟨⟨_, Tryz.func28, rfl, rfl⟩, ACall.mono ?_ (ACall_drop (SLe.tail bld_out) (writeString_ok b u (showDs p.decls ++ showRs (p.rules.take z)) bb cap rest (showR r ++ [10]) _ h1 h2 (by omega)))⟩
  rintro _ S1 ⟨rfl, bb, cap, rest, h1, h2, hS1⟩
  subst S1
  repeat (first | refine go_ ?_ | intro _)
  refine ⟨((z + 1, true, bb, cap, rest) : Nat × Bool × Nat × Nat × List AV), ?_, ?_, weak_of ?_ rfl ?_⟩
  ·exact Nat.sub_lt_sub_left hlt (Nat.lt_succ_self z)
  ·exact ⟨hlt, e' ▸ h1, e' ▸ h2⟩
  ·repeat (first | exact trivial | refine env_ ?_)
  ·exact SLe.trans bld_in (SLe.of_eq (congrArg (fun x => _ :: Bld b true x bb cap rest R) e'))
 have hz' : z = p.rules.length := by omega
 have hl : (showDs p.decls ++ showRs (p.rules.take z)).length ≤ 16777217 := by rw [List.length_append]; omega
 repeat (first | refine go_ ?_ | intro _)
 refine Or.inl ⟨⟨_, Tryz.func31, rfl, rfl⟩, ACall.mono ?_ (ACall_drop bld_out (bldString_ok b u _ bb cap rest _ hl))⟩
 rintro _ S1 ⟨rfl, hS1⟩
 subst S1
 repeat (first | refine go_ ?_ | intro _)
 refine AW_ret ?_
 repeat refine mk_ ?_
 refine ⟨_, R, AVle.eq ?_, sle_, rfl, rfl⟩
 rw [shownP_t hr]
 exact congrArg (fun s => AV.tup [.str s, .int .i64 0]) (show showDs p.decls ++ showRs (p.rules.take z) = _ by rw [hz', List.take_length, showP])
end Go.Proofs.YtfeknkaioofljaaGreatDoor.Tree
