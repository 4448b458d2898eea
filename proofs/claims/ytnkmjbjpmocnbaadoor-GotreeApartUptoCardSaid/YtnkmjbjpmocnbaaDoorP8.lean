/-
  An expression's text: the book. Own work.
-/
import Derived.Test.YtnkmjbjpmocnbaaDoorP7
set_option linter.all false
namespace Go.Proofs.YtnkmjbjpmocnbaaDoor
open Go.Aw Go.RowKit
set_option maxHeartbeats 4000000

theorem join_snoc : ∀ (xs : List (List UInt8)) (y : List UInt8) (sep : List UInt8), xs ≠ [] → Lib.join (xs ++ [y]) sep = Lib.join xs sep ++ (sep ++ y) := by
  intro xs y sep h
  induction xs with
  | nil => exact absurd rfl h
  | cons x r ih =>
    cases r with
    | nil => simp [Lib.join]
    | cons z r =>
      have := ih (by simp)
      simp only [List.cons_append, Lib.join] at this ⊢
      simp [this]
theorem joinG_take {l : List T} {x : T} {z : Nat} (h : z < l.length) (hx : x = l[z]) : Lib.join (showGs (l.take (z + 1))) [44, 32] = if z = 0 then showG x else Lib.join (showGs (l.take z)) [44, 32] ++ [44, 32] ++ showG x := by
  rw [take_snoc h hx, showGs_map, List.map_append, ← showGs_map]
  by_cases h0 : z = 0
  · subst h0; rw [if_pos rfl]; simp [showGs, Lib.join]
  · rw [if_neg h0]
    have hn : showGs (l.take z) ≠ [] := by
      intro e
      have := congrArg List.length e
      rw [showGs_len0, List.length_take] at this
      rw [List.length_nil] at this; omega
    show Lib.join (showGs (l.take z) ++ [showG x]) [44, 32] = _
    rw [join_snoc _ _ _ hn]; simp
theorem refAll_ok (l : List T) (R : List En) (hl : l.length ≤ 200) (ho : okTs l) (hs : szTs l ≤ 2000000) (k : ∀ x ∈ l, KG (fun _ => True) 28 x) : ACall Tryd.prog 60 [.sl 4 (encTs l) .no] R (fun r S => r = .str (Lib.join (showGs l) [44, 32]) ∧ S = R) := by
  refine ACall_body tab_ok Tryd.func60 rfl rfl rfl (by kernel_rfl) (Nat.le_of_ble_eq_true rfl) ?_
  repeat (first | refine go_ ?_ | intro _)
  refine AW_for (α := Nat) (fun z => ⟨[(0, .sl 4 (encTs l) .no), (3, .str (Lib.join (showGs (l.take z)) [44, 32])), (4, .int .i64 (z : Nat))], []⟩) (fun z => R) (fun z => l.length - z) (fun z => z ≤ l.length) (0) ?_ (weak_of ?_ rfl ?_) (fun z hz => ?_)
  · exact Nat.zero_le _
  · repeat (first | exact trivial | refine ⟨AVle.refl _, ?_⟩ | refine ⟨AVle.tk, ?_⟩ | refine ⟨AVle.nil, ?_⟩ | refine ⟨AVle.nilFull, ?_⟩ | refine ⟨AVle.eq (congrArg (AV.int .i64) (by first | (simp; done) | (simp; omega) | (rw [wrap_i64 (by first | omega | (simp; omega))]; first | rfl | omega | (simp; done) | (simp; omega)))), ?_⟩)
  · repeat (first | exact SLe.rfl | refine SLe.tail ?_ | refine SLe.full ?_)
  have hj := joinG_len (okTs_take ho z)
  have hs2 := szTs_take l z
  repeat (first | refine go_ ?_ | intro _)
  refine AW_iff (z < l.length) rfl (by first | (simp; done) | (simp <;> omega) | decide) (fun h => ?_) (fun h => ?_)
  · have hlt := h
    obtain ⟨x, hx⟩ : ∃ x, x = l[z] := ⟨_, rfl⟩
    have hm : x ∈ l := hx ▸ List.getElem_mem hlt
    have hj2 := joinG_len (okTs_take ho (z + 1))
    have hs3 := szTs_take l (z + 1)
    have e := joinG_take hlt hx
    have lx := showG_len x (okTs_mem ho hm)
    have lx2 := szTs_mem hm
    repeat (first | refine go_ ?_ | intro _)
    refine AW_iff (0 < z) rfl (by first | (simp; done) | (simp <;> omega) | decide) (fun h => ?_) (fun h => ?_)
    · rw [if_neg (show ¬ z = 0 by omega)] at e
      repeat (first | refine go_ ?_ | intro _)
      refine cat_ ?_
      repeat (first | refine go_ ?_ | intro _)
      refine at_get (z) (encU x) (by first | rfl | omega | (rw [wrap_i64 (by omega)]; omega)) (by rw [hx]; exact encTs_get hlt) ?_
      repeat (first | refine go_ ?_ | intro _)
      refine Or.inl ⟨⟨_, Tryd.func28, rfl, rfl⟩, ACall.mono ?_ (k x hm _ trivial)⟩
      rintro _ S1 ⟨rfl, hS1⟩
      subst S1
      repeat (first | refine go_ ?_ | intro _)
      refine cat_ ?_
      repeat (first | refine go_ ?_ | intro _)
      refine ⟨z + 1, ?_, ?_, weak_of ?_ rfl ?_⟩
      · omega
      · exact hlt
      · repeat (first | exact trivial | refine ⟨(AVle.eq (congrArg AV.str e.symm)), ?_⟩ | refine ⟨AVle.refl _, ?_⟩ | refine ⟨AVle.tk, ?_⟩ | refine ⟨AVle.nil, ?_⟩ | refine ⟨AVle.nilFull, ?_⟩ | refine ⟨AVle.eq (congrArg (AV.int .i64) (by first | (simp; done) | (simp; omega) | (rw [wrap_i64 (by first | omega | (simp; omega))]; first | rfl | omega | (simp; done) | (simp; omega)))), ?_⟩)
      · repeat (first | exact SLe.rfl | refine SLe.tail ?_ | refine SLe.full ?_)
    · rw [if_pos (show z = 0 by omega)] at e
      have e0 : Lib.join (showGs (l.take z)) [44, 32] = [] := by rw [show z = 0 by omega]; rfl
      repeat (first | refine go_ ?_ | intro _)
      refine at_get (z) (encU x) (by first | rfl | omega | (rw [wrap_i64 (by omega)]; omega)) (by rw [hx]; exact encTs_get hlt) ?_
      repeat (first | refine go_ ?_ | intro _)
      refine Or.inl ⟨⟨_, Tryd.func28, rfl, rfl⟩, ACall.mono ?_ (k x hm _ trivial)⟩
      rintro _ S1 ⟨rfl, hS1⟩
      subst S1
      repeat (first | refine go_ ?_ | intro _)
      refine cat_ ?_
      repeat (first | refine go_ ?_ | intro _)
      refine ⟨z + 1, ?_, ?_, weak_of ?_ rfl ?_⟩
      · omega
      · exact hlt
      · repeat (first | exact trivial | refine ⟨(AVle.eq (congrArg AV.str (show Lib.join (showGs (l.take z)) [44, 32] ++ showG x = _ by rw [e, e0]; rfl))), ?_⟩ | refine ⟨AVle.refl _, ?_⟩ | refine ⟨AVle.tk, ?_⟩ | refine ⟨AVle.nil, ?_⟩ | refine ⟨AVle.nilFull, ?_⟩ | refine ⟨AVle.eq (congrArg (AV.int .i64) (by first | (simp; done) | (simp; omega) | (rw [wrap_i64 (by first | omega | (simp; omega))]; first | rfl | omega | (simp; done) | (simp; omega)))), ?_⟩)
      · repeat (first | exact SLe.rfl | refine SLe.tail ?_ | refine SLe.full ?_)
  have hz' : z = l.length := by omega
  repeat (first | refine go_ ?_ | intro _)
  refine AW_ret ?_
  repeat (first | refine ⟨0, rfl, ?_⟩ | refine ⟨1, rfl, ?_⟩ | refine ⟨2, rfl, ?_⟩ | refine ⟨3, rfl, ?_⟩ | refine ⟨4, rfl, ?_⟩ | refine ⟨5, rfl, ?_⟩ | refine ⟨6, rfl, ?_⟩)
  refine ⟨_, R, AVle.eq ?_, (by repeat (first | exact SLe.rfl | refine SLe.tail ?_)), rfl, rfl⟩
  exact congrArg (fun x => AV.str (Lib.join (showGs x) [44, 32])) (by rw [hz', List.take_length])
theorem refShowExpr_ok : ∀ (h : Nat) (t : T) (R : List En), rightG t h = true → okT t → szT t ≤ 1048576 →  ACall Tryd.prog 28 [encU t] R (fun r S => r = .str (showG t) ∧ S = R)
  | 0, t, R, hr, _, _ => by rw [rightG] at hr; cases hr
  | m + 1, t, R, hr, ho, hc => by
    obtain ⟨hb, h1, h2, h3⟩ := rightG_all hr
    have hop := op_cases (op_range hb)
    have hfew := parts_few t.op
    obtain ⟨op, s, n, l⟩ := t
    replace h1 : (partsN op).1 ≤ l.length := h1
    replace h2 : l.length ≤ (partsN op).2 := h2
    replace hfew : (partsN op).2 ≤ 200 := hfew
    replace h3 : ∀ x ∈ l, rightG x m = true := h3
    replace hop : op = 1 ∨ op = 2 ∨ op = 3 ∨ op = 4 ∨ op = 5 ∨ op = 6 ∨ op = 7 ∨ op = 8 ∨ op = 9 ∨ op = 10 ∨ op = 11 ∨ op = 12 ∨ op = 13 ∨ op = 14 ∨ op = 15 ∨ op = 16 := hop
    rw [okT] at ho
    rw [szT] at hc
    have hs : showG (.mk op s n l) = textG op s n (headI l) (showGs l) := by rw [showG]
    have hlen : ∀ x ∈ l, (showG x).length ≤ 25165824 := fun x hx => by
      have := showG_len x (okTs_mem ho.2 hx)
      have := szTs_mem hx
      omega
    have kp : ∀ x ∈ l, KG (fun _ => True) 28 x := fun x hx R _ => refShowExpr_ok m x R (h3 x hx) (okTs_mem ho.2 hx) (by have := szTs_mem hx; omega)
    have lj := joinG_len ho.2
    have ka := fun R => refAll_ok l R (by omega) ho.2 (by omega) kp
    have hq := flat_len s
    rcases hop with rfl | rfl | rfl | rfl | rfl | rfl | rfl | rfl | rfl | rfl | rfl | rfl | rfl | rfl | rfl | rfl
    all_goals
      refine ACall_body tab_ok Tryd.func28 rfl rfl rfl (by kernel_rfl) (Nat.le_of_ble_eq_true rfl) ?_
      repeat (first | refine ga_ ?_ | intro _)
    · refine AW_ret ?_
      repeat (first | refine ⟨0, rfl, ?_⟩ | refine ⟨1, rfl, ?_⟩ | refine ⟨2, rfl, ?_⟩ | refine ⟨3, rfl, ?_⟩ | refine ⟨4, rfl, ?_⟩ | refine ⟨5, rfl, ?_⟩ | refine ⟨6, rfl, ?_⟩)
      refine ⟨_, R, AVle.eq ?_, (by repeat (first | exact SLe.rfl | refine SLe.tail ?_)), rfl, rfl⟩
      rw [hs]; rfl
    · rename_i p
      refine Or.inl ⟨⟨_, Tryd.func58, rfl, rfl⟩, ACall.mono ?_ (refNum_ok n _ ho.1)⟩
      rintro _ S1 ⟨rfl, hS1⟩
      subst S1
      repeat (first | refine go_ ?_ | intro _)
      refine AW_ret ?_
      repeat (first | refine ⟨0, rfl, ?_⟩ | refine ⟨1, rfl, ?_⟩ | refine ⟨2, rfl, ?_⟩ | refine ⟨3, rfl, ?_⟩ | refine ⟨4, rfl, ?_⟩ | refine ⟨5, rfl, ?_⟩ | refine ⟨6, rfl, ?_⟩)
      refine ⟨_, R, AVle.eq ?_, (by repeat (first | exact SLe.rfl | refine SLe.tail ?_)), rfl, rfl⟩
      rw [hs]; rfl
    · rename_i p
      refine Or.inl ⟨⟨_, Tryd.func59, rfl, rfl⟩, ACall.mono ?_ (refQuote_ok s _ (by omega))⟩
      rintro _ S1 ⟨rfl, hS1⟩
      subst S1
      repeat (first | refine go_ ?_ | intro _)
      refine AW_ret ?_
      repeat (first | refine ⟨0, rfl, ?_⟩ | refine ⟨1, rfl, ?_⟩ | refine ⟨2, rfl, ?_⟩ | refine ⟨3, rfl, ?_⟩ | refine ⟨4, rfl, ?_⟩ | refine ⟨5, rfl, ?_⟩ | refine ⟨6, rfl, ?_⟩)
      refine ⟨_, R, AVle.eq ?_, (by repeat (first | exact SLe.rfl | refine SLe.tail ?_)), rfl, rfl⟩
      rw [hs]; rfl
    · refine AW_ret ?_
      repeat (first | refine ⟨0, rfl, ?_⟩ | refine ⟨1, rfl, ?_⟩ | refine ⟨2, rfl, ?_⟩ | refine ⟨3, rfl, ?_⟩ | refine ⟨4, rfl, ?_⟩ | refine ⟨5, rfl, ?_⟩ | refine ⟨6, rfl, ?_⟩)
      refine ⟨_, R, AVle.eq ?_, (by repeat (first | exact SLe.rfl | refine SLe.tail ?_)), rfl, rfl⟩
      rw [hs]; rfl
    · refine AW_ret ?_
      repeat (first | refine ⟨0, rfl, ?_⟩ | refine ⟨1, rfl, ?_⟩ | refine ⟨2, rfl, ?_⟩ | refine ⟨3, rfl, ?_⟩ | refine ⟨4, rfl, ?_⟩ | refine ⟨5, rfl, ?_⟩ | refine ⟨6, rfl, ?_⟩)
      refine ⟨_, R, AVle.eq ?_, (by repeat (first | exact SLe.rfl | refine SLe.tail ?_)), rfl, rfl⟩
      rw [hs]; rfl
    · rename_i p
      have hl : l.length = 2 := by have e1 : (partsN 6).1 = 2 := rfl; have e2 : (partsN 6).2 = 2 := rfl; omega
      obtain ⟨x, hx⟩ : ∃ x, x = l[0]'(by omega) := ⟨_, rfl⟩
      have lx := hlen x (hx ▸ List.getElem_mem _)
      have kx := fun R => kp x (hx ▸ List.getElem_mem _) R trivial
      have ex : (showGs l).getD 0 [] = showG x := by rw [showGs_at (by omega), hx]
      refine at_get (0) (encU x) (by first | rfl | omega | (rw [wrap_i64 (by omega)]; omega)) (by rw [hx]; exact encTs_get (l := l) (by omega)) ?_
      repeat (first | refine ga_ ?_ | intro _)
      refine Or.inl ⟨⟨_, Tryd.func28, rfl, rfl⟩, ACall.mono ?_ (kx _)⟩
      rintro _ S1 ⟨rfl, hS1⟩
      subst S1
      repeat (first | refine ga_ ?_ | intro _)
      obtain ⟨y, hy⟩ : ∃ x, x = l[1]'(by omega) := ⟨_, rfl⟩
      have ly := hlen y (hy ▸ List.getElem_mem _)
      have ky := fun R => kp y (hy ▸ List.getElem_mem _) R trivial
      have ey : (showGs l).getD 1 [] = showG y := by rw [showGs_at (by omega), hy]
      have hss : (T.mk 6 s n l).s.length = s.length := rfl
      have hT : showG (.mk 6 s n l) = [40] ++ showG x ++ [32] ++ s ++ [32] ++ showG y ++ [41] := by
        rw [hs]; show [40] ++ ((showGs l).getD 0 [] ++ ([32] ++ (s ++ ([32] ++ ((showGs l).getD 1 [] ++ [41]))))) = _
        rw [ex, ey]; simp
      refine AW_draw tab_ok mixed 14 (by first | rfl | kernel_rfl) ?_
      repeat (first | refine ga_ ?_ | intro _)
      refine cat_ ?_
      repeat (first | refine ga_ ?_ | intro _)
      refine cat_ ?_
      repeat (first | refine ga_ ?_ | intro _)
      refine cat_ ?_
      repeat (first | refine ga_ ?_ | intro _)
      refine cat_ ?_
      repeat (first | refine ga_ ?_ | intro _)
      refine at_get (1) (encU y) (by first | rfl | omega | (rw [wrap_i64 (by omega)]; omega)) (by rw [hy]; exact encTs_get (l := l) (by omega)) ?_
      repeat (first | refine ga_ ?_ | intro _)
      apply call_step
      · rfl
      · exact Or.inl ⟨⟨_, Tryd.func28, rfl, rfl⟩, ky _⟩
      repeat (first | refine ga_ ?_ | intro _)
      refine cat_ ?_
      repeat (first | refine ga_ ?_ | intro _)
      refine cat_ ?_
      repeat (first | refine ga_ ?_ | intro _)
      refine AW_ret ?_
      repeat (first | refine ⟨0, rfl, ?_⟩ | refine ⟨1, rfl, ?_⟩ | refine ⟨2, rfl, ?_⟩ | refine ⟨3, rfl, ?_⟩ | refine ⟨4, rfl, ?_⟩ | refine ⟨5, rfl, ?_⟩ | refine ⟨6, rfl, ?_⟩)
      refine ⟨_, R, AVle.eq ?_, (by repeat (first | exact SLe.rfl | refine SLe.tail ?_)), rfl, rfl⟩
      exact congrArg AV.str (show [40] ++ showG x ++ [32] ++ s ++ [32] ++ showG y ++ [41] = _ by rw [hT])
    · rename_i p
      have hl : l.length = 1 := by have e1 : (partsN 7).1 = 1 := rfl; have e2 : (partsN 7).2 = 1 := rfl; omega
      obtain ⟨x, hx⟩ : ∃ x, x = l[0]'(by omega) := ⟨_, rfl⟩
      have lx := hlen x (hx ▸ List.getElem_mem _)
      have kx := fun R => kp x (hx ▸ List.getElem_mem _) R trivial
      have ex : (showGs l).getD 0 [] = showG x := by rw [showGs_at (by omega), hx]
      refine at_get (0) (encU x) (by first | rfl | omega | (rw [wrap_i64 (by omega)]; omega)) (by rw [hx]; exact encTs_get (l := l) (by omega)) ?_
      repeat (first | refine ga_ ?_ | intro _)
      refine Or.inl ⟨⟨_, Tryd.func28, rfl, rfl⟩, ACall.mono ?_ (kx _)⟩
      rintro _ S1 ⟨rfl, hS1⟩
      subst S1
      repeat (first | refine ga_ ?_ | intro _)
      have hss : (T.mk 7 s n l).s.length = s.length := rfl
      have hT : showG (.mk 7 s n l) = [40, 45] ++ showG x ++ [41] := by
        rw [hs]; show [40, 45] ++ ((showGs l).getD 0 [] ++ [41]) = _
        rw [ex]; simp
      refine cat_ ?_
      repeat (first | refine ga_ ?_ | intro _)
      refine cat_ ?_
      repeat (first | refine ga_ ?_ | intro _)
      refine AW_ret ?_
      repeat (first | refine ⟨0, rfl, ?_⟩ | refine ⟨1, rfl, ?_⟩ | refine ⟨2, rfl, ?_⟩ | refine ⟨3, rfl, ?_⟩ | refine ⟨4, rfl, ?_⟩ | refine ⟨5, rfl, ?_⟩ | refine ⟨6, rfl, ?_⟩)
      refine ⟨_, R, AVle.eq ?_, (by repeat (first | exact SLe.rfl | refine SLe.tail ?_)), rfl, rfl⟩
      exact congrArg AV.str (show [40, 45] ++ showG x ++ [41] = _ by rw [hT])
    · rename_i p
      have hl : l.length = 1 := by have e1 : (partsN 8).1 = 1 := rfl; have e2 : (partsN 8).2 = 1 := rfl; omega
      obtain ⟨x, hx⟩ : ∃ x, x = l[0]'(by omega) := ⟨_, rfl⟩
      have lx := hlen x (hx ▸ List.getElem_mem _)
      have kx := fun R => kp x (hx ▸ List.getElem_mem _) R trivial
      have ex : (showGs l).getD 0 [] = showG x := by rw [showGs_at (by omega), hx]
      refine at_get (0) (encU x) (by first | rfl | omega | (rw [wrap_i64 (by omega)]; omega)) (by rw [hx]; exact encTs_get (l := l) (by omega)) ?_
      repeat (first | refine ga_ ?_ | intro _)
      refine Or.inl ⟨⟨_, Tryd.func28, rfl, rfl⟩, ACall.mono ?_ (kx _)⟩
      rintro _ S1 ⟨rfl, hS1⟩
      subst S1
      repeat (first | refine ga_ ?_ | intro _)
      have hss : (T.mk 8 s n l).s.length = s.length := rfl
      have hT : showG (.mk 8 s n l) = [40, 33] ++ showG x ++ [41] := by
        rw [hs]; show [40, 33] ++ ((showGs l).getD 0 [] ++ [41]) = _
        rw [ex]; simp
      refine cat_ ?_
      repeat (first | refine ga_ ?_ | intro _)
      refine cat_ ?_
      repeat (first | refine ga_ ?_ | intro _)
      refine AW_ret ?_
      repeat (first | refine ⟨0, rfl, ?_⟩ | refine ⟨1, rfl, ?_⟩ | refine ⟨2, rfl, ?_⟩ | refine ⟨3, rfl, ?_⟩ | refine ⟨4, rfl, ?_⟩ | refine ⟨5, rfl, ?_⟩ | refine ⟨6, rfl, ?_⟩)
      refine ⟨_, R, AVle.eq ?_, (by repeat (first | exact SLe.rfl | refine SLe.tail ?_)), rfl, rfl⟩
      exact congrArg AV.str (show [40, 33] ++ showG x ++ [41] = _ by rw [hT])
    · rename_i p
      have hss : (T.mk 9 s n l).s.length = s.length := rfl
      have hT : showG (.mk 9 s n l) = s ++ [40] ++ Lib.join (showGs l) [44, 32] ++ [41] := by
        rw [hs]; show s ++ ([40] ++ (Lib.join (showGs l) [44, 32] ++ [41])) = _
        simp
      refine AW_draw tab_ok mixed 8 (by first | rfl | kernel_rfl) ?_
      repeat (first | refine ga_ ?_ | intro _)
      refine cat_ ?_
      repeat (first | refine ga_ ?_ | intro _)
      apply call_step
      · rfl
      · exact Or.inl ⟨⟨_, Tryd.func60, rfl, rfl⟩, ka _⟩
      repeat (first | refine ga_ ?_ | intro _)
      refine cat_ ?_
      repeat (first | refine ga_ ?_ | intro _)
      refine cat_ ?_
      repeat (first | refine ga_ ?_ | intro _)
      refine AW_ret ?_
      repeat (first | refine ⟨0, rfl, ?_⟩ | refine ⟨1, rfl, ?_⟩ | refine ⟨2, rfl, ?_⟩ | refine ⟨3, rfl, ?_⟩ | refine ⟨4, rfl, ?_⟩ | refine ⟨5, rfl, ?_⟩ | refine ⟨6, rfl, ?_⟩)
      refine ⟨_, R, AVle.eq ?_, (by repeat (first | exact SLe.rfl | refine SLe.tail ?_)), rfl, rfl⟩
      exact congrArg AV.str (show s ++ [40] ++ Lib.join (showGs l) [44, 32] ++ [41] = _ by rw [hT])
    · rename_i p
      have hl : l.length = 2 := by have e1 : (partsN 10).1 = 2 := rfl; have e2 : (partsN 10).2 = 2 := rfl; omega
      obtain ⟨x, hx⟩ : ∃ x, x = l[0]'(by omega) := ⟨_, rfl⟩
      have lx := hlen x (hx ▸ List.getElem_mem _)
      have kx := fun R => kp x (hx ▸ List.getElem_mem _) R trivial
      have ex : (showGs l).getD 0 [] = showG x := by rw [showGs_at (by omega), hx]
      refine at_get (0) (encU x) (by first | rfl | omega | (rw [wrap_i64 (by omega)]; omega)) (by rw [hx]; exact encTs_get (l := l) (by omega)) ?_
      repeat (first | refine ga_ ?_ | intro _)
      refine Or.inl ⟨⟨_, Tryd.func28, rfl, rfl⟩, ACall.mono ?_ (kx _)⟩
      rintro _ S1 ⟨rfl, hS1⟩
      subst S1
      repeat (first | refine ga_ ?_ | intro _)
      obtain ⟨y, hy⟩ : ∃ x, x = l[1]'(by omega) := ⟨_, rfl⟩
      have ly := hlen y (hy ▸ List.getElem_mem _)
      have ky := fun R => kp y (hy ▸ List.getElem_mem _) R trivial
      have ey : (showGs l).getD 1 [] = showG y := by rw [showGs_at (by omega), hy]
      have hss : (T.mk 10 s n l).s.length = s.length := rfl
      have hT : showG (.mk 10 s n l) = showG x ++ [91] ++ showG y ++ [93] := by
        rw [hs]; show (showGs l).getD 0 [] ++ ([91] ++ ((showGs l).getD 1 [] ++ [93])) = _
        rw [ex, ey]; simp
      refine cat_ ?_
      repeat (first | refine ga_ ?_ | intro _)
      refine at_get (1) (encU y) (by first | rfl | omega | (rw [wrap_i64 (by omega)]; omega)) (by rw [hy]; exact encTs_get (l := l) (by omega)) ?_
      repeat (first | refine ga_ ?_ | intro _)
      refine Or.inl ⟨⟨_, Tryd.func28, rfl, rfl⟩, ACall.mono ?_ (ky _)⟩
      rintro _ S1 ⟨rfl, hS1⟩
      subst S1
      repeat (first | refine ga_ ?_ | intro _)
      refine cat_ ?_
      repeat (first | refine ga_ ?_ | intro _)
      refine cat_ ?_
      repeat (first | refine ga_ ?_ | intro _)
      refine AW_ret ?_
      repeat (first | refine ⟨0, rfl, ?_⟩ | refine ⟨1, rfl, ?_⟩ | refine ⟨2, rfl, ?_⟩ | refine ⟨3, rfl, ?_⟩ | refine ⟨4, rfl, ?_⟩ | refine ⟨5, rfl, ?_⟩ | refine ⟨6, rfl, ?_⟩)
      refine ⟨_, R, AVle.eq ?_, (by repeat (first | exact SLe.rfl | refine SLe.tail ?_)), rfl, rfl⟩
      exact congrArg AV.str (show showG x ++ [91] ++ showG y ++ [93] = _ by rw [hT])
    · rename_i p
      have hl : l.length = 3 := by have e1 : (partsN 11).1 = 3 := rfl; have e2 : (partsN 11).2 = 3 := rfl; omega
      obtain ⟨x, hx⟩ : ∃ x, x = l[0]'(by omega) := ⟨_, rfl⟩
      have lx := hlen x (hx ▸ List.getElem_mem _)
      have kx := fun R => kp x (hx ▸ List.getElem_mem _) R trivial
      have ex : (showGs l).getD 0 [] = showG x := by rw [showGs_at (by omega), hx]
      refine at_get (0) (encU x) (by first | rfl | omega | (rw [wrap_i64 (by omega)]; omega)) (by rw [hx]; exact encTs_get (l := l) (by omega)) ?_
      repeat (first | refine ga_ ?_ | intro _)
      refine Or.inl ⟨⟨_, Tryd.func28, rfl, rfl⟩, ACall.mono ?_ (kx _)⟩
      rintro _ S1 ⟨rfl, hS1⟩
      subst S1
      repeat (first | refine ga_ ?_ | intro _)
      obtain ⟨y, hy⟩ : ∃ x, x = l[1]'(by omega) := ⟨_, rfl⟩
      have ly := hlen y (hy ▸ List.getElem_mem _)
      have ky := fun R => kp y (hy ▸ List.getElem_mem _) R trivial
      have ey : (showGs l).getD 1 [] = showG y := by rw [showGs_at (by omega), hy]
      obtain ⟨v, hv⟩ : ∃ x, x = l[2]'(by omega) := ⟨_, rfl⟩
      have lv := hlen v (hv ▸ List.getElem_mem _)
      have kv := fun R => kp v (hv ▸ List.getElem_mem _) R trivial
      have ev : (showGs l).getD 2 [] = showG v := by rw [showGs_at (by omega), hv]
      have hss : (T.mk 11 s n l).s.length = s.length := rfl
      have hT : showG (.mk 11 s n l) = showG x ++ [91] ++ showG y ++ [58] ++ showG v ++ [93] := by
        rw [hs]; show (showGs l).getD 0 [] ++ ([91] ++ ((showGs l).getD 1 [] ++ ([58] ++ ((showGs l).getD 2 [] ++ [93])))) = _
        rw [ex, ey, ev]; simp
      refine AW_draw tab_ok mixed 16 (by first | rfl | kernel_rfl) ?_
      repeat (first | refine ga_ ?_ | intro _)
      refine cat_ ?_
      repeat (first | refine ga_ ?_ | intro _)
      refine at_get (1) (encU y) (by first | rfl | omega | (rw [wrap_i64 (by omega)]; omega)) (by rw [hy]; exact encTs_get (l := l) (by omega)) ?_
      repeat (first | refine ga_ ?_ | intro _)
      apply call_step
      · rfl
      · exact Or.inl ⟨⟨_, Tryd.func28, rfl, rfl⟩, ky _⟩
      repeat (first | refine ga_ ?_ | intro _)
      refine cat_ ?_
      repeat (first | refine ga_ ?_ | intro _)
      refine cat_ ?_
      repeat (first | refine ga_ ?_ | intro _)
      refine at_get (2) (encU v) (by first | rfl | omega | (rw [wrap_i64 (by omega)]; omega)) (by rw [hv]; exact encTs_get (l := l) (by omega)) ?_
      repeat (first | refine ga_ ?_ | intro _)
      apply call_step
      · rfl
      · exact Or.inl ⟨⟨_, Tryd.func28, rfl, rfl⟩, kv _⟩
      repeat (first | refine ga_ ?_ | intro _)
      refine cat_ ?_
      repeat (first | refine ga_ ?_ | intro _)
      refine cat_ ?_
      repeat (first | refine ga_ ?_ | intro _)
      refine AW_ret ?_
      repeat (first | refine ⟨0, rfl, ?_⟩ | refine ⟨1, rfl, ?_⟩ | refine ⟨2, rfl, ?_⟩ | refine ⟨3, rfl, ?_⟩ | refine ⟨4, rfl, ?_⟩ | refine ⟨5, rfl, ?_⟩ | refine ⟨6, rfl, ?_⟩)
      refine ⟨_, R, AVle.eq ?_, (by repeat (first | exact SLe.rfl | refine SLe.tail ?_)), rfl, rfl⟩
      exact congrArg AV.str (show showG x ++ [91] ++ showG y ++ [58] ++ showG v ++ [93] = _ by rw [hT])
    · rename_i p
      have hl : l.length = 1 := by have e1 : (partsN 12).1 = 1 := rfl; have e2 : (partsN 12).2 = 1 := rfl; omega
      obtain ⟨x, hx⟩ : ∃ x, x = l[0]'(by omega) := ⟨_, rfl⟩
      have lx := hlen x (hx ▸ List.getElem_mem _)
      have kx := fun R => kp x (hx ▸ List.getElem_mem _) R trivial
      have ex : (showGs l).getD 0 [] = showG x := by rw [showGs_at (by omega), hx]
      refine at_get (0) (encU x) (by first | rfl | omega | (rw [wrap_i64 (by omega)]; omega)) (by rw [hx]; exact encTs_get (l := l) (by omega)) ?_
      repeat (first | refine ga_ ?_ | intro _)
      refine Or.inl ⟨⟨_, Tryd.func28, rfl, rfl⟩, ACall.mono ?_ (kx _)⟩
      rintro _ S1 ⟨rfl, hS1⟩
      subst S1
      repeat (first | refine ga_ ?_ | intro _)
      have hh : headI l = decide (x.op = 2) := by
        cases l with
        | nil => simp at hl
        | cons a r => rw [hx]; rfl
      have hss : (T.mk 12 s n l).s.length = s.length := rfl
      have hT : showG (.mk 12 s n l) = if x.op = 2 then [40] ++ showG x ++ [41, 46] ++ s else showG x ++ [46] ++ s := by
        rw [hs]; show (if headI l = true then [40] ++ ((showGs l).getD 0 [] ++ ([41, 46] ++ s)) else (showGs l).getD 0 [] ++ ([46] ++ s)) = _
        rw [ex, hh]
        by_cases q : x.op = 2
        · rw [if_pos (decide_eq_true q), if_pos q]; simp
        · rw [if_neg (by rw [decide_eq_false q]; simp), if_neg q]; simp
      refine at_get (0) (encU x) (by first | rfl | omega | (rw [wrap_i64 (by omega)]; omega)) (by rw [hx]; exact encTs_get (l := l) (by omega)) ?_
      repeat (first | refine ga_ ?_ | intro _)
      by_cases q : x.op = 2
      · rw [if_pos q] at hT
        refine AW_true (b := decide (x.op = 2)) rfl (by exact decide_eq_true q) ?_
        repeat (first | refine ga_ ?_ | intro _)
        refine cat_ ?_
        repeat (first | refine ga_ ?_ | intro _)
        refine cat_ ?_
        repeat (first | refine ga_ ?_ | intro _)
        refine cat_ ?_
        repeat (first | refine ga_ ?_ | intro _)
        refine AW_ret ?_
        repeat (first | refine ⟨0, rfl, ?_⟩ | refine ⟨1, rfl, ?_⟩ | refine ⟨2, rfl, ?_⟩ | refine ⟨3, rfl, ?_⟩ | refine ⟨4, rfl, ?_⟩ | refine ⟨5, rfl, ?_⟩ | refine ⟨6, rfl, ?_⟩)
        refine ⟨_, R, AVle.eq ?_, (by repeat (first | exact SLe.rfl | refine SLe.tail ?_)), rfl, rfl⟩
        exact congrArg AV.str (show [40] ++ showG x ++ [41, 46] ++ s = _ by rw [hT])
      · rw [if_neg q] at hT
        refine AW_false (b := decide (x.op = 2)) rfl (by exact decide_eq_false q) ?_
        repeat (first | refine ga_ ?_ | intro _)
        refine cat_ ?_
        repeat (first | refine ga_ ?_ | intro _)
        refine cat_ ?_
        repeat (first | refine ga_ ?_ | intro _)
        refine AW_ret ?_
        repeat (first | refine ⟨0, rfl, ?_⟩ | refine ⟨1, rfl, ?_⟩ | refine ⟨2, rfl, ?_⟩ | refine ⟨3, rfl, ?_⟩ | refine ⟨4, rfl, ?_⟩ | refine ⟨5, rfl, ?_⟩ | refine ⟨6, rfl, ?_⟩)
        refine ⟨_, R, AVle.eq ?_, (by repeat (first | exact SLe.rfl | refine SLe.tail ?_)), rfl, rfl⟩
        exact congrArg AV.str (show showG x ++ [46] ++ s = _ by rw [hT])
    · rename_i p
      have hss : (T.mk 13 s n l).s.length = s.length := rfl
      have hT : showG (.mk 13 s n l) = [40] ++ s ++ [123] ++ Lib.join (showGs l) [44, 32] ++ [125, 41] := by
        rw [hs]; show [40] ++ (s ++ ([123] ++ (Lib.join (showGs l) [44, 32] ++ [125, 41]))) = _
        simp
      refine AW_draw tab_ok mixed 9 (by first | rfl | kernel_rfl) ?_
      repeat (first | refine ga_ ?_ | intro _)
      refine cat_ ?_
      repeat (first | refine ga_ ?_ | intro _)
      refine cat_ ?_
      repeat (first | refine ga_ ?_ | intro _)
      apply call_step
      · rfl
      · exact Or.inl ⟨⟨_, Tryd.func60, rfl, rfl⟩, ka _⟩
      repeat (first | refine ga_ ?_ | intro _)
      refine cat_ ?_
      repeat (first | refine ga_ ?_ | intro _)
      refine cat_ ?_
      repeat (first | refine ga_ ?_ | intro _)
      refine AW_ret ?_
      repeat (first | refine ⟨0, rfl, ?_⟩ | refine ⟨1, rfl, ?_⟩ | refine ⟨2, rfl, ?_⟩ | refine ⟨3, rfl, ?_⟩ | refine ⟨4, rfl, ?_⟩ | refine ⟨5, rfl, ?_⟩ | refine ⟨6, rfl, ?_⟩)
      refine ⟨_, R, AVle.eq ?_, (by repeat (first | exact SLe.rfl | refine SLe.tail ?_)), rfl, rfl⟩
      exact congrArg AV.str (show [40] ++ s ++ [123] ++ Lib.join (showGs l) [44, 32] ++ [125, 41] = _ by rw [hT])
    · rename_i p
      have hl : l.length = 1 := by have e1 : (partsN 14).1 = 1 := rfl; have e2 : (partsN 14).2 = 1 := rfl; omega
      obtain ⟨x, hx⟩ : ∃ x, x = l[0]'(by omega) := ⟨_, rfl⟩
      have lx := hlen x (hx ▸ List.getElem_mem _)
      have kx := fun R => kp x (hx ▸ List.getElem_mem _) R trivial
      have ex : (showGs l).getD 0 [] = showG x := by rw [showGs_at (by omega), hx]
      refine at_get (0) (encU x) (by first | rfl | omega | (rw [wrap_i64 (by omega)]; omega)) (by rw [hx]; exact encTs_get (l := l) (by omega)) ?_
      repeat (first | refine ga_ ?_ | intro _)
      refine Or.inl ⟨⟨_, Tryd.func28, rfl, rfl⟩, ACall.mono ?_ (kx _)⟩
      rintro _ S1 ⟨rfl, hS1⟩
      subst S1
      repeat (first | refine ga_ ?_ | intro _)
      have hss : (T.mk 14 s n l).s.length = s.length := rfl
      have hT : showG (.mk 14 s n l) = [108, 101, 110, 40] ++ showG x ++ [41] := by
        rw [hs]; show [108, 101, 110, 40] ++ ((showGs l).getD 0 [] ++ [41]) = _
        rw [ex]; simp
      refine cat_ ?_
      repeat (first | refine ga_ ?_ | intro _)
      refine cat_ ?_
      repeat (first | refine ga_ ?_ | intro _)
      refine AW_ret ?_
      repeat (first | refine ⟨0, rfl, ?_⟩ | refine ⟨1, rfl, ?_⟩ | refine ⟨2, rfl, ?_⟩ | refine ⟨3, rfl, ?_⟩ | refine ⟨4, rfl, ?_⟩ | refine ⟨5, rfl, ?_⟩ | refine ⟨6, rfl, ?_⟩)
      refine ⟨_, R, AVle.eq ?_, (by repeat (first | exact SLe.rfl | refine SLe.tail ?_)), rfl, rfl⟩
      exact congrArg AV.str (show [108, 101, 110, 40] ++ showG x ++ [41] = _ by rw [hT])
    · rename_i p
      have hl : l.length = 2 := by have e1 : (partsN 15).1 = 2 := rfl; have e2 : (partsN 15).2 = 2 := rfl; omega
      obtain ⟨x, hx⟩ : ∃ x, x = l[0]'(by omega) := ⟨_, rfl⟩
      have lx := hlen x (hx ▸ List.getElem_mem _)
      have kx := fun R => kp x (hx ▸ List.getElem_mem _) R trivial
      have ex : (showGs l).getD 0 [] = showG x := by rw [showGs_at (by omega), hx]
      refine at_get (0) (encU x) (by first | rfl | omega | (rw [wrap_i64 (by omega)]; omega)) (by rw [hx]; exact encTs_get (l := l) (by omega)) ?_
      repeat (first | refine ga_ ?_ | intro _)
      refine Or.inl ⟨⟨_, Tryd.func28, rfl, rfl⟩, ACall.mono ?_ (kx _)⟩
      rintro _ S1 ⟨rfl, hS1⟩
      subst S1
      repeat (first | refine ga_ ?_ | intro _)
      obtain ⟨y, hy⟩ : ∃ x, x = l[1]'(by omega) := ⟨_, rfl⟩
      have ly := hlen y (hy ▸ List.getElem_mem _)
      have ky := fun R => kp y (hy ▸ List.getElem_mem _) R trivial
      have ey : (showGs l).getD 1 [] = showG y := by rw [showGs_at (by omega), hy]
      have hss : (T.mk 15 s n l).s.length = s.length := rfl
      have hll : showGs l = [showG x, showG y] := by
        rw [showGs_map]
        match l, hl, hx, hy with
        | [a, b], _, hx, hy => rw [hx, hy]; rfl
      have hT : showG (.mk 15 s n l) = [97, 112, 112, 101, 110, 100, 40] ++ showG x ++ [44, 32] ++ showG y ++ [41] := by
        rw [hs]; show [97, 112, 112, 101, 110, 100, 40] ++ (Lib.join (showGs l) [44, 32] ++ [41]) = _
        rw [hll]; simp [Lib.join]
      refine cat_ ?_
      repeat (first | refine ga_ ?_ | intro _)
      refine cat_ ?_
      repeat (first | refine ga_ ?_ | intro _)
      refine at_get (1) (encU y) (by first | rfl | omega | (rw [wrap_i64 (by omega)]; omega)) (by rw [hy]; exact encTs_get (l := l) (by omega)) ?_
      repeat (first | refine ga_ ?_ | intro _)
      refine Or.inl ⟨⟨_, Tryd.func28, rfl, rfl⟩, ACall.mono ?_ (ky _)⟩
      rintro _ S1 ⟨rfl, hS1⟩
      subst S1
      repeat (first | refine ga_ ?_ | intro _)
      refine cat_ ?_
      repeat (first | refine ga_ ?_ | intro _)
      refine cat_ ?_
      repeat (first | refine ga_ ?_ | intro _)
      refine AW_ret ?_
      repeat (first | refine ⟨0, rfl, ?_⟩ | refine ⟨1, rfl, ?_⟩ | refine ⟨2, rfl, ?_⟩ | refine ⟨3, rfl, ?_⟩ | refine ⟨4, rfl, ?_⟩ | refine ⟨5, rfl, ?_⟩ | refine ⟨6, rfl, ?_⟩)
      refine ⟨_, R, AVle.eq ?_, (by repeat (first | exact SLe.rfl | refine SLe.tail ?_)), rfl, rfl⟩
      exact congrArg AV.str (show [97, 112, 112, 101, 110, 100, 40] ++ showG x ++ [44, 32] ++ showG y ++ [41] = _ by rw [hT])
    · rename_i p
      have hl : l.length = 2 := by have e1 : (partsN 16).1 = 2 := rfl; have e2 : (partsN 16).2 = 2 := rfl; omega
      obtain ⟨x, hx⟩ : ∃ x, x = l[0]'(by omega) := ⟨_, rfl⟩
      have lx := hlen x (hx ▸ List.getElem_mem _)
      have kx := fun R => kp x (hx ▸ List.getElem_mem _) R trivial
      have ex : (showGs l).getD 0 [] = showG x := by rw [showGs_at (by omega), hx]
      refine at_get (0) (encU x) (by first | rfl | omega | (rw [wrap_i64 (by omega)]; omega)) (by rw [hx]; exact encTs_get (l := l) (by omega)) ?_
      repeat (first | refine ga_ ?_ | intro _)
      refine Or.inl ⟨⟨_, Tryd.func28, rfl, rfl⟩, ACall.mono ?_ (kx _)⟩
      rintro _ S1 ⟨rfl, hS1⟩
      subst S1
      repeat (first | refine ga_ ?_ | intro _)
      obtain ⟨y, hy⟩ : ∃ x, x = l[1]'(by omega) := ⟨_, rfl⟩
      have ly := hlen y (hy ▸ List.getElem_mem _)
      have ky := fun R => kp y (hy ▸ List.getElem_mem _) R trivial
      have ey : (showGs l).getD 1 [] = showG y := by rw [showGs_at (by omega), hy]
      have hss : (T.mk 16 s n l).s.length = s.length := rfl
      have hT : showG (.mk 16 s n l) = [105, 110, 116, 40] ++ showG x ++ [91] ++ showG y ++ [93, 41] := by
        rw [hs]; show [105, 110, 116, 40] ++ ((showGs l).getD 0 [] ++ ([91] ++ ((showGs l).getD 1 [] ++ [93, 41]))) = _
        rw [ex, ey]; simp
      refine cat_ ?_
      repeat (first | refine ga_ ?_ | intro _)
      refine cat_ ?_
      repeat (first | refine ga_ ?_ | intro _)
      refine at_get (1) (encU y) (by first | rfl | omega | (rw [wrap_i64 (by omega)]; omega)) (by rw [hy]; exact encTs_get (l := l) (by omega)) ?_
      repeat (first | refine ga_ ?_ | intro _)
      refine Or.inl ⟨⟨_, Tryd.func28, rfl, rfl⟩, ACall.mono ?_ (ky _)⟩
      rintro _ S1 ⟨rfl, hS1⟩
      subst S1
      repeat (first | refine ga_ ?_ | intro _)
      refine cat_ ?_
      repeat (first | refine ga_ ?_ | intro _)
      refine cat_ ?_
      repeat (first | refine ga_ ?_ | intro _)
      refine AW_ret ?_
      repeat (first | refine ⟨0, rfl, ?_⟩ | refine ⟨1, rfl, ?_⟩ | refine ⟨2, rfl, ?_⟩ | refine ⟨3, rfl, ?_⟩ | refine ⟨4, rfl, ?_⟩ | refine ⟨5, rfl, ?_⟩ | refine ⟨6, rfl, ?_⟩)
      refine ⟨_, R, AVle.eq ?_, (by repeat (first | exact SLe.rfl | refine SLe.tail ?_)), rfl, rfl⟩
      exact congrArg AV.str (show [105, 110, 116, 40] ++ showG x ++ [91] ++ showG y ++ [93, 41] = _ by rw [hT])
end Go.Proofs.YtnkmjbjpmocnbaaDoor
