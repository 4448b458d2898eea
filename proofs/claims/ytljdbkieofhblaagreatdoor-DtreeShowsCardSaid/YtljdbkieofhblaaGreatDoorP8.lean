/-
  What the laws' calls begin with; DtreeRight, DtreeRules: the walks. Own work.
-/
import Derived.Test.YtljdbkieofhblaaGreatDoorP7
import Derived.Test.YtljdbkieofhblaaGreatDoorP4
import Derived.Test.YtljdbkieofhblaaGreatDoorFrameT
namespace Go.Proofs.YtljdbkieofhblaaGreatDoor
open Go.Aw Go.ChangeShapes Go.WideShapes Go.ChangeAt Go.RowKit

theorem startD {W : World} (h0 : laidMetH Tryz.prog Rows.dtreeShowsRow.laid W) : ∃ S0, (NumG S0 ∧ ∃ b o, En.glob 0 [errE b o] ∈ S0) ∧ RelS W (Kof W) S0 W := by
  have h : laidMet Tryz.prog Rows.dtreeShowsRow.laid W := h0
  have h3 := laidMet.tail (laidMet.tail h)
  have ht := pow_tab (by kernel_rfl) h3
  have h4 := laidMet.tail h3
  obtain ⟨a1, s1, v1, c1, _⟩ := laid_sentinel (g := 0) (ti := 51) h4 (by kernel_rfl) (by kernel_rfl) Tryz.underlying51 errRow Tryz.underlying133 Tryz.underlying156 rfl rfl Tryz.underlying9 (by kernel_rfl) (by kernel_rfl)
  have r1 := start_err (relS_start W) (g := 0) (by kernel_rfl) v1 c1
  have r3 := start_tab r1 (g := 2) (by kernel_rfl) ht pow_ok
  exact ⟨_, ⟨⟨.head _, trivial⟩, _, _, .tail _ (.head _)⟩, r3⟩

theorem small_S {p : Pr} (hb : smallB p = true) (hn : nP p) : okS p ∧ p.decls.length ≤ 100 ∧ p.rules.length ≤ 300 := by
  obtain ⟨h1, h2, h3, h4, h5⟩ := small_cnt hb hn
  exact ⟨⟨h1, h2, h3⟩, h4, h5⟩
theorem okS_R {p : Pr} (h : okS p) : ∀ r ∈ p.rules, okR r := fun r hr => okR_of (by have := cntRs_at hr; have := h.2.2; omega)
theorem smallI_0 {p : Pr} (h : smallB p = false) : smallI p = 0 := by rw [smallI, if_neg (by rw [h]; simp)]
theorem smallI_1 {p : Pr} (h : smallB p = true) : smallI p = 1 := by rw [smallI, if_pos h]

end Go.Proofs.YtljdbkieofhblaaGreatDoor
/-
  A program's text, the book's; DtreeShows: the walk. Own work.
-/
namespace Go.Proofs.YtljdbkieofhblaaGreatDoor
open Go.Aw Go.ChangeShapes Go.WideShapes Go.ChangeAt Go.RowKit
set_option maxHeartbeats 4000000

theorem refShowP_ok (p : Pr) (R : List En) (hp : okS p) : ACall Tryz.prog 7 [encP p] R (fun v S => v = shownP p ∧ S = R) := by
  obtain ⟨k1, k2, k3⟩ := hp
  refine ACall_body tab_ok Tryz.func7 rfl rfl rfl (by kernel_rfl) (Nat.le_of_ble_eq_true rfl) ?_
  repeat (first | refine go_ ?_ | intro _)
  rename_i q
  refine Or.inl ⟨⟨_, Tryz.func16, rfl, rfl⟩, ACall.mono ?_ (refRight_ok p _)⟩
  rintro _ S1 ⟨rfl, hS1⟩
  subst S1
  repeat (first | refine go_ ?_ | intro _)
  refine AW_cond (b := !rightP p) rfl (fun h => ?_) (fun h => ?_)
  · have hr : rightP p = false := by simpa using h
    repeat (first | refine go_ ?_ | intro _)
    refine AW_ret ?_
    repeat (first | refine ⟨0, rfl, ?_⟩ | refine ⟨1, rfl, ?_⟩ | refine ⟨2, rfl, ?_⟩ | refine ⟨3, rfl, ?_⟩ | refine ⟨4, rfl, ?_⟩ | refine ⟨5, rfl, ?_⟩ | refine ⟨6, rfl, ?_⟩)
    refine ⟨_, R, AVle.eq ?_, (by repeat (first | exact SLe.rfl | refine SLe.tail ?_)), rfl, rfl⟩
    rw [shownP_f hr]; rfl
  have hr : rightP p = true := by simpa using h
  obtain ⟨r1, r2, r3, r4⟩ := rightP_all hr
  have hDl : ∀ z, (showDs (p.decls.take z)).length ≤ 12000 * 60 := fun z => by
    have := showDs_len (p.decls.take z) fun d hd => ⟨k1 d (List.mem_of_mem_take hd), (rightD_all (r3 d (List.mem_of_mem_take hd))).2.2.1⟩
    rw [List.length_take] at this
    omega
  have hRl : ∀ z, (showRs (p.rules.take z)).length ≤ 5002 * 2000 := fun z => by
    have h1 := showRs_len (p.rules.take z) fun d hd => k2 d (List.mem_of_mem_take hd)
    have h2 := cntRs_take p.rules z
    omega
  repeat (first | refine go_ ?_ | intro _)
  refine AW_for (α := Nat) (fun z => ⟨[(1, .ptr q 0), (5, .str (showDs (p.decls.take z))), (6, .int .i64 (z : Nat))], []⟩) (fun z => .cells q [.sl 6 (p.decls.map encD) .no, .sl 4 (p.rules.map encRu) .no] :: R) (fun z => p.decls.length - z) (fun z => z ≤ p.decls.length) (0) ?_ (weak_of ?_ rfl ?_) (fun z hz => ?_)
  · exact Nat.zero_le _
  · repeat (first | exact trivial | refine ⟨AVle.refl _, ?_⟩ | refine ⟨AVle.tk, ?_⟩ | refine ⟨AVle.nil, ?_⟩ | refine ⟨AVle.nilFull, ?_⟩ | refine ⟨AVle.eq (congrArg (AV.int .i64) (by first | (simp; done) | (simp; omega) | (rw [wrap_i64 (by first | omega | (simp; omega))]; first | rfl | omega | (simp; done) | (simp; omega)))), ?_⟩)
  · refine SW.le ?_
    repeat (first | exact SW.nil | refine SW.cons ?_ | refine SW.cells (by repeat (first | exact trivial | refine ⟨AVle.refl _, ?_⟩ | refine ⟨AVle.nilFull, ?_⟩ | refine ⟨AVle.tk, ?_⟩ | refine ⟨AVle.nil, ?_⟩)) rfl ?_ | refine SW.full ?_ | refine SW.drop ?_)
  replace hz : z ≤ p.decls.length := hz
  have hD0 := hDl z
  have hD1 := hDl (z + 1)
  repeat (first | refine go_ ?_ | intro _)
  refine AW_iff (z < p.decls.length) rfl (by first | (simp; done) | (simp <;> omega) | decide) (fun h => ?_) (fun h => ?_)
  · have hlt := h
    obtain ⟨d, hd⟩ : ∃ x, x = p.decls[z] := ⟨_, rfl⟩
    have hm : d ∈ p.decls := hd ▸ List.getElem_mem hlt
    have kd := fun R => refShowDecl_ok d R (r3 d hm) (k1 d hm)
    have e' : showDs (p.decls.take z) ++ showD d = showDs (p.decls.take (z + 1)) := (showDs_take hlt hd).symm
    have el := congrArg List.length e'
    rw [List.length_append] at el
    repeat (first | refine go_ ?_ | intro _)
    refine at_get (z) (encD d) (by first | rfl | omega | (rw [wrap_i64 (by omega)]; omega)) (by rw [List.getElem?_map, List.getElem?_eq_getElem hlt, hd]; rfl) ?_
    repeat (first | refine go_ ?_ | intro _)
    refine Or.inl ⟨⟨_, Tryz.func17, rfl, rfl⟩, ACall.mono ?_ (kd _)⟩
    rintro _ S1 ⟨rfl, hS1⟩
    subst S1
    repeat (first | refine go_ ?_ | intro _)
    refine cat_ ?_
    repeat (first | refine go_ ?_ | intro _)
    refine ⟨z + 1, ?_, ?_, weak_of ?_ rfl ?_⟩
    · omega
    · exact hlt
    · repeat (first | exact trivial | refine ⟨(AVle.eq (congrArg AV.str e')), ?_⟩ | refine ⟨AVle.refl _, ?_⟩ | refine ⟨AVle.tk, ?_⟩ | refine ⟨AVle.nil, ?_⟩ | refine ⟨AVle.nilFull, ?_⟩ | refine ⟨AVle.eq (congrArg (AV.int .i64) (by first | (simp; done) | (simp; omega) | (rw [wrap_i64 (by first | omega | (simp; omega))]; first | rfl | omega | (simp; done) | (simp; omega)))), ?_⟩)
    · refine SW.le ?_
      repeat (first | exact SW.nil | refine SW.cons ?_ | refine SW.cells (by repeat (first | exact trivial | refine ⟨AVle.refl _, ?_⟩ | refine ⟨AVle.nilFull, ?_⟩ | refine ⟨AVle.tk, ?_⟩ | refine ⟨AVle.nil, ?_⟩)) rfl ?_ | refine SW.full ?_ | refine SW.drop ?_)
  have hz' : z = p.decls.length := by omega
  have e0 : showDs (p.decls.take z) = showDs p.decls ++ showRs (p.rules.take 0) := by rw [hz', List.take_length]; simp [showRs]
  have hDD := hDl p.decls.length
  rw [List.take_length] at hDD
  repeat (first | refine go_ ?_ | intro _)
  refine AW_for (α := Nat) (fun z => ⟨[(1, .ptr q 0), (5, .str (showDs p.decls ++ showRs (p.rules.take z))), (7, .int .i64 (z : Nat))], []⟩) (fun z => .cells q [.sl 6 (p.decls.map encD) .no, .sl 4 (p.rules.map encRu) .no] :: R) (fun z => p.rules.length - z) (fun z => z ≤ p.rules.length) (0) ?_ (weak_of ?_ rfl ?_) (fun z hz => ?_)
  · exact Nat.zero_le _
  · repeat (first | exact trivial | refine ⟨(AVle.eq (congrArg AV.str e0)), ?_⟩ | refine ⟨AVle.refl _, ?_⟩ | refine ⟨AVle.tk, ?_⟩ | refine ⟨AVle.nil, ?_⟩ | refine ⟨AVle.nilFull, ?_⟩ | refine ⟨AVle.eq (congrArg (AV.int .i64) (by first | (simp; done) | (simp; omega) | (rw [wrap_i64 (by first | omega | (simp; omega))]; first | rfl | omega | (simp; done) | (simp; omega)))), ?_⟩)
  · refine SW.le ?_
    repeat (first | exact SW.nil | refine SW.cons ?_ | refine SW.cells (by repeat (first | exact trivial | refine ⟨AVle.refl _, ?_⟩ | refine ⟨AVle.nilFull, ?_⟩ | refine ⟨AVle.tk, ?_⟩ | refine ⟨AVle.nil, ?_⟩)) rfl ?_ | refine SW.full ?_ | refine SW.drop ?_)
  replace hz : z ≤ p.rules.length := hz
  have hR0 := hRl z
  have hR1 := hRl (z + 1)
  repeat (first | refine go_ ?_ | intro _)
  refine AW_iff (z < p.rules.length) rfl (by first | (simp; done) | (simp <;> omega) | decide) (fun h => ?_) (fun h => ?_)
  · have hlt := h
    obtain ⟨r, hd⟩ : ∃ x, x = p.rules[z] := ⟨_, rfl⟩
    have hm : r ∈ p.rules := hd ▸ List.getElem_mem hlt
    have kr : ∀ R, ACall Tryz.prog 18 [encRu r] R (fun v S => v = .tup [.str (showR r), .int .i64 0] ∧ S = R) := fun R => by
      have := refShowRule_ok r R (k2 r hm) (by have := cntRs_at hm; omega)
      rwa [shownR_t (r4 r hm)] at this
    have el : (showRs (p.rules.take z)).length + ((showR r).length + 1) = (showRs (p.rules.take (z + 1))).length := by rw [showRs_take hlt hd]; simp
    repeat (first | refine go_ ?_ | intro _)
    refine at_get (z) (encRu r) (by first | rfl | omega | (rw [wrap_i64 (by omega)]; omega)) (by rw [List.getElem?_map, List.getElem?_eq_getElem hlt, hd]; rfl) ?_
    repeat (first | refine go_ ?_ | intro _)
    refine Or.inl ⟨⟨_, Tryz.func18, rfl, rfl⟩, ACall.mono ?_ (kr _)⟩
    rintro _ S1 ⟨rfl, hS1⟩
    subst S1
    repeat (first | refine go_ ?_ | intro _)
    refine cat_ ?_
    repeat (first | refine go_ ?_ | intro _)
    refine cat_ ?_
    repeat (first | refine go_ ?_ | intro _)
    refine ⟨z + 1, ?_, ?_, weak_of ?_ rfl ?_⟩
    · omega
    · exact hlt
    · repeat (first | exact trivial | refine ⟨(AVle.eq (congrArg AV.str (show ((showDs p.decls ++ showRs (p.rules.take z)) ++ showR r) ++ [10] = _ by rw [showRs_take hlt hd]; simp))), ?_⟩ | refine ⟨AVle.refl _, ?_⟩ | refine ⟨AVle.tk, ?_⟩ | refine ⟨AVle.nil, ?_⟩ | refine ⟨AVle.nilFull, ?_⟩ | refine ⟨AVle.eq (congrArg (AV.int .i64) (by first | (simp; done) | (simp; omega) | (rw [wrap_i64 (by first | omega | (simp; omega))]; first | rfl | omega | (simp; done) | (simp; omega)))), ?_⟩)
    · refine SW.le ?_
      repeat (first | exact SW.nil | refine SW.cons ?_ | refine SW.cells (by repeat (first | exact trivial | refine ⟨AVle.refl _, ?_⟩ | refine ⟨AVle.nilFull, ?_⟩ | refine ⟨AVle.tk, ?_⟩ | refine ⟨AVle.nil, ?_⟩)) rfl ?_ | refine SW.full ?_ | refine SW.drop ?_)
  have hz' : z = p.rules.length := by omega
  repeat (first | refine go_ ?_ | intro _)
  refine AW_ret ?_
  repeat (first | refine ⟨0, rfl, ?_⟩ | refine ⟨1, rfl, ?_⟩ | refine ⟨2, rfl, ?_⟩ | refine ⟨3, rfl, ?_⟩ | refine ⟨4, rfl, ?_⟩ | refine ⟨5, rfl, ?_⟩ | refine ⟨6, rfl, ?_⟩)
  refine ⟨_, R, AVle.eq ?_, (by repeat (first | exact SLe.rfl | refine SLe.tail ?_)), rfl, rfl⟩
  rw [shownP_t hr]
  exact congrArg (fun s => AV.tup [.str s, .int .i64 0]) (show showDs p.decls ++ showRs (p.rules.take z) = _ by rw [hz', List.take_length, showP])

theorem dtreeShows_ok (p : Pr) (R : List En) (hG : NumG R) (b o : Nat) (hE : En.glob 0 [errE b o] ∈ R) : ACall Tryz.prog 3 [encP p] R (fun r S => r = .bool true ∧ S = R) := by
  refine ACall_sat fun hs => ?_
  have hs := hs _ (.head _)
  have hP := okP_of p hs
  have hn := nP_of p hs
  have ks := fun R => small_ok p R hP
  by_cases hb : smallB p = true
  · rw [smallI_1 hb] at ks
    obtain ⟨hS, _, _⟩ := small_S hb hn
    obtain ⟨s, e, hse⟩ : ∃ s e, shownP p = .tup [.str s, .int .i64 e] := ⟨_, _, rfl⟩
    have k1 := fun R hE hG => show_ok b o p R hE hS hG
    have k2 := fun R => refShowP_ok p R hS
    rw [hse] at k1 k2
    refine ACall_body tab_ok Tryz.func3 rfl rfl rfl (by kernel_rfl) (Nat.le_of_ble_eq_true rfl) ?_
    repeat (first | refine go_ ?_ | intro _)
    refine Or.inl ⟨⟨_, Tryz.func4, rfl, rfl⟩, ACall.mono ?_ (shown_ok b o _ (.tail _ hE) hG.cons)⟩
    rintro _ S1 ⟨rfl, hS1⟩
    subst S1
    repeat (first | refine go_ ?_ | intro _)
    refine Or.inl ⟨⟨_, Tryz.func5, rfl, rfl⟩, ACall.mono ?_ (ks _)⟩
    rintro _ S1 ⟨rfl, hS1⟩
    subst S1
    repeat (first | refine ga_ ?_ | intro _)
    refine Or.inl ⟨⟨_, Tryz.func6, rfl, rfl⟩, ACall.mono ?_ (k1 _ (.tail _ hE) hG.cons)⟩
    rintro _ S1 ⟨rfl, hS1⟩
    subst S1
    repeat (first | refine ga_ ?_ | intro _)
    refine Or.inl ⟨⟨_, Tryz.func7, rfl, rfl⟩, ACall.mono ?_ (k2 _)⟩
    rintro _ S1 ⟨rfl, hS1⟩
    subst S1
    repeat (first | refine ga_ ?_ | intro _)
    refine known_true (b := decide (s = s)) (by first | rfl | (simp; done) | (simp; omega) | decide) ?_
    repeat (first | refine ga_ ?_ | intro _)
    refine AW_ret ?_
    repeat (first | refine ⟨0, rfl, ?_⟩ | refine ⟨1, rfl, ?_⟩ | refine ⟨2, rfl, ?_⟩ | refine ⟨3, rfl, ?_⟩ | refine ⟨4, rfl, ?_⟩ | refine ⟨5, rfl, ?_⟩ | refine ⟨6, rfl, ?_⟩)
    refine ⟨_, R, AVle.eq ?_, (by repeat (first | exact SLe.rfl | refine SLe.tail ?_)), rfl, rfl⟩
    exact congrArg AV.bool (by simp)
  · rw [smallI_0 (by simpa using hb)] at ks
    refine ACall_body tab_ok Tryz.func3 rfl rfl rfl (by kernel_rfl) (Nat.le_of_ble_eq_true rfl) ?_
    repeat (first | refine go_ ?_ | intro _)
    refine Or.inl ⟨⟨_, Tryz.func4, rfl, rfl⟩, ACall.mono ?_ (shown_ok b o _ (.tail _ hE) hG.cons)⟩
    rintro _ S1 ⟨rfl, hS1⟩
    subst S1
    repeat (first | refine go_ ?_ | intro _)
    refine Or.inl ⟨⟨_, Tryz.func5, rfl, rfl⟩, ACall.mono ?_ (ks _)⟩
    rintro _ S1 ⟨rfl, hS1⟩
    subst S1
    repeat (first | refine ga_ ?_ | intro _)
    refine AW_ret ?_
    repeat (first | refine ⟨0, rfl, ?_⟩ | refine ⟨1, rfl, ?_⟩ | refine ⟨2, rfl, ?_⟩ | refine ⟨3, rfl, ?_⟩ | refine ⟨4, rfl, ?_⟩ | refine ⟨5, rfl, ?_⟩ | refine ⟨6, rfl, ?_⟩)
    refine ⟨_, R, AVle.eq ?_, (by repeat (first | exact SLe.rfl | refine SLe.tail ?_)), rfl, rfl⟩
    rfl
end Go.Proofs.YtljdbkieofhblaaGreatDoor
