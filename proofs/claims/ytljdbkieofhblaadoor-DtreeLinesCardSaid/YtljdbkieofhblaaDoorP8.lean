/-
  What the laws' calls begin with; DtreeRight, DtreeRules: the walks. Own work.
-/
import Derived.Test.YtljdbkieofhblaaDoorP7
import Derived.Test.YtljdbkieofhblaaDoorP4
import Derived.Test.YtljdbkieofhblaaDoorFrameT
namespace Go.Proofs.YtljdbkieofhblaaDoor
open Go.Aw Go.ChangeShapes Go.WideShapes Go.ChangeAt Go.RowKit
set_option maxHeartbeats 4000000

theorem startD {W : World} (h0 : laidMetH Tryd.prog Rows.dtreeRightRow.laid W) : ∃ S0, (NumG S0 ∧ ∃ b o, En.glob 0 [errE b o] ∈ S0) ∧ RelS W (Kof W) S0 W := by
  have h : laidMet Tryd.prog Rows.dtreeRightRow.laid W := h0
  have h3 := laidMet.tail (laidMet.tail h)
  have ht := pow_tab (by kernel_rfl) h3
  have h4 := laidMet.tail h3
  obtain ⟨a1, s1, v1, c1, _⟩ := laid_sentinel (g := 0) (ti := 62) h4 (by kernel_rfl) (by kernel_rfl) Tryd.underlying62 errRow Tryd.underlying146 Tryd.underlying169 rfl rfl Tryd.underlying9 (by kernel_rfl) (by kernel_rfl)
  have r1 := start_err (relS_start W) (g := 0) (by kernel_rfl) v1 c1
  have r3 := start_tab r1 (g := 2) (by kernel_rfl) ht pow_ok
  exact ⟨_, ⟨⟨.head _, trivial⟩, _, _, .tail _ (.head _)⟩, r3⟩

theorem small_S {p : Pr} (hb : smallB p = true) (hn : nP p) : okS p ∧ p.decls.length ≤ 100 ∧ p.rules.length ≤ 300 := by
  obtain ⟨h1, h2, h3, h4, h5⟩ := small_cnt hb hn
  exact ⟨⟨h1, h2, h3⟩, h4, h5⟩
theorem okS_R {p : Pr} (h : okS p) : ∀ r ∈ p.rules, okR r := fun r hr => okR_of (by have := cntRs_at hr; have := h.2.2; omega)
theorem smallI_0 {p : Pr} (h : smallB p = false) : smallI p = 0 := by rw [smallI, if_neg (by rw [h]; simp)]
theorem smallI_1 {p : Pr} (h : smallB p = true) : smallI p = 1 := by rw [smallI, if_pos h]

theorem dtreeRight_ok (p : Pr) (R : List En) (hG : NumG R) (b o : Nat) (hE : En.glob 0 [errE b o] ∈ R) : ACall Tryd.prog 3 [encP p] R (fun r S => r = .bool true ∧ S = R) := by
  refine ACall_sat fun hs => ?_
  have hs := hs _ (.head _)
  have hP := okP_of p hs
  have hn := nP_of p hs
  have ks := fun R => small_ok p R hP
  by_cases hb : smallB p = true
  · rw [smallI_1 hb] at ks
    obtain ⟨hS, _, _⟩ := small_S hb hn
    refine ACall_body tab_ok Tryd.func3 rfl rfl rfl (by kernel_rfl) (Nat.le_of_ble_eq_true rfl) ?_
    repeat (first | refine go_ ?_ | intro _)
    refine Or.inl ⟨⟨_, Tryd.func9, rfl, rfl⟩, ACall.mono ?_ (shown_ok b o _ (.tail _ hE) hG.cons)⟩
    rintro _ S1 ⟨rfl, hS1⟩
    subst S1
    repeat (first | refine go_ ?_ | intro _)
    refine Or.inl ⟨⟨_, Tryd.func10, rfl, rfl⟩, ACall.mono ?_ (ks _)⟩
    rintro _ S1 ⟨rfl, hS1⟩
    subst S1
    repeat (first | refine ga_ ?_ | intro _)
    refine AW_draw tab_ok mixed 9 (by first | rfl | kernel_rfl) ?_
    repeat (first | refine ga_ ?_ | intro _)
    apply call_step
    · rfl
    · exact Or.inl ⟨⟨_, Tryd.func11, rfl, rfl⟩, right_ok b o p _ (.tail _ hE) (okS_R hS)⟩
    repeat (first | refine go_ ?_ | intro _)
    apply call_step
    · rfl
    · exact Or.inl ⟨⟨_, Tryd.func12, rfl, rfl⟩, refRight_ok p _⟩
    repeat (first | refine go_ ?_ | intro _)
    refine AW_ret ?_
    repeat (first | refine ⟨0, rfl, ?_⟩ | refine ⟨1, rfl, ?_⟩ | refine ⟨2, rfl, ?_⟩ | refine ⟨3, rfl, ?_⟩ | refine ⟨4, rfl, ?_⟩ | refine ⟨5, rfl, ?_⟩ | refine ⟨6, rfl, ?_⟩)
    refine ⟨_, R, AVle.eq ?_, (by repeat (first | exact SLe.rfl | refine SLe.tail ?_)), rfl, rfl⟩
    exact congrArg AV.bool (by simp)
  · rw [smallI_0 (by simpa using hb)] at ks
    refine ACall_body tab_ok Tryd.func3 rfl rfl rfl (by kernel_rfl) (Nat.le_of_ble_eq_true rfl) ?_
    repeat (first | refine go_ ?_ | intro _)
    refine Or.inl ⟨⟨_, Tryd.func9, rfl, rfl⟩, ACall.mono ?_ (shown_ok b o _ (.tail _ hE) hG.cons)⟩
    rintro _ S1 ⟨rfl, hS1⟩
    subst S1
    repeat (first | refine go_ ?_ | intro _)
    refine Or.inl ⟨⟨_, Tryd.func10, rfl, rfl⟩, ACall.mono ?_ (ks _)⟩
    rintro _ S1 ⟨rfl, hS1⟩
    subst S1
    repeat (first | refine ga_ ?_ | intro _)
    refine AW_ret ?_
    repeat (first | refine ⟨0, rfl, ?_⟩ | refine ⟨1, rfl, ?_⟩ | refine ⟨2, rfl, ?_⟩ | refine ⟨3, rfl, ?_⟩ | refine ⟨4, rfl, ?_⟩ | refine ⟨5, rfl, ?_⟩ | refine ⟨6, rfl, ?_⟩)
    refine ⟨_, R, AVle.eq ?_, (by repeat (first | exact SLe.rfl | refine SLe.tail ?_)), rfl, rfl⟩
    rfl

theorem dtreeRules_ok (r : Ru) (R : List En) (hG : NumG R) (b o : Nat) (hE : En.glob 0 [errE b o] ∈ R) : ACall Tryd.prog 4 [encRu r] R (fun v S => v = .bool true ∧ S = R) := by
  refine ACall_sat fun hs => ?_
  have hn := nR_of r fun c hc => (hs _ (.head _)).agg hc
  have ks := fun R => sizeR_ok r 2000 R (by decide) (by decide)
  by_cases hb : sizeR r 2000 < 0
  · refine ACall_body tab_ok Tryd.func4 rfl rfl rfl (by kernel_rfl) (Nat.le_of_ble_eq_true rfl) ?_
    repeat (first | refine go_ ?_ | intro _)
    refine Or.inl ⟨⟨_, Tryd.func9, rfl, rfl⟩, ACall.mono ?_ (shown_ok b o _ (.tail _ hE) hG.cons)⟩
    rintro _ S1 ⟨rfl, hS1⟩
    subst S1
    repeat (first | refine go_ ?_ | intro _)
    refine Or.inl ⟨⟨_, Tryd.func13, rfl, rfl⟩, ACall.mono ?_ (ks _)⟩
    rintro _ S1 ⟨rfl, hS1⟩
    subst S1
    repeat (first | refine go_ ?_ | intro _)
    refine AW_true (b := decide (sizeR r 2000 < 0)) rfl (by exact decide_eq_true hb) ?_
    repeat (first | refine ga_ ?_ | intro _)
    refine AW_ret ?_
    repeat (first | refine ⟨0, rfl, ?_⟩ | refine ⟨1, rfl, ?_⟩ | refine ⟨2, rfl, ?_⟩ | refine ⟨3, rfl, ?_⟩ | refine ⟨4, rfl, ?_⟩ | refine ⟨5, rfl, ?_⟩ | refine ⟨6, rfl, ?_⟩)
    refine ⟨_, R, AVle.eq ?_, (by repeat (first | exact SLe.rfl | refine SLe.tail ?_)), rfl, rfl⟩
    rfl
  · obtain ⟨h1, h2⟩ := sizeR_cnt r 2000 (by omega) hn
    have hk := okR_of (r := r) (by omega)
    obtain ⟨x, hx⟩ : ∃ x, x = showR r := ⟨_, rfl⟩
    have k1 := fun R hE hG => showRule_ok b o r R hE h1 (by omega) hG
    have k2 := fun R => refShowRule_ok r R h1 (by omega)
    obtain ⟨s, e, hse⟩ : ∃ s e, shownR r = .tup [.str s, .int .i64 e] := ⟨_, _, rfl⟩
    rw [hse] at k1 k2
    refine ACall_body tab_ok Tryd.func4 rfl rfl rfl (by kernel_rfl) (Nat.le_of_ble_eq_true rfl) ?_
    repeat (first | refine go_ ?_ | intro _)
    refine Or.inl ⟨⟨_, Tryd.func9, rfl, rfl⟩, ACall.mono ?_ (shown_ok b o _ (.tail _ hE) hG.cons)⟩
    rintro _ S1 ⟨rfl, hS1⟩
    subst S1
    repeat (first | refine go_ ?_ | intro _)
    refine Or.inl ⟨⟨_, Tryd.func13, rfl, rfl⟩, ACall.mono ?_ (ks _)⟩
    rintro _ S1 ⟨rfl, hS1⟩
    subst S1
    repeat (first | refine go_ ?_ | intro _)
    refine AW_false (b := decide (sizeR r 2000 < 0)) rfl (by exact decide_eq_false hb) ?_
    repeat (first | refine ga_ ?_ | intro _)
    refine Or.inl ⟨⟨_, Tryd.func14, rfl, rfl⟩, ACall.mono ?_ (k1 _ (.tail _ hE) hG.cons)⟩
    rintro _ S1 ⟨rfl, hS1⟩
    subst S1
    repeat (first | refine ga_ ?_ | intro _)
    refine Or.inl ⟨⟨_, Tryd.func15, rfl, rfl⟩, ACall.mono ?_ (k2 _)⟩
    rintro _ S1 ⟨rfl, hS1⟩
    subst S1
    repeat (first | refine ga_ ?_ | intro _)
    refine AW_draw tab_ok mixed 19 (by first | rfl | kernel_rfl) ?_
    repeat (first | refine ga_ ?_ | intro _)
    apply call_step
    · rfl
    · exact Or.inl ⟨⟨_, Tryd.func16, rfl, rfl⟩, rightRule_ok b o r _ (.tail _ hE) hk.1 hk.2⟩
    repeat (first | refine ga_ ?_ | intro _)
    apply call_step
    · rfl
    · exact Or.inl ⟨⟨_, Tryd.func17, rfl, rfl⟩, refRule_ok r _⟩
    repeat (first | refine ga_ ?_ | intro _)
    refine known_true (b := rightR r == rightR r) (by first | rfl | (simp; done) | (simp; omega) | decide) ?_
    repeat (first | refine ga_ ?_ | intro _)
    refine known_true (b := decide (s = s)) (by first | rfl | (simp; done) | (simp; omega) | decide) ?_
    repeat (first | refine ga_ ?_ | intro _)
    refine AW_ret ?_
    repeat (first | refine ⟨0, rfl, ?_⟩ | refine ⟨1, rfl, ?_⟩ | refine ⟨2, rfl, ?_⟩ | refine ⟨3, rfl, ?_⟩ | refine ⟨4, rfl, ?_⟩ | refine ⟨5, rfl, ?_⟩ | refine ⟨6, rfl, ?_⟩)
    refine ⟨_, R, AVle.eq ?_, (by repeat (first | exact SLe.rfl | refine SLe.tail ?_)), rfl, rfl⟩
    exact congrArg AV.bool (by simp)
end Go.Proofs.YtljdbkieofhblaaDoor
