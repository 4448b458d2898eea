/-
  What the laws' calls begin with; GotreeNames, GotreeExprs: the walks. Own work.
-/
import Derived.Test.YtnkmjbjpmocnbaaDoorP8
import Derived.Test.YtnkmjbjpmocnbaaDoorP6
import Derived.Test.YtnkmjbjpmocnbaaDoorP5
import Derived.Test.YtnkmjbjpmocnbaaDoorFrameT
set_option linter.all false
namespace Go.Proofs.YtnkmjbjpmocnbaaDoor
open Go.Aw Go.ChangeShapes Go.WideShapes Go.ChangeAt Go.RowKit
set_option maxHeartbeats 4000000

/-! ### the start -/
theorem tab8_rel {K : Kn} : ∀ (zs : List Int), (∀ z ∈ zs, 0 ≤ z ∧ z ≤ 255) → RelL K (zs.map (AV.int .u8)) (zs.map (Value.int .u8))
  | [], _ => RelL.nil
  | z :: zs, h => RelL.cons (.int .u8 z (by
      have := h z (by simp)
      simp only [IntKind.has, IntKind.min, IntKind.max, IntKind.bits, IntKind.signed]; simp; omega)) (tab8_rel zs fun x hx => h x (by simp [hx]))
theorem start_tab8 {W : World} {S : List En} (h : RelS W (Kof W) S W) {n : String} {g : Nat} {zs : List Int} (hg : (Tryd.prog).globalNamed n = some g) (ht : Lib.TabIs Tryd.prog W n .u8 zs) (hz : ∀ z ∈ zs, 0 ≤ z ∧ z ≤ 255) :
    RelS W (Kof W) (.glob g (zs.map (AV.int .u8)) :: S) W := by
  obtain ⟨t, fr, hh⟩ := var_heap hg ht
  exact relS_glob h hh (by intro c hc; obtain ⟨z, _, rfl⟩ := List.mem_map.1 hc; rfl) (by simpa using tab8_rel zs hz)
theorem sp_ok : ∀ z ∈ spT, 0 ≤ z ∧ z ≤ 255 := by
  intro z hz
  unfold spT at hz
  obtain ⟨n, _, rfl⟩ := List.mem_map.1 hz
  unfold spI
  split <;> omega
theorem sp_tab {W : World} {r : List (String × DataW Unit)} {n : String} (hg : (Tryd.prog).globalNamed n = some 0) (h : laidMet Tryd.prog ((n, Rows.laid_strings_asciiSpace) :: r) W) : Lib.TabIs Tryd.prog W n .u8 spT := by
  have e : (Rows.laid_strings_asciiSpace : DataW Unit) = Lib.tabData .u8 spT := by kernel_rfl
  rw [e] at h
  exact Lib.tabIs_of_head hg (t := 115) (by kernel_rfl) Tryd.underlying115 Tryd.underlying5 (by kernel_rfl) (by kernel_rfl) h
theorem startG {W : World} (h0 : laidMetH Tryd.prog Rows.gotreeNamesRow.laid W) : ∃ S0, (NumG S0 ∧ spE ∈ S0) ∧ RelS W (Kof W) S0 W := by
  have h : laidMet Tryd.prog Rows.gotreeNamesRow.laid W := h0
  have h3 := laidMet.tail (laidMet.tail h)
  have ht := pow_tab (by kernel_rfl) h3
  have h6 := laidMet.tail (laidMet.tail (laidMet.tail h3))
  have hs := sp_tab (by kernel_rfl) h6
  have r1 := start_tab (relS_start W) (g := 5) (by kernel_rfl) ht pow_ok
  have r2 := start_tab8 r1 (g := 0) (by kernel_rfl) hs sp_ok
  exact ⟨_, ⟨⟨.tail _ (.head _), trivial⟩, .head _⟩, r2⟩

/-! ### an expression's text, if it may be -/
def shownG (t : T) : AV := .tup [.str (if rightG t 60 = true then showG t else []), .int .i64 (if rightG t 60 = true then 0 else 150)]
theorem shownG_t {t : T} (h : rightG t 60 = true) : shownG t = .tup [.str (showG t), .int .i64 0] := by rw [shownG, if_pos h, if_pos h]
theorem shownG_f {t : T} (h : rightG t 60 = false) : shownG t = .tup [.str [], .int .i64 150] := by rw [shownG, if_neg (by rw [h]; simp), if_neg (by rw [h]; simp)]
theorem ShowExpr_ok (t : T) (R : List En) (ho : okT t) (hs : szT t ≤ 1048576) (hG : NumG R) (hE : spE ∈ R) : ACall Tryd.prog 12 [encU t] R (fun v S => v = shownG t ∧ S = R) := by
  refine ACall_body tab_ok Tryd.func12 rfl rfl rfl (by kernel_rfl) (Nat.le_of_ble_eq_true rfl) ?_
  repeat (first | refine go_ ?_ | intro _)
  refine Or.inl ⟨⟨_, Tryd.func14, rfl, rfl⟩, ACall.mono ?_ (rightExpr_ok t _ (.tail _ hE))⟩
  rintro _ S1 ⟨rfl, hS1⟩
  subst S1
  repeat (first | refine go_ ?_ | intro _)
  refine AW_cond (b := !rightG t 60) rfl (fun h => ?_) (fun h => ?_)
  · have hr : rightG t 60 = false := by simpa using h
    repeat (first | refine go_ ?_ | intro _)
    refine AW_ret ?_
    repeat (first | refine ⟨0, rfl, ?_⟩ | refine ⟨1, rfl, ?_⟩ | refine ⟨2, rfl, ?_⟩ | refine ⟨3, rfl, ?_⟩ | refine ⟨4, rfl, ?_⟩ | refine ⟨5, rfl, ?_⟩ | refine ⟨6, rfl, ?_⟩)
    refine ⟨_, R, AVle.eq ?_, (by repeat (first | exact SLe.rfl | refine SLe.tail ?_)), rfl, rfl⟩
    rw [shownG_f hr]; rfl
  · have hr : rightG t 60 = true := by simpa using h
    repeat (first | refine go_ ?_ | intro _)
    refine Or.inl ⟨⟨_, Tryd.func27, rfl, rfl⟩, ACall.mono ?_ (showExpr_ok 60 t _ hr ho hs hG.cons)⟩
    rintro _ S1 ⟨rfl, hS1⟩
    subst S1
    repeat (first | refine go_ ?_ | intro _)
    refine AW_ret ?_
    repeat (first | refine ⟨0, rfl, ?_⟩ | refine ⟨1, rfl, ?_⟩ | refine ⟨2, rfl, ?_⟩ | refine ⟨3, rfl, ?_⟩ | refine ⟨4, rfl, ?_⟩ | refine ⟨5, rfl, ?_⟩ | refine ⟨6, rfl, ?_⟩)
    refine ⟨_, R, AVle.eq ?_, (by repeat (first | exact SLe.rfl | refine SLe.tail ?_)), rfl, rfl⟩
    rw [shownG_t hr]; rfl
theorem refShownExpr_ok (t : T) (R : List En) (ho : okT t) (hs : szT t ≤ 1048576) : ACall Tryd.prog 13 [encU t] R (fun v S => v = shownG t ∧ S = R) := by
  refine ACall_body tab_ok Tryd.func13 rfl rfl rfl (by kernel_rfl) (Nat.le_of_ble_eq_true rfl) ?_
  repeat (first | refine go_ ?_ | intro _)
  refine Or.inl ⟨⟨_, Tryd.func15, rfl, rfl⟩, ACall.mono ?_ (refRightExpr_ok t _)⟩
  rintro _ S1 ⟨rfl, hS1⟩
  subst S1
  repeat (first | refine go_ ?_ | intro _)
  refine AW_cond (b := !rightG t 60) rfl (fun h => ?_) (fun h => ?_)
  · have hr : rightG t 60 = false := by simpa using h
    repeat (first | refine go_ ?_ | intro _)
    refine AW_ret ?_
    repeat (first | refine ⟨0, rfl, ?_⟩ | refine ⟨1, rfl, ?_⟩ | refine ⟨2, rfl, ?_⟩ | refine ⟨3, rfl, ?_⟩ | refine ⟨4, rfl, ?_⟩ | refine ⟨5, rfl, ?_⟩ | refine ⟨6, rfl, ?_⟩)
    refine ⟨_, R, AVle.eq ?_, (by repeat (first | exact SLe.rfl | refine SLe.tail ?_)), rfl, rfl⟩
    rw [shownG_f hr]; rfl
  · have hr : rightG t 60 = true := by simpa using h
    repeat (first | refine go_ ?_ | intro _)
    refine Or.inl ⟨⟨_, Tryd.func28, rfl, rfl⟩, ACall.mono ?_ (refShowExpr_ok 60 t _ hr ho hs)⟩
    rintro _ S1 ⟨rfl, hS1⟩
    subst S1
    repeat (first | refine go_ ?_ | intro _)
    refine AW_ret ?_
    repeat (first | refine ⟨0, rfl, ?_⟩ | refine ⟨1, rfl, ?_⟩ | refine ⟨2, rfl, ?_⟩ | refine ⟨3, rfl, ?_⟩ | refine ⟨4, rfl, ?_⟩ | refine ⟨5, rfl, ?_⟩ | refine ⟨6, rfl, ?_⟩)
    refine ⟨_, R, AVle.eq ?_, (by repeat (first | exact SLe.rfl | refine SLe.tail ?_)), rfl, rfl⟩
    rw [shownG_t hr]; rfl

/-! ### what is shown -/
def tX : T := .mk 6 [43] 0 [.mk 1 [120] 0 [], .mk 7 [] 0 [.mk 2 [] 1 []]]
def tY : T := .mk 12 [67, 48] 0 [.mk 13 [84] 0 [.mk 2 [] 1 []]]
theorem itoa_1 : Lib.itoa 1 = [49] := by
  have := Lib.itoa_nonneg 1
  rw [show (1 : Int) = ((1 : Nat) : Int) from rfl, this, Lib.decDigits_one (by decide)]; decide
theorem show_tX : showG tX = [40, 120, 32, 43, 32, 40, 45, 49, 41, 41] := by
  have e : showG tX = [40] ++ ([120] ++ ([32] ++ ([43] ++ ([32] ++ (([40, 45] ++ (Lib.itoa 1 ++ [41])) ++ [41]))))) := rfl
  rw [e, itoa_1]; rfl
theorem show_tY : showG tY = [40, 84, 123, 49, 125, 41, 46, 67, 48] := by
  have e : showG tY = ([40] ++ ([84] ++ ([123] ++ (Lib.join [Lib.itoa 1] [44, 32] ++ [125, 41])))) ++ ([46] ++ [67, 48]) := rfl
  rw [e, itoa_1]; rfl
theorem right_tX : rightG tX 60 = true := by decide +kernel
theorem right_tY : rightG tY 60 = true := by decide +kernel
theorem okT_tX : okT tX := by simp [tX, okT, okTs, inR64]
theorem okT_tY : okT tY := by simp [tY, okT, okTs, inR64]
theorem AVle.slFlat {sz : Nat} {es es' : List AV} {t : Tk} (hl : es.length = es'.length) (hf : AVleL (flat es) (flat es')) (hz : ∀ e ∈ es', e.cells.length = sz) (h1 : ∀ c ∈ flat es', c.one = true) : AVle (.sl sz es t) (.sl sz es' .no) := by
  intro K v hv
  rcases sl_cases hv with ⟨a0, rfl, rfl, ht⟩ | ⟨b, o, c, vs, ha, ht⟩
  · have : es' = [] := by simpa using hl.symm
    subst this; exact .slnil _ _ _ trivial
  · rw [ha.eq, hl]
    have h3 := hf.rel (show RelL K (flat es) vs from ha.rel)
    exact .sl (by rw [← hl]; exact ha.hcap) ha.hmax hz h1 h3.1 h3.2 ha.known trivial
theorem AVle.agg {es bs : List AV} (h : AVleL es bs) (h1 : ∀ c ∈ bs, c.one = true) : AVle (.agg es) (.agg bs) := by
  intro K v hv
  cases hv with
  | agg _ hl h' =>
    have := h.rel (K := K) ⟨hl, h'⟩
    exact .agg h1 this.1 this.2
theorem n_ok (s : List UInt8) (R : List En) : ACall Tryd.prog 22 [.str s] R (fun v S => v = encU (.mk 1 s 0 []) ∧ S = R) := by
  refine ACall_body tab_ok Tryd.func22 rfl rfl rfl (by kernel_rfl) (Nat.le_of_ble_eq_true rfl) ?_
  repeat (first | refine go_ ?_ | intro _)
  refine AW_ret ?_
  refine ⟨rfl, 0, _, rfl, ⟨Nat.le_of_ble_eq_true rfl, Nat.le_of_ble_eq_true rfl⟩, _, R, ?_, (by repeat (first | exact SLe.rfl | refine SLe.tail ?_)), rfl, rfl⟩
  show AVle (.agg [.int .i64 1, .str s, .int .i64 0, .sl 0 [] .full]) (encU (.mk 1 s 0 []))
  exact AVle.agg ⟨AVle.refl _, AVle.refl _, AVle.refl _, AVle.nil, trivial⟩ (by simp [cT, AV.one])
theorem shown_ok (R : List En) (hG : NumG R) (hE : spE ∈ R) : ACall Tryd.prog 8 [] R (fun v S => v = .bool true ∧ S = R) := by
  have k1 := fun R hG hE => ShowExpr_ok tX R okT_tX (by decide) hG hE
  have k2 := fun R hG hE => ShowExpr_ok tY R okT_tY (by decide) hG hE
  rw [shownG_t right_tX, show_tX] at k1
  rw [shownG_t right_tY, show_tY] at k2
  have k3 := fun R hE => isName_ok [102, 117, 110, 99] R hE
  rw [show ownB [102, 117, 110, 99] = false by decide +kernel] at k3
  refine ACall_body tab_ok Tryd.func8 rfl rfl rfl (by kernel_rfl) (Nat.le_of_ble_eq_true rfl) ?_
  repeat (first | refine go_ ?_ | intro _)
  refine Or.inl ⟨⟨_, Tryd.func22, rfl, rfl⟩, ACall.mono ?_ (n_ok [120] _)⟩
  rintro _ S1 ⟨rfl, hS1⟩
  subst S1
  repeat (first | refine ga_ ?_ | intro _)
  refine Or.inl ⟨⟨_, Tryd.func12, rfl, rfl⟩, ACall_args (ACall.mono ?_ (k1 _ hG hE)) ⟨AVle.agg (bs := cT tX) ⟨AVle.refl _, AVle.refl _, AVle.refl _, AVle.slFlat rfl ⟨AVle.refl _, AVle.refl _, AVle.refl _, AVle.refl _, AVle.refl _, AVle.refl _, AVle.refl _, AVle.slFlat rfl ⟨AVle.refl _, AVle.refl _, AVle.refl _, AVle.nil, trivial⟩ (by decide) (by decide), trivial⟩ (by decide) (by decide), trivial⟩ (by decide), trivial⟩⟩
  rintro _ S1 ⟨rfl, hS1⟩
  subst S1
  repeat (first | refine ga_ ?_ | intro _)
  refine Or.inl ⟨⟨_, Tryd.func12, rfl, rfl⟩, ACall_args (ACall.mono ?_ (k2 _ hG hE)) ⟨AVle.agg (bs := cT tY) ⟨AVle.refl _, AVle.refl _, AVle.refl _, AVle.slFlat rfl ⟨AVle.refl _, AVle.refl _, AVle.refl _, AVle.slFlat rfl ⟨AVle.refl _, AVle.refl _, AVle.refl _, AVle.nil, trivial⟩ (by decide) (by decide), trivial⟩ (by decide) (by decide), trivial⟩ (by decide), trivial⟩⟩
  rintro _ S1 ⟨rfl, hS1⟩
  subst S1
  repeat (first | refine ga_ ?_ | intro _)
  refine Or.inl ⟨⟨_, Tryd.func9, rfl, rfl⟩, ACall.mono ?_ (k3 _ hE)⟩
  rintro _ S1 ⟨rfl, hS1⟩
  subst S1
  repeat (first | refine ga_ ?_ | intro _)
  refine AW_ret ?_
  repeat (first | refine ⟨0, rfl, ?_⟩ | refine ⟨1, rfl, ?_⟩ | refine ⟨2, rfl, ?_⟩ | refine ⟨3, rfl, ?_⟩ | refine ⟨4, rfl, ?_⟩ | refine ⟨5, rfl, ?_⟩ | refine ⟨6, rfl, ?_⟩)
  refine ⟨_, R, AVle.eq ?_, (by repeat (first | exact SLe.rfl | refine SLe.tail ?_)), rfl, rfl⟩
  rfl

/-! ### the laws -/
theorem gotreeNames_ok (s : List UInt8) (R : List En) (hG : NumG R) (hE : spE ∈ R) : ACall Tryd.prog 3 [.str s] R (fun v S => v = .bool true ∧ S = R) := by
  refine ACall_body tab_ok Tryd.func3 rfl rfl rfl (by kernel_rfl) (Nat.le_of_ble_eq_true rfl) ?_
  repeat (first | refine go_ ?_ | intro _)
  refine Or.inl ⟨⟨_, Tryd.func8, rfl, rfl⟩, ACall.mono ?_ (shown_ok _ hG hE)⟩
  rintro _ S1 ⟨rfl, hS1⟩
  subst S1
  repeat (first | refine ga_ ?_ | intro _)
  refine Or.inl ⟨⟨_, Tryd.func9, rfl, rfl⟩, ACall.mono ?_ (isName_ok s _ hE)⟩
  rintro _ S1 ⟨rfl, hS1⟩
  subst S1
  repeat (first | refine ga_ ?_ | intro _)
  refine Or.inl ⟨⟨_, Tryd.func10, rfl, rfl⟩, ACall.mono ?_ (refIsName_ok s _)⟩
  rintro _ S1 ⟨rfl, hS1⟩
  subst S1
  repeat (first | refine ga_ ?_ | intro _)
  refine AW_ret ?_
  repeat (first | refine ⟨0, rfl, ?_⟩ | refine ⟨1, rfl, ?_⟩ | refine ⟨2, rfl, ?_⟩ | refine ⟨3, rfl, ?_⟩ | refine ⟨4, rfl, ?_⟩ | refine ⟨5, rfl, ?_⟩ | refine ⟨6, rfl, ?_⟩)
  refine ⟨_, R, AVle.eq ?_, (by repeat (first | exact SLe.rfl | refine SLe.tail ?_)), rfl, rfl⟩
  exact congrArg AV.bool (by simp)
theorem gotreeExprs_ok (t : T) (R : List En) (hs : szT t ≤ 1048576) (hG : NumG R) (hE : spE ∈ R) : ACall Tryd.prog 4 [encU t] R (fun v S => v = .bool true ∧ S = R) := by
  refine ACall_sat fun hsat => ?_
  have ho := okT_of t fun c hc => (hsat _ (.head _)).agg hc
  have ks := fun R => sizeExpr_ok _ t (Nat.le_refl _) 3000 R (by decide) (by decide)
  by_cases hb : sizeG t 3000 < 0
  · refine ACall_body tab_ok Tryd.func4 rfl rfl rfl (by kernel_rfl) (Nat.le_of_ble_eq_true rfl) ?_
    repeat (first | refine go_ ?_ | intro _)
    refine Or.inl ⟨⟨_, Tryd.func8, rfl, rfl⟩, ACall.mono ?_ (shown_ok _ hG.cons (.tail _ hE))⟩
    rintro _ S1 ⟨rfl, hS1⟩
    subst S1
    repeat (first | refine go_ ?_ | intro _)
    refine Or.inl ⟨⟨_, Tryd.func11, rfl, rfl⟩, ACall.mono ?_ (ks _)⟩
    rintro _ S1 ⟨rfl, hS1⟩
    subst S1
    repeat (first | refine go_ ?_ | intro _)
    refine AW_true (b := decide (sizeG t 3000 < 0)) rfl (by exact decide_eq_true hb) ?_
    repeat (first | refine ga_ ?_ | intro _)
    refine AW_ret ?_
    repeat (first | refine ⟨0, rfl, ?_⟩ | refine ⟨1, rfl, ?_⟩ | refine ⟨2, rfl, ?_⟩ | refine ⟨3, rfl, ?_⟩ | refine ⟨4, rfl, ?_⟩ | refine ⟨5, rfl, ?_⟩ | refine ⟨6, rfl, ?_⟩)
    refine ⟨_, R, AVle.eq ?_, (by repeat (first | exact SLe.rfl | refine SLe.tail ?_)), rfl, rfl⟩
    rfl
  · have k1 := fun R hG hE => ShowExpr_ok t R ho hs hG hE
    have k2 := fun R => refShownExpr_ok t R ho hs
    obtain ⟨s, e, hse⟩ : ∃ s e, shownG t = .tup [.str s, .int .i64 e] := ⟨_, _, rfl⟩
    rw [hse] at k1 k2
    refine ACall_body tab_ok Tryd.func4 rfl rfl rfl (by kernel_rfl) (Nat.le_of_ble_eq_true rfl) ?_
    repeat (first | refine go_ ?_ | intro _)
    refine Or.inl ⟨⟨_, Tryd.func8, rfl, rfl⟩, ACall.mono ?_ (shown_ok _ hG.cons (.tail _ hE))⟩
    rintro _ S1 ⟨rfl, hS1⟩
    subst S1
    repeat (first | refine go_ ?_ | intro _)
    refine Or.inl ⟨⟨_, Tryd.func11, rfl, rfl⟩, ACall.mono ?_ (ks _)⟩
    rintro _ S1 ⟨rfl, hS1⟩
    subst S1
    repeat (first | refine go_ ?_ | intro _)
    refine AW_false (b := decide (sizeG t 3000 < 0)) rfl (by exact decide_eq_false hb) ?_
    repeat (first | refine ga_ ?_ | intro _)
    refine Or.inl ⟨⟨_, Tryd.func12, rfl, rfl⟩, ACall.mono ?_ (k1 _ hG.cons (.tail _ hE))⟩
    rintro _ S1 ⟨rfl, hS1⟩
    subst S1
    repeat (first | refine ga_ ?_ | intro _)
    refine Or.inl ⟨⟨_, Tryd.func13, rfl, rfl⟩, ACall.mono ?_ (k2 _)⟩
    rintro _ S1 ⟨rfl, hS1⟩
    subst S1
    repeat (first | refine ga_ ?_ | intro _)
    refine AW_draw tab_ok mixed 18 (by first | rfl | kernel_rfl) ?_
    repeat (first | refine ga_ ?_ | intro _)
    apply call_step
    · rfl
    · exact Or.inl ⟨⟨_, Tryd.func14, rfl, rfl⟩, rightExpr_ok t _ (.tail _ hE)⟩
    repeat (first | refine ga_ ?_ | intro _)
    apply call_step
    · rfl
    · exact Or.inl ⟨⟨_, Tryd.func15, rfl, rfl⟩, refRightExpr_ok t _⟩
    repeat (first | refine ga_ ?_ | intro _)
    refine known_true (b := rightG t 60 == rightG t 60) (by first | rfl | (simp; done) | (simp; omega) | decide) ?_
    repeat (first | refine ga_ ?_ | intro _)
    refine known_true (b := decide (s = s)) (by first | rfl | (simp; done) | (simp; omega) | decide) ?_
    repeat (first | refine ga_ ?_ | intro _)
    refine AW_ret ?_
    repeat (first | refine ⟨0, rfl, ?_⟩ | refine ⟨1, rfl, ?_⟩ | refine ⟨2, rfl, ?_⟩ | refine ⟨3, rfl, ?_⟩ | refine ⟨4, rfl, ?_⟩ | refine ⟨5, rfl, ?_⟩ | refine ⟨6, rfl, ?_⟩)
    refine ⟨_, R, AVle.eq ?_, (by repeat (first | exact SLe.rfl | refine SLe.tail ?_)), rfl, rfl⟩
    exact congrArg AV.bool (by simp)
end Go.Proofs.YtnkmjbjpmocnbaaDoor
