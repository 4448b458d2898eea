/-
  GotreeApart: the walk. Own work.
-/
import Derived.Test.YtnkmjbjpmocnbaaDoorP16
import Derived.Test.YtnkmjbjpmocnbaaDoorP18
set_option linter.all false
namespace Go.Proofs.YtnkmjbjpmocnbaaDoor
open Go.Aw Go.ChangeShapes Go.WideShapes Go.ChangeAt Go.RowKit
set_option maxHeartbeats 4000000

/-! ### equal texts, equal trees -/
theorem OkF.file {f : Fi} (h : OkF f) (hr : rightF f = true) : fileP (showF f) = some f := by
  have hc := h.c
  unfold cntFi at hc
  have c1 := len_cntScs f.structs
  have c2 := len_cntFns f.funcs
  exact fileP_ok hr (by omega) (by omega) fun g hg => ⟨h.o g hg, by have := cntFns_mem hg; unfold cntFn at this; omega⟩
theorem showF_inj {f g : Fi} (hf : OkF f) (hg : OkF g) (rf : rightF f = true) (rg : rightF g = true) (h : showF f = showF g) : f = g := by
  have e1 := hf.file rf
  have e2 := hg.file rg
  rw [h, e2] at e1
  exact (Option.some.inj e1).symm
theorem gotreeApart_ok (a b : Fi) (x y : T) (R : List En) (sa : szFi a ≤ 1048576) (sb : szFi b ≤ 1048576) (sx : szT x ≤ 1048576) (sy : szT y ≤ 1048576) (hG : NumG R) (hE : spE ∈ R) :
    ACall Tryd.prog 7 [encFi a, encFi b, encU x, encU y] R (fun v S => v = .bool true ∧ S = R) := by
  refine ACall_sat fun hs => ?_
  have ta := hs _ (.head _)
  have tb := hs _ (.tail _ (.head _))
  have ox := okT_of x fun c hc => (hs _ (.tail _ (.tail _ (.head _)))).agg hc
  have oy := okT_of y fun c hc => (hs _ (.tail _ (.tail _ (.tail _ (.head _))))).agg hc
  have ka := fun R => small_ok a R (okF_of a ta)
  have kb := fun R => small_ok b R (okF_of b tb)
  have kx := fun R => sizeExpr_ok _ x (Nat.le_refl _) 3000 R (by decide) (by decide)
  have ky := fun R => sizeExpr_ok _ y (Nat.le_refl _) 3000 R (by decide) (by decide)
  by_cases ba : smallB a = true
  · rw [smallI_1 ba] at ka
    by_cases bb : smallB b = true
    · rw [smallI_1 bb] at kb
      by_cases bx : sizeG x 3000 < 0
      · refine ACall_body tab_ok Tryd.func7 rfl rfl rfl (by kernel_rfl) (Nat.le_of_ble_eq_true rfl) ?_
        repeat (first | refine go_ ?_ | intro _)
        rename_i pa pb px py
        refine Or.inl ⟨⟨_, Tryd.func8, rfl, rfl⟩, ACall.mono ?_ (shown_ok _ hG.cons.cons.cons.cons (.tail _ (.tail _ (.tail _ (.tail _ hE)))))⟩
        rintro _ S1 ⟨rfl, hS1⟩
        subst S1
        repeat (first | refine go_ ?_ | intro _)
        refine Or.inl ⟨⟨_, Tryd.func16, rfl, rfl⟩, ACall.mono ?_ (ka _)⟩
        rintro _ S1 ⟨rfl, hS1⟩
        subst S1
        repeat (first | refine ga_ ?_ | intro _)
        refine Or.inl ⟨⟨_, Tryd.func16, rfl, rfl⟩, ACall.mono ?_ (kb _)⟩
        rintro _ S1 ⟨rfl, hS1⟩
        subst S1
        repeat (first | refine ga_ ?_ | intro _)
        refine Or.inl ⟨⟨_, Tryd.func11, rfl, rfl⟩, ACall.mono ?_ (kx _)⟩
        rintro _ S1 ⟨rfl, hS1⟩
        subst S1
        repeat (first | refine ga_ ?_ | intro _)
        refine known_true (b := decide (sizeG x 3000 < 0)) (by exact decide_eq_true bx) ?_
        repeat (first | refine ga_ ?_ | intro _)
        refine AW_ret ?_
        repeat (first | refine ⟨0, rfl, ?_⟩ | refine ⟨1, rfl, ?_⟩ | refine ⟨2, rfl, ?_⟩ | refine ⟨3, rfl, ?_⟩ | refine ⟨4, rfl, ?_⟩ | refine ⟨5, rfl, ?_⟩ | refine ⟨6, rfl, ?_⟩)
        refine ⟨_, R, AVle.eq ?_, (by repeat (first | exact SLe.rfl | refine SLe.tail ?_)), rfl, rfl⟩
        rfl
      · by_cases by' : sizeG y 3000 < 0
        · refine ACall_body tab_ok Tryd.func7 rfl rfl rfl (by kernel_rfl) (Nat.le_of_ble_eq_true rfl) ?_
          repeat (first | refine go_ ?_ | intro _)
          rename_i pa pb px py
          refine Or.inl ⟨⟨_, Tryd.func8, rfl, rfl⟩, ACall.mono ?_ (shown_ok _ hG.cons.cons.cons.cons (.tail _ (.tail _ (.tail _ (.tail _ hE)))))⟩
          rintro _ S1 ⟨rfl, hS1⟩
          subst S1
          repeat (first | refine go_ ?_ | intro _)
          refine Or.inl ⟨⟨_, Tryd.func16, rfl, rfl⟩, ACall.mono ?_ (ka _)⟩
          rintro _ S1 ⟨rfl, hS1⟩
          subst S1
          repeat (first | refine ga_ ?_ | intro _)
          refine Or.inl ⟨⟨_, Tryd.func16, rfl, rfl⟩, ACall.mono ?_ (kb _)⟩
          rintro _ S1 ⟨rfl, hS1⟩
          subst S1
          repeat (first | refine ga_ ?_ | intro _)
          refine Or.inl ⟨⟨_, Tryd.func11, rfl, rfl⟩, ACall.mono ?_ (kx _)⟩
          rintro _ S1 ⟨rfl, hS1⟩
          subst S1
          repeat (first | refine ga_ ?_ | intro _)
          refine known_false (b := decide (sizeG x 3000 < 0)) (by exact decide_eq_false bx) ?_
          repeat (first | refine ga_ ?_ | intro _)
          refine Or.inl ⟨⟨_, Tryd.func11, rfl, rfl⟩, ACall.mono ?_ (ky _)⟩
          rintro _ S1 ⟨rfl, hS1⟩
          subst S1
          repeat (first | refine ga_ ?_ | intro _)
          refine AW_true (b := decide (sizeG y 3000 < 0)) rfl (by exact decide_eq_true by') ?_
          repeat (first | refine ga_ ?_ | intro _)
          refine AW_ret ?_
          repeat (first | refine ⟨0, rfl, ?_⟩ | refine ⟨1, rfl, ?_⟩ | refine ⟨2, rfl, ?_⟩ | refine ⟨3, rfl, ?_⟩ | refine ⟨4, rfl, ?_⟩ | refine ⟨5, rfl, ?_⟩ | refine ⟨6, rfl, ?_⟩)
          refine ⟨_, R, AVle.eq ?_, (by repeat (first | exact SLe.rfl | refine SLe.tail ?_)), rfl, rfl⟩
          rfl
        · have cx : cntT x ≤ 3000 := by have := sizeG_cnt x 3000 (by omega); omega
          have hA := OkF_of ba sa ta
          have hB := OkF_of bb sb tb
          have k1 := fun R hE hG => show_ok a R hE hG hA
          have k2 := fun R hE hG => show_ok b R hE hG hB
          have k3 := fun R hG hE => ShowExpr_ok x R ox sx hG hE
          have k4 := fun R hG hE => ShowExpr_ok y R oy sy hG hE
          have k5 := fun R => refSameExpr_ok 3000 x cx (Nat.le_refl _) y R
          have k6 := fun R => same_ok a a R hA.c
          have k7 := fun R => same_ok a b R hA.c
          rw [isB_t rfl] at k6
          by_cases rx : rightG x 60 = true
          · rw [shownG_t rx] at k3
            by_cases ry : rightG y 60 = true
            · rw [shownG_t ry] at k4
              obtain ⟨tX, htX⟩ : ∃ u, u = showG x := ⟨_, rfl⟩
              obtain ⟨tY, htY⟩ : ∃ u, u = showG y := ⟨_, rfl⟩
              have ee : (decide (tX = tY) == isB (x = y)) = true := by
                by_cases h : x = y
                · rw [isB_t h, htX, htY, h]; simp
                · rw [isB_f h, htX, htY, decide_eq_false (fun e => h (showG_inj ⟨⟨60, rx⟩, ox⟩ ⟨⟨60, ry⟩, oy⟩ e))]; rfl
              rw [← htX] at k3
              rw [← htY] at k4
              by_cases ra : rightF a = true
              · rw [shownF_t ra] at k1
                by_cases rb : rightF b = true
                · rw [shownF_t rb] at k2
                  obtain ⟨tA, htA⟩ : ∃ u, u = showF a := ⟨_, rfl⟩
                  obtain ⟨tB, htB⟩ : ∃ u, u = showF b := ⟨_, rfl⟩
                  have ef : (decide (tA = tB) == isB (a = b)) = true := by
                    by_cases h : a = b
                    · rw [isB_t h, htA, htB, h]; simp
                    · rw [isB_f h, htA, htB, decide_eq_false (fun e => h (showF_inj hA hB ra rb e))]; rfl
                  rw [← htA] at k1
                  rw [← htB] at k2
                  refine ACall_body tab_ok Tryd.func7 rfl rfl rfl (by kernel_rfl) (Nat.le_of_ble_eq_true rfl) ?_
                  repeat (first | refine go_ ?_ | intro _)
                  rename_i pa pb px py
                  refine Or.inl ⟨⟨_, Tryd.func8, rfl, rfl⟩, ACall.mono ?_ (shown_ok _ hG.cons.cons.cons.cons (.tail _ (.tail _ (.tail _ (.tail _ hE)))))⟩
                  rintro _ S1 ⟨rfl, hS1⟩
                  subst S1
                  repeat (first | refine go_ ?_ | intro _)
                  refine Or.inl ⟨⟨_, Tryd.func16, rfl, rfl⟩, ACall.mono ?_ (ka _)⟩
                  rintro _ S1 ⟨rfl, hS1⟩
                  subst S1
                  repeat (first | refine ga_ ?_ | intro _)
                  refine Or.inl ⟨⟨_, Tryd.func16, rfl, rfl⟩, ACall.mono ?_ (kb _)⟩
                  rintro _ S1 ⟨rfl, hS1⟩
                  subst S1
                  repeat (first | refine ga_ ?_ | intro _)
                  refine Or.inl ⟨⟨_, Tryd.func11, rfl, rfl⟩, ACall.mono ?_ (kx _)⟩
                  rintro _ S1 ⟨rfl, hS1⟩
                  subst S1
                  repeat (first | refine ga_ ?_ | intro _)
                  refine known_false (b := decide (sizeG x 3000 < 0)) (by exact decide_eq_false bx) ?_
                  repeat (first | refine ga_ ?_ | intro _)
                  refine Or.inl ⟨⟨_, Tryd.func11, rfl, rfl⟩, ACall.mono ?_ (ky _)⟩
                  rintro _ S1 ⟨rfl, hS1⟩
                  subst S1
                  repeat (first | refine ga_ ?_ | intro _)
                  refine AW_false (b := decide (sizeG y 3000 < 0)) rfl (by exact decide_eq_false by') ?_
                  refine AW_weak (weak_of (l := [(4, .ptr pa 0), (5, .ptr pb 0), (6, .ptr px 0), (7, .ptr py 0), (9, .bool true)]) (m := []) (S' := .cells py (cT y) :: .cells px (cT x) :: .cells pb (cFi b) :: .cells pa (cFi a) :: R) ?_ rfl ?_) ?_
                  · repeat (first | exact trivial | refine ⟨AVle.refl _, ?_⟩ | refine ⟨AVle.tk, ?_⟩ | refine ⟨AVle.nil, ?_⟩ | refine ⟨AVle.nilFull, ?_⟩ | refine ⟨AVle.eq (congrArg (AV.int .i64) (by first | (simp; done) | (simp; omega) | (rw [wrap_i64 (by first | omega | (simp; omega))]; first | rfl | omega | (simp; done) | (simp; omega)))), ?_⟩)
                  · refine SW.le ?_
                    repeat (first | exact SW.nil | refine SW.cons ?_ | refine SW.cells (by repeat (first | exact trivial | refine ⟨AVle.refl _, ?_⟩ | refine ⟨AVle.nilFull, ?_⟩ | refine ⟨AVle.tk, ?_⟩ | refine ⟨AVle.nil, ?_⟩)) rfl ?_ | refine SW.full ?_ | refine SW.drop ?_)
                  repeat (first | refine ga_ ?_ | intro _)
                  refine Or.inl ⟨⟨_, Tryd.func19, rfl, rfl⟩, ACall.mono ?_ (k1 _ (.tail _ (.tail _ (.tail _ (.tail _ hE)))) (numE_of hG.cons.cons.cons.cons))⟩
                  rintro _ S1 ⟨rfl, hS1⟩
                  subst S1
                  repeat (first | refine ga_ ?_ | intro _)
                  refine Or.inl ⟨⟨_, Tryd.func19, rfl, rfl⟩, ACall.mono ?_ (k2 _ (.tail _ (.tail _ (.tail _ (.tail _ hE)))) (numE_of hG.cons.cons.cons.cons))⟩
                  rintro _ S1 ⟨rfl, hS1⟩
                  subst S1
                  repeat (first | refine ga_ ?_ | intro _)
                  refine Or.inl ⟨⟨_, Tryd.func12, rfl, rfl⟩, ACall.mono ?_ (k3 _ hG.cons.cons.cons.cons (.tail _ (.tail _ (.tail _ (.tail _ hE)))))⟩
                  rintro _ S1 ⟨rfl, hS1⟩
                  subst S1
                  repeat (first | refine ga_ ?_ | intro _)
                  refine Or.inl ⟨⟨_, Tryd.func12, rfl, rfl⟩, ACall.mono ?_ (k4 _ hG.cons.cons.cons.cons (.tail _ (.tail _ (.tail _ (.tail _ hE)))))⟩
                  rintro _ S1 ⟨rfl, hS1⟩
                  subst S1
                  repeat (first | refine ga_ ?_ | intro _)
                  refine Or.inl ⟨⟨_, Tryd.func21, rfl, rfl⟩, ACall.mono ?_ (k5 _)⟩
                  rintro _ S1 ⟨rfl, hS1⟩
                  subst S1
                  repeat (first | refine ga_ ?_ | intro _)
                  refine AW_false (b := !(decide (tX = tY) == isB (x = y))) rfl (by rw [ee]; rfl) ?_
                  repeat (first | refine ga_ ?_ | intro _)
                  refine Or.inl ⟨⟨_, Tryd.func17, rfl, rfl⟩, ACall.mono ?_ (k6 _)⟩
                  rintro _ S1 ⟨rfl, hS1⟩
                  subst S1
                  repeat (first | refine ga_ ?_ | intro _)
                  refine Or.inl ⟨⟨_, Tryd.func17, rfl, rfl⟩, ACall.mono ?_ (k7 _)⟩
                  rintro _ S1 ⟨rfl, hS1⟩
                  subst S1
                  repeat (first | refine ga_ ?_ | intro _)
                  refine AW_ret ?_
                  repeat (first | refine ⟨0, rfl, ?_⟩ | refine ⟨1, rfl, ?_⟩ | refine ⟨2, rfl, ?_⟩ | refine ⟨3, rfl, ?_⟩ | refine ⟨4, rfl, ?_⟩ | refine ⟨5, rfl, ?_⟩ | refine ⟨6, rfl, ?_⟩)
                  refine ⟨_, R, AVle.eq ?_, (by repeat (first | exact SLe.rfl | refine SLe.tail ?_)), rfl, rfl⟩
                  exact congrArg AV.bool ef
                · rw [shownF_f (by simpa using rb)] at k2
                  refine ACall_body tab_ok Tryd.func7 rfl rfl rfl (by kernel_rfl) (Nat.le_of_ble_eq_true rfl) ?_
                  repeat (first | refine go_ ?_ | intro _)
                  rename_i pa pb px py
                  refine Or.inl ⟨⟨_, Tryd.func8, rfl, rfl⟩, ACall.mono ?_ (shown_ok _ hG.cons.cons.cons.cons (.tail _ (.tail _ (.tail _ (.tail _ hE)))))⟩
                  rintro _ S1 ⟨rfl, hS1⟩
                  subst S1
                  repeat (first | refine go_ ?_ | intro _)
                  refine Or.inl ⟨⟨_, Tryd.func16, rfl, rfl⟩, ACall.mono ?_ (ka _)⟩
                  rintro _ S1 ⟨rfl, hS1⟩
                  subst S1
                  repeat (first | refine ga_ ?_ | intro _)
                  refine Or.inl ⟨⟨_, Tryd.func16, rfl, rfl⟩, ACall.mono ?_ (kb _)⟩
                  rintro _ S1 ⟨rfl, hS1⟩
                  subst S1
                  repeat (first | refine ga_ ?_ | intro _)
                  refine Or.inl ⟨⟨_, Tryd.func11, rfl, rfl⟩, ACall.mono ?_ (kx _)⟩
                  rintro _ S1 ⟨rfl, hS1⟩
                  subst S1
                  repeat (first | refine ga_ ?_ | intro _)
                  refine known_false (b := decide (sizeG x 3000 < 0)) (by exact decide_eq_false bx) ?_
                  repeat (first | refine ga_ ?_ | intro _)
                  refine Or.inl ⟨⟨_, Tryd.func11, rfl, rfl⟩, ACall.mono ?_ (ky _)⟩
                  rintro _ S1 ⟨rfl, hS1⟩
                  subst S1
                  repeat (first | refine ga_ ?_ | intro _)
                  refine AW_false (b := decide (sizeG y 3000 < 0)) rfl (by exact decide_eq_false by') ?_
                  refine AW_weak (weak_of (l := [(4, .ptr pa 0), (5, .ptr pb 0), (6, .ptr px 0), (7, .ptr py 0), (9, .bool true)]) (m := []) (S' := .cells py (cT y) :: .cells px (cT x) :: .cells pb (cFi b) :: .cells pa (cFi a) :: R) ?_ rfl ?_) ?_
                  · repeat (first | exact trivial | refine ⟨AVle.refl _, ?_⟩ | refine ⟨AVle.tk, ?_⟩ | refine ⟨AVle.nil, ?_⟩ | refine ⟨AVle.nilFull, ?_⟩ | refine ⟨AVle.eq (congrArg (AV.int .i64) (by first | (simp; done) | (simp; omega) | (rw [wrap_i64 (by first | omega | (simp; omega))]; first | rfl | omega | (simp; done) | (simp; omega)))), ?_⟩)
                  · refine SW.le ?_
                    repeat (first | exact SW.nil | refine SW.cons ?_ | refine SW.cells (by repeat (first | exact trivial | refine ⟨AVle.refl _, ?_⟩ | refine ⟨AVle.nilFull, ?_⟩ | refine ⟨AVle.tk, ?_⟩ | refine ⟨AVle.nil, ?_⟩)) rfl ?_ | refine SW.full ?_ | refine SW.drop ?_)
                  repeat (first | refine ga_ ?_ | intro _)
                  refine Or.inl ⟨⟨_, Tryd.func19, rfl, rfl⟩, ACall.mono ?_ (k1 _ (.tail _ (.tail _ (.tail _ (.tail _ hE)))) (numE_of hG.cons.cons.cons.cons))⟩
                  rintro _ S1 ⟨rfl, hS1⟩
                  subst S1
                  repeat (first | refine ga_ ?_ | intro _)
                  refine Or.inl ⟨⟨_, Tryd.func19, rfl, rfl⟩, ACall.mono ?_ (k2 _ (.tail _ (.tail _ (.tail _ (.tail _ hE)))) (numE_of hG.cons.cons.cons.cons))⟩
                  rintro _ S1 ⟨rfl, hS1⟩
                  subst S1
                  repeat (first | refine ga_ ?_ | intro _)
                  refine Or.inl ⟨⟨_, Tryd.func12, rfl, rfl⟩, ACall.mono ?_ (k3 _ hG.cons.cons.cons.cons (.tail _ (.tail _ (.tail _ (.tail _ hE)))))⟩
                  rintro _ S1 ⟨rfl, hS1⟩
                  subst S1
                  repeat (first | refine ga_ ?_ | intro _)
                  refine Or.inl ⟨⟨_, Tryd.func12, rfl, rfl⟩, ACall.mono ?_ (k4 _ hG.cons.cons.cons.cons (.tail _ (.tail _ (.tail _ (.tail _ hE)))))⟩
                  rintro _ S1 ⟨rfl, hS1⟩
                  subst S1
                  repeat (first | refine ga_ ?_ | intro _)
                  refine Or.inl ⟨⟨_, Tryd.func21, rfl, rfl⟩, ACall.mono ?_ (k5 _)⟩
                  rintro _ S1 ⟨rfl, hS1⟩
                  subst S1
                  repeat (first | refine ga_ ?_ | intro _)
                  refine AW_false (b := !(decide (tX = tY) == isB (x = y))) rfl (by rw [ee]; rfl) ?_
                  repeat (first | refine ga_ ?_ | intro _)
                  refine Or.inl ⟨⟨_, Tryd.func17, rfl, rfl⟩, ACall.mono ?_ (k6 _)⟩
                  rintro _ S1 ⟨rfl, hS1⟩
                  subst S1
                  repeat (first | refine ga_ ?_ | intro _)
                  refine AW_ret ?_
                  repeat (first | refine ⟨0, rfl, ?_⟩ | refine ⟨1, rfl, ?_⟩ | refine ⟨2, rfl, ?_⟩ | refine ⟨3, rfl, ?_⟩ | refine ⟨4, rfl, ?_⟩ | refine ⟨5, rfl, ?_⟩ | refine ⟨6, rfl, ?_⟩)
                  refine ⟨_, R, AVle.eq ?_, (by repeat (first | exact SLe.rfl | refine SLe.tail ?_)), rfl, rfl⟩
                  rfl
              · rw [shownF_f (by simpa using ra)] at k1
                obtain ⟨s2, e2, hse⟩ : ∃ s e, shownF b = .tup [.str s, .int .i64 e] := ⟨_, _, rfl⟩
                rw [hse] at k2
                refine ACall_body tab_ok Tryd.func7 rfl rfl rfl (by kernel_rfl) (Nat.le_of_ble_eq_true rfl) ?_
                repeat (first | refine go_ ?_ | intro _)
                rename_i pa pb px py
                refine Or.inl ⟨⟨_, Tryd.func8, rfl, rfl⟩, ACall.mono ?_ (shown_ok _ hG.cons.cons.cons.cons (.tail _ (.tail _ (.tail _ (.tail _ hE)))))⟩
                rintro _ S1 ⟨rfl, hS1⟩
                subst S1
                repeat (first | refine go_ ?_ | intro _)
                refine Or.inl ⟨⟨_, Tryd.func16, rfl, rfl⟩, ACall.mono ?_ (ka _)⟩
                rintro _ S1 ⟨rfl, hS1⟩
                subst S1
                repeat (first | refine ga_ ?_ | intro _)
                refine Or.inl ⟨⟨_, Tryd.func16, rfl, rfl⟩, ACall.mono ?_ (kb _)⟩
                rintro _ S1 ⟨rfl, hS1⟩
                subst S1
                repeat (first | refine ga_ ?_ | intro _)
                refine Or.inl ⟨⟨_, Tryd.func11, rfl, rfl⟩, ACall.mono ?_ (kx _)⟩
                rintro _ S1 ⟨rfl, hS1⟩
                subst S1
                repeat (first | refine ga_ ?_ | intro _)
                refine known_false (b := decide (sizeG x 3000 < 0)) (by exact decide_eq_false bx) ?_
                repeat (first | refine ga_ ?_ | intro _)
                refine Or.inl ⟨⟨_, Tryd.func11, rfl, rfl⟩, ACall.mono ?_ (ky _)⟩
                rintro _ S1 ⟨rfl, hS1⟩
                subst S1
                repeat (first | refine ga_ ?_ | intro _)
                refine AW_false (b := decide (sizeG y 3000 < 0)) rfl (by exact decide_eq_false by') ?_
                refine AW_weak (weak_of (l := [(4, .ptr pa 0), (5, .ptr pb 0), (6, .ptr px 0), (7, .ptr py 0), (9, .bool true)]) (m := []) (S' := .cells py (cT y) :: .cells px (cT x) :: .cells pb (cFi b) :: .cells pa (cFi a) :: R) ?_ rfl ?_) ?_
                · repeat (first | exact trivial | refine ⟨AVle.refl _, ?_⟩ | refine ⟨AVle.tk, ?_⟩ | refine ⟨AVle.nil, ?_⟩ | refine ⟨AVle.nilFull, ?_⟩ | refine ⟨AVle.eq (congrArg (AV.int .i64) (by first | (simp; done) | (simp; omega) | (rw [wrap_i64 (by first | omega | (simp; omega))]; first | rfl | omega | (simp; done) | (simp; omega)))), ?_⟩)
                · refine SW.le ?_
                  repeat (first | exact SW.nil | refine SW.cons ?_ | refine SW.cells (by repeat (first | exact trivial | refine ⟨AVle.refl _, ?_⟩ | refine ⟨AVle.nilFull, ?_⟩ | refine ⟨AVle.tk, ?_⟩ | refine ⟨AVle.nil, ?_⟩)) rfl ?_ | refine SW.full ?_ | refine SW.drop ?_)
                repeat (first | refine ga_ ?_ | intro _)
                refine Or.inl ⟨⟨_, Tryd.func19, rfl, rfl⟩, ACall.mono ?_ (k1 _ (.tail _ (.tail _ (.tail _ (.tail _ hE)))) (numE_of hG.cons.cons.cons.cons))⟩
                rintro _ S1 ⟨rfl, hS1⟩
                subst S1
                repeat (first | refine ga_ ?_ | intro _)
                refine Or.inl ⟨⟨_, Tryd.func19, rfl, rfl⟩, ACall.mono ?_ (k2 _ (.tail _ (.tail _ (.tail _ (.tail _ hE)))) (numE_of hG.cons.cons.cons.cons))⟩
                rintro _ S1 ⟨rfl, hS1⟩
                subst S1
                repeat (first | refine ga_ ?_ | intro _)
                refine Or.inl ⟨⟨_, Tryd.func12, rfl, rfl⟩, ACall.mono ?_ (k3 _ hG.cons.cons.cons.cons (.tail _ (.tail _ (.tail _ (.tail _ hE)))))⟩
                rintro _ S1 ⟨rfl, hS1⟩
                subst S1
                repeat (first | refine ga_ ?_ | intro _)
                refine Or.inl ⟨⟨_, Tryd.func12, rfl, rfl⟩, ACall.mono ?_ (k4 _ hG.cons.cons.cons.cons (.tail _ (.tail _ (.tail _ (.tail _ hE)))))⟩
                rintro _ S1 ⟨rfl, hS1⟩
                subst S1
                repeat (first | refine ga_ ?_ | intro _)
                refine Or.inl ⟨⟨_, Tryd.func21, rfl, rfl⟩, ACall.mono ?_ (k5 _)⟩
                rintro _ S1 ⟨rfl, hS1⟩
                subst S1
                repeat (first | refine ga_ ?_ | intro _)
                refine AW_false (b := !(decide (tX = tY) == isB (x = y))) rfl (by rw [ee]; rfl) ?_
                repeat (first | refine ga_ ?_ | intro _)
                refine Or.inl ⟨⟨_, Tryd.func17, rfl, rfl⟩, ACall.mono ?_ (k6 _)⟩
                rintro _ S1 ⟨rfl, hS1⟩
                subst S1
                repeat (first | refine ga_ ?_ | intro _)
                refine AW_ret ?_
                repeat (first | refine ⟨0, rfl, ?_⟩ | refine ⟨1, rfl, ?_⟩ | refine ⟨2, rfl, ?_⟩ | refine ⟨3, rfl, ?_⟩ | refine ⟨4, rfl, ?_⟩ | refine ⟨5, rfl, ?_⟩ | refine ⟨6, rfl, ?_⟩)
                refine ⟨_, R, AVle.eq ?_, (by repeat (first | exact SLe.rfl | refine SLe.tail ?_)), rfl, rfl⟩
                rfl
            · rw [shownG_f (by simpa using ry)] at k4
              by_cases ra : rightF a = true
              · rw [shownF_t ra] at k1
                by_cases rb : rightF b = true
                · rw [shownF_t rb] at k2
                  obtain ⟨tA, htA⟩ : ∃ u, u = showF a := ⟨_, rfl⟩
                  obtain ⟨tB, htB⟩ : ∃ u, u = showF b := ⟨_, rfl⟩
                  have ef : (decide (tA = tB) == isB (a = b)) = true := by
                    by_cases h : a = b
                    · rw [isB_t h, htA, htB, h]; simp
                    · rw [isB_f h, htA, htB, decide_eq_false (fun e => h (showF_inj hA hB ra rb e))]; rfl
                  rw [← htA] at k1
                  rw [← htB] at k2
                  refine ACall_body tab_ok Tryd.func7 rfl rfl rfl (by kernel_rfl) (Nat.le_of_ble_eq_true rfl) ?_
                  repeat (first | refine go_ ?_ | intro _)
                  rename_i pa pb px py
                  refine Or.inl ⟨⟨_, Tryd.func8, rfl, rfl⟩, ACall.mono ?_ (shown_ok _ hG.cons.cons.cons.cons (.tail _ (.tail _ (.tail _ (.tail _ hE)))))⟩
                  rintro _ S1 ⟨rfl, hS1⟩
                  subst S1
                  repeat (first | refine go_ ?_ | intro _)
                  refine Or.inl ⟨⟨_, Tryd.func16, rfl, rfl⟩, ACall.mono ?_ (ka _)⟩
                  rintro _ S1 ⟨rfl, hS1⟩
                  subst S1
                  repeat (first | refine ga_ ?_ | intro _)
                  refine Or.inl ⟨⟨_, Tryd.func16, rfl, rfl⟩, ACall.mono ?_ (kb _)⟩
                  rintro _ S1 ⟨rfl, hS1⟩
                  subst S1
                  repeat (first | refine ga_ ?_ | intro _)
                  refine Or.inl ⟨⟨_, Tryd.func11, rfl, rfl⟩, ACall.mono ?_ (kx _)⟩
                  rintro _ S1 ⟨rfl, hS1⟩
                  subst S1
                  repeat (first | refine ga_ ?_ | intro _)
                  refine known_false (b := decide (sizeG x 3000 < 0)) (by exact decide_eq_false bx) ?_
                  repeat (first | refine ga_ ?_ | intro _)
                  refine Or.inl ⟨⟨_, Tryd.func11, rfl, rfl⟩, ACall.mono ?_ (ky _)⟩
                  rintro _ S1 ⟨rfl, hS1⟩
                  subst S1
                  repeat (first | refine ga_ ?_ | intro _)
                  refine AW_false (b := decide (sizeG y 3000 < 0)) rfl (by exact decide_eq_false by') ?_
                  refine AW_weak (weak_of (l := [(4, .ptr pa 0), (5, .ptr pb 0), (6, .ptr px 0), (7, .ptr py 0), (9, .bool true)]) (m := []) (S' := .cells py (cT y) :: .cells px (cT x) :: .cells pb (cFi b) :: .cells pa (cFi a) :: R) ?_ rfl ?_) ?_
                  · repeat (first | exact trivial | refine ⟨AVle.refl _, ?_⟩ | refine ⟨AVle.tk, ?_⟩ | refine ⟨AVle.nil, ?_⟩ | refine ⟨AVle.nilFull, ?_⟩ | refine ⟨AVle.eq (congrArg (AV.int .i64) (by first | (simp; done) | (simp; omega) | (rw [wrap_i64 (by first | omega | (simp; omega))]; first | rfl | omega | (simp; done) | (simp; omega)))), ?_⟩)
                  · refine SW.le ?_
                    repeat (first | exact SW.nil | refine SW.cons ?_ | refine SW.cells (by repeat (first | exact trivial | refine ⟨AVle.refl _, ?_⟩ | refine ⟨AVle.nilFull, ?_⟩ | refine ⟨AVle.tk, ?_⟩ | refine ⟨AVle.nil, ?_⟩)) rfl ?_ | refine SW.full ?_ | refine SW.drop ?_)
                  repeat (first | refine ga_ ?_ | intro _)
                  refine Or.inl ⟨⟨_, Tryd.func19, rfl, rfl⟩, ACall.mono ?_ (k1 _ (.tail _ (.tail _ (.tail _ (.tail _ hE)))) (numE_of hG.cons.cons.cons.cons))⟩
                  rintro _ S1 ⟨rfl, hS1⟩
                  subst S1
                  repeat (first | refine ga_ ?_ | intro _)
                  refine Or.inl ⟨⟨_, Tryd.func19, rfl, rfl⟩, ACall.mono ?_ (k2 _ (.tail _ (.tail _ (.tail _ (.tail _ hE)))) (numE_of hG.cons.cons.cons.cons))⟩
                  rintro _ S1 ⟨rfl, hS1⟩
                  subst S1
                  repeat (first | refine ga_ ?_ | intro _)
                  refine Or.inl ⟨⟨_, Tryd.func12, rfl, rfl⟩, ACall.mono ?_ (k3 _ hG.cons.cons.cons.cons (.tail _ (.tail _ (.tail _ (.tail _ hE)))))⟩
                  rintro _ S1 ⟨rfl, hS1⟩
                  subst S1
                  repeat (first | refine ga_ ?_ | intro _)
                  refine Or.inl ⟨⟨_, Tryd.func12, rfl, rfl⟩, ACall.mono ?_ (k4 _ hG.cons.cons.cons.cons (.tail _ (.tail _ (.tail _ (.tail _ hE)))))⟩
                  rintro _ S1 ⟨rfl, hS1⟩
                  subst S1
                  repeat (first | refine ga_ ?_ | intro _)
                  refine Or.inl ⟨⟨_, Tryd.func21, rfl, rfl⟩, ACall.mono ?_ (k5 _)⟩
                  rintro _ S1 ⟨rfl, hS1⟩
                  subst S1
                  repeat (first | refine ga_ ?_ | intro _)
                  repeat (first | refine ga_ ?_ | intro _)
                  refine Or.inl ⟨⟨_, Tryd.func17, rfl, rfl⟩, ACall.mono ?_ (k6 _)⟩
                  rintro _ S1 ⟨rfl, hS1⟩
                  subst S1
                  repeat (first | refine ga_ ?_ | intro _)
                  refine Or.inl ⟨⟨_, Tryd.func17, rfl, rfl⟩, ACall.mono ?_ (k7 _)⟩
                  rintro _ S1 ⟨rfl, hS1⟩
                  subst S1
                  repeat (first | refine ga_ ?_ | intro _)
                  refine AW_ret ?_
                  repeat (first | refine ⟨0, rfl, ?_⟩ | refine ⟨1, rfl, ?_⟩ | refine ⟨2, rfl, ?_⟩ | refine ⟨3, rfl, ?_⟩ | refine ⟨4, rfl, ?_⟩ | refine ⟨5, rfl, ?_⟩ | refine ⟨6, rfl, ?_⟩)
                  refine ⟨_, R, AVle.eq ?_, (by repeat (first | exact SLe.rfl | refine SLe.tail ?_)), rfl, rfl⟩
                  exact congrArg AV.bool ef
                · rw [shownF_f (by simpa using rb)] at k2
                  refine ACall_body tab_ok Tryd.func7 rfl rfl rfl (by kernel_rfl) (Nat.le_of_ble_eq_true rfl) ?_
                  repeat (first | refine go_ ?_ | intro _)
                  rename_i pa pb px py
                  refine Or.inl ⟨⟨_, Tryd.func8, rfl, rfl⟩, ACall.mono ?_ (shown_ok _ hG.cons.cons.cons.cons (.tail _ (.tail _ (.tail _ (.tail _ hE)))))⟩
                  rintro _ S1 ⟨rfl, hS1⟩
                  subst S1
                  repeat (first | refine go_ ?_ | intro _)
                  refine Or.inl ⟨⟨_, Tryd.func16, rfl, rfl⟩, ACall.mono ?_ (ka _)⟩
                  rintro _ S1 ⟨rfl, hS1⟩
                  subst S1
                  repeat (first | refine ga_ ?_ | intro _)
                  refine Or.inl ⟨⟨_, Tryd.func16, rfl, rfl⟩, ACall.mono ?_ (kb _)⟩
                  rintro _ S1 ⟨rfl, hS1⟩
                  subst S1
                  repeat (first | refine ga_ ?_ | intro _)
                  refine Or.inl ⟨⟨_, Tryd.func11, rfl, rfl⟩, ACall.mono ?_ (kx _)⟩
                  rintro _ S1 ⟨rfl, hS1⟩
                  subst S1
                  repeat (first | refine ga_ ?_ | intro _)
                  refine known_false (b := decide (sizeG x 3000 < 0)) (by exact decide_eq_false bx) ?_
                  repeat (first | refine ga_ ?_ | intro _)
                  refine Or.inl ⟨⟨_, Tryd.func11, rfl, rfl⟩, ACall.mono ?_ (ky _)⟩
                  rintro _ S1 ⟨rfl, hS1⟩
                  subst S1
                  repeat (first | refine ga_ ?_ | intro _)
                  refine AW_false (b := decide (sizeG y 3000 < 0)) rfl (by exact decide_eq_false by') ?_
                  refine AW_weak (weak_of (l := [(4, .ptr pa 0), (5, .ptr pb 0), (6, .ptr px 0), (7, .ptr py 0), (9, .bool true)]) (m := []) (S' := .cells py (cT y) :: .cells px (cT x) :: .cells pb (cFi b) :: .cells pa (cFi a) :: R) ?_ rfl ?_) ?_
                  · repeat (first | exact trivial | refine ⟨AVle.refl _, ?_⟩ | refine ⟨AVle.tk, ?_⟩ | refine ⟨AVle.nil, ?_⟩ | refine ⟨AVle.nilFull, ?_⟩ | refine ⟨AVle.eq (congrArg (AV.int .i64) (by first | (simp; done) | (simp; omega) | (rw [wrap_i64 (by first | omega | (simp; omega))]; first | rfl | omega | (simp; done) | (simp; omega)))), ?_⟩)
                  · refine SW.le ?_
                    repeat (first | exact SW.nil | refine SW.cons ?_ | refine SW.cells (by repeat (first | exact trivial | refine ⟨AVle.refl _, ?_⟩ | refine ⟨AVle.nilFull, ?_⟩ | refine ⟨AVle.tk, ?_⟩ | refine ⟨AVle.nil, ?_⟩)) rfl ?_ | refine SW.full ?_ | refine SW.drop ?_)
                  repeat (first | refine ga_ ?_ | intro _)
                  refine Or.inl ⟨⟨_, Tryd.func19, rfl, rfl⟩, ACall.mono ?_ (k1 _ (.tail _ (.tail _ (.tail _ (.tail _ hE)))) (numE_of hG.cons.cons.cons.cons))⟩
                  rintro _ S1 ⟨rfl, hS1⟩
                  subst S1
                  repeat (first | refine ga_ ?_ | intro _)
                  refine Or.inl ⟨⟨_, Tryd.func19, rfl, rfl⟩, ACall.mono ?_ (k2 _ (.tail _ (.tail _ (.tail _ (.tail _ hE)))) (numE_of hG.cons.cons.cons.cons))⟩
                  rintro _ S1 ⟨rfl, hS1⟩
                  subst S1
                  repeat (first | refine ga_ ?_ | intro _)
                  refine Or.inl ⟨⟨_, Tryd.func12, rfl, rfl⟩, ACall.mono ?_ (k3 _ hG.cons.cons.cons.cons (.tail _ (.tail _ (.tail _ (.tail _ hE)))))⟩
                  rintro _ S1 ⟨rfl, hS1⟩
                  subst S1
                  repeat (first | refine ga_ ?_ | intro _)
                  refine Or.inl ⟨⟨_, Tryd.func12, rfl, rfl⟩, ACall.mono ?_ (k4 _ hG.cons.cons.cons.cons (.tail _ (.tail _ (.tail _ (.tail _ hE)))))⟩
                  rintro _ S1 ⟨rfl, hS1⟩
                  subst S1
                  repeat (first | refine ga_ ?_ | intro _)
                  refine Or.inl ⟨⟨_, Tryd.func21, rfl, rfl⟩, ACall.mono ?_ (k5 _)⟩
                  rintro _ S1 ⟨rfl, hS1⟩
                  subst S1
                  repeat (first | refine ga_ ?_ | intro _)
                  repeat (first | refine ga_ ?_ | intro _)
                  refine Or.inl ⟨⟨_, Tryd.func17, rfl, rfl⟩, ACall.mono ?_ (k6 _)⟩
                  rintro _ S1 ⟨rfl, hS1⟩
                  subst S1
                  repeat (first | refine ga_ ?_ | intro _)
                  refine AW_ret ?_
                  repeat (first | refine ⟨0, rfl, ?_⟩ | refine ⟨1, rfl, ?_⟩ | refine ⟨2, rfl, ?_⟩ | refine ⟨3, rfl, ?_⟩ | refine ⟨4, rfl, ?_⟩ | refine ⟨5, rfl, ?_⟩ | refine ⟨6, rfl, ?_⟩)
                  refine ⟨_, R, AVle.eq ?_, (by repeat (first | exact SLe.rfl | refine SLe.tail ?_)), rfl, rfl⟩
                  rfl
              · rw [shownF_f (by simpa using ra)] at k1
                obtain ⟨s2, e2, hse⟩ : ∃ s e, shownF b = .tup [.str s, .int .i64 e] := ⟨_, _, rfl⟩
                rw [hse] at k2
                refine ACall_body tab_ok Tryd.func7 rfl rfl rfl (by kernel_rfl) (Nat.le_of_ble_eq_true rfl) ?_
                repeat (first | refine go_ ?_ | intro _)
                rename_i pa pb px py
                refine Or.inl ⟨⟨_, Tryd.func8, rfl, rfl⟩, ACall.mono ?_ (shown_ok _ hG.cons.cons.cons.cons (.tail _ (.tail _ (.tail _ (.tail _ hE)))))⟩
                rintro _ S1 ⟨rfl, hS1⟩
                subst S1
                repeat (first | refine go_ ?_ | intro _)
                refine Or.inl ⟨⟨_, Tryd.func16, rfl, rfl⟩, ACall.mono ?_ (ka _)⟩
                rintro _ S1 ⟨rfl, hS1⟩
                subst S1
                repeat (first | refine ga_ ?_ | intro _)
                refine Or.inl ⟨⟨_, Tryd.func16, rfl, rfl⟩, ACall.mono ?_ (kb _)⟩
                rintro _ S1 ⟨rfl, hS1⟩
                subst S1
                repeat (first | refine ga_ ?_ | intro _)
                refine Or.inl ⟨⟨_, Tryd.func11, rfl, rfl⟩, ACall.mono ?_ (kx _)⟩
                rintro _ S1 ⟨rfl, hS1⟩
                subst S1
                repeat (first | refine ga_ ?_ | intro _)
                refine known_false (b := decide (sizeG x 3000 < 0)) (by exact decide_eq_false bx) ?_
                repeat (first | refine ga_ ?_ | intro _)
                refine Or.inl ⟨⟨_, Tryd.func11, rfl, rfl⟩, ACall.mono ?_ (ky _)⟩
                rintro _ S1 ⟨rfl, hS1⟩
                subst S1
                repeat (first | refine ga_ ?_ | intro _)
                refine AW_false (b := decide (sizeG y 3000 < 0)) rfl (by exact decide_eq_false by') ?_
                refine AW_weak (weak_of (l := [(4, .ptr pa 0), (5, .ptr pb 0), (6, .ptr px 0), (7, .ptr py 0), (9, .bool true)]) (m := []) (S' := .cells py (cT y) :: .cells px (cT x) :: .cells pb (cFi b) :: .cells pa (cFi a) :: R) ?_ rfl ?_) ?_
                · repeat (first | exact trivial | refine ⟨AVle.refl _, ?_⟩ | refine ⟨AVle.tk, ?_⟩ | refine ⟨AVle.nil, ?_⟩ | refine ⟨AVle.nilFull, ?_⟩ | refine ⟨AVle.eq (congrArg (AV.int .i64) (by first | (simp; done) | (simp; omega) | (rw [wrap_i64 (by first | omega | (simp; omega))]; first | rfl | omega | (simp; done) | (simp; omega)))), ?_⟩)
                · refine SW.le ?_
                  repeat (first | exact SW.nil | refine SW.cons ?_ | refine SW.cells (by repeat (first | exact trivial | refine ⟨AVle.refl _, ?_⟩ | refine ⟨AVle.nilFull, ?_⟩ | refine ⟨AVle.tk, ?_⟩ | refine ⟨AVle.nil, ?_⟩)) rfl ?_ | refine SW.full ?_ | refine SW.drop ?_)
                repeat (first | refine ga_ ?_ | intro _)
                refine Or.inl ⟨⟨_, Tryd.func19, rfl, rfl⟩, ACall.mono ?_ (k1 _ (.tail _ (.tail _ (.tail _ (.tail _ hE)))) (numE_of hG.cons.cons.cons.cons))⟩
                rintro _ S1 ⟨rfl, hS1⟩
                subst S1
                repeat (first | refine ga_ ?_ | intro _)
                refine Or.inl ⟨⟨_, Tryd.func19, rfl, rfl⟩, ACall.mono ?_ (k2 _ (.tail _ (.tail _ (.tail _ (.tail _ hE)))) (numE_of hG.cons.cons.cons.cons))⟩
                rintro _ S1 ⟨rfl, hS1⟩
                subst S1
                repeat (first | refine ga_ ?_ | intro _)
                refine Or.inl ⟨⟨_, Tryd.func12, rfl, rfl⟩, ACall.mono ?_ (k3 _ hG.cons.cons.cons.cons (.tail _ (.tail _ (.tail _ (.tail _ hE)))))⟩
                rintro _ S1 ⟨rfl, hS1⟩
                subst S1
                repeat (first | refine ga_ ?_ | intro _)
                refine Or.inl ⟨⟨_, Tryd.func12, rfl, rfl⟩, ACall.mono ?_ (k4 _ hG.cons.cons.cons.cons (.tail _ (.tail _ (.tail _ (.tail _ hE)))))⟩
                rintro _ S1 ⟨rfl, hS1⟩
                subst S1
                repeat (first | refine ga_ ?_ | intro _)
                refine Or.inl ⟨⟨_, Tryd.func21, rfl, rfl⟩, ACall.mono ?_ (k5 _)⟩
                rintro _ S1 ⟨rfl, hS1⟩
                subst S1
                repeat (first | refine ga_ ?_ | intro _)
                repeat (first | refine ga_ ?_ | intro _)
                refine Or.inl ⟨⟨_, Tryd.func17, rfl, rfl⟩, ACall.mono ?_ (k6 _)⟩
                rintro _ S1 ⟨rfl, hS1⟩
                subst S1
                repeat (first | refine ga_ ?_ | intro _)
                refine AW_ret ?_
                repeat (first | refine ⟨0, rfl, ?_⟩ | refine ⟨1, rfl, ?_⟩ | refine ⟨2, rfl, ?_⟩ | refine ⟨3, rfl, ?_⟩ | refine ⟨4, rfl, ?_⟩ | refine ⟨5, rfl, ?_⟩ | refine ⟨6, rfl, ?_⟩)
                refine ⟨_, R, AVle.eq ?_, (by repeat (first | exact SLe.rfl | refine SLe.tail ?_)), rfl, rfl⟩
                rfl
          · rw [shownG_f (by simpa using rx)] at k3
            obtain ⟨s4, e4, hse4⟩ : ∃ s e, shownG y = .tup [.str s, .int .i64 e] := ⟨_, _, rfl⟩
            rw [hse4] at k4
            by_cases ra : rightF a = true
            · rw [shownF_t ra] at k1
              by_cases rb : rightF b = true
              · rw [shownF_t rb] at k2
                obtain ⟨tA, htA⟩ : ∃ u, u = showF a := ⟨_, rfl⟩
                obtain ⟨tB, htB⟩ : ∃ u, u = showF b := ⟨_, rfl⟩
                have ef : (decide (tA = tB) == isB (a = b)) = true := by
                  by_cases h : a = b
                  · rw [isB_t h, htA, htB, h]; simp
                  · rw [isB_f h, htA, htB, decide_eq_false (fun e => h (showF_inj hA hB ra rb e))]; rfl
                rw [← htA] at k1
                rw [← htB] at k2
                refine ACall_body tab_ok Tryd.func7 rfl rfl rfl (by kernel_rfl) (Nat.le_of_ble_eq_true rfl) ?_
                repeat (first | refine go_ ?_ | intro _)
                rename_i pa pb px py
                refine Or.inl ⟨⟨_, Tryd.func8, rfl, rfl⟩, ACall.mono ?_ (shown_ok _ hG.cons.cons.cons.cons (.tail _ (.tail _ (.tail _ (.tail _ hE)))))⟩
                rintro _ S1 ⟨rfl, hS1⟩
                subst S1
                repeat (first | refine go_ ?_ | intro _)
                refine Or.inl ⟨⟨_, Tryd.func16, rfl, rfl⟩, ACall.mono ?_ (ka _)⟩
                rintro _ S1 ⟨rfl, hS1⟩
                subst S1
                repeat (first | refine ga_ ?_ | intro _)
                refine Or.inl ⟨⟨_, Tryd.func16, rfl, rfl⟩, ACall.mono ?_ (kb _)⟩
                rintro _ S1 ⟨rfl, hS1⟩
                subst S1
                repeat (first | refine ga_ ?_ | intro _)
                refine Or.inl ⟨⟨_, Tryd.func11, rfl, rfl⟩, ACall.mono ?_ (kx _)⟩
                rintro _ S1 ⟨rfl, hS1⟩
                subst S1
                repeat (first | refine ga_ ?_ | intro _)
                refine known_false (b := decide (sizeG x 3000 < 0)) (by exact decide_eq_false bx) ?_
                repeat (first | refine ga_ ?_ | intro _)
                refine Or.inl ⟨⟨_, Tryd.func11, rfl, rfl⟩, ACall.mono ?_ (ky _)⟩
                rintro _ S1 ⟨rfl, hS1⟩
                subst S1
                repeat (first | refine ga_ ?_ | intro _)
                refine AW_false (b := decide (sizeG y 3000 < 0)) rfl (by exact decide_eq_false by') ?_
                refine AW_weak (weak_of (l := [(4, .ptr pa 0), (5, .ptr pb 0), (6, .ptr px 0), (7, .ptr py 0), (9, .bool true)]) (m := []) (S' := .cells py (cT y) :: .cells px (cT x) :: .cells pb (cFi b) :: .cells pa (cFi a) :: R) ?_ rfl ?_) ?_
                · repeat (first | exact trivial | refine ⟨AVle.refl _, ?_⟩ | refine ⟨AVle.tk, ?_⟩ | refine ⟨AVle.nil, ?_⟩ | refine ⟨AVle.nilFull, ?_⟩ | refine ⟨AVle.eq (congrArg (AV.int .i64) (by first | (simp; done) | (simp; omega) | (rw [wrap_i64 (by first | omega | (simp; omega))]; first | rfl | omega | (simp; done) | (simp; omega)))), ?_⟩)
                · refine SW.le ?_
                  repeat (first | exact SW.nil | refine SW.cons ?_ | refine SW.cells (by repeat (first | exact trivial | refine ⟨AVle.refl _, ?_⟩ | refine ⟨AVle.nilFull, ?_⟩ | refine ⟨AVle.tk, ?_⟩ | refine ⟨AVle.nil, ?_⟩)) rfl ?_ | refine SW.full ?_ | refine SW.drop ?_)
                repeat (first | refine ga_ ?_ | intro _)
                refine Or.inl ⟨⟨_, Tryd.func19, rfl, rfl⟩, ACall.mono ?_ (k1 _ (.tail _ (.tail _ (.tail _ (.tail _ hE)))) (numE_of hG.cons.cons.cons.cons))⟩
                rintro _ S1 ⟨rfl, hS1⟩
                subst S1
                repeat (first | refine ga_ ?_ | intro _)
                refine Or.inl ⟨⟨_, Tryd.func19, rfl, rfl⟩, ACall.mono ?_ (k2 _ (.tail _ (.tail _ (.tail _ (.tail _ hE)))) (numE_of hG.cons.cons.cons.cons))⟩
                rintro _ S1 ⟨rfl, hS1⟩
                subst S1
                repeat (first | refine ga_ ?_ | intro _)
                refine Or.inl ⟨⟨_, Tryd.func12, rfl, rfl⟩, ACall.mono ?_ (k3 _ hG.cons.cons.cons.cons (.tail _ (.tail _ (.tail _ (.tail _ hE)))))⟩
                rintro _ S1 ⟨rfl, hS1⟩
                subst S1
                repeat (first | refine ga_ ?_ | intro _)
                refine Or.inl ⟨⟨_, Tryd.func12, rfl, rfl⟩, ACall.mono ?_ (k4 _ hG.cons.cons.cons.cons (.tail _ (.tail _ (.tail _ (.tail _ hE)))))⟩
                rintro _ S1 ⟨rfl, hS1⟩
                subst S1
                repeat (first | refine ga_ ?_ | intro _)
                refine Or.inl ⟨⟨_, Tryd.func21, rfl, rfl⟩, ACall.mono ?_ (k5 _)⟩
                rintro _ S1 ⟨rfl, hS1⟩
                subst S1
                repeat (first | refine ga_ ?_ | intro _)
                repeat (first | refine ga_ ?_ | intro _)
                refine Or.inl ⟨⟨_, Tryd.func17, rfl, rfl⟩, ACall.mono ?_ (k6 _)⟩
                rintro _ S1 ⟨rfl, hS1⟩
                subst S1
                repeat (first | refine ga_ ?_ | intro _)
                refine Or.inl ⟨⟨_, Tryd.func17, rfl, rfl⟩, ACall.mono ?_ (k7 _)⟩
                rintro _ S1 ⟨rfl, hS1⟩
                subst S1
                repeat (first | refine ga_ ?_ | intro _)
                refine AW_ret ?_
                repeat (first | refine ⟨0, rfl, ?_⟩ | refine ⟨1, rfl, ?_⟩ | refine ⟨2, rfl, ?_⟩ | refine ⟨3, rfl, ?_⟩ | refine ⟨4, rfl, ?_⟩ | refine ⟨5, rfl, ?_⟩ | refine ⟨6, rfl, ?_⟩)
                refine ⟨_, R, AVle.eq ?_, (by repeat (first | exact SLe.rfl | refine SLe.tail ?_)), rfl, rfl⟩
                exact congrArg AV.bool ef
              · rw [shownF_f (by simpa using rb)] at k2
                refine ACall_body tab_ok Tryd.func7 rfl rfl rfl (by kernel_rfl) (Nat.le_of_ble_eq_true rfl) ?_
                repeat (first | refine go_ ?_ | intro _)
                rename_i pa pb px py
                refine Or.inl ⟨⟨_, Tryd.func8, rfl, rfl⟩, ACall.mono ?_ (shown_ok _ hG.cons.cons.cons.cons (.tail _ (.tail _ (.tail _ (.tail _ hE)))))⟩
                rintro _ S1 ⟨rfl, hS1⟩
                subst S1
                repeat (first | refine go_ ?_ | intro _)
                refine Or.inl ⟨⟨_, Tryd.func16, rfl, rfl⟩, ACall.mono ?_ (ka _)⟩
                rintro _ S1 ⟨rfl, hS1⟩
                subst S1
                repeat (first | refine ga_ ?_ | intro _)
                refine Or.inl ⟨⟨_, Tryd.func16, rfl, rfl⟩, ACall.mono ?_ (kb _)⟩
                rintro _ S1 ⟨rfl, hS1⟩
                subst S1
                repeat (first | refine ga_ ?_ | intro _)
                refine Or.inl ⟨⟨_, Tryd.func11, rfl, rfl⟩, ACall.mono ?_ (kx _)⟩
                rintro _ S1 ⟨rfl, hS1⟩
                subst S1
                repeat (first | refine ga_ ?_ | intro _)
                refine known_false (b := decide (sizeG x 3000 < 0)) (by exact decide_eq_false bx) ?_
                repeat (first | refine ga_ ?_ | intro _)
                refine Or.inl ⟨⟨_, Tryd.func11, rfl, rfl⟩, ACall.mono ?_ (ky _)⟩
                rintro _ S1 ⟨rfl, hS1⟩
                subst S1
                repeat (first | refine ga_ ?_ | intro _)
                refine AW_false (b := decide (sizeG y 3000 < 0)) rfl (by exact decide_eq_false by') ?_
                refine AW_weak (weak_of (l := [(4, .ptr pa 0), (5, .ptr pb 0), (6, .ptr px 0), (7, .ptr py 0), (9, .bool true)]) (m := []) (S' := .cells py (cT y) :: .cells px (cT x) :: .cells pb (cFi b) :: .cells pa (cFi a) :: R) ?_ rfl ?_) ?_
                · repeat (first | exact trivial | refine ⟨AVle.refl _, ?_⟩ | refine ⟨AVle.tk, ?_⟩ | refine ⟨AVle.nil, ?_⟩ | refine ⟨AVle.nilFull, ?_⟩ | refine ⟨AVle.eq (congrArg (AV.int .i64) (by first | (simp; done) | (simp; omega) | (rw [wrap_i64 (by first | omega | (simp; omega))]; first | rfl | omega | (simp; done) | (simp; omega)))), ?_⟩)
                · refine SW.le ?_
                  repeat (first | exact SW.nil | refine SW.cons ?_ | refine SW.cells (by repeat (first | exact trivial | refine ⟨AVle.refl _, ?_⟩ | refine ⟨AVle.nilFull, ?_⟩ | refine ⟨AVle.tk, ?_⟩ | refine ⟨AVle.nil, ?_⟩)) rfl ?_ | refine SW.full ?_ | refine SW.drop ?_)
                repeat (first | refine ga_ ?_ | intro _)
                refine Or.inl ⟨⟨_, Tryd.func19, rfl, rfl⟩, ACall.mono ?_ (k1 _ (.tail _ (.tail _ (.tail _ (.tail _ hE)))) (numE_of hG.cons.cons.cons.cons))⟩
                rintro _ S1 ⟨rfl, hS1⟩
                subst S1
                repeat (first | refine ga_ ?_ | intro _)
                refine Or.inl ⟨⟨_, Tryd.func19, rfl, rfl⟩, ACall.mono ?_ (k2 _ (.tail _ (.tail _ (.tail _ (.tail _ hE)))) (numE_of hG.cons.cons.cons.cons))⟩
                rintro _ S1 ⟨rfl, hS1⟩
                subst S1
                repeat (first | refine ga_ ?_ | intro _)
                refine Or.inl ⟨⟨_, Tryd.func12, rfl, rfl⟩, ACall.mono ?_ (k3 _ hG.cons.cons.cons.cons (.tail _ (.tail _ (.tail _ (.tail _ hE)))))⟩
                rintro _ S1 ⟨rfl, hS1⟩
                subst S1
                repeat (first | refine ga_ ?_ | intro _)
                refine Or.inl ⟨⟨_, Tryd.func12, rfl, rfl⟩, ACall.mono ?_ (k4 _ hG.cons.cons.cons.cons (.tail _ (.tail _ (.tail _ (.tail _ hE)))))⟩
                rintro _ S1 ⟨rfl, hS1⟩
                subst S1
                repeat (first | refine ga_ ?_ | intro _)
                refine Or.inl ⟨⟨_, Tryd.func21, rfl, rfl⟩, ACall.mono ?_ (k5 _)⟩
                rintro _ S1 ⟨rfl, hS1⟩
                subst S1
                repeat (first | refine ga_ ?_ | intro _)
                repeat (first | refine ga_ ?_ | intro _)
                refine Or.inl ⟨⟨_, Tryd.func17, rfl, rfl⟩, ACall.mono ?_ (k6 _)⟩
                rintro _ S1 ⟨rfl, hS1⟩
                subst S1
                repeat (first | refine ga_ ?_ | intro _)
                refine AW_ret ?_
                repeat (first | refine ⟨0, rfl, ?_⟩ | refine ⟨1, rfl, ?_⟩ | refine ⟨2, rfl, ?_⟩ | refine ⟨3, rfl, ?_⟩ | refine ⟨4, rfl, ?_⟩ | refine ⟨5, rfl, ?_⟩ | refine ⟨6, rfl, ?_⟩)
                refine ⟨_, R, AVle.eq ?_, (by repeat (first | exact SLe.rfl | refine SLe.tail ?_)), rfl, rfl⟩
                rfl
            · rw [shownF_f (by simpa using ra)] at k1
              obtain ⟨s2, e2, hse⟩ : ∃ s e, shownF b = .tup [.str s, .int .i64 e] := ⟨_, _, rfl⟩
              rw [hse] at k2
              refine ACall_body tab_ok Tryd.func7 rfl rfl rfl (by kernel_rfl) (Nat.le_of_ble_eq_true rfl) ?_
              repeat (first | refine go_ ?_ | intro _)
              rename_i pa pb px py
              refine Or.inl ⟨⟨_, Tryd.func8, rfl, rfl⟩, ACall.mono ?_ (shown_ok _ hG.cons.cons.cons.cons (.tail _ (.tail _ (.tail _ (.tail _ hE)))))⟩
              rintro _ S1 ⟨rfl, hS1⟩
              subst S1
              repeat (first | refine go_ ?_ | intro _)
              refine Or.inl ⟨⟨_, Tryd.func16, rfl, rfl⟩, ACall.mono ?_ (ka _)⟩
              rintro _ S1 ⟨rfl, hS1⟩
              subst S1
              repeat (first | refine ga_ ?_ | intro _)
              refine Or.inl ⟨⟨_, Tryd.func16, rfl, rfl⟩, ACall.mono ?_ (kb _)⟩
              rintro _ S1 ⟨rfl, hS1⟩
              subst S1
              repeat (first | refine ga_ ?_ | intro _)
              refine Or.inl ⟨⟨_, Tryd.func11, rfl, rfl⟩, ACall.mono ?_ (kx _)⟩
              rintro _ S1 ⟨rfl, hS1⟩
              subst S1
              repeat (first | refine ga_ ?_ | intro _)
              refine known_false (b := decide (sizeG x 3000 < 0)) (by exact decide_eq_false bx) ?_
              repeat (first | refine ga_ ?_ | intro _)
              refine Or.inl ⟨⟨_, Tryd.func11, rfl, rfl⟩, ACall.mono ?_ (ky _)⟩
              rintro _ S1 ⟨rfl, hS1⟩
              subst S1
              repeat (first | refine ga_ ?_ | intro _)
              refine AW_false (b := decide (sizeG y 3000 < 0)) rfl (by exact decide_eq_false by') ?_
              refine AW_weak (weak_of (l := [(4, .ptr pa 0), (5, .ptr pb 0), (6, .ptr px 0), (7, .ptr py 0), (9, .bool true)]) (m := []) (S' := .cells py (cT y) :: .cells px (cT x) :: .cells pb (cFi b) :: .cells pa (cFi a) :: R) ?_ rfl ?_) ?_
              · repeat (first | exact trivial | refine ⟨AVle.refl _, ?_⟩ | refine ⟨AVle.tk, ?_⟩ | refine ⟨AVle.nil, ?_⟩ | refine ⟨AVle.nilFull, ?_⟩ | refine ⟨AVle.eq (congrArg (AV.int .i64) (by first | (simp; done) | (simp; omega) | (rw [wrap_i64 (by first | omega | (simp; omega))]; first | rfl | omega | (simp; done) | (simp; omega)))), ?_⟩)
              · refine SW.le ?_
                repeat (first | exact SW.nil | refine SW.cons ?_ | refine SW.cells (by repeat (first | exact trivial | refine ⟨AVle.refl _, ?_⟩ | refine ⟨AVle.nilFull, ?_⟩ | refine ⟨AVle.tk, ?_⟩ | refine ⟨AVle.nil, ?_⟩)) rfl ?_ | refine SW.full ?_ | refine SW.drop ?_)
              repeat (first | refine ga_ ?_ | intro _)
              refine Or.inl ⟨⟨_, Tryd.func19, rfl, rfl⟩, ACall.mono ?_ (k1 _ (.tail _ (.tail _ (.tail _ (.tail _ hE)))) (numE_of hG.cons.cons.cons.cons))⟩
              rintro _ S1 ⟨rfl, hS1⟩
              subst S1
              repeat (first | refine ga_ ?_ | intro _)
              refine Or.inl ⟨⟨_, Tryd.func19, rfl, rfl⟩, ACall.mono ?_ (k2 _ (.tail _ (.tail _ (.tail _ (.tail _ hE)))) (numE_of hG.cons.cons.cons.cons))⟩
              rintro _ S1 ⟨rfl, hS1⟩
              subst S1
              repeat (first | refine ga_ ?_ | intro _)
              refine Or.inl ⟨⟨_, Tryd.func12, rfl, rfl⟩, ACall.mono ?_ (k3 _ hG.cons.cons.cons.cons (.tail _ (.tail _ (.tail _ (.tail _ hE)))))⟩
              rintro _ S1 ⟨rfl, hS1⟩
              subst S1
              repeat (first | refine ga_ ?_ | intro _)
              refine Or.inl ⟨⟨_, Tryd.func12, rfl, rfl⟩, ACall.mono ?_ (k4 _ hG.cons.cons.cons.cons (.tail _ (.tail _ (.tail _ (.tail _ hE)))))⟩
              rintro _ S1 ⟨rfl, hS1⟩
              subst S1
              repeat (first | refine ga_ ?_ | intro _)
              refine Or.inl ⟨⟨_, Tryd.func21, rfl, rfl⟩, ACall.mono ?_ (k5 _)⟩
              rintro _ S1 ⟨rfl, hS1⟩
              subst S1
              repeat (first | refine ga_ ?_ | intro _)
              repeat (first | refine ga_ ?_ | intro _)
              refine Or.inl ⟨⟨_, Tryd.func17, rfl, rfl⟩, ACall.mono ?_ (k6 _)⟩
              rintro _ S1 ⟨rfl, hS1⟩
              subst S1
              repeat (first | refine ga_ ?_ | intro _)
              refine AW_ret ?_
              repeat (first | refine ⟨0, rfl, ?_⟩ | refine ⟨1, rfl, ?_⟩ | refine ⟨2, rfl, ?_⟩ | refine ⟨3, rfl, ?_⟩ | refine ⟨4, rfl, ?_⟩ | refine ⟨5, rfl, ?_⟩ | refine ⟨6, rfl, ?_⟩)
              refine ⟨_, R, AVle.eq ?_, (by repeat (first | exact SLe.rfl | refine SLe.tail ?_)), rfl, rfl⟩
              rfl
    · rw [smallI_0 (by simpa using bb)] at kb
      refine ACall_body tab_ok Tryd.func7 rfl rfl rfl (by kernel_rfl) (Nat.le_of_ble_eq_true rfl) ?_
      repeat (first | refine go_ ?_ | intro _)
      rename_i pa pb px py
      refine Or.inl ⟨⟨_, Tryd.func8, rfl, rfl⟩, ACall.mono ?_ (shown_ok _ hG.cons.cons.cons.cons (.tail _ (.tail _ (.tail _ (.tail _ hE)))))⟩
      rintro _ S1 ⟨rfl, hS1⟩
      subst S1
      repeat (first | refine go_ ?_ | intro _)
      refine Or.inl ⟨⟨_, Tryd.func16, rfl, rfl⟩, ACall.mono ?_ (ka _)⟩
      rintro _ S1 ⟨rfl, hS1⟩
      subst S1
      repeat (first | refine ga_ ?_ | intro _)
      refine Or.inl ⟨⟨_, Tryd.func16, rfl, rfl⟩, ACall.mono ?_ (kb _)⟩
      rintro _ S1 ⟨rfl, hS1⟩
      subst S1
      repeat (first | refine ga_ ?_ | intro _)
      refine AW_ret ?_
      repeat (first | refine ⟨0, rfl, ?_⟩ | refine ⟨1, rfl, ?_⟩ | refine ⟨2, rfl, ?_⟩ | refine ⟨3, rfl, ?_⟩ | refine ⟨4, rfl, ?_⟩ | refine ⟨5, rfl, ?_⟩ | refine ⟨6, rfl, ?_⟩)
      refine ⟨_, R, AVle.eq ?_, (by repeat (first | exact SLe.rfl | refine SLe.tail ?_)), rfl, rfl⟩
      rfl
  · rw [smallI_0 (by simpa using ba)] at ka
    refine ACall_body tab_ok Tryd.func7 rfl rfl rfl (by kernel_rfl) (Nat.le_of_ble_eq_true rfl) ?_
    repeat (first | refine go_ ?_ | intro _)
    rename_i pa pb px py
    refine Or.inl ⟨⟨_, Tryd.func8, rfl, rfl⟩, ACall.mono ?_ (shown_ok _ hG.cons.cons.cons.cons (.tail _ (.tail _ (.tail _ (.tail _ hE)))))⟩
    rintro _ S1 ⟨rfl, hS1⟩
    subst S1
    repeat (first | refine go_ ?_ | intro _)
    refine Or.inl ⟨⟨_, Tryd.func16, rfl, rfl⟩, ACall.mono ?_ (ka _)⟩
    rintro _ S1 ⟨rfl, hS1⟩
    subst S1
    repeat (first | refine ga_ ?_ | intro _)
    refine AW_ret ?_
    repeat (first | refine ⟨0, rfl, ?_⟩ | refine ⟨1, rfl, ?_⟩ | refine ⟨2, rfl, ?_⟩ | refine ⟨3, rfl, ?_⟩ | refine ⟨4, rfl, ?_⟩ | refine ⟨5, rfl, ?_⟩ | refine ⟨6, rfl, ?_⟩)
    refine ⟨_, R, AVle.eq ?_, (by repeat (first | exact SLe.rfl | refine SLe.tail ?_)), rfl, rfl⟩
    rfl
end Go.Proofs.YtnkmjbjpmocnbaaDoor

