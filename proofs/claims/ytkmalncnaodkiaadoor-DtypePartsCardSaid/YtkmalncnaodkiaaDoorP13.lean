/-
  DtypeParts: the walk. Own work.
-/
import Derived.Test.YtkmalncnaodkiaaDoorP12
set_option linter.all false
namespace Go.Proofs.YtkmalncnaodkiaaDoor
open Go.Aw Go.RowKit
set_option maxHeartbeats 30000000

theorem ruleL_take (d : List De) : ∀ (l : List Ru) (i : Nat), ruleL d (l.take i) = none ∨ ruleL d (l.take i) = ruleL d l
  | [], i => .inl (by rw [List.take_nil]; rfl)
  | r :: l, 0 => .inl rfl
  | r :: l, i + 1 => by
    rw [List.take_succ_cons, ruleL, ruleL]
    by_cases h : typesE d r ≠ 0
    · rw [if_pos h, if_pos h]; exact .inr rfl
    · rw [if_neg h, if_neg h]; exact ruleL_take d l i
theorem ruleL_all {d : List De} : ∀ {l : List Ru}, ruleL d l = none → ∀ r ∈ l, typesE d r = 0
  | [], _, _, h => nomatch h
  | x :: l, h, r, hr => by
    rw [ruleL] at h
    by_cases hx : typesE d x ≠ 0
    · rw [if_pos hx] at h; cases h
    · rw [if_neg hx] at h
      rcases List.mem_cons.1 hr with rfl | hr
      · exact Decidable.not_not.1 hx
      · exact ruleL_all h r hr
theorem ruleL_ne {d : List De} : ∀ {l : List Ru} {x : Int × Int}, ruleL d l = some x → x.2 ≠ 0
  | [], _, h => nomatch h
  | r :: l, x, h => by
    rw [ruleL] at h
    by_cases hx : typesE d r ≠ 0
    · rw [if_pos hx] at h
      simp only [Option.some.injEq] at h
      subst h; exact hx
    · rw [if_neg hx] at h
      exact ruleL_ne h
theorem rightP_part {p : Pr} {l : List Ru} (h : rightP p = true) (hl : l.length ≤ p.rules.length) (hm : ∀ r ∈ l, r ∈ p.rules) : rightP ⟨p.decls, l⟩ = true := by
  unfold rightP at h ⊢
  simp only [Bool.and_eq_true, Bool.not_eq_true', decide_eq_false_iff_not, List.all_eq_true] at h ⊢
  exact ⟨h.1, by omega, h.2.2.1, fun r hr => h.2.2.2 r (hm r hr)⟩
theorem parts_law {p : Pr} {i : Nat} (hi : i < p.rules.length) :
    ((checkV p).2 = 0 ∧ (checkV ⟨p.decls, p.rules.take i⟩).2 = 0 ∧ (checkV ⟨p.decls, [p.rules[i]]⟩).2 = 0) ∨
    ((checkV p).2 ≠ 0 ∧ ((checkV ⟨p.decls, p.rules.take i⟩).2 = 0 ∨ (checkV p).2 = 30 ∨ (checkV ⟨p.decls, p.rules.take i⟩).2 = (checkV p).2)) := by
  cases hr : rightP p with
  | false => rw [checkV_tree hr]; exact .inr ⟨by decide, .inr (.inl rfl)⟩
  | true =>
    have h1 := rightP_part (l := p.rules.take i) hr (by rw [List.length_take]; omega) fun r h => List.mem_of_mem_take h
    have h2 := rightP_part (l := [p.rules[i]]) hr (by simp; omega) fun r h => by rw [List.mem_singleton.1 h]; exact List.getElem_mem hi
    cases hd : dupL p.decls 0 p.decls with
    | some l =>
      rw [checkV_dup hr hd, checkV_dup (p := ⟨p.decls, p.rules.take i⟩) h1 hd]
      exact .inr ⟨(by show (50 : Int) ≠ 0; decide), .inr (.inr rfl)⟩
    | none =>
      cases hl : ruleL p.decls p.rules with
      | some x =>
        rw [checkV_rule hr hd hl]
        refine .inr ⟨ruleL_ne hl, ?_⟩
        rcases ruleL_take p.decls p.rules i with h | h
        · rw [checkV_ok (p := ⟨p.decls, p.rules.take i⟩) h1 hd h]; exact .inl rfl
        · rw [checkV_rule (p := ⟨p.decls, p.rules.take i⟩) h1 hd (h.trans hl)]; exact .inr (.inr rfl)
      | none =>
        have h3 : ruleL p.decls (p.rules.take i) = none := by
          rcases ruleL_take p.decls p.rules i with h | h
          · exact h
          · rw [h, hl]
        have h4 : ruleL p.decls [p.rules[i]] = none := by
          rw [ruleL, if_neg (Decidable.not_not.2 (ruleL_all hl _ (List.getElem_mem hi)))]; rfl
        rw [checkV_ok hr hd hl, checkV_ok (p := ⟨p.decls, p.rules.take i⟩) h1 hd h3, checkV_ok (p := ⟨p.decls, [p.rules[i]]⟩) h2 hd h4]
        exact .inl ⟨rfl, rfl, rfl⟩
theorem dtypeParts_ok (p : Pr) (i : Int) (R : List En) (b o : Nat) (e : Es) (hE0 : En.glob 0 [errE b o] ∈ R) (hEs : EsIn e R) : ACall Tryd.prog 8 [encP p, .int .i64 i] R (fun v S => v = .bool true ∧ S = R) := by
  refine ACall_sat fun hs => ?_
  have hP := okP_of p (hs _ (.head _))
  have ks := fun R => small_ok p R hP
  have kh := fun R h0 hE => shown_ok b o e R h0 hE
  by_cases hb : smallB p = true
  rotate_left
  · rw [smallI_0 (by simpa using hb)] at ks
    refine ACall_body tab_ok Tryd.func8 rfl rfl rfl (by kernel_rfl) (Nat.le_of_ble_eq_true rfl) ?_
    repeat (first | refine go_ ?_ | intro _)
    rename_i q
    refine Or.inl ⟨⟨_, Tryd.func9, rfl, rfl⟩, ACall.mono ?_ (kh _ (.tail _ hE0) hEs.cons)⟩
    rintro _ S1 ⟨rfl, hS1⟩
    subst S1
    repeat (first | refine go_ ?_ | intro _)
    refine Or.inl ⟨⟨_, Tryd.func20, rfl, rfl⟩, ACall.mono ?_ (ks _)⟩
    rintro _ S1 ⟨rfl, hS1⟩
    subst S1
    repeat (first | refine ga_ ?_ | intro _)
    refine AW_ret ?_
    repeat (first | refine ⟨0, rfl, ?_⟩ | refine ⟨1, rfl, ?_⟩ | refine ⟨2, rfl, ?_⟩ | refine ⟨3, rfl, ?_⟩ | refine ⟨4, rfl, ?_⟩ | refine ⟨5, rfl, ?_⟩ | refine ⟨6, rfl, ?_⟩)
    refine ⟨_, R, AVle.eq ?_, (by repeat (first | exact SLe.rfl | refine SLe.tail ?_)), rfl, rfl⟩
    rfl
  obtain ⟨hf, hd, hr⟩ := few_of hb
  rw [smallI_1 hb] at ks
  by_cases h0 : i < 0
  · refine ACall_body tab_ok Tryd.func8 rfl rfl rfl (by kernel_rfl) (Nat.le_of_ble_eq_true rfl) ?_
    repeat (first | refine go_ ?_ | intro _)
    rename_i q
    refine Or.inl ⟨⟨_, Tryd.func9, rfl, rfl⟩, ACall.mono ?_ (kh _ (.tail _ hE0) hEs.cons)⟩
    rintro _ S1 ⟨rfl, hS1⟩
    subst S1
    repeat (first | refine go_ ?_ | intro _)
    refine Or.inl ⟨⟨_, Tryd.func20, rfl, rfl⟩, ACall.mono ?_ (ks _)⟩
    rintro _ S1 ⟨rfl, hS1⟩
    subst S1
    repeat (first | refine ga_ ?_ | intro _)
    refine known_true (b := decide (i < 0)) (by exact decide_eq_true h0) ?_
    repeat (first | refine ga_ ?_ | intro _)
    refine AW_ret ?_
    repeat (first | refine ⟨0, rfl, ?_⟩ | refine ⟨1, rfl, ?_⟩ | refine ⟨2, rfl, ?_⟩ | refine ⟨3, rfl, ?_⟩ | refine ⟨4, rfl, ?_⟩ | refine ⟨5, rfl, ?_⟩ | refine ⟨6, rfl, ?_⟩)
    refine ⟨_, R, AVle.eq ?_, (by repeat (first | exact SLe.rfl | refine SLe.tail ?_)), rfl, rfl⟩
    rfl
  obtain ⟨j, rfl⟩ : ∃ j : Nat, i = (j : Int) := ⟨i.toNat, by omega⟩
  by_cases h1 : p.rules.length ≤ j
  · refine ACall_body tab_ok Tryd.func8 rfl rfl rfl (by kernel_rfl) (Nat.le_of_ble_eq_true rfl) ?_
    repeat (first | refine go_ ?_ | intro _)
    rename_i q
    refine Or.inl ⟨⟨_, Tryd.func9, rfl, rfl⟩, ACall.mono ?_ (kh _ (.tail _ hE0) hEs.cons)⟩
    rintro _ S1 ⟨rfl, hS1⟩
    subst S1
    repeat (first | refine go_ ?_ | intro _)
    refine Or.inl ⟨⟨_, Tryd.func20, rfl, rfl⟩, ACall.mono ?_ (ks _)⟩
    rintro _ S1 ⟨rfl, hS1⟩
    subst S1
    repeat (first | refine ga_ ?_ | intro _)
    refine AW_true (b := decide (((p.rules.map encRu).length : Int) ≤ (j : Int))) rfl (by exact decide_eq_true (by simp; omega)) ?_
    repeat (first | refine ga_ ?_ | intro _)
    refine AW_ret ?_
    repeat (first | refine ⟨0, rfl, ?_⟩ | refine ⟨1, rfl, ?_⟩ | refine ⟨2, rfl, ?_⟩ | refine ⟨3, rfl, ?_⟩ | refine ⟨4, rfl, ?_⟩ | refine ⟨5, rfl, ?_⟩ | refine ⟨6, rfl, ?_⟩)
    refine ⟨_, R, AVle.eq ?_, (by repeat (first | exact SLe.rfl | refine SLe.tail ?_)), rfl, rfl⟩
    rfl
  have hlt : j < p.rules.length := by omega
  have hL := parts_law hlt
  have hmt : ∀ r ∈ p.rules.take j, r ∈ p.rules := fun r h => List.mem_of_mem_take h
  have hm1 : ∀ r ∈ [p.rules[j]], r ∈ p.rules := fun r h => by rw [List.mem_singleton.1 h]; exact List.getElem_mem hlt
  have k0 := fun R h0 hE => check_ok b o e p R h0 hE hd hr hf
  have k1 := fun R h0 hE => check_ok b o e ⟨p.decls, p.rules.take j⟩ R h0 hE hd (by show (p.rules.take j).length ≤ 300; rw [List.length_take]; omega) (fun r h => hf r (hmt r h))
  have k2 := fun R h0 hE => check_ok b o e ⟨p.decls, [p.rules[j]]⟩ R h0 hE hd (by show 1 ≤ 300; omega) (fun r h => hf r (hm1 r h))
  obtain ⟨x, hx⟩ : ∃ x, x = checkV p := ⟨_, rfl⟩
  obtain ⟨y, hy⟩ : ∃ x, x = checkV ⟨p.decls, p.rules.take j⟩ := ⟨_, rfl⟩
  obtain ⟨z, hz⟩ : ∃ x, x = checkV ⟨p.decls, [p.rules[j]]⟩ := ⟨_, rfl⟩
  rw [← hx, ← hy, ← hz] at hL
  rw [← hx] at k0
  rw [← hy] at k1
  rw [← hz] at k2
  obtain ⟨l, c⟩ := x
  obtain ⟨l1, c1⟩ := y
  obtain ⟨l2, c2⟩ := z
  unfold checkA at k0 k1 k2
  simp only [] at hL k0 k1 k2
  refine ACall_body tab_ok Tryd.func8 rfl rfl rfl (by kernel_rfl) (Nat.le_of_ble_eq_true rfl) ?_
  repeat (first | refine go_ ?_ | intro _)
  rename_i q
  refine Or.inl ⟨⟨_, Tryd.func9, rfl, rfl⟩, ACall.mono ?_ (kh _ (.tail _ hE0) hEs.cons)⟩
  rintro _ S1 ⟨rfl, hS1⟩
  subst S1
  repeat (first | refine go_ ?_ | intro _)
  refine Or.inl ⟨⟨_, Tryd.func20, rfl, rfl⟩, ACall.mono ?_ (ks _)⟩
  rintro _ S1 ⟨rfl, hS1⟩
  subst S1
  repeat (first | refine ga_ ?_ | intro _)
  refine AW_false (b := decide (((p.rules.map encRu).length : Int) ≤ (j : Int))) rfl (by exact decide_eq_false (by simp; omega)) ?_
  repeat (first | refine ga_ ?_ | intro _)
  refine Or.inl ⟨⟨_, Tryd.func21, rfl, rfl⟩, ACall.mono ?_ (k0 _ (.tail _ hE0) hEs.cons)⟩
  rintro _ S1 ⟨rfl, hS1⟩
  subst S1
  repeat (first | refine ga_ ?_ | intro _)
  refine AW_weak (weak_of (l := [(1, .int .i64 (j : Int)), (2, .ptr q 0), (5, .bool true), (7, .int .i64 c)]) (m := []) (S' := .cells q [.sl 6 (p.decls.map encD) .no, .sl 4 (p.rules.map encRu) .no] :: R) ?_ rfl ?_) ?_
  · repeat (first | exact trivial | refine ⟨AVle.refl _, ?_⟩ | refine ⟨AVle.tk, ?_⟩ | refine ⟨AVle.nil, ?_⟩ | refine ⟨AVle.nilFull, ?_⟩ | refine ⟨AVle.eq (congrArg (AV.int .i64) (by first | (simp; done) | (simp; omega) | (rw [wrap_i64 (by first | omega | (simp; omega))]; first | rfl | omega | (simp; done) | (simp; omega)))), ?_⟩)
  · refine SW.le ?_
    repeat (first | exact SW.nil | refine SW.cons ?_ | refine SW.cells (by repeat (first | exact trivial | refine ⟨AVle.refl _, ?_⟩ | refine ⟨AVle.nilFull, ?_⟩ | refine ⟨AVle.tk, ?_⟩ | refine ⟨AVle.nil, ?_⟩)) rfl ?_ | refine SW.full ?_ | refine SW.drop ?_)
  refine AW_draw tab_ok mixed 13 (by first | rfl | kernel_rfl) ?_
  repeat (first | refine ga_ ?_ | intro _)
  refine ⟨.inl rfl, (by simp), at_slice (0) (j) (by first | rfl | (rw [wrap_i64 (by first | omega | (simp; omega))]; first | rfl | omega | (simp; done) | (simp; omega)) | (show IntKind.i64.wrap _ = _; rw [wrap_i64 (by first | omega | (simp; omega))]; first | rfl | omega | (simp; done) | (simp; omega)) | (show ((List.length _ : Nat) : Int) = _; simp; done) | (simp; omega)) (by first | rfl | (rw [wrap_i64 (by first | omega | (simp; omega))]; first | rfl | omega | (simp; done) | (simp; omega)) | (show IntKind.i64.wrap _ = _; rw [wrap_i64 (by first | omega | (simp; omega))]; first | rfl | omega | (simp; done) | (simp; omega)) | (show ((List.length _ : Nat) : Int) = _; simp; done) | (simp; omega)) (by omega) (by first | omega | (simp; done) | (simp; omega)) (by simp) ((p.rules.take j).map encRu) ((by simp [List.map_take])) ?_⟩
  repeat (first | refine ga_ ?_ | intro _)
  apply call_step
  · rfl
  · exact Or.inl ⟨⟨_, Tryd.func21, rfl, rfl⟩, ACall_args (k1 _ (.tail _ hE0) hEs.cons) ⟨AVle.agg (bs := [.sl 6 (p.decls.map encD) .no, .sl 4 ((p.rules.take j).map encRu) .no]) ⟨AVle.refl _, AVle.tk, trivial⟩ (by simp [AV.one]), trivial⟩⟩
  repeat (first | refine ga_ ?_ | intro _)
  refine AW_weak (weak_of (l := [(1, .int .i64 (j : Int)), (2, .ptr q 0), (5, .bool true), (7, .int .i64 c), (9, .int .i64 c1)]) (m := []) (S' := .cells q [.sl 6 (p.decls.map encD) .no, .sl 4 (p.rules.map encRu) .no] :: R) ?_ rfl ?_) ?_
  · repeat (first | exact trivial | refine ⟨AVle.refl _, ?_⟩ | refine ⟨AVle.tk, ?_⟩ | refine ⟨AVle.nil, ?_⟩ | refine ⟨AVle.nilFull, ?_⟩ | refine ⟨AVle.eq (congrArg (AV.int .i64) (by first | (simp; done) | (simp; omega) | (rw [wrap_i64 (by first | omega | (simp; omega))]; first | rfl | omega | (simp; done) | (simp; omega)))), ?_⟩)
  · refine SW.le ?_
    repeat (first | exact SW.nil | refine SW.cons ?_ | refine SW.cells (by repeat (first | exact trivial | refine ⟨AVle.refl _, ?_⟩ | refine ⟨AVle.nilFull, ?_⟩ | refine ⟨AVle.tk, ?_⟩ | refine ⟨AVle.nil, ?_⟩)) rfl ?_ | refine SW.full ?_ | refine SW.drop ?_)
  refine AW_draw tab_ok mixed 15 (by first | rfl | kernel_rfl) ?_
  repeat (first | refine ga_ ?_ | intro _)
  refine ⟨.inl rfl, (by simp), at_slice (j) (j + 1) (by first | rfl | (rw [wrap_i64 (by first | omega | (simp; omega))]; first | rfl | omega | (simp; done) | (simp; omega)) | (show IntKind.i64.wrap _ = _; rw [wrap_i64 (by first | omega | (simp; omega))]; first | rfl | omega | (simp; done) | (simp; omega)) | (show ((List.length _ : Nat) : Int) = _; simp; done) | (simp; omega)) (by first | rfl | (rw [wrap_i64 (by first | omega | (simp; omega))]; first | rfl | omega | (simp; done) | (simp; omega)) | (show IntKind.i64.wrap _ = _; rw [wrap_i64 (by first | omega | (simp; omega))]; first | rfl | omega | (simp; done) | (simp; omega)) | (show ((List.length _ : Nat) : Int) = _; simp; done) | (simp; omega)) (by omega) (by first | omega | (simp; done) | (simp; omega)) (by simp) ([p.rules[j]].map encRu) ((by rw [← List.map_take, ← List.map_drop]; congr 1; rw [List.take_succ_eq_append_getElem hlt, List.drop_append_of_le_length (by simp; omega), List.drop_eq_nil_of_le (by simp; omega)]; rfl)) ?_⟩
  repeat (first | refine ga_ ?_ | intro _)
  apply call_step
  · rfl
  · exact Or.inl ⟨⟨_, Tryd.func21, rfl, rfl⟩, ACall_args (k2 _ (.tail _ hE0) hEs.cons) ⟨AVle.agg (bs := [.sl 6 (p.decls.map encD) .no, .sl 4 ([p.rules[j]].map encRu) .no]) ⟨AVle.refl _, AVle.tk, trivial⟩ (by simp [AV.one]), trivial⟩⟩
  repeat (first | refine ga_ ?_ | intro _)
  rcases hL with ⟨rfl, rfl, rfl⟩ | ⟨hc, hL⟩
  · repeat (first | refine ga_ ?_ | intro _)
    refine AW_ret ?_
    repeat (first | refine ⟨0, rfl, ?_⟩ | refine ⟨1, rfl, ?_⟩ | refine ⟨2, rfl, ?_⟩ | refine ⟨3, rfl, ?_⟩ | refine ⟨4, rfl, ?_⟩ | refine ⟨5, rfl, ?_⟩ | refine ⟨6, rfl, ?_⟩)
    refine ⟨_, R, AVle.eq ?_, (by repeat (first | exact SLe.rfl | refine SLe.tail ?_)), rfl, rfl⟩
    rfl
  by_cases e1 : c1 = 0
  · subst e1
    refine AW_false (b := decide (c = 0)) rfl (by exact decide_eq_false hc) ?_
    repeat (first | refine ga_ ?_ | intro _)
    refine AW_ret ?_
    repeat (first | refine ⟨0, rfl, ?_⟩ | refine ⟨1, rfl, ?_⟩ | refine ⟨2, rfl, ?_⟩ | refine ⟨3, rfl, ?_⟩ | refine ⟨4, rfl, ?_⟩ | refine ⟨5, rfl, ?_⟩ | refine ⟨6, rfl, ?_⟩)
    refine ⟨_, R, AVle.eq ?_, (by repeat (first | exact SLe.rfl | refine SLe.tail ?_)), rfl, rfl⟩
    rfl
  by_cases e2 : c = 30
  · subst e2
    repeat (first | refine ga_ ?_ | intro _)
    refine known_false (b := decide (c1 = 0)) (by exact decide_eq_false e1) ?_
    repeat (first | refine ga_ ?_ | intro _)
    refine AW_ret ?_
    repeat (first | refine ⟨0, rfl, ?_⟩ | refine ⟨1, rfl, ?_⟩ | refine ⟨2, rfl, ?_⟩ | refine ⟨3, rfl, ?_⟩ | refine ⟨4, rfl, ?_⟩ | refine ⟨5, rfl, ?_⟩ | refine ⟨6, rfl, ?_⟩)
    refine ⟨_, R, AVle.eq ?_, (by repeat (first | exact SLe.rfl | refine SLe.tail ?_)), rfl, rfl⟩
    rfl
  obtain rfl : c1 = c := by rcases hL with h | h | h; exact absurd h e1; exact absurd h e2; exact h
  refine AW_false (b := decide (c1 = 0)) rfl (by exact decide_eq_false hc) ?_
  repeat (first | refine ga_ ?_ | intro _)
  refine known_false (b := decide (c1 = 0)) (by exact decide_eq_false e1) ?_
  repeat (first | refine ga_ ?_ | intro _)
  refine known_false (b := decide (c1 = 30)) (by exact decide_eq_false e2) ?_
  repeat (first | refine ga_ ?_ | intro _)
  refine AW_ret ?_
  repeat (first | refine ⟨0, rfl, ?_⟩ | refine ⟨1, rfl, ?_⟩ | refine ⟨2, rfl, ?_⟩ | refine ⟨3, rfl, ?_⟩ | refine ⟨4, rfl, ?_⟩ | refine ⟨5, rfl, ?_⟩ | refine ⟨6, rfl, ?_⟩)
  refine ⟨_, R, AVle.eq ?_, (by repeat (first | exact SLe.rfl | refine SLe.tail ?_)), rfl, rfl⟩
  exact congrArg AV.bool (by simp)
end Go.Proofs.YtkmalncnaodkiaaDoor
