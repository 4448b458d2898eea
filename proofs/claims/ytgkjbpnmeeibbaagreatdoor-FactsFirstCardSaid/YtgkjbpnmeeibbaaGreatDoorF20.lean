/-
  FactsFirst: the walk. Own work.
-/
import Derived.Test.YtgkjbpnmeeibbaaGreatDoorQ18
set_option linter.all false
namespace Go.Proofs.YtgkjbpnmeeibbaaGreatDoor
open Go.Aw Go.RowKit Tree
set_option maxHeartbeats 4000000
set_option maxRecDepth 4000
open Rel (V encV encR foldPut Cl riseB)

/-! ### the first line that is none -/
theorem first_plain (p : Pr) (s t : List UInt8) : (((resX p (s ++ [10])).2.2 = 0 ∨ (resX p (s ++ [10])).2.2 = 30) → (resX p ((s ++ [10]) ++ t)).2.2 = 0 ∨ (resX p ((s ++ [10]) ++ t)).2.2 = 30 ∨ (((s ++ [10]).count 10 : Nat) : Int) < (resX p ((s ++ [10]) ++ t)).2.1) ∧
    ((resX p (s ++ [10])).2.2 ≠ 0 → (resX p (s ++ [10])).2.2 ≠ 30 → (resX p (s ++ [10])).2.1 = (resX p ((s ++ [10]) ++ t)).2.1 ∧ (resX p (s ++ [10])).2.2 = (resX p ((s ++ [10]) ++ t)).2.2 ∧ 1 ≤ (resX p (s ++ [10])).2.1 ∧ (resX p (s ++ [10])).2.1 ≤ (((s ++ [10]).count 10 : Nat) : Int)) := by
  by_cases hr : rightP p = true
  rotate_left
  · have hr : rightP p = false := by simpa using hr
    simp only [resX_no hr]
    exact ⟨fun _ => by simp, fun _ h => by simp at h⟩
  have hes : EndsL (s ++ [10]) := .inr ⟨s, rfl⟩
  have hn : (linesL (s ++ [10])).length = (s ++ [10]).count 10 := by rw [(ends_all _ s (Nat.le_refl _)).2, List.count_append]; rfl
  simp only [resX_fault hr, fault_app hes]
  cases hf1 : faultX p (s ++ [10]) with
  | some y =>
    obtain ⟨h1, h2, _⟩ := firstX_some hf1
    refine ⟨fun h => ?_, fun _ _ => ⟨rfl, rfl, ?_, ?_⟩⟩
    · rcases h with h | h
      · exact absurd h h1
      · exact .inr (.inl h)
    · show (1 : Int) ≤ ((y.1 + 1 : Nat) : Int); omega
    · show ((y.1 + 1 : Nat) : Int) ≤ _; omega
  | none =>
    refine ⟨fun _ => ?_, fun h => absurd rfl h⟩
    cases hf2 : faultX p t with
    | none => exact .inl rfl
    | some y =>
      refine .inr (.inr ?_)
      show _ < (((y.1 + (linesL (s ++ [10])).length) + 1 : Nat) : Int)
      omega
theorem count_step {s : List UInt8} {z : Nat} (h : z < s.length) : (s.take (z + 1)).count 10 = (s.take z).count 10 + if s[z] = 10 then 1 else 0 := by
  rw [List.take_succ_eq_append_getElem h, List.count_append, List.count_singleton]
  by_cases hc : s[z] = 10
  · rw [if_pos hc, hc]; rfl
  · rw [if_neg hc, if_neg (by simpa using hc)]
theorem factsFirst_ok (p : Pr) (s t : List UInt8) (R : List En) (hG : FactG R) : ACall Tryz.prog 5 [encP p, .str s, .str t] R (fun r S => r = .bool true ∧ S = R) := by
  refine ACall_sat fun hs => ?_
  have hs := hs _ (.head _)
  have ks := fun R => small_ok p R (okP_of p hs)
  by_cases hb : smallB p = true
  rotate_left
  · rw [smallI_0 (by simpa using hb)] at ks
    refine ACall_body tab_ok Tryz.func5 rfl rfl rfl (by kernel_rfl) (Nat.le_of_ble_eq_true rfl) ?_
    repeat (first | refine go_ ?_ | intro _)
    refine Or.inl ⟨⟨_, Tryz.func10, rfl, rfl⟩, ACall.mono ?_ (shown_ok _ hG.cons)⟩
    rintro _ S1 ⟨rfl, hS1⟩
    subst S1
    repeat (first | refine go_ ?_ | intro _)
    refine Or.inl ⟨⟨_, Tryz.func11, rfl, rfl⟩, ACall.mono ?_ (ks _)⟩
    rintro _ S1 ⟨rfl, hS1⟩
    subst S1
    repeat (first | refine ga_ ?_ | intro _)
    refine AW_ret ?_
    repeat refine mk_ ?_
    refine ⟨_, R, AVle.eq ?_, sle_, rfl, rfl⟩
    rfl
  rw [smallI_1 hb] at ks
  have hok := small_R hb (nP_of p hs)
  have htk := take_le s 1000
  have hpl := first_plain p (s.take 1000) (t.take 1000)
  obtain ⟨s', hs'⟩ : ∃ x, x = s.take 1000 ++ [10] := ⟨_, rfl⟩
  obtain ⟨t', ht'⟩ : ∃ x, x = t.take 1000 := ⟨_, rfl⟩
  rw [← hs', ← ht'] at hpl
  have hsl : s'.length ≤ 1001 := by rw [hs', List.length_append]; simp only [List.length_cons, List.length_nil]; omega
  have htl : t'.length ≤ 1000 := ht' ▸ take_le t 1000
  have hst : (s' ++ t').length ≤ 2001 := by rw [List.length_append]; omega
  have k1 := fun R hG => readP_ok p s' R hG (by omega) hok
  have k3 := fun R hG => readP_ok p (s' ++ t') R hG (by omega) hok
  obtain ⟨x1, hx1⟩ : ∃ x, x = resX p s' := ⟨_, rfl⟩
  obtain ⟨x3, hx3⟩ : ∃ x, x = resX p (s' ++ t') := ⟨_, rfl⟩
  rw [← hx1] at k1 hpl
  rw [← hx3] at k3 hpl
  obtain ⟨l1, i, e⟩ := x1
  obtain ⟨l3, k, f⟩ := x3
  obtain ⟨q1, q2⟩ := hpl
  simp only [] at q1 q2
  refine ACall_body tab_ok Tryz.func5 rfl rfl rfl (by kernel_rfl) (Nat.le_of_ble_eq_true rfl) ?_
  repeat (first | refine go_ ?_ | intro _)
  rename_i b3
  refine Or.inl ⟨⟨_, Tryz.func10, rfl, rfl⟩, ACall.mono ?_ (shown_ok _ hG.cons)⟩
  rintro _ S1 ⟨rfl, hS1⟩
  subst S1
  repeat (first | refine go_ ?_ | intro _)
  refine Or.inl ⟨⟨_, Tryz.func11, rfl, rfl⟩, ACall.mono ?_ (ks _)⟩
  rintro _ S1 ⟨rfl, hS1⟩
  subst S1
  repeat (first | refine ga_ ?_ | intro _)
  refine at_ss 0 (min s.length 1000) (s.take 1000) rfl (by show min (s.length : Int) 1000 = _; omega) (by omega) (by omega) (by rw [List.drop_zero, List.take_eq_take_iff]; omega) ?_
  repeat (first | refine ga_ ?_ | intro _)
  refine cat_ ?_ (by show (s.take 1000).length + 1 ≤ _; omega)
  repeat (first | refine ga_ ?_ | intro _)
  refine at_ss 0 (min t.length 1000) (t.take 1000) rfl (by show min (t.length : Int) 1000 = _; omega) (by omega) (by omega) (by rw [List.drop_zero, List.take_eq_take_iff]; omega) ?_
  repeat (first | refine det_step rfl ?_ | refine ⟨rfl, ?_⟩ | refine ⟨⟨_, rfl⟩, ?_⟩ | refine ⟨⟨_, rfl, rfl⟩, ?_⟩ | refine ⟨⟨rfl, rfl⟩, ?_⟩ | refine ⟨⟨Nat.le_of_ble_eq_true rfl, Nat.le_of_ble_eq_true rfl⟩, ?_⟩ | refine ⟨Nat.le_of_ble_eq_true rfl, ?_⟩ | refine ⟨_, _, rfl, ?_⟩ | refine ⟨0, _, rfl, ?_⟩ | refine ⟨1, _, rfl, ?_⟩ | refine ⟨2, _, rfl, ?_⟩ | refine ⟨3, _, rfl, ?_⟩ | refine ⟨4, _, rfl, ?_⟩ | refine ⟨5, _, rfl, ?_⟩ | refine ⟨_, rfl, ?_⟩ | intro _)
  rw [← hs', ← ht']
  refine AW_weak (weak_of (l := [(1, .str s'), (2, .str t'), (3, .ptr b3 0), (7, .bool true)]) (m := []) (S' := .cells b3 [.sl 6 (p.decls.map encD) .no, .sl 4 (p.rules.map encRu) .no] :: R) ?_ rfl ?_) ?_
  · repeat (first | exact trivial | refine env_ ?_)
  · refine SW.le ?_
    repeat (first | exact SW.nil | refine sw_ ?_)
  repeat (first | refine ga_ ?_ | intro _)
  refine Or.inl ⟨⟨_, Tryz.func13, rfl, rfl⟩, ACall.mono ?_ (k1 _ hG.cons)⟩
  rintro _ S1 ⟨rfl, hS1⟩
  subst S1
  repeat (first | refine det_step rfl ?_ | refine ⟨rfl, ?_⟩ | refine ⟨⟨_, rfl⟩, ?_⟩ | refine ⟨⟨_, rfl, rfl⟩, ?_⟩ | refine ⟨⟨rfl, rfl⟩, ?_⟩ | refine ⟨⟨Nat.le_of_ble_eq_true rfl, Nat.le_of_ble_eq_true rfl⟩, ?_⟩ | refine ⟨Nat.le_of_ble_eq_true rfl, ?_⟩ | refine ⟨_, _, rfl, ?_⟩ | refine ⟨0, _, rfl, ?_⟩ | refine ⟨1, _, rfl, ?_⟩ | refine ⟨2, _, rfl, ?_⟩ | refine ⟨3, _, rfl, ?_⟩ | refine ⟨4, _, rfl, ?_⟩ | refine ⟨5, _, rfl, ?_⟩ | refine ⟨_, rfl, ?_⟩ | intro _)
  refine AW_weak (weak_of (l := [(1, .str s'), (2, .str t'), (3, .ptr b3 0), (7, .bool true), (9, .int .i64 i), (10, .int .i64 e)]) (m := []) (S' := .cells b3 [.sl 6 (p.decls.map encD) .no, .sl 4 (p.rules.map encRu) .no] :: R) ?_ rfl ?_) ?_
  · repeat (first | exact trivial | refine env_ ?_)
  · refine SW.le ?_
    repeat (first | exact SW.nil | refine sw_ ?_)
  repeat (first | refine ga_ ?_ | intro _)
  refine cat_ ?_
  repeat (first | refine ga_ ?_ | intro _)
  refine Or.inl ⟨⟨_, Tryz.func13, rfl, rfl⟩, ACall.mono ?_ (k3 _ hG.cons)⟩
  rintro _ S1 ⟨rfl, hS1⟩
  subst S1
  repeat (first | refine ga_ ?_ | intro _)
  refine AW_for (α := Nat) (fun z => ⟨[(1, .str s'), (7, .bool true), (9, .int .i64 i), (10, .int .i64 e), (12, .int .i64 k), (13, .int .i64 f), (14, .int .i64 ((s'.take z).count 10 : Nat)), (15, .int .i64 (z : Nat))], []⟩) (fun z => R) (fun z => s'.length - z) (fun z => z ≤ s'.length) (0) ?_ (weak_of ?_ rfl ?_) (fun z hz => ?_)
  · exact Nat.zero_le _
  · repeat (first | exact trivial | refine env_ ?_)
  · repeat (first | exact SLe.rfl | refine SLe.tail ?_ | refine SLe.full ?_)
  have hcz : (s'.take z).count 10 ≤ s'.length := Nat.le_trans List.count_le_length (by rw [List.length_take]; omega)
  repeat (first | refine go_ ?_ | intro _)
  refine AW_iff (z < s'.length) rfl (by first | (simp; done) | (simp <;> omega) | decide) (fun h => ?_) (fun h => ?_)
  · have hlt := h
    have hst := count_step hlt
    repeat (first | refine go_ ?_ | intro _)
    refine at_list z rfl hlt ?_
    repeat (first | refine go_ ?_ | intro _)
    refine AW_iff (s'[z] = 10) rfl (by rw [decide_eq_true_eq]; exact ⟨fun h => UInt8.toNat_inj.1 (by show s'[z].toNat = 10; omega), fun h => by rw [h]; rfl⟩) (fun h => ?_) (fun h => ?_)
    · rw [if_pos h] at hst
      repeat (first | refine go_ ?_ | intro _)
      refine ⟨z + 1, ?_, ?_, weak_of ?_ rfl ?_⟩
      · omega
      · omega
      · repeat (first | exact trivial | refine ⟨(AVle.eq (congrArg (AV.int .i64) (show IntKind.i64.wrap (((s'.take z).count 10 : Nat) + 1 : Int) = (((s'.take (z + 1)).count 10 : Nat) : Int) by rw [hst, wrap_i64 (by omega)]; rfl))), ?_⟩ | refine env_ ?_)
      · repeat (first | exact SLe.rfl | refine SLe.tail ?_ | refine SLe.full ?_)
    · rw [if_neg h, Nat.add_zero] at hst
      repeat (first | refine go_ ?_ | intro _)
      refine ⟨z + 1, ?_, ?_, weak_of ?_ rfl ?_⟩
      · omega
      · omega
      · repeat (first | exact trivial | refine ⟨(AVle.eq (congrArg (fun n : Nat => AV.int .i64 (n : Int)) hst.symm)), ?_⟩ | refine env_ ?_)
      · repeat (first | exact SLe.rfl | refine SLe.tail ?_ | refine SLe.full ?_)
  · have hz' : z = s'.length := by omega
    rw [hz', List.take_length]
    repeat (first | refine go_ ?_ | intro _)
    by_cases he : e = 0
    · refine known_true (b := decide (e = 0)) (by exact decide_eq_true he) ?_
      repeat (first | refine ga_ ?_ | intro _)
      by_cases hf : f = 0
      · refine known_true (b := decide (f = 0)) (by exact decide_eq_true hf) ?_
        repeat (first | refine ga_ ?_ | intro _)
        refine AW_ret ?_
        repeat refine mk_ ?_
        refine ⟨_, R, AVle.eq ?_, sle_, rfl, rfl⟩
        rfl
      · refine known_false (b := decide (f = 0)) (by exact decide_eq_false hf) ?_
        repeat (first | refine ga_ ?_ | intro _)
        by_cases hf3 : f = 30
        · refine known_true (b := decide (f = 30)) (by exact decide_eq_true hf3) ?_
          repeat (first | refine ga_ ?_ | intro _)
          refine AW_ret ?_
          repeat refine mk_ ?_
          refine ⟨_, R, AVle.eq ?_, sle_, rfl, rfl⟩
          rfl
        · have hk : ((s'.count 10 : Nat) : Int) < k := by
            rcases q1 (.inl he) with h | h | h
            · exact absurd h hf
            · exact absurd h hf3
            · exact h
          refine known_false (b := decide (f = 30)) (by exact decide_eq_false hf3) ?_
          repeat (first | refine ga_ ?_ | intro _)
          refine AW_ret ?_
          repeat refine mk_ ?_
          refine ⟨_, R, AVle.eq ?_, sle_, rfl, rfl⟩
          exact congrArg AV.bool (decide_eq_true hk)
    · refine known_false (b := decide (e = 0)) (by exact decide_eq_false he) ?_
      repeat (first | refine ga_ ?_ | intro _)
      by_cases he3 : e = 30
      · refine AW_true (b := decide (e = 30)) rfl (by exact decide_eq_true he3) ?_
        repeat (first | refine ga_ ?_ | intro _)
        by_cases hf : f = 0
        · refine known_true (b := decide (f = 0)) (by exact decide_eq_true hf) ?_
          repeat (first | refine ga_ ?_ | intro _)
          refine AW_ret ?_
          repeat refine mk_ ?_
          refine ⟨_, R, AVle.eq ?_, sle_, rfl, rfl⟩
          rfl
        · refine known_false (b := decide (f = 0)) (by exact decide_eq_false hf) ?_
          repeat (first | refine ga_ ?_ | intro _)
          by_cases hf3 : f = 30
          · refine known_true (b := decide (f = 30)) (by exact decide_eq_true hf3) ?_
            repeat (first | refine ga_ ?_ | intro _)
            refine AW_ret ?_
            repeat refine mk_ ?_
            refine ⟨_, R, AVle.eq ?_, sle_, rfl, rfl⟩
            rfl
          · have hk : ((s'.count 10 : Nat) : Int) < k := by
              rcases q1 (.inr he3) with h | h | h
              · exact absurd h hf
              · exact absurd h hf3
              · exact h
            refine known_false (b := decide (f = 30)) (by exact decide_eq_false hf3) ?_
            repeat (first | refine ga_ ?_ | intro _)
            refine AW_ret ?_
            repeat refine mk_ ?_
            refine ⟨_, R, AVle.eq ?_, sle_, rfl, rfl⟩
            exact congrArg AV.bool (decide_eq_true hk)
      · obtain ⟨r1, r2, r3, r4⟩ := q2 he he3
        refine AW_false (b := decide (e = 30)) rfl (by exact decide_eq_false he3) ?_
        repeat (first | refine ga_ ?_ | intro _)
        refine known_true (b := decide (i = k)) (by exact decide_eq_true r1) ?_
        repeat (first | refine ga_ ?_ | intro _)
        refine known_true (b := decide (e = f)) (by exact decide_eq_true r2) ?_
        repeat (first | refine ga_ ?_ | intro _)
        refine known_true (b := decide (1 ≤ i)) (by exact decide_eq_true r3) ?_
        repeat (first | refine ga_ ?_ | intro _)
        refine AW_ret ?_
        repeat refine mk_ ?_
        refine ⟨_, R, AVle.eq ?_, sle_, rfl, rfl⟩
        exact congrArg AV.bool (decide_eq_true r4)
end Go.Proofs.YtgkjbpnmeeibbaaGreatDoor
