/-
  FactsMoves, FactsFirst: the walks. Own work.
-/
import Derived.Test.YtgkjbpnmeeibbaaGreatDoorQ18
set_option linter.all false
namespace Go.Proofs.YtgkjbpnmeeibbaaGreatDoor
open Go.Aw Go.RowKit Tree
set_option maxHeartbeats 4000000
set_option maxRecDepth 4000
open Rel (V encV encR foldPut Cl riseB)

theorem moves_plain (p : Pr) (s t : List UInt8) : ((resX p s).2.2 ≠ 0 → (resX p s).2.2 = 92 ∨ ((resX p ((t ++ s) ++ t)).2.2 ≠ 0 ∧ (resX p (s ++ t)).2.2 = (resX p s).2.2)) ∧
    ((resX p s).2.2 = 0 → (resX p t).2.2 = 0 → (resX p (s ++ t)).2.2 = 0 ∧ (resX p ((t ++ s) ++ t)).2.2 = 0 ∧ (resX p (s ++ t)).2.1 = 0 ∧ (resX p ((t ++ s) ++ t)).2.1 = 0 ∧ (resX p (s ++ t)).1 = (resX p ((t ++ s) ++ t)).1) := by
  by_cases hr : rightP p = true
  rotate_left
  · have hr : rightP p = false := by simpa using hr
    simp only [resX_no hr]
    exact ⟨fun _ => by simp, fun h => by simp at h⟩
  simp only [resX_fault hr]
  cases hf1 : faultX p s with
  | some y =>
    have hc0 : y.2 ≠ 0 := (firstX_some hf1).1
    refine ⟨fun _ => ?_, fun h => absurd h hc0⟩
    by_cases h92 : y.2 = 92
    · exact .inl h92
    · have h3 := fault_row hf1 h92 t
      have h4 : faultX p ((t ++ s) ++ t) ≠ none := by rw [List.append_assoc]; exact fault_in hf1 h92 t
      rw [h3]
      cases hf4 : faultX p ((t ++ s) ++ t) with
      | none => exact absurd hf4 h4
      | some y4 => exact .inr ⟨(firstX_some hf4).1, rfl⟩
  | none =>
    refine ⟨fun h => absurd rfl h, fun _ => ?_⟩
    cases hf2 : faultX p t with
    | some y => exact fun h => absurd h (firstX_some hf2).1
    | none =>
      intro _
      have hes := fault_ends hf1
      have het := fault_ends hf2
      have h3 : faultX p (s ++ t) = none := by rw [fault_app hes, hf1, hf2]; rfl
      have h4 : faultX p ((t ++ s) ++ t) = none := by rw [fault_app (het.app hes), fault_app het, hf2, hf1]; rfl
      rw [h3, h4]
      refine ⟨rfl, rfl, rfl, rfl, ?_⟩
      refine sortX_same (firstX_none h3) (firstX_none h4) fun x => ?_
      rw [linesL_ends hes, linesL_ends (het.app hes), linesL_ends het]
      simp only [List.mem_append]
      constructor
      · rintro (h | h)
        · exact .inl (.inr h)
        · exact .inr h
      · rintro ((h | h) | h)
        · exact .inr h
        · exact .inl h
        · exact .inr h
theorem factsMoves_ok (p : Pr) (s t : List UInt8) (R : List En) (hG : FactG R) : ACall Tryz.prog 4 [encP p, .str s, .str t] R (fun r S => r = .bool true ∧ S = R) := by
  refine ACall_sat fun hs => ?_
  have hs := hs _ (.head _)
  have ks := fun R => small_ok p R (okP_of p hs)
  by_cases hb : smallB p = true
  rotate_left
  · rw [smallI_0 (by simpa using hb)] at ks
    refine ACall_body tab_ok Tryz.func4 rfl rfl rfl (by kernel_rfl) (Nat.le_of_ble_eq_true rfl) ?_
    repeat (first | refine go_ ?_ | intro _)
    refine Or.inl ⟨⟨_, Tryz.func10, rfl, rfl⟩, ACall.mono ?_ (shown_ok _ hG.cons)⟩
    rintro _ S1 ⟨rfl, hS1⟩
    subst S1
    repeat (first | refine go_ ?_ | intro _)
    refine Or.inl ⟨⟨_, Tryz.func11, rfl, rfl⟩, ACall.mono ?_ (ks _)⟩
    rintro _ S1 ⟨rfl, hS1⟩
    subst S1
    repeat (first | refine ga_ ?_ | intro _)
    refine AW_ret ?_
    repeat refine mk_ ?_
    refine ⟨_, R, AVle.eq ?_, sle_, rfl, rfl⟩
    rfl
  rw [smallI_1 hb] at ks
  have hok := small_R hb (nP_of p hs)
  obtain ⟨s', hs'⟩ : ∃ x, x = s.take 1000 := ⟨_, rfl⟩
  obtain ⟨t', ht'⟩ : ∃ x, x = t.take 1000 := ⟨_, rfl⟩
  have hsl : s'.length ≤ 1000 := hs' ▸ take_le s 1000
  have htl : t'.length ≤ 1000 := ht' ▸ take_le t 1000
  have hst : (s' ++ t').length ≤ 2000 := by rw [List.length_append]; omega
  have hts : (t' ++ s').length ≤ 2000 := by rw [List.length_append]; omega
  have htst : ((t' ++ s') ++ t').length ≤ 3000 := by rw [List.length_append]; omega
  have k1 := fun R hG => readP_ok p s' R hG (by omega) hok
  have k2 := fun R hG => readP_ok p t' R hG (by omega) hok
  have k3 := fun R hG => readP_ok p (s' ++ t') R hG (by omega) hok
  have k4 := fun R hG => readP_ok p ((t' ++ s') ++ t') R hG (by omega) hok
  have hpl := moves_plain p s' t'
  have hl3 := resX_len p (s' ++ t')
  obtain ⟨x1, hx1⟩ : ∃ x, x = resX p s' := ⟨_, rfl⟩
  obtain ⟨x2, hx2⟩ : ∃ x, x = resX p t' := ⟨_, rfl⟩
  obtain ⟨x3, hx3⟩ : ∃ x, x = resX p (s' ++ t') := ⟨_, rfl⟩
  obtain ⟨x4, hx4⟩ : ∃ x, x = resX p ((t' ++ s') ++ t') := ⟨_, rfl⟩
  rw [← hx1] at k1 hpl
  rw [← hx2] at k2 hpl
  rw [← hx3] at k3 hpl hl3
  rw [← hx4] at k4 hpl
  obtain ⟨l1, i1, e⟩ := x1
  obtain ⟨l2, i2, f⟩ := x2
  obtain ⟨l3, i3, g⟩ := x3
  obtain ⟨l4, i4, h⟩ := x4
  obtain ⟨q1, q2⟩ := hpl
  simp only [] at q1 q2 hl3
  have k5 := fun R => same3_ok l3 l4 .no .no R hl3
  refine ACall_body tab_ok Tryz.func4 rfl rfl rfl (by kernel_rfl) (Nat.le_of_ble_eq_true rfl) ?_
  repeat (first | refine go_ ?_ | intro _)
  rename_i b3
  refine Or.inl ⟨⟨_, Tryz.func10, rfl, rfl⟩, ACall.mono ?_ (shown_ok _ hG.cons)⟩
  rintro _ S1 ⟨rfl, hS1⟩
  subst S1
  repeat (first | refine go_ ?_ | intro _)
  refine Or.inl ⟨⟨_, Tryz.func11, rfl, rfl⟩, ACall.mono ?_ (ks _)⟩
  rintro _ S1 ⟨rfl, hS1⟩
  subst S1
  repeat (first | refine ga_ ?_ | intro _)
  refine at_ss 0 (min s.length 1000) (s.take 1000) rfl (by show min (s.length : Int) 1000 = _; omega) (by omega) (by omega) (by rw [List.drop_zero, List.take_eq_take_iff]; omega) ?_
  repeat (first | refine ga_ ?_ | intro _)
  refine at_ss 0 (min t.length 1000) (t.take 1000) rfl (by show min (t.length : Int) 1000 = _; omega) (by omega) (by omega) (by rw [List.drop_zero, List.take_eq_take_iff]; omega) ?_
  repeat (first | refine det_step rfl ?_ | refine ⟨rfl, ?_⟩ | refine ⟨⟨_, rfl⟩, ?_⟩ | refine ⟨⟨_, rfl, rfl⟩, ?_⟩ | refine ⟨⟨rfl, rfl⟩, ?_⟩ | refine ⟨⟨Nat.le_of_ble_eq_true rfl, Nat.le_of_ble_eq_true rfl⟩, ?_⟩ | refine ⟨Nat.le_of_ble_eq_true rfl, ?_⟩ | refine ⟨_, _, rfl, ?_⟩ | refine ⟨0, _, rfl, ?_⟩ | refine ⟨1, _, rfl, ?_⟩ | refine ⟨2, _, rfl, ?_⟩ | refine ⟨3, _, rfl, ?_⟩ | refine ⟨4, _, rfl, ?_⟩ | refine ⟨5, _, rfl, ?_⟩ | refine ⟨_, rfl, ?_⟩ | intro _)
  rw [← hs', ← ht']
  refine AW_weak (weak_of (l := [(1, .str s'), (2, .str t'), (3, .ptr b3 0), (7, .bool true)]) (m := []) (S' := .cells b3 [.sl 6 (p.decls.map encD) .no, .sl 4 (p.rules.map encRu) .no] :: R) ?_ rfl ?_) ?_
  · repeat (first | exact trivial | refine env_ ?_)
  · refine SW.le ?_
    repeat (first | exact SW.nil | refine sw_ ?_)
  repeat (first | refine ga_ ?_ | intro _)
  refine Or.inl ⟨⟨_, Tryz.func13, rfl, rfl⟩, ACall.mono ?_ (k1 _ hG.cons)⟩
  rintro _ S1 ⟨rfl, hS1⟩
  subst S1
  repeat (first | refine det_step rfl ?_ | refine ⟨rfl, ?_⟩ | refine ⟨⟨_, rfl⟩, ?_⟩ | refine ⟨⟨_, rfl, rfl⟩, ?_⟩ | refine ⟨⟨rfl, rfl⟩, ?_⟩ | refine ⟨⟨Nat.le_of_ble_eq_true rfl, Nat.le_of_ble_eq_true rfl⟩, ?_⟩ | refine ⟨Nat.le_of_ble_eq_true rfl, ?_⟩ | refine ⟨_, _, rfl, ?_⟩ | refine ⟨0, _, rfl, ?_⟩ | refine ⟨1, _, rfl, ?_⟩ | refine ⟨2, _, rfl, ?_⟩ | refine ⟨3, _, rfl, ?_⟩ | refine ⟨4, _, rfl, ?_⟩ | refine ⟨5, _, rfl, ?_⟩ | refine ⟨_, rfl, ?_⟩ | intro _)
  refine AW_weak (weak_of (l := [(1, .str s'), (2, .str t'), (3, .ptr b3 0), (7, .bool true), (10, .int .i64 e)]) (m := []) (S' := .cells b3 [.sl 6 (p.decls.map encD) .no, .sl 4 (p.rules.map encRu) .no] :: R) ?_ rfl ?_) ?_
  · repeat (first | exact trivial | refine env_ ?_)
  · refine SW.le ?_
    repeat (first | exact SW.nil | refine sw_ ?_)
  repeat (first | refine ga_ ?_ | intro _)
  refine Or.inl ⟨⟨_, Tryz.func13, rfl, rfl⟩, ACall.mono ?_ (k2 _ hG.cons)⟩
  rintro _ S1 ⟨rfl, hS1⟩
  subst S1
  repeat (first | refine det_step rfl ?_ | refine ⟨rfl, ?_⟩ | refine ⟨⟨_, rfl⟩, ?_⟩ | refine ⟨⟨_, rfl, rfl⟩, ?_⟩ | refine ⟨⟨rfl, rfl⟩, ?_⟩ | refine ⟨⟨Nat.le_of_ble_eq_true rfl, Nat.le_of_ble_eq_true rfl⟩, ?_⟩ | refine ⟨Nat.le_of_ble_eq_true rfl, ?_⟩ | refine ⟨_, _, rfl, ?_⟩ | refine ⟨0, _, rfl, ?_⟩ | refine ⟨1, _, rfl, ?_⟩ | refine ⟨2, _, rfl, ?_⟩ | refine ⟨3, _, rfl, ?_⟩ | refine ⟨4, _, rfl, ?_⟩ | refine ⟨5, _, rfl, ?_⟩ | refine ⟨_, rfl, ?_⟩ | intro _)
  refine AW_weak (weak_of (l := [(1, .str s'), (2, .str t'), (3, .ptr b3 0), (7, .bool true), (10, .int .i64 e), (13, .int .i64 f)]) (m := []) (S' := .cells b3 [.sl 6 (p.decls.map encD) .no, .sl 4 (p.rules.map encRu) .no] :: R) ?_ rfl ?_) ?_
  · repeat (first | exact trivial | refine env_ ?_)
  · refine SW.le ?_
    repeat (first | exact SW.nil | refine sw_ ?_)
  repeat (first | refine ga_ ?_ | intro _)
  refine cat_ ?_
  repeat (first | refine ga_ ?_ | intro _)
  refine Or.inl ⟨⟨_, Tryz.func13, rfl, rfl⟩, ACall.mono ?_ (k3 _ hG.cons)⟩
  rintro _ S1 ⟨rfl, hS1⟩
  subst S1
  repeat (first | refine det_step rfl ?_ | refine ⟨rfl, ?_⟩ | refine ⟨⟨_, rfl⟩, ?_⟩ | refine ⟨⟨_, rfl, rfl⟩, ?_⟩ | refine ⟨⟨rfl, rfl⟩, ?_⟩ | refine ⟨⟨Nat.le_of_ble_eq_true rfl, Nat.le_of_ble_eq_true rfl⟩, ?_⟩ | refine ⟨Nat.le_of_ble_eq_true rfl, ?_⟩ | refine ⟨_, _, rfl, ?_⟩ | refine ⟨0, _, rfl, ?_⟩ | refine ⟨1, _, rfl, ?_⟩ | refine ⟨2, _, rfl, ?_⟩ | refine ⟨3, _, rfl, ?_⟩ | refine ⟨4, _, rfl, ?_⟩ | refine ⟨5, _, rfl, ?_⟩ | refine ⟨_, rfl, ?_⟩ | intro _)
  refine AW_weak (weak_of (l := [(1, .str s'), (2, .str t'), (3, .ptr b3 0), (7, .bool true), (10, .int .i64 e), (13, .int .i64 f), (14, .sl 1 (l3.map Rel.encL) .no), (15, .int .i64 i3), (16, .int .i64 g)]) (m := []) (S' := .cells b3 [.sl 6 (p.decls.map encD) .no, .sl 4 (p.rules.map encRu) .no] :: R) ?_ rfl ?_) ?_
  · repeat (first | exact trivial | refine env_ ?_)
  · refine SW.le ?_
    repeat (first | exact SW.nil | refine sw_ ?_)
  repeat (first | refine ga_ ?_ | intro _)
  refine cat_ ?_
  repeat (first | refine ga_ ?_ | intro _)
  refine cat_ ?_
  repeat (first | refine ga_ ?_ | intro _)
  refine Or.inl ⟨⟨_, Tryz.func13, rfl, rfl⟩, ACall.mono ?_ (k4 _ hG.cons)⟩
  rintro _ S1 ⟨rfl, hS1⟩
  subst S1
  repeat (first | refine det_step rfl ?_ | refine ⟨rfl, ?_⟩ | refine ⟨⟨_, rfl⟩, ?_⟩ | refine ⟨⟨_, rfl, rfl⟩, ?_⟩ | refine ⟨⟨rfl, rfl⟩, ?_⟩ | refine ⟨⟨Nat.le_of_ble_eq_true rfl, Nat.le_of_ble_eq_true rfl⟩, ?_⟩ | refine ⟨Nat.le_of_ble_eq_true rfl, ?_⟩ | refine ⟨_, _, rfl, ?_⟩ | refine ⟨0, _, rfl, ?_⟩ | refine ⟨1, _, rfl, ?_⟩ | refine ⟨2, _, rfl, ?_⟩ | refine ⟨3, _, rfl, ?_⟩ | refine ⟨4, _, rfl, ?_⟩ | refine ⟨5, _, rfl, ?_⟩ | refine ⟨_, rfl, ?_⟩ | intro _)
  refine AW_weak (weak_of (l := [(7, .bool true), (10, .int .i64 e), (13, .int .i64 f), (14, .sl 1 (l3.map Rel.encL) .no), (15, .int .i64 i3), (16, .int .i64 g), (17, .sl 1 (l4.map Rel.encL) .no), (18, .int .i64 i4), (19, .int .i64 h)]) (m := []) (S' := R) ?_ rfl ?_) ?_
  · repeat (first | exact trivial | refine env_ ?_)
  · refine SW.le ?_
    repeat (first | exact SW.nil | refine sw_ ?_)
  repeat (first | refine ga_ ?_ | intro _)
  by_cases he : e = 0
  · refine known_false (b := !decide (e = 0)) (by rw [he]; rfl) ?_
    repeat (first | refine ga_ ?_ | intro _)
    by_cases hf : f = 0
    · obtain ⟨r1, r2, r3, r4, r5⟩ := q2 he hf
      rw [decide_eq_true r5] at k5
      refine AW_false (b := !decide (f = 0)) rfl (by rw [hf]; rfl) ?_
      repeat (first | refine ga_ ?_ | intro _)
      refine known_true (b := decide (g = 0)) (by exact decide_eq_true r1) ?_
      repeat (first | refine ga_ ?_ | intro _)
      refine known_true (b := decide (h = 0)) (by exact decide_eq_true r2) ?_
      repeat (first | refine ga_ ?_ | intro _)
      refine known_true (b := decide (i3 = 0)) (by exact decide_eq_true r3) ?_
      repeat (first | refine ga_ ?_ | intro _)
      refine known_true (b := decide (i4 = 0)) (by exact decide_eq_true r4) ?_
      repeat (first | refine ga_ ?_ | intro _)
      refine Or.inl ⟨⟨_, Tryz.func15, rfl, rfl⟩, ACall.mono ?_ (k5 _)⟩
      rintro _ S1 ⟨rfl, hS1⟩
      subst S1
      repeat (first | refine ga_ ?_ | intro _)
      refine AW_ret ?_
      repeat refine mk_ ?_
      refine ⟨_, R, AVle.eq ?_, sle_, rfl, rfl⟩
      rfl
    · refine AW_true (b := !decide (f = 0)) rfl (by rw [decide_eq_false hf]; rfl) ?_
      repeat (first | refine ga_ ?_ | intro _)
      refine known_true (b := decide (e = 0)) (by exact decide_eq_true he) ?_
      repeat (first | refine ga_ ?_ | intro _)
      refine AW_ret ?_
      repeat refine mk_ ?_
      refine ⟨_, R, AVle.eq ?_, sle_, rfl, rfl⟩
      rfl
  · refine known_true (b := !decide (e = 0)) (by rw [decide_eq_false he]; rfl) ?_
    repeat (first | refine ga_ ?_ | intro _)
    refine known_false (b := decide (e = 0)) (by exact decide_eq_false he) ?_
    repeat (first | refine ga_ ?_ | intro _)
    by_cases h92 : e = 92
    · by_cases hh : h = 0
      · refine known_false (b := !decide (h = 0)) (by rw [hh]; rfl) ?_
        repeat (first | refine ga_ ?_ | intro _)
        refine known_true (b := decide (e = 92)) (by exact decide_eq_true h92) ?_
        repeat (first | refine ga_ ?_ | intro _)
        refine AW_ret ?_
        repeat refine mk_ ?_
        refine ⟨_, R, AVle.eq ?_, sle_, rfl, rfl⟩
        rfl
      · refine known_true (b := !decide (h = 0)) (by rw [decide_eq_false hh]; rfl) ?_
        repeat (first | refine ga_ ?_ | intro _)
        refine known_false (b := !decide (e = 92)) (by rw [decide_eq_true h92]; rfl) ?_
        repeat (first | refine ga_ ?_ | intro _)
        refine known_true (b := decide (e = 92)) (by exact decide_eq_true h92) ?_
        repeat (first | refine ga_ ?_ | intro _)
        refine AW_ret ?_
        repeat refine mk_ ?_
        refine ⟨_, R, AVle.eq ?_, sle_, rfl, rfl⟩
        rfl
    · rcases q1 he with h1 | ⟨h1, h2⟩
      · exact absurd h1 h92
      · refine known_true (b := !decide (h = 0)) (by rw [decide_eq_false h1]; rfl) ?_
        repeat (first | refine ga_ ?_ | intro _)
        refine known_true (b := !decide (e = 92)) (by rw [decide_eq_false h92]; rfl) ?_
        repeat (first | refine ga_ ?_ | intro _)
        refine known_true (b := decide (g = e)) (by exact decide_eq_true h2) ?_
        repeat (first | refine ga_ ?_ | intro _)
        refine AW_ret ?_
        repeat refine mk_ ?_
        refine ⟨_, R, AVle.eq ?_, sle_, rfl, rfl⟩
        rfl

end Go.Proofs.YtgkjbpnmeeibbaaGreatDoor
