/-
  Numbers and their texts: plain laws. Own work.
-/
import Derived.Test.YtljdbkieofhblaaGreatDoorT6
namespace Go.Proofs.YtljdbkieofhblaaGreatDoor
open Go.Aw

def inR64 (n : Int) : Prop := -9223372036854775808 ≤ n ∧ n ≤ 9223372036854775807
theorem dig_toNat (m : Nat) : (UInt8.ofNat (48 + m % 10)).toNat = 48 + m % 10 := by
  have h : m % 10 < 10 := Nat.mod_lt _ (by decide)
  rw [UInt8.toNat_ofNat']; omega
/-- a number's digits, one by one -/
theorem dd_ind {Q : Nat → List UInt8 → Prop} (h0 : ∀ u, u < 10 → Q u [UInt8.ofNat (48 + u % 10)]) (h1 : ∀ u, 10 ≤ u → Q (u / 10) (Lib.decDigits (u / 10)) → Q u (Lib.decDigits (u / 10) ++ [UInt8.ofNat (48 + u % 10)])) : ∀ u, Q u (Lib.decDigits u) := by
  intro u
  induction u using Nat.strongRecOn with
  | _ u ih =>
    by_cases h : u < 10
    · rw [dd_last (by omega)]; exact h0 u h
    · rw [dd_step (by omega)]
      exact h1 u (by omega) (ih _ (by omega))
theorem dd_dig : ∀ u, ∀ c ∈ Lib.decDigits u, 48 ≤ c.toNat ∧ c.toNat ≤ 57 := by
  refine dd_ind (Q := fun _ l => ∀ c ∈ l, 48 ≤ c.toNat ∧ c.toNat ≤ 57) (fun u hu c hc => ?_) (fun u hu ih c hc => ?_)
  · rw [List.mem_singleton] at hc
    subst hc
    rw [dig_toNat]; omega
  · rcases List.mem_append.1 hc with hc | hc
    · exact ih c hc
    · rw [List.mem_singleton] at hc
      subst hc
      rw [dig_toNat]; omega
theorem dd_pos (u : Nat) : Lib.decDigits u ≠ [] := by
  refine dd_ind (Q := fun _ l => l ≠ []) (fun u _ => by simp) (fun u _ _ => by simp) u
theorem dd_len : ∀ u (k : Nat), u < 10 ^ (k + 1) → (Lib.decDigits u).length ≤ k + 1 := by
  refine dd_ind (Q := fun u l => ∀ k : Nat, u < 10 ^ (k + 1) → l.length ≤ k + 1) (fun u _ k _ => by simp) (fun u hu ih k hk => ?_)
  cases k with
  | zero => simp at hk; omega
  | succ k =>
    have : u / 10 < 10 ^ (k + 1) := by rw [Nat.div_lt_iff_lt_mul (by decide)]; rw [Nat.pow_succ] at hk; exact hk
    have := ih k this
    simp only [List.length_append, List.length_singleton]; omega
theorem refLoop_snoc : ∀ (l : List UInt8) (acc : Nat) (d : UInt8), refLoop acc (l ++ [d]) = (refLoop acc l).bind fun a => refLoop a [d]
  | [], acc, d => rfl
  | c :: l, acc, d => by
    simp only [List.cons_append, refLoop]
    split
    · rfl
    · exact refLoop_snoc l _ d
theorem refLoop_dd : ∀ u, u ≤ 9223372036854775808 → refLoop 0 (Lib.decDigits u) = some u := by
  refine dd_ind (Q := fun u l => u ≤ 9223372036854775808 → refLoop 0 l = some u) (fun u hu _ => ?_) (fun u hu ih hb => ?_)
  · have hm : u % 10 = u := Nat.mod_eq_of_lt hu
    rw [refLoop, dig_toNat, if_neg (by omega), refLoop]
    congr 1; omega
  · rw [refLoop_snoc, ih (by omega)]
    simp only [Option.bind_some]
    rw [refLoop, dig_toNat, if_neg (by omega), refLoop]
    congr 1; omega
theorem parseM_snoc (M : Nat) : ∀ (l : List UInt8) (acc : Nat) (a : Nat) (d : UInt8), Lib.parseUintM M acc l = .ok a → Lib.parseUintM M acc (l ++ [d]) = Lib.parseUintM M a [d]
  | [], acc, a, d, h => by
    simp only [Lib.parseUintM, Lib.NumEnd.ok.injEq] at h
    subst h; rfl
  | c :: l, acc, a, d, h => by
    simp only [List.cons_append, Lib.parseUintM] at h ⊢
    split at h
    · split at h
      · cases h
      · split at h
        · cases h
        · rename_i h1 h2 h3
          rw [if_pos h1, if_neg h2, if_neg h3]
          have := parseM_snoc M l _ a d h
          rw [this]; simp only [Lib.parseUintM]
    · cases h
theorem parseM_dd : ∀ u, u ≤ 18446744073709551615 → Lib.parseUintM 18446744073709551615 0 (Lib.decDigits u) = .ok u := by
  refine dd_ind (Q := fun u l => u ≤ 18446744073709551615 → Lib.parseUintM 18446744073709551615 0 l = .ok u) (fun u hu _ => ?_) (fun u hu ih hb => ?_)
  · have hm : u % 10 = u := Nat.mod_eq_of_lt hu
    rw [Lib.parseUintM, dig_toNat, if_pos (by omega), if_neg (by omega), if_neg (by omega), Lib.parseUintM]
    congr 1; omega
  · rw [parseM_snoc _ _ _ _ _ (ih (by omega)), Lib.parseUintM, dig_toNat, if_pos (by omega), if_neg (by omega), if_neg (by omega), Lib.parseUintM]
    congr 1; omega
theorem dd_cons (u : Nat) : ∃ c r, Lib.decDigits u = c :: r ∧ 48 ≤ c.toNat ∧ c.toNat ≤ 57 := by
  cases h : Lib.decDigits u with
  | nil => exact absurd h (dd_pos u)
  | cons c r => exact ⟨c, r, rfl, dd_dig u c (by rw [h]; simp)⟩
theorem parseU_dd (u : Nat) (h : u ≤ 18446744073709551615) : Lib.parseUintB 64 (Lib.decDigits u) = .ok u := by
  rw [Lib.parseUintB, if_neg (dd_pos u)]
  exact parseM_dd u h
/-- a number's text is read as the number -/
theorem parse_itoa {n : Int} (hn : inR64 n) : Lib.parseIntB 64 (Lib.itoa n) = .ok n := by
  obtain ⟨h1, h2⟩ := hn
  by_cases h : n < 0
  · rw [Lib.itoa, if_pos h, Lib.parseIntB]
    have e : (45 : UInt8).toNat = 45 := rfl
    simp only [e, or_true, if_true, parseU_dd n.natAbs (by omega)]
    rw [if_neg (by simp), if_neg (by simp; omega)]
    simp; omega
  · rw [Lib.itoa, if_neg h]
    obtain ⟨c, r, hc, h3, h4⟩ := dd_cons n.toNat
    have hp := parseU_dd n.toNat (by omega)
    rw [hc] at hp ⊢
    rw [Lib.parseIntB]
    have e1 : ¬ (c.toNat = 43 ∨ c.toNat = 45) := by omega
    have e2 : ¬ c.toNat = 45 := by omega
    simp only [if_neg e1, hp]
    rw [if_neg (by simp; omega), if_neg (by simp [e2])]
    simp [e2]; omega
theorem itoa_len {n : Int} (hn : inR64 n) : (Lib.itoa n).length ≤ 20 := by
  obtain ⟨h1, h2⟩ := hn
  rw [Lib.itoa]
  split
  · have := dd_len n.natAbs 18 (by omega)
    simp only [List.length_cons]; omega
  · have := dd_len n.toNat 18 (by omega)
    omega
theorem pn_itoa {n : Int} (hn : inR64 n) : pnL (Lib.itoa n) = (n, 0) := by
  rw [pnL, parse_itoa hn]; simp
theorem itoa_inj {n m : Int} (hn : inR64 n) (hm : inR64 m) (h : Lib.itoa n = Lib.itoa m) : n = m := by
  have := pn_itoa hn
  rw [h, pn_itoa hm] at this
  exact (Prod.mk.inj this).1.symm
theorem rp_itoa {n : Int} (hn : inR64 n) : rpL (Lib.itoa n) = (n, 0) := by
  have hl := itoa_len hn
  obtain ⟨h1, h2⟩ := hn
  rw [rpL, if_neg (by omega)]
  by_cases h : n < 0
  · have e : Lib.itoa n = 45 :: Lib.decDigits n.natAbs := by rw [Lib.itoa, if_pos h]
    have hb : negB (Lib.itoa n) = true := by rw [e]; rfl
    have hr : refLoop 0 ((Lib.itoa n).drop (bif negB (Lib.itoa n) then 1 else 0)) = some n.natAbs := by rw [hb, e]; exact refLoop_dd _ (by omega)
    have hv : refVal (negB (Lib.itoa n)) n.natAbs = n := by
      rw [hb, refVal, cond_true]
      by_cases hm : n = -9223372036854775808
      · subst hm; decide
      · rw [wrap_i64 (n := ((n.natAbs : Nat) : Int)) (by omega), wrap_i64 (by omega)]; omega
    rw [hr]
    simp only [hv, if_true]
  · have e : Lib.itoa n = Lib.decDigits n.toNat := by rw [Lib.itoa, if_neg h]
    obtain ⟨c, r, hc, h3, h4⟩ := dd_cons n.toNat
    have hb : negB (Lib.itoa n) = false := by
      have : c ≠ 45 := fun e => by subst e; exact absurd h3 (by decide)
      rw [e, hc]; simp [negB, this]
    have hr : refLoop 0 ((Lib.itoa n).drop (bif negB (Lib.itoa n) then 1 else 0)) = some n.toNat := by rw [hb, e]; exact refLoop_dd _ (by omega)
    have hv : refVal (negB (Lib.itoa n)) n.toNat = n := by
      rw [hb, refVal, cond_false, wrap_i64 (by omega)]; omega
    rw [hr]
    simp only [hv, if_true]
theorem pn_rp (s : List UInt8) : pnL s = rpL s := by
  by_cases h : ∃ n, inR64 n ∧ Lib.itoa n = s
  · obtain ⟨n, hn, rfl⟩ := h
    rw [pn_itoa hn, rp_itoa hn]
  · have e1 : pnL s = (0, 10) := by
      unfold pnL
      cases hp : Lib.parseIntB 64 s with
      | ok v =>
        have hb := Lib.parseIntB_bounds hp
        have : Lib.itoa v ≠ s := fun e => h ⟨v, ⟨by simp at hb; omega, by simp at hb; omega⟩, e⟩
        simp [this]
      | range => rfl
      | _ => rfl
    have e2 : rpL s = (0, 10) := by
      unfold rpL
      split
      · rfl
      · split
        · rfl
        · rename_i n _
          have hv := i64_of (refVal_has (negB s) n)
          have : Lib.itoa (refVal (negB s) n) ≠ s := fun e => h ⟨_, hv, e⟩
          rw [if_neg this]
    rw [e1, e2]
theorem pn_ok {s : List UInt8} (h : (pnL s).2 = 0) : inR64 (pnL s).1 ∧ Lib.itoa (pnL s).1 = s := by
  unfold pnL at h ⊢
  cases hp : Lib.parseIntB 64 s with
  | ok v =>
    rw [hp] at h
    have hb := Lib.parseIntB_bounds hp
    by_cases e : Lib.itoa v = s
    · simp only [if_pos e]
      exact ⟨⟨by simp at hb; omega, by simp at hb; omega⟩, e⟩
    · simp [e] at h
  | range => rw [hp] at h; simp at h
  | _ => rw [hp] at h; simp at h
end Go.Proofs.YtljdbkieofhblaaGreatDoor

