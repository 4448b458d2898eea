/-
  Numbers' texts by the document, and by the program. Own work.
-/
import Derived.Test.YtljdbkieofhblaaGreatDoorT4
import Derived.Test.YtljdbkieofhblaaGreatDoorNum
namespace Go.Proofs.YtljdbkieofhblaaGreatDoor
open Go.Aw
set_option maxHeartbeats 4000000

theorem u64_wrap {n : Int} (h : 0 ≤ n ∧ n ≤ 18446744073709551615) : IntKind.u64.wrap n = n := by
  apply wrap_has_eq
  simp only [IntKind.has, IntKind.min, IntKind.max, IntKind.bits, IntKind.signed]; simp; omega
theorem u8_wrap {n : Int} (h : 0 ≤ n ∧ n ≤ 255) : IntKind.u8.wrap n = n := by
  apply wrap_has_eq
  simp only [IntKind.has, IntKind.min, IntKind.max, IntKind.bits, IntKind.signed]; simp; omega
theorem u64_has {n : Int} (h : 0 ≤ n ∧ n ≤ 18446744073709551615) : IntKind.u64.has n := by
  simp only [IntKind.has, IntKind.min, IntKind.max, IntKind.bits, IntKind.signed]; simp; omega
theorem tmod_nat (m : Nat) : Int.tmod (m : Int) 10 = ((m % 10 : Nat) : Int) := by rw [Int.tmod_eq_emod_of_nonneg (by omega)]; omega
theorem tdiv_nat (m : Nat) : Int.tdiv (m : Int) 10 = ((m / 10 : Nat) : Int) := by rw [Int.tdiv_eq_ediv_of_nonneg (by omega)]; omega
theorem dig_val (m : Nat) : IntKind.u8.wrap (IntKind.u64.wrap (48 + Int.tmod (m : Int) 10)) = ((UInt8.ofNat (48 + m % 10)).toNat : Int) := by
  have h : m % 10 < 10 := Nat.mod_lt _ (by decide)
  rw [tmod_nat, u64_wrap (by omega), u8_wrap (by omega)]
  have : (UInt8.ofNat (48 + m % 10)).toNat = 48 + m % 10 := by
    rw [UInt8.toNat_ofNat']; omega
  rw [this]; simp

theorem dd_step {m : Nat} (h : 0 < m / 10) : Lib.decDigits m = Lib.decDigits (m / 10) ++ [UInt8.ofNat (48 + m % 10)] := by
  rw [Lib.decDigits, dif_neg (by omega)]
theorem dd_last {m : Nat} (h : m / 10 = 0) : Lib.decDigits m = [UInt8.ofNat (48 + m % 10)] := by
  have : m < 10 := by omega
  rw [Lib.decDigits, dif_pos this, Nat.mod_eq_of_lt this]

theorem digits_ok (n : Nat) (R : List En) (hn : n ≤ 18446744073709551615) : ACall Tryz.prog 74 [.int .u64 (n : Nat)] R (fun r S => r = .str (Lib.decDigits n) ∧ S = R) := by
  refine ACall_body tab_ok Tryz.func74 rfl rfl rfl (by kernel_rfl) (Nat.le_of_ble_eq_true rfl) ?_
  repeat (first | refine go_ ?_ | intro _)
  refine AW_for (α := Nat × List UInt8) (fun z => ⟨[(0, .int .u64 (z.1 : Nat)), (3, .str z.2)], []⟩) (fun z => R) (fun z => 2 * z.1 + (if z.2 = [] then 1 else 0)) (fun z => z.1 * 10 ^ z.2.length ≤ n ∧ z.2.length ≤ 20 ∧ Lib.decDigits n = (if z.2 = [] then Lib.decDigits z.1 else if z.1 = 0 then z.2 else Lib.decDigits z.1 ++ z.2)) ((n, [])) ?_ (weak_of ?_ rfl ?_) (fun z hz => ?_)
  · exact ⟨by simp, by simp, rfl⟩
  · repeat (first | exact trivial | refine ⟨AVle.refl _, ?_⟩ | refine ⟨AVle.tk, ?_⟩ | refine ⟨AVle.nil, ?_⟩ | refine ⟨AVle.nilFull, ?_⟩ | refine ⟨AVle.eq (congrArg (AV.int .i64) (by first | (simp; done) | (simp; omega) | (rw [wrap_i64 (by first | omega | (simp; omega))]; first | rfl | omega | (simp; done) | (simp; omega)))), ?_⟩)
  · repeat (first | exact SLe.rfl | refine SLe.tail ?_ | refine SLe.full ?_)
  obtain ⟨m, acc⟩ := z
  obtain ⟨h1, h2, h3⟩ := hz
  replace h1 : m * 10 ^ acc.length ≤ n := h1
  replace h2 : acc.length ≤ 20 := h2
  replace h3 : Lib.decDigits n = (if acc = [] then Lib.decDigits m else if m = 0 then acc else Lib.decDigits m ++ acc) := h3
  have hmn : m ≤ n := Nat.le_trans (Nat.le_mul_of_pos_right _ (Nat.pow_pos (by decide))) h1
  by_cases hc : acc = [] ∨ 0 < m
  · have hl : acc.length ≤ 19 := by
      rcases hc with hc | hc
      · subst hc; simp
      · by_cases h20 : 20 ≤ acc.length
        · have := Nat.pow_le_pow_right (n := 10) (by decide) h20
          have h4 : 10 ^ acc.length ≤ m * 10 ^ acc.length := Nat.le_mul_of_pos_left _ hc
          omega
        · omega
    have hmod : m % 10 < 10 := Nat.mod_lt _ (by decide)
    have hg : Lib.decDigits n = (if m / 10 = 0 then UInt8.ofNat (48 + m % 10) :: acc else Lib.decDigits (m / 10) ++ UInt8.ofNat (48 + m % 10) :: acc) := by
      rw [h3]
      by_cases h0 : m / 10 = 0
      · rw [if_pos h0, dd_last h0]
        by_cases ha : acc = []
        · rw [if_pos ha, ha]
        · have hm : ¬ m = 0 := by rcases hc with hc | hc; exact absurd hc ha; omega
          rw [if_neg ha, if_neg hm]; rfl
      · rw [if_neg h0, dd_step (by omega)]
        by_cases ha : acc = []
        · rw [if_pos ha, ha]
        · rw [if_neg ha, if_neg (by omega)]; simp
    have hb : m / 10 * 10 ^ (acc.length + 1) ≤ n := by
      refine Nat.le_trans ?_ h1
      rw [Nat.pow_succ, Nat.mul_comm (10 ^ acc.length) 10, ← Nat.mul_assoc]
      exact Nat.mul_le_mul_right _ (Nat.div_mul_le_self m 10)
    all_goals (repeat (first | refine ga_ ?_ | intro _))
    all_goals (try (first | refine AW_cond rfl (fun h => ?_) (fun h => ?_) | refine ⟨fun h => ?_, fun h => ?_⟩))
    all_goals (try (repeat (first | refine ga_ ?_ | intro _)))
    all_goals (try (first | refine AW_cond rfl (fun h => ?_) (fun h => ?_) | refine ⟨fun h => ?_, fun h => ?_⟩))
    all_goals (try (repeat (first | refine ga_ ?_ | intro _)))
    all_goals (first | (exfalso; simp at *; grind) | skip)
    · refine ⟨by decide, (by show IntKind.u64.has (Int.tmod (m : Int) 10); rw [tmod_nat]; exact u64_has (by omega)), ?_⟩
      repeat (first | refine go_ ?_ | intro _)
      refine ⟨[UInt8.ofNat (48 + m % 10)], congrArg (fun x => [AV.int .u8 x]) (dig_val m), ?_⟩
      repeat (first | refine go_ ?_ | intro _)
      refine cat_ ?_
      repeat (first | refine go_ ?_ | intro _)
      refine ⟨by decide, ?_⟩
      repeat (first | refine go_ ?_ | intro _)
      refine ⟨((m / 10, UInt8.ofNat (48 + m % 10) :: acc) : Nat × List UInt8), ?_, ?_, weak_of ?_ rfl ?_⟩
      · show 2 * (m / 10) + (if UInt8.ofNat (48 + m % 10) :: acc = [] then 1 else 0) < 2 * m + (if acc = [] then 1 else 0)
        rw [if_neg (by simp)]
        rcases hc with hc | hc
        · rw [if_pos hc]; omega
        · split <;> omega
      · exact ⟨hb, by show acc.length + 1 ≤ 20; omega, by rw [hg]; simp⟩
      · repeat (first | exact trivial | refine ⟨(AVle.eq (congrArg (AV.int .u64) (by rw [tdiv_nat, u64_wrap (by omega)]))), ?_⟩ | refine ⟨AVle.refl _, ?_⟩ | refine ⟨AVle.tk, ?_⟩ | refine ⟨AVle.nil, ?_⟩ | refine ⟨AVle.nilFull, ?_⟩ | refine ⟨AVle.eq (congrArg (AV.int .i64) (by first | (simp; done) | (simp; omega) | (rw [wrap_i64 (by first | omega | (simp; omega))]; first | rfl | omega | (simp; done) | (simp; omega)))), ?_⟩)
      · repeat (first | exact SLe.rfl | refine SLe.tail ?_ | refine SLe.full ?_)
    · refine ⟨by decide, (by show IntKind.u64.has (Int.tmod (m : Int) 10); rw [tmod_nat]; exact u64_has (by omega)), ?_⟩
      repeat (first | refine go_ ?_ | intro _)
      refine ⟨[UInt8.ofNat (48 + m % 10)], congrArg (fun x => [AV.int .u8 x]) (dig_val m), ?_⟩
      repeat (first | refine go_ ?_ | intro _)
      refine cat_ ?_
      repeat (first | refine go_ ?_ | intro _)
      refine ⟨by decide, ?_⟩
      repeat (first | refine go_ ?_ | intro _)
      refine ⟨((m / 10, UInt8.ofNat (48 + m % 10) :: acc) : Nat × List UInt8), ?_, ?_, weak_of ?_ rfl ?_⟩
      · show 2 * (m / 10) + (if UInt8.ofNat (48 + m % 10) :: acc = [] then 1 else 0) < 2 * m + (if acc = [] then 1 else 0)
        rw [if_neg (by simp)]
        rcases hc with hc | hc
        · rw [if_pos hc]; omega
        · split <;> omega
      · exact ⟨hb, by show acc.length + 1 ≤ 20; omega, by rw [hg]; simp⟩
      · repeat (first | exact trivial | refine ⟨(AVle.eq (congrArg (AV.int .u64) (by rw [tdiv_nat, u64_wrap (by omega)]))), ?_⟩ | refine ⟨AVle.refl _, ?_⟩ | refine ⟨AVle.tk, ?_⟩ | refine ⟨AVle.nil, ?_⟩ | refine ⟨AVle.nilFull, ?_⟩ | refine ⟨AVle.eq (congrArg (AV.int .i64) (by first | (simp; done) | (simp; omega) | (rw [wrap_i64 (by first | omega | (simp; omega))]; first | rfl | omega | (simp; done) | (simp; omega)))), ?_⟩)
      · repeat (first | exact SLe.rfl | refine SLe.tail ?_ | refine SLe.full ?_)
  · have ha : acc ≠ [] := fun e => hc (.inl e)
    have hm : m = 0 := by
      rcases Nat.eq_zero_or_pos m with h | h
      · exact h
      · exact absurd (.inr h) hc
    subst hm
    repeat (first | refine go_ ?_ | intro _)
    refine gsplit (acc = []) (by first | (simp; done) | (simp <;> omega) | decide) (fun h => ?_) (fun h => ?_)
    · exact absurd h ha
    · repeat (first | refine ga_ ?_ | intro _)
      refine AW_ret ?_
      repeat (first | refine ⟨0, rfl, ?_⟩ | refine ⟨1, rfl, ?_⟩ | refine ⟨2, rfl, ?_⟩ | refine ⟨3, rfl, ?_⟩ | refine ⟨4, rfl, ?_⟩ | refine ⟨5, rfl, ?_⟩ | refine ⟨6, rfl, ?_⟩)
      refine ⟨_, R, AVle.eq ?_, (by repeat (first | exact SLe.rfl | refine SLe.tail ?_)), rfl, rfl⟩
      rw [h3, if_neg ha, if_pos rfl]; rfl

theorem refNum_ok (n : Int) (R : List En) (hn : -9223372036854775808 ≤ n ∧ n ≤ 9223372036854775807) : ACall Tryz.prog 63 [.int .i64 n] R (fun r S => r = .str (Lib.itoa n) ∧ S = R) := by
  have k1 := fun h => digits_ok n.natAbs R h
  have k2 := fun h => digits_ok n.toNat R h
  refine ACall_body tab_ok Tryz.func63 rfl rfl rfl (by kernel_rfl) (Nat.le_of_ble_eq_true rfl) ?_
  repeat (first | refine go_ ?_ | intro _)
  refine AW_iff (n < 0) rfl (by first | (simp; done) | (simp <;> omega) | decide) (fun h => ?_) (fun h => ?_)
  · have hneg := h
    repeat (first | refine go_ ?_ | intro _)
    have e : IntKind.u64.wrap (IntKind.u64.wrap (IntKind.i64.wrap (0 - IntKind.i64.wrap (n + 1))) + 1) = ((n.natAbs : Nat) : Int) := by
      rw [wrap_i64 (n := n + 1) (by omega), wrap_i64 (by omega), u64_wrap (n := 0 - (n + 1)) (by omega), u64_wrap (by omega)]; omega
    have hl := Lib.itoa_length_le n hn.1 hn.2
    rw [Lib.itoa, if_pos hneg, List.length_cons] at hl
    refine Or.inl ⟨⟨_, Tryz.func74, rfl, rfl⟩, ACall_args (ACall.mono ?_ (k1 (by omega))) ⟨AVle.eq (congrArg (AV.int .u64) e), trivial⟩⟩
    rintro _ S1 ⟨rfl, hS1⟩
    subst S1
    repeat (first | refine go_ ?_ | intro _)
    refine cat_ ?_
    repeat (first | refine go_ ?_ | intro _)
    refine AW_ret ?_
    repeat (first | refine ⟨0, rfl, ?_⟩ | refine ⟨1, rfl, ?_⟩ | refine ⟨2, rfl, ?_⟩ | refine ⟨3, rfl, ?_⟩ | refine ⟨4, rfl, ?_⟩ | refine ⟨5, rfl, ?_⟩ | refine ⟨6, rfl, ?_⟩)
    refine ⟨_, R, AVle.eq ?_, (by repeat (first | exact SLe.rfl | refine SLe.tail ?_)), rfl, rfl⟩
    rw [Lib.itoa, if_pos hneg]; rfl
  · repeat (first | refine go_ ?_ | intro _)
    have e : IntKind.u64.wrap n = ((n.toNat : Nat) : Int) := by rw [u64_wrap (by omega)]; omega
    refine Or.inl ⟨⟨_, Tryz.func74, rfl, rfl⟩, ACall_args (ACall.mono ?_ (k2 (by omega))) ⟨AVle.eq (congrArg (AV.int .u64) e), trivial⟩⟩
    rintro _ S1 ⟨rfl, hS1⟩
    subst S1
    repeat (first | refine go_ ?_ | intro _)
    refine AW_ret ?_
    repeat (first | refine ⟨0, rfl, ?_⟩ | refine ⟨1, rfl, ?_⟩ | refine ⟨2, rfl, ?_⟩ | refine ⟨3, rfl, ?_⟩ | refine ⟨4, rfl, ?_⟩ | refine ⟨5, rfl, ?_⟩ | refine ⟨6, rfl, ?_⟩)
    refine ⟨_, R, AVle.eq ?_, (by repeat (first | exact SLe.rfl | refine SLe.tail ?_)), rfl, rfl⟩
    rw [Lib.itoa, if_neg (by omega)]; rfl

theorem num_ok (n : Int) (R : List En) (hG : NumG R) : ACall Tryz.prog 55 [.int .i64 n] R (fun r S => r = .str (Lib.itoa n) ∧ S = R) := by
  refine ACall_body tab_ok Tryz.func55 rfl rfl rfl (by kernel_rfl) (Nat.le_of_ble_eq_true rfl) ?_
  repeat (first | refine go_ ?_ | intro _)
  refine Or.inl ⟨⟨_, Tryz.func69, rfl, rfl⟩, ACall.mono ?_ (formatInt_ok n R hG)⟩
  rintro _ S1 ⟨rfl, hS1⟩
  subst S1
  repeat (first | refine go_ ?_ | intro _)
  refine AW_ret ?_
  repeat (first | refine ⟨0, rfl, ?_⟩ | refine ⟨1, rfl, ?_⟩ | refine ⟨2, rfl, ?_⟩ | refine ⟨3, rfl, ?_⟩ | refine ⟨4, rfl, ?_⟩ | refine ⟨5, rfl, ?_⟩ | refine ⟨6, rfl, ?_⟩)
  refine ⟨_, R, AVle.eq ?_, (by repeat (first | exact SLe.rfl | refine SLe.tail ?_)), rfl, rfl⟩
  rfl

/-- what text.ParseNum gives -/
def pnL (s : List UInt8) : Int × Int := match Lib.parseIntB 64 s with
  | .ok v => if Lib.itoa v = s then (v, 0) else (0, 10)
  | _ => (0, 10)
def pnAV (x : Int × Int) : AV := .tup [.int .i64 x.1, .int .i64 x.2]
end Go.Proofs.YtljdbkieofhblaaGreatDoor

