/-
  The book's reading of tokens: runs, a symbol's place, a sign, words, numbers. Own work.
-/
import Derived.Test.YtgcoomicgdbmbaaGreatDoorP7
set_option linter.all false
namespace Go.Proofs.YtgcoomicgdbmbaaGreatDoor
open Go.Aw Go.RowKit
set_option maxHeartbeats 4000000

theorem drop_one {s : List UInt8} {k : Nat} (h : k < s.length) : s.drop k = s[k] :: s.drop (k + 1) := List.drop_eq_getElem_cons h
theorem cut_part {s : List UInt8} {k : Nat} (w r : List UInt8) (h : s.drop k = w ++ r) : (s.take (k + w.length)).drop k = w := by
  rw [List.drop_take, h, Nat.add_sub_cancel_left, List.take_left' rfl]
theorem part_len {s : List UInt8} {k : Nat} (w r : List UInt8) (hk : k ≤ s.length) (h : s.drop k = w ++ r) : k + w.length + r.length = s.length := by
  have := congrArg List.length h
  rw [List.length_drop, List.length_append] at this; omega
theorem part_drop {s : List UInt8} {k : Nat} (w r : List UInt8) (h : s.drop k = w ++ r) : s.drop (k + w.length) = r := by
  rw [← List.drop_drop, h, List.drop_left]
theorem refRun_ok (s : List UInt8) (k : Nat) (R : List En) (hk : k ≤ s.length) (hs : s.length ≤ 16777216) : ACall Tryz.prog 55 [.str s, .int .i64 (k : Nat)] R (fun r S => r = .int .i64 ((k + ((s.drop k).takeWhile wordB).length : Nat) : Int) ∧ S = R) := by
  refine ACall_body tab_ok Tryz.func55 rfl rfl rfl (by kernel_rfl) (Nat.le_of_ble_eq_true rfl) ?_
  repeat (first | refine go_ ?_ | intro _)
  refine AW_for (α := Nat) (fun z => ⟨[(0, .str s), (1, .int .i64 (z : Nat))], []⟩) (fun z => R) (fun z => s.length - z) (fun z => z ≤ s.length ∧ k + ((s.drop k).takeWhile wordB).length = z + ((s.drop z).takeWhile wordB).length) (k) ?_ (weak_of ?_ rfl ?_) (fun z hz => ?_)
  · exact ⟨hk, rfl⟩
  · repeat (first | exact trivial | refine ⟨AVle.refl _, ?_⟩ | refine ⟨AVle.tk, ?_⟩ | refine ⟨AVle.nil, ?_⟩ | refine ⟨AVle.nilFull, ?_⟩ | refine ⟨AVle.eq (congrArg (AV.int .i64) (by first | (simp; done) | (simp; omega) | (rw [wrap_i64 (by first | omega | (simp; omega))]; first | rfl | omega | (simp; done) | (simp; omega)))), ?_⟩)
  · repeat (first | exact SLe.rfl | refine SLe.tail ?_ | refine SLe.full ?_)
  obtain ⟨i1, i2⟩ := hz
  repeat (first | refine go_ ?_ | intro _)
  refine AW_iff (z < s.length) rfl (by first | (simp; done) | (simp <;> omega) | decide) (fun h => ?_) (fun h => ?_)
  · have hlt := h
    obtain ⟨c, hc⟩ : ∃ c, c = s[z] := ⟨_, rfl⟩
    rw [tw_step hlt, ← hc] at i2
    repeat (first | refine go_ ?_ | intro _)
    refine at_list z rfl hlt ?_
    rw [← hc]
    repeat (first | refine go_ ?_ | intro _)
    refine Or.inl ⟨⟨_, Tryz.func33, rfl, rfl⟩, ACall.mono ?_ (letter_ok c _)⟩
    rintro _ S1 ⟨rfl, hS1⟩
    subst S1
    repeat (first | refine go_ ?_ | intro _)
    refine at_list z rfl hlt ?_
    rw [← hc]
    repeat (first | refine go_ ?_ | intro _)
    refine Or.inl ⟨⟨_, Tryz.func34, rfl, rfl⟩, ACall.mono ?_ (digit_ok c _)⟩
    rintro _ S1 ⟨rfl, hS1⟩
    subst S1
    repeat (first | refine go_ ?_ | intro _)
    cases h1 : letterB c with
    | true =>
      rw [if_pos (wordB_letter h1)] at i2
      repeat (first | refine ga_ ?_ | intro _)
      refine ⟨z + 1, ?_, ?_, weak_of ?_ rfl ?_⟩
      · omega
      · exact ⟨hlt, by rw [i2, List.length_cons]; omega⟩
      · repeat (first | exact trivial | refine ⟨AVle.refl _, ?_⟩ | refine ⟨AVle.tk, ?_⟩ | refine ⟨AVle.nil, ?_⟩ | refine ⟨AVle.nilFull, ?_⟩ | refine ⟨AVle.eq (congrArg (AV.int .i64) (by first | (simp; done) | (simp; omega) | (rw [wrap_i64 (by first | omega | (simp; omega))]; first | rfl | omega | (simp; done) | (simp; omega)))), ?_⟩)
      · repeat (first | exact SLe.rfl | refine SLe.tail ?_ | refine SLe.full ?_)
    | false =>
      cases h2 : digitB c with
      | true =>
        rw [if_pos (wordB_digit h2)] at i2
        repeat (first | refine ga_ ?_ | intro _)
        refine ⟨z + 1, ?_, ?_, weak_of ?_ rfl ?_⟩
        · omega
        · exact ⟨hlt, by rw [i2, List.length_cons]; omega⟩
        · repeat (first | exact trivial | refine ⟨AVle.refl _, ?_⟩ | refine ⟨AVle.tk, ?_⟩ | refine ⟨AVle.nil, ?_⟩ | refine ⟨AVle.nilFull, ?_⟩ | refine ⟨AVle.eq (congrArg (AV.int .i64) (by first | (simp; done) | (simp; omega) | (rw [wrap_i64 (by first | omega | (simp; omega))]; first | rfl | omega | (simp; done) | (simp; omega)))), ?_⟩)
        · repeat (first | exact SLe.rfl | refine SLe.tail ?_ | refine SLe.full ?_)
      | false =>
        rw [if_neg (by rw [wordB, h1, h2]; decide)] at i2
        repeat (first | refine ga_ ?_ | intro _)
        refine AW_ret ?_
        repeat (first | refine ⟨0, rfl, ?_⟩ | refine ⟨1, rfl, ?_⟩ | refine ⟨2, rfl, ?_⟩ | refine ⟨3, rfl, ?_⟩ | refine ⟨4, rfl, ?_⟩ | refine ⟨5, rfl, ?_⟩ | refine ⟨6, rfl, ?_⟩)
        refine ⟨_, R, AVle.eq ?_, (by repeat (first | exact SLe.rfl | refine SLe.tail ?_)), rfl, rfl⟩
        rw [i2]; rfl
  · have e : z = s.length := by omega
    subst e
    rw [List.drop_length] at i2
    repeat (first | refine go_ ?_ | intro _)
    refine AW_ret ?_
    repeat (first | refine ⟨0, rfl, ?_⟩ | refine ⟨1, rfl, ?_⟩ | refine ⟨2, rfl, ?_⟩ | refine ⟨3, rfl, ?_⟩ | refine ⟨4, rfl, ?_⟩ | refine ⟨5, rfl, ?_⟩ | refine ⟨6, rfl, ?_⟩)
    refine ⟨_, R, AVle.eq ?_, (by repeat (first | exact SLe.rfl | refine SLe.tail ?_)), rfl, rfl⟩
    rw [i2]; rfl
theorem refSmall_ok (s : List UInt8) (k : Nat) (R : List En) (hk : k ≤ s.length) (hs : s.length ≤ 16777216) : ACall Tryz.prog 39 [.str s, .int .i64 (k : Nat)] R (fun r S => r = .int .i64 ((k + ((s.drop k).takeWhile smallB).length : Nat) : Int) ∧ S = R) := by
  refine ACall_body tab_ok Tryz.func39 rfl rfl rfl (by kernel_rfl) (Nat.le_of_ble_eq_true rfl) ?_
  repeat (first | refine go_ ?_ | intro _)
  refine AW_for (α := Nat) (fun z => ⟨[(0, .str s), (1, .int .i64 (z : Nat))], []⟩) (fun z => R) (fun z => s.length - z) (fun z => z ≤ s.length ∧ k + ((s.drop k).takeWhile smallB).length = z + ((s.drop z).takeWhile smallB).length) (k) ?_ (weak_of ?_ rfl ?_) (fun z hz => ?_)
  · exact ⟨hk, rfl⟩
  · repeat (first | exact trivial | refine ⟨AVle.refl _, ?_⟩ | refine ⟨AVle.tk, ?_⟩ | refine ⟨AVle.nil, ?_⟩ | refine ⟨AVle.nilFull, ?_⟩ | refine ⟨AVle.eq (congrArg (AV.int .i64) (by first | (simp; done) | (simp; omega) | (rw [wrap_i64 (by first | omega | (simp; omega))]; first | rfl | omega | (simp; done) | (simp; omega)))), ?_⟩)
  · repeat (first | exact SLe.rfl | refine SLe.tail ?_ | refine SLe.full ?_)
  obtain ⟨i1, i2⟩ := hz
  repeat (first | refine go_ ?_ | intro _)
  refine gsplit (z < s.length) (by first | (simp; done) | (simp <;> omega) | decide) (fun h => ?_) (fun h => ?_)
  · have hlt := h
    obtain ⟨c, hc⟩ : ∃ c, c = s[z] := ⟨_, rfl⟩
    rw [tw_step hlt, ← hc] at i2
    repeat (first | refine ga_ ?_ | intro _)
    refine at_list z rfl hlt ?_
    rw [← hc]
    repeat (first | refine ga_ ?_ | intro _)
    refine gsplit (97 ≤ c.toNat) (by first | (simp; done) | (simp <;> omega) | decide) (fun h => ?_) (fun h => ?_)
    · have h97 := h
      repeat (first | refine ga_ ?_ | intro _)
      refine at_list z rfl hlt ?_
      rw [← hc]
      repeat (first | refine ga_ ?_ | intro _)
      refine AW_iff (c.toNat ≤ 122) rfl (by first | (simp; done) | (simp <;> omega) | decide) (fun h => ?_) (fun h => ?_)
      · rw [if_pos (by simp [smallB, h97, h])] at i2
        repeat (first | refine ga_ ?_ | intro _)
        refine ⟨z + 1, ?_, ?_, weak_of ?_ rfl ?_⟩
        · omega
        · exact ⟨hlt, by rw [i2, List.length_cons]; omega⟩
        · repeat (first | exact trivial | refine ⟨AVle.refl _, ?_⟩ | refine ⟨AVle.tk, ?_⟩ | refine ⟨AVle.nil, ?_⟩ | refine ⟨AVle.nilFull, ?_⟩ | refine ⟨AVle.eq (congrArg (AV.int .i64) (by first | (simp; done) | (simp; omega) | (rw [wrap_i64 (by first | omega | (simp; omega))]; first | rfl | omega | (simp; done) | (simp; omega)))), ?_⟩)
        · repeat (first | exact SLe.rfl | refine SLe.tail ?_ | refine SLe.full ?_)
      · rw [if_neg (by simp [smallB, h97, h])] at i2
        repeat (first | refine ga_ ?_ | intro _)
        refine AW_ret ?_
        repeat (first | refine ⟨0, rfl, ?_⟩ | refine ⟨1, rfl, ?_⟩ | refine ⟨2, rfl, ?_⟩ | refine ⟨3, rfl, ?_⟩ | refine ⟨4, rfl, ?_⟩ | refine ⟨5, rfl, ?_⟩ | refine ⟨6, rfl, ?_⟩)
        refine ⟨_, R, AVle.eq ?_, (by repeat (first | exact SLe.rfl | refine SLe.tail ?_)), rfl, rfl⟩
        rw [i2]; rfl
    · rw [if_neg (by simp [smallB, h])] at i2
      repeat (first | refine ga_ ?_ | intro _)
      refine AW_ret ?_
      repeat (first | refine ⟨0, rfl, ?_⟩ | refine ⟨1, rfl, ?_⟩ | refine ⟨2, rfl, ?_⟩ | refine ⟨3, rfl, ?_⟩ | refine ⟨4, rfl, ?_⟩ | refine ⟨5, rfl, ?_⟩ | refine ⟨6, rfl, ?_⟩)
      refine ⟨_, R, AVle.eq ?_, (by repeat (first | exact SLe.rfl | refine SLe.tail ?_)), rfl, rfl⟩
      rw [i2]; rfl
  · have e : z = s.length := by omega
    subst e
    rw [List.drop_length] at i2
    repeat (first | refine ga_ ?_ | intro _)
    refine AW_ret ?_
    repeat (first | refine ⟨0, rfl, ?_⟩ | refine ⟨1, rfl, ?_⟩ | refine ⟨2, rfl, ?_⟩ | refine ⟨3, rfl, ?_⟩ | refine ⟨4, rfl, ?_⟩ | refine ⟨5, rfl, ?_⟩ | refine ⟨6, rfl, ?_⟩)
    refine ⟨_, R, AVle.eq ?_, (by repeat (first | exact SLe.rfl | refine SLe.tail ?_)), rfl, rfl⟩
    rw [i2]; rfl

/-- the place behind a symbol's text -/
def symV (n : Nat) (l : List UInt8) : Int := match symR l with
  | some q => ((n - q.2.length : Nat) : Int)
  | none => 0
theorem refSymbol_ok (s : List UInt8) (k : Nat) (R : List En) (hk : k < s.length) (hs : s.length ≤ 16777216) : ACall Tryz.prog 37 [.str s, .int .i64 (k : Nat)] R (fun r S => r = .int .i64 (symV s.length (s.drop (k + 1))) ∧ S = R) := by
  refine ACall_body tab_ok Tryz.func37 rfl rfl rfl (by kernel_rfl) (Nat.le_of_ble_eq_true rfl) ?_
  repeat (first | refine go_ ?_ | intro _)
  refine AW_for (α := Nat) (fun z => ⟨[(0, .str s), (5, .int .i64 (z : Nat))], []⟩) (fun z => R) (fun z => s.length - z) (fun z => z ≤ s.length ∧ symV s.length (s.drop (k + 1)) = symV s.length (s.drop z)) (k + 1) ?_ (weak_of ?_ rfl ?_) (fun z hz => ?_)
  · exact ⟨hk, rfl⟩
  · repeat (first | exact trivial | refine ⟨AVle.refl _, ?_⟩ | refine ⟨AVle.tk, ?_⟩ | refine ⟨AVle.nil, ?_⟩ | refine ⟨AVle.nilFull, ?_⟩ | refine ⟨AVle.eq (congrArg (AV.int .i64) (by first | (simp; done) | (simp; omega) | (rw [wrap_i64 (by first | omega | (simp; omega))]; first | rfl | omega | (simp; done) | (simp; omega)))), ?_⟩)
  · repeat (first | exact SLe.rfl | refine SLe.tail ?_ | refine SLe.full ?_)
  obtain ⟨i1, i2⟩ := hz
  rw [i2]
  repeat (first | refine go_ ?_ | intro _)
  refine gsplit (z < s.length) (by first | (simp; done) | (simp <;> omega) | decide) (fun h => ?_) (fun h => ?_)
  · have hlt := h
    have hd := drop_one hlt
    obtain ⟨c, hc⟩ : ∃ c, c = s[z] := ⟨_, rfl⟩
    rw [← hc] at hd
    repeat (first | refine ga_ ?_ | intro _)
    refine at_list z rfl hlt ?_
    rw [← hc]
    repeat (first | refine ga_ ?_ | intro _)
    refine AW_iff (¬ c.toNat = 34) rfl (by first | (simp; done) | (simp <;> omega) | decide) (fun h => ?_) (fun h => ?_)
    · have h34 := h
      have kn := next_ok s z R i1 hs
      cases hdd : dec1 (s.drop z) with
      | none =>
        rw [nextAV, hdd] at kn
        have e : symV s.length (s.drop z) = 0 := by rw [hd] at hdd ⊢; rw [symV, symR_none h34 hdd]
        repeat (first | refine go_ ?_ | intro _)
        refine Or.inl ⟨⟨_, Tryz.func57, rfl, rfl⟩, ACall.mono ?_ (kn)⟩
        rintro _ S1 ⟨rfl, hS1⟩
        subst S1
        repeat (first | refine ga_ ?_ | intro _)
        refine AW_ret ?_
        repeat (first | refine ⟨0, rfl, ?_⟩ | refine ⟨1, rfl, ?_⟩ | refine ⟨2, rfl, ?_⟩ | refine ⟨3, rfl, ?_⟩ | refine ⟨4, rfl, ?_⟩ | refine ⟨5, rfl, ?_⟩ | refine ⟨6, rfl, ?_⟩)
        refine ⟨_, R, AVle.eq ?_, (by repeat (first | exact SLe.rfl | refine SLe.tail ?_)), rfl, rfl⟩
        rw [e]; rfl
      | some q =>
        obtain ⟨d, r⟩ := q
        rw [nextAV, hdd] at kn
        simp only [] at kn
        have hds := dec1_some hdd
        have hp := (oneL_len d).1
        have hpl := part_len (oneL d) r i1 hds
        have hpd := part_drop (oneL d) r hds
        have e : symV s.length (s.drop z) = symV s.length r := by
          rw [hd] at hdd ⊢
          rw [symV, symV, symR_some h34 hdd]
          cases symR r <;> rfl
        repeat (first | refine go_ ?_ | intro _)
        refine Or.inl ⟨⟨_, Tryz.func57, rfl, rfl⟩, ACall.mono ?_ (kn)⟩
        rintro _ S1 ⟨rfl, hS1⟩
        subst S1
        repeat (first | refine go_ ?_ | intro _)
        refine AW_false (b := decide (((oneL d).length : Int) = 0)) rfl (by exact decide_eq_false (by omega)) ?_
        repeat (first | refine go_ ?_ | intro _)
        refine ⟨z + (oneL d).length, ?_, ?_, weak_of ?_ rfl ?_⟩
        · omega
        · exact ⟨by omega, by rw [hpd, e]⟩
        · repeat (first | exact trivial | refine ⟨AVle.refl _, ?_⟩ | refine ⟨AVle.tk, ?_⟩ | refine ⟨AVle.nil, ?_⟩ | refine ⟨AVle.nilFull, ?_⟩ | refine ⟨AVle.eq (congrArg (AV.int .i64) (by first | (simp; done) | (simp; omega) | (rw [wrap_i64 (by first | omega | (simp; omega))]; first | rfl | omega | (simp; done) | (simp; omega)))), ?_⟩)
        · repeat (first | exact SLe.rfl | refine SLe.tail ?_ | refine SLe.full ?_)
    · have h34 : c = 34 := UInt8.toNat_inj.1 (Decidable.not_not.1 h)
      have e : symV s.length (s.drop z) = ((z + 1 : Nat) : Int) := by
        rw [symV, hd, h34, symR_end]
        show ((s.length - (s.drop (z + 1)).length : Nat) : Int) = _
        rw [List.length_drop]; omega
      repeat (first | refine go_ ?_ | intro _)
      refine AW_false (b := decide ((s.length : Int) ≤ z)) rfl (by exact decide_eq_false (by omega)) ?_
      repeat (first | refine go_ ?_ | intro _)
      refine AW_ret ?_
      repeat (first | refine ⟨0, rfl, ?_⟩ | refine ⟨1, rfl, ?_⟩ | refine ⟨2, rfl, ?_⟩ | refine ⟨3, rfl, ?_⟩ | refine ⟨4, rfl, ?_⟩ | refine ⟨5, rfl, ?_⟩ | refine ⟨6, rfl, ?_⟩)
      refine ⟨_, R, AVle.eq ?_, (by repeat (first | exact SLe.rfl | refine SLe.tail ?_)), rfl, rfl⟩
      rw [e]
      rw [← wrap_i64 (n := ((z + 1 : Nat) : Int)) (by omega)]; rfl
  · have e : symV s.length (s.drop z) = 0 := by rw [List.drop_of_length_le (by omega), symV, symR]
    repeat (first | refine ga_ ?_ | intro _)
    refine AW_true (b := decide ((s.length : Int) ≤ z)) rfl (by exact decide_eq_true (by omega)) ?_
    repeat (first | refine go_ ?_ | intro _)
    refine AW_ret ?_
    repeat (first | refine ⟨0, rfl, ?_⟩ | refine ⟨1, rfl, ?_⟩ | refine ⟨2, rfl, ?_⟩ | refine ⟨3, rfl, ?_⟩ | refine ⟨4, rfl, ?_⟩ | refine ⟨5, rfl, ?_⟩ | refine ⟨6, rfl, ?_⟩)
    refine ⟨_, R, AVle.eq ?_, (by repeat (first | exact SLe.rfl | refine SLe.tail ?_)), rfl, rfl⟩
    rw [e]; rfl
end Go.Proofs.YtgcoomicgdbmbaaGreatDoor
/-
  The book's reading of one token; blanks and comments. Own work.
-/
namespace Go.Proofs.YtgcoomicgdbmbaaGreatDoor
open Go.Aw Go.RowKit
set_option maxHeartbeats 4000000

theorem sign_mem {c : UInt8} (n : Nat) (hn : n < 256) (hm : UInt8.ofNat n ∈ signs) (h : c.toNat = n) : c ∈ signs := by
  have : c = UInt8.ofNat n := UInt8.toNat_inj.1 (by rw [h, UInt8.toNat_ofNat']; omega)
  rw [this]; exact hm
theorem refSign_ok (s : List UInt8) (k : Nat) (c : UInt8) (l : List UInt8) (R : List En) (hd : s.drop k = c :: l) (hs : s.length ≤ 16777216) : ACall Tryz.prog 40 [.str s, .int .i64 (k : Nat)] R (fun r S => r = .int .i64 ((signN c l : Nat) : Int) ∧ S = R) := by
  have hk : k < s.length := by
    by_cases h : k < s.length
    · exact h
    · rw [List.drop_of_length_le (by omega)] at hd; cases hd
  have hc : c = s[k] := by rw [drop_one hk] at hd; exact ((List.cons.inj hd).1).symm
  obtain ⟨t, ht⟩ : ∃ t, t = (c :: l).take 2 := ⟨_, rfl⟩
  have htw := twoS_in c l
  rw [← ht] at htw
  have hcut : (s.take (min s.length (k + 2))).drop k = t := by
    rw [ht, ← hd, List.drop_take]
    have : min s.length (k + 2) - k = min (s.length - k) 2 := by omega
    rw [this, List.take_eq_take_iff, List.length_drop]; omega
  refine ACall_body tab_ok Tryz.func40 rfl rfl rfl (by kernel_rfl) (Nat.le_of_ble_eq_true rfl) ?_
  repeat (first | refine go_ ?_ | intro _)
  refine at_ss k (min s.length (k + 2)) t rfl (by show min (s.length : Int) (IntKind.i64.wrap ((k : Int) + 2)) = _; rw [wrap_i64 (by omega)]; omega) (by omega) (by omega) hcut ?_
  repeat (first | refine det_step rfl ?_ | refine ⟨rfl, ?_⟩ | refine ⟨⟨_, rfl⟩, ?_⟩ | refine ⟨⟨_, rfl, rfl⟩, ?_⟩ | refine ⟨⟨rfl, rfl⟩, ?_⟩ | refine ⟨⟨Nat.le_of_ble_eq_true rfl, Nat.le_of_ble_eq_true rfl⟩, ?_⟩ | refine ⟨Nat.le_of_ble_eq_true rfl, ?_⟩ | refine ⟨_, _, rfl, ?_⟩ | refine ⟨0, _, rfl, ?_⟩ | refine ⟨1, _, rfl, ?_⟩ | refine ⟨2, _, rfl, ?_⟩ | refine ⟨3, _, rfl, ?_⟩ | refine ⟨4, _, rfl, ?_⟩ | refine ⟨5, _, rfl, ?_⟩ | refine ⟨_, rfl, ?_⟩ | intro _)
  refine AW_weak (weak_of (l := [(0, .str s), (1, .int .i64 (k : Nat)), (5, .str t)]) (m := []) (S' := R) ?_ rfl ?_) ?_
  · repeat (first | exact trivial | refine ⟨AVle.refl _, ?_⟩ | refine ⟨AVle.tk, ?_⟩ | refine ⟨AVle.nil, ?_⟩ | refine ⟨AVle.nilFull, ?_⟩ | refine ⟨AVle.eq (congrArg (AV.int .i64) (by first | (simp; done) | (simp; omega) | (rw [wrap_i64 (by first | omega | (simp; omega))]; first | rfl | omega | (simp; done) | (simp; omega)))), ?_⟩)
  · refine SW.le ?_
    repeat (first | exact SW.nil | refine SW.cons ?_ | refine SW.cells (by repeat (first | exact trivial | refine ⟨AVle.refl _, ?_⟩ | refine ⟨AVle.nilFull, ?_⟩ | refine ⟨AVle.tk, ?_⟩ | refine ⟨AVle.nil, ?_⟩)) rfl ?_ | refine SW.full ?_ | refine SW.drop ?_)
  repeat (first | refine go_ ?_ | intro _)
  by_cases h2 : twoS c l = true
  · have e : signN c l = 2 := by rw [signN, if_pos h2]
    rw [htw, decide_eq_true_eq] at h2
    simp only [twos, List.mem_cons, List.not_mem_nil, or_false] at h2
    refine gsplit (t = [58, 45]) (by first | (simp; done) | (simp <;> omega) | decide) (fun h => ?_) (fun h => ?_)
    · repeat (first | refine ga_ ?_ | intro _)
      refine AW_ret ?_
      repeat (first | refine ⟨0, rfl, ?_⟩ | refine ⟨1, rfl, ?_⟩ | refine ⟨2, rfl, ?_⟩ | refine ⟨3, rfl, ?_⟩ | refine ⟨4, rfl, ?_⟩ | refine ⟨5, rfl, ?_⟩ | refine ⟨6, rfl, ?_⟩)
      refine ⟨_, R, AVle.eq ?_, (by repeat (first | exact SLe.rfl | refine SLe.tail ?_)), rfl, rfl⟩
      rw [e]; rfl
    repeat (first | refine ga_ ?_ | intro _)
    refine gsplit (t = [33, 61]) (by first | (simp; done) | (simp <;> omega) | decide) (fun h => ?_) (fun h => ?_)
    · repeat (first | refine ga_ ?_ | intro _)
      refine AW_ret ?_
      repeat (first | refine ⟨0, rfl, ?_⟩ | refine ⟨1, rfl, ?_⟩ | refine ⟨2, rfl, ?_⟩ | refine ⟨3, rfl, ?_⟩ | refine ⟨4, rfl, ?_⟩ | refine ⟨5, rfl, ?_⟩ | refine ⟨6, rfl, ?_⟩)
      refine ⟨_, R, AVle.eq ?_, (by repeat (first | exact SLe.rfl | refine SLe.tail ?_)), rfl, rfl⟩
      rw [e]; rfl
    repeat (first | refine ga_ ?_ | intro _)
    refine gsplit (t = [60, 61]) (by first | (simp; done) | (simp <;> omega) | decide) (fun h => ?_) (fun h => ?_)
    · repeat (first | refine ga_ ?_ | intro _)
      refine AW_ret ?_
      repeat (first | refine ⟨0, rfl, ?_⟩ | refine ⟨1, rfl, ?_⟩ | refine ⟨2, rfl, ?_⟩ | refine ⟨3, rfl, ?_⟩ | refine ⟨4, rfl, ?_⟩ | refine ⟨5, rfl, ?_⟩ | refine ⟨6, rfl, ?_⟩)
      refine ⟨_, R, AVle.eq ?_, (by repeat (first | exact SLe.rfl | refine SLe.tail ?_)), rfl, rfl⟩
      rw [e]; rfl
    repeat (first | refine ga_ ?_ | intro _)
    refine AW_iff (t = [62, 61]) rfl (by exact decide_eq_true_iff) (fun h => ?_) (fun h => ?_)
    · repeat (first | refine ga_ ?_ | intro _)
      refine AW_ret ?_
      repeat (first | refine ⟨0, rfl, ?_⟩ | refine ⟨1, rfl, ?_⟩ | refine ⟨2, rfl, ?_⟩ | refine ⟨3, rfl, ?_⟩ | refine ⟨4, rfl, ?_⟩ | refine ⟨5, rfl, ?_⟩ | refine ⟨6, rfl, ?_⟩)
      refine ⟨_, R, AVle.eq ?_, (by repeat (first | exact SLe.rfl | refine SLe.tail ?_)), rfl, rfl⟩
      rw [e]; rfl
    rename_i a1 a2 a3
    rcases h2 with h2 | h2 | h2 | h2
    · exact absurd h2 a1
    · exact absurd h2 a2
    · exact absurd h2 a3
    · exact absurd h2 h
  · have h3 := h2
    rw [htw, decide_eq_true_eq] at h3
    simp only [twos, List.mem_cons, List.not_mem_nil, or_false, not_or] at h3
    obtain ⟨g1, g2, g3, g4⟩ := h3
    refine gsplit (t = [58, 45]) (by first | (simp; done) | (simp <;> omega) | decide) (fun h => ?_) (fun h => ?_)
    · exact absurd h g1
    repeat (first | refine ga_ ?_ | intro _)
    refine gsplit (t = [33, 61]) (by first | (simp; done) | (simp <;> omega) | decide) (fun h => ?_) (fun h => ?_)
    · exact absurd h g2
    repeat (first | refine ga_ ?_ | intro _)
    refine gsplit (t = [60, 61]) (by first | (simp; done) | (simp <;> omega) | decide) (fun h => ?_) (fun h => ?_)
    · exact absurd h g3
    repeat (first | refine ga_ ?_ | intro _)
    refine AW_iff (t = [62, 61]) rfl (by exact decide_eq_true_iff) (fun h => ?_) (fun h => ?_)
    · exact absurd h g4
    refine AW_weak (weak_of (l := [(0, .str s), (1, .int .i64 (k : Nat))]) (m := []) (S' := R) ?_ rfl ?_) ?_
    · repeat (first | exact trivial | refine ⟨AVle.refl _, ?_⟩ | refine ⟨AVle.tk, ?_⟩ | refine ⟨AVle.nil, ?_⟩ | refine ⟨AVle.nilFull, ?_⟩ | refine ⟨AVle.eq (congrArg (AV.int .i64) (by first | (simp; done) | (simp; omega) | (rw [wrap_i64 (by first | omega | (simp; omega))]; first | rfl | omega | (simp; done) | (simp; omega)))), ?_⟩)
    · refine SW.le ?_
      repeat (first | exact SW.nil | refine SW.cons ?_ | refine SW.cells (by repeat (first | exact trivial | refine ⟨AVle.refl _, ?_⟩ | refine ⟨AVle.nilFull, ?_⟩ | refine ⟨AVle.tk, ?_⟩ | refine ⟨AVle.nil, ?_⟩)) rfl ?_ | refine SW.full ?_ | refine SW.drop ?_)
    repeat (first | refine go_ ?_ | intro _)
    refine at_list k rfl hk ?_
    rw [← hc]
    repeat (first | refine det_step rfl ?_ | refine ⟨rfl, ?_⟩ | refine ⟨⟨_, rfl⟩, ?_⟩ | refine ⟨⟨_, rfl, rfl⟩, ?_⟩ | refine ⟨⟨rfl, rfl⟩, ?_⟩ | refine ⟨⟨Nat.le_of_ble_eq_true rfl, Nat.le_of_ble_eq_true rfl⟩, ?_⟩ | refine ⟨Nat.le_of_ble_eq_true rfl, ?_⟩ | refine ⟨_, _, rfl, ?_⟩ | refine ⟨0, _, rfl, ?_⟩ | refine ⟨1, _, rfl, ?_⟩ | refine ⟨2, _, rfl, ?_⟩ | refine ⟨3, _, rfl, ?_⟩ | refine ⟨4, _, rfl, ?_⟩ | refine ⟨5, _, rfl, ?_⟩ | refine ⟨_, rfl, ?_⟩ | intro _)
    refine AW_weak (weak_of (l := [(30, .int .u8 c.toNat)]) (m := []) (S' := R) ?_ rfl ?_) ?_
    · repeat (first | exact trivial | refine ⟨AVle.refl _, ?_⟩ | refine ⟨AVle.tk, ?_⟩ | refine ⟨AVle.nil, ?_⟩ | refine ⟨AVle.nilFull, ?_⟩ | refine ⟨AVle.eq (congrArg (AV.int .i64) (by first | (simp; done) | (simp; omega) | (rw [wrap_i64 (by first | omega | (simp; omega))]; first | rfl | omega | (simp; done) | (simp; omega)))), ?_⟩)
    · refine SW.le ?_
      repeat (first | exact SW.nil | refine SW.cons ?_ | refine SW.cells (by repeat (first | exact trivial | refine ⟨AVle.refl _, ?_⟩ | refine ⟨AVle.nilFull, ?_⟩ | refine ⟨AVle.tk, ?_⟩ | refine ⟨AVle.nil, ?_⟩)) rfl ?_ | refine SW.full ?_ | refine SW.drop ?_)
    repeat (first | refine go_ ?_ | intro _)
    refine AW_iff (c.toNat = 40) rfl (by first | (simp; done) | (simp <;> omega)) (fun h => ?_) (fun h => ?_)
    · have e : signN c l = 1 := by rw [signN, if_neg h2, if_pos (sign_mem 40 (by omega) (by decide) h)]
      repeat (first | refine go_ ?_ | intro _)
      refine AW_true (b := decide ((c.toNat : Int) = 40)) rfl (by exact decide_eq_true (by omega)) ?_
      repeat (first | refine go_ ?_ | intro _)
      refine AW_ret ?_
      repeat (first | refine ⟨0, rfl, ?_⟩ | refine ⟨1, rfl, ?_⟩ | refine ⟨2, rfl, ?_⟩ | refine ⟨3, rfl, ?_⟩ | refine ⟨4, rfl, ?_⟩ | refine ⟨5, rfl, ?_⟩ | refine ⟨6, rfl, ?_⟩)
      refine ⟨_, R, AVle.eq ?_, (by repeat (first | exact SLe.rfl | refine SLe.tail ?_)), rfl, rfl⟩
      rw [e]; rfl
    have n40 := h
    refine AW_weak (weak_of (l := [(30, .int .u8 c.toNat)]) (m := []) (S' := R) ?_ rfl ?_) ?_
    · repeat (first | exact trivial | refine ⟨AVle.refl _, ?_⟩ | refine ⟨AVle.tk, ?_⟩ | refine ⟨AVle.nil, ?_⟩ | refine ⟨AVle.nilFull, ?_⟩ | refine ⟨AVle.eq (congrArg (AV.int .i64) (by first | (simp; done) | (simp; omega) | (rw [wrap_i64 (by first | omega | (simp; omega))]; first | rfl | omega | (simp; done) | (simp; omega)))), ?_⟩)
    · refine SW.le ?_
      repeat (first | exact SW.nil | refine SW.cons ?_ | refine SW.cells (by repeat (first | exact trivial | refine ⟨AVle.refl _, ?_⟩ | refine ⟨AVle.nilFull, ?_⟩ | refine ⟨AVle.tk, ?_⟩ | refine ⟨AVle.nil, ?_⟩)) rfl ?_ | refine SW.full ?_ | refine SW.drop ?_)
    repeat (first | refine go_ ?_ | intro _)
    refine AW_iff (c.toNat = 41) rfl (by first | (simp; done) | (simp <;> omega)) (fun h => ?_) (fun h => ?_)
    · have e : signN c l = 1 := by rw [signN, if_neg h2, if_pos (sign_mem 41 (by omega) (by decide) h)]
      repeat (first | refine go_ ?_ | intro _)
      refine AW_true (b := decide ((c.toNat : Int) = 41)) rfl (by exact decide_eq_true (by omega)) ?_
      repeat (first | refine go_ ?_ | intro _)
      refine AW_ret ?_
      repeat (first | refine ⟨0, rfl, ?_⟩ | refine ⟨1, rfl, ?_⟩ | refine ⟨2, rfl, ?_⟩ | refine ⟨3, rfl, ?_⟩ | refine ⟨4, rfl, ?_⟩ | refine ⟨5, rfl, ?_⟩ | refine ⟨6, rfl, ?_⟩)
      refine ⟨_, R, AVle.eq ?_, (by repeat (first | exact SLe.rfl | refine SLe.tail ?_)), rfl, rfl⟩
      rw [e]; rfl
    have n41 := h
    refine AW_weak (weak_of (l := [(30, .int .u8 c.toNat)]) (m := []) (S' := R) ?_ rfl ?_) ?_
    · repeat (first | exact trivial | refine ⟨AVle.refl _, ?_⟩ | refine ⟨AVle.tk, ?_⟩ | refine ⟨AVle.nil, ?_⟩ | refine ⟨AVle.nilFull, ?_⟩ | refine ⟨AVle.eq (congrArg (AV.int .i64) (by first | (simp; done) | (simp; omega) | (rw [wrap_i64 (by first | omega | (simp; omega))]; first | rfl | omega | (simp; done) | (simp; omega)))), ?_⟩)
    · refine SW.le ?_
      repeat (first | exact SW.nil | refine SW.cons ?_ | refine SW.cells (by repeat (first | exact trivial | refine ⟨AVle.refl _, ?_⟩ | refine ⟨AVle.nilFull, ?_⟩ | refine ⟨AVle.tk, ?_⟩ | refine ⟨AVle.nil, ?_⟩)) rfl ?_ | refine SW.full ?_ | refine SW.drop ?_)
    repeat (first | refine go_ ?_ | intro _)
    refine AW_iff (c.toNat = 123) rfl (by first | (simp; done) | (simp <;> omega)) (fun h => ?_) (fun h => ?_)
    · have e : signN c l = 1 := by rw [signN, if_neg h2, if_pos (sign_mem 123 (by omega) (by decide) h)]
      repeat (first | refine go_ ?_ | intro _)
      refine AW_true (b := decide ((c.toNat : Int) = 123)) rfl (by exact decide_eq_true (by omega)) ?_
      repeat (first | refine go_ ?_ | intro _)
      refine AW_ret ?_
      repeat (first | refine ⟨0, rfl, ?_⟩ | refine ⟨1, rfl, ?_⟩ | refine ⟨2, rfl, ?_⟩ | refine ⟨3, rfl, ?_⟩ | refine ⟨4, rfl, ?_⟩ | refine ⟨5, rfl, ?_⟩ | refine ⟨6, rfl, ?_⟩)
      refine ⟨_, R, AVle.eq ?_, (by repeat (first | exact SLe.rfl | refine SLe.tail ?_)), rfl, rfl⟩
      rw [e]; rfl
    have n123 := h
    refine AW_weak (weak_of (l := [(30, .int .u8 c.toNat)]) (m := []) (S' := R) ?_ rfl ?_) ?_
    · repeat (first | exact trivial | refine ⟨AVle.refl _, ?_⟩ | refine ⟨AVle.tk, ?_⟩ | refine ⟨AVle.nil, ?_⟩ | refine ⟨AVle.nilFull, ?_⟩ | refine ⟨AVle.eq (congrArg (AV.int .i64) (by first | (simp; done) | (simp; omega) | (rw [wrap_i64 (by first | omega | (simp; omega))]; first | rfl | omega | (simp; done) | (simp; omega)))), ?_⟩)
    · refine SW.le ?_
      repeat (first | exact SW.nil | refine SW.cons ?_ | refine SW.cells (by repeat (first | exact trivial | refine ⟨AVle.refl _, ?_⟩ | refine ⟨AVle.nilFull, ?_⟩ | refine ⟨AVle.tk, ?_⟩ | refine ⟨AVle.nil, ?_⟩)) rfl ?_ | refine SW.full ?_ | refine SW.drop ?_)
    repeat (first | refine go_ ?_ | intro _)
    refine AW_iff (c.toNat = 125) rfl (by first | (simp; done) | (simp <;> omega)) (fun h => ?_) (fun h => ?_)
    · have e : signN c l = 1 := by rw [signN, if_neg h2, if_pos (sign_mem 125 (by omega) (by decide) h)]
      repeat (first | refine go_ ?_ | intro _)
      refine AW_true (b := decide ((c.toNat : Int) = 125)) rfl (by exact decide_eq_true (by omega)) ?_
      repeat (first | refine go_ ?_ | intro _)
      refine AW_ret ?_
      repeat (first | refine ⟨0, rfl, ?_⟩ | refine ⟨1, rfl, ?_⟩ | refine ⟨2, rfl, ?_⟩ | refine ⟨3, rfl, ?_⟩ | refine ⟨4, rfl, ?_⟩ | refine ⟨5, rfl, ?_⟩ | refine ⟨6, rfl, ?_⟩)
      refine ⟨_, R, AVle.eq ?_, (by repeat (first | exact SLe.rfl | refine SLe.tail ?_)), rfl, rfl⟩
      rw [e]; rfl
    have n125 := h
    refine AW_weak (weak_of (l := [(30, .int .u8 c.toNat)]) (m := []) (S' := R) ?_ rfl ?_) ?_
    · repeat (first | exact trivial | refine ⟨AVle.refl _, ?_⟩ | refine ⟨AVle.tk, ?_⟩ | refine ⟨AVle.nil, ?_⟩ | refine ⟨AVle.nilFull, ?_⟩ | refine ⟨AVle.eq (congrArg (AV.int .i64) (by first | (simp; done) | (simp; omega) | (rw [wrap_i64 (by first | omega | (simp; omega))]; first | rfl | omega | (simp; done) | (simp; omega)))), ?_⟩)
    · refine SW.le ?_
      repeat (first | exact SW.nil | refine SW.cons ?_ | refine SW.cells (by repeat (first | exact trivial | refine ⟨AVle.refl _, ?_⟩ | refine ⟨AVle.nilFull, ?_⟩ | refine ⟨AVle.tk, ?_⟩ | refine ⟨AVle.nil, ?_⟩)) rfl ?_ | refine SW.full ?_ | refine SW.drop ?_)
    repeat (first | refine go_ ?_ | intro _)
    refine AW_iff (c.toNat = 44) rfl (by first | (simp; done) | (simp <;> omega)) (fun h => ?_) (fun h => ?_)
    · have e : signN c l = 1 := by rw [signN, if_neg h2, if_pos (sign_mem 44 (by omega) (by decide) h)]
      repeat (first | refine go_ ?_ | intro _)
      refine AW_true (b := decide ((c.toNat : Int) = 44)) rfl (by exact decide_eq_true (by omega)) ?_
      repeat (first | refine go_ ?_ | intro _)
      refine AW_ret ?_
      repeat (first | refine ⟨0, rfl, ?_⟩ | refine ⟨1, rfl, ?_⟩ | refine ⟨2, rfl, ?_⟩ | refine ⟨3, rfl, ?_⟩ | refine ⟨4, rfl, ?_⟩ | refine ⟨5, rfl, ?_⟩ | refine ⟨6, rfl, ?_⟩)
      refine ⟨_, R, AVle.eq ?_, (by repeat (first | exact SLe.rfl | refine SLe.tail ?_)), rfl, rfl⟩
      rw [e]; rfl
    have n44 := h
    refine AW_weak (weak_of (l := [(30, .int .u8 c.toNat)]) (m := []) (S' := R) ?_ rfl ?_) ?_
    · repeat (first | exact trivial | refine ⟨AVle.refl _, ?_⟩ | refine ⟨AVle.tk, ?_⟩ | refine ⟨AVle.nil, ?_⟩ | refine ⟨AVle.nilFull, ?_⟩ | refine ⟨AVle.eq (congrArg (AV.int .i64) (by first | (simp; done) | (simp; omega) | (rw [wrap_i64 (by first | omega | (simp; omega))]; first | rfl | omega | (simp; done) | (simp; omega)))), ?_⟩)
    · refine SW.le ?_
      repeat (first | exact SW.nil | refine SW.cons ?_ | refine SW.cells (by repeat (first | exact trivial | refine ⟨AVle.refl _, ?_⟩ | refine ⟨AVle.nilFull, ?_⟩ | refine ⟨AVle.tk, ?_⟩ | refine ⟨AVle.nil, ?_⟩)) rfl ?_ | refine SW.full ?_ | refine SW.drop ?_)
    repeat (first | refine go_ ?_ | intro _)
    refine AW_iff (c.toNat = 46) rfl (by first | (simp; done) | (simp <;> omega)) (fun h => ?_) (fun h => ?_)
    · have e : signN c l = 1 := by rw [signN, if_neg h2, if_pos (sign_mem 46 (by omega) (by decide) h)]
      repeat (first | refine go_ ?_ | intro _)
      refine AW_true (b := decide ((c.toNat : Int) = 46)) rfl (by exact decide_eq_true (by omega)) ?_
      repeat (first | refine go_ ?_ | intro _)
      refine AW_ret ?_
      repeat (first | refine ⟨0, rfl, ?_⟩ | refine ⟨1, rfl, ?_⟩ | refine ⟨2, rfl, ?_⟩ | refine ⟨3, rfl, ?_⟩ | refine ⟨4, rfl, ?_⟩ | refine ⟨5, rfl, ?_⟩ | refine ⟨6, rfl, ?_⟩)
      refine ⟨_, R, AVle.eq ?_, (by repeat (first | exact SLe.rfl | refine SLe.tail ?_)), rfl, rfl⟩
      rw [e]; rfl
    have n46 := h
    refine AW_weak (weak_of (l := [(30, .int .u8 c.toNat)]) (m := []) (S' := R) ?_ rfl ?_) ?_
    · repeat (first | exact trivial | refine ⟨AVle.refl _, ?_⟩ | refine ⟨AVle.tk, ?_⟩ | refine ⟨AVle.nil, ?_⟩ | refine ⟨AVle.nilFull, ?_⟩ | refine ⟨AVle.eq (congrArg (AV.int .i64) (by first | (simp; done) | (simp; omega) | (rw [wrap_i64 (by first | omega | (simp; omega))]; first | rfl | omega | (simp; done) | (simp; omega)))), ?_⟩)
    · refine SW.le ?_
      repeat (first | exact SW.nil | refine SW.cons ?_ | refine SW.cells (by repeat (first | exact trivial | refine ⟨AVle.refl _, ?_⟩ | refine ⟨AVle.nilFull, ?_⟩ | refine ⟨AVle.tk, ?_⟩ | refine ⟨AVle.nil, ?_⟩)) rfl ?_ | refine SW.full ?_ | refine SW.drop ?_)
    repeat (first | refine go_ ?_ | intro _)
    refine AW_iff (c.toNat = 58) rfl (by first | (simp; done) | (simp <;> omega)) (fun h => ?_) (fun h => ?_)
    · have e : signN c l = 1 := by rw [signN, if_neg h2, if_pos (sign_mem 58 (by omega) (by decide) h)]
      repeat (first | refine go_ ?_ | intro _)
      refine AW_true (b := decide ((c.toNat : Int) = 58)) rfl (by exact decide_eq_true (by omega)) ?_
      repeat (first | refine go_ ?_ | intro _)
      refine AW_ret ?_
      repeat (first | refine ⟨0, rfl, ?_⟩ | refine ⟨1, rfl, ?_⟩ | refine ⟨2, rfl, ?_⟩ | refine ⟨3, rfl, ?_⟩ | refine ⟨4, rfl, ?_⟩ | refine ⟨5, rfl, ?_⟩ | refine ⟨6, rfl, ?_⟩)
      refine ⟨_, R, AVle.eq ?_, (by repeat (first | exact SLe.rfl | refine SLe.tail ?_)), rfl, rfl⟩
      rw [e]; rfl
    have n58 := h
    refine AW_weak (weak_of (l := [(30, .int .u8 c.toNat)]) (m := []) (S' := R) ?_ rfl ?_) ?_
    · repeat (first | exact trivial | refine ⟨AVle.refl _, ?_⟩ | refine ⟨AVle.tk, ?_⟩ | refine ⟨AVle.nil, ?_⟩ | refine ⟨AVle.nilFull, ?_⟩ | refine ⟨AVle.eq (congrArg (AV.int .i64) (by first | (simp; done) | (simp; omega) | (rw [wrap_i64 (by first | omega | (simp; omega))]; first | rfl | omega | (simp; done) | (simp; omega)))), ?_⟩)
    · refine SW.le ?_
      repeat (first | exact SW.nil | refine SW.cons ?_ | refine SW.cells (by repeat (first | exact trivial | refine ⟨AVle.refl _, ?_⟩ | refine ⟨AVle.nilFull, ?_⟩ | refine ⟨AVle.tk, ?_⟩ | refine ⟨AVle.nil, ?_⟩)) rfl ?_ | refine SW.full ?_ | refine SW.drop ?_)
    repeat (first | refine go_ ?_ | intro _)
    refine AW_iff (c.toNat = 33) rfl (by first | (simp; done) | (simp <;> omega)) (fun h => ?_) (fun h => ?_)
    · have e : signN c l = 1 := by rw [signN, if_neg h2, if_pos (sign_mem 33 (by omega) (by decide) h)]
      repeat (first | refine go_ ?_ | intro _)
      refine AW_true (b := decide ((c.toNat : Int) = 33)) rfl (by exact decide_eq_true (by omega)) ?_
      repeat (first | refine go_ ?_ | intro _)
      refine AW_ret ?_
      repeat (first | refine ⟨0, rfl, ?_⟩ | refine ⟨1, rfl, ?_⟩ | refine ⟨2, rfl, ?_⟩ | refine ⟨3, rfl, ?_⟩ | refine ⟨4, rfl, ?_⟩ | refine ⟨5, rfl, ?_⟩ | refine ⟨6, rfl, ?_⟩)
      refine ⟨_, R, AVle.eq ?_, (by repeat (first | exact SLe.rfl | refine SLe.tail ?_)), rfl, rfl⟩
      rw [e]; rfl
    have n33 := h
    refine AW_weak (weak_of (l := [(30, .int .u8 c.toNat)]) (m := []) (S' := R) ?_ rfl ?_) ?_
    · repeat (first | exact trivial | refine ⟨AVle.refl _, ?_⟩ | refine ⟨AVle.tk, ?_⟩ | refine ⟨AVle.nil, ?_⟩ | refine ⟨AVle.nilFull, ?_⟩ | refine ⟨AVle.eq (congrArg (AV.int .i64) (by first | (simp; done) | (simp; omega) | (rw [wrap_i64 (by first | omega | (simp; omega))]; first | rfl | omega | (simp; done) | (simp; omega)))), ?_⟩)
    · refine SW.le ?_
      repeat (first | exact SW.nil | refine SW.cons ?_ | refine SW.cells (by repeat (first | exact trivial | refine ⟨AVle.refl _, ?_⟩ | refine ⟨AVle.nilFull, ?_⟩ | refine ⟨AVle.tk, ?_⟩ | refine ⟨AVle.nil, ?_⟩)) rfl ?_ | refine SW.full ?_ | refine SW.drop ?_)
    repeat (first | refine go_ ?_ | intro _)
    refine AW_iff (c.toNat = 61) rfl (by first | (simp; done) | (simp <;> omega)) (fun h => ?_) (fun h => ?_)
    · have e : signN c l = 1 := by rw [signN, if_neg h2, if_pos (sign_mem 61 (by omega) (by decide) h)]
      repeat (first | refine go_ ?_ | intro _)
      refine AW_true (b := decide ((c.toNat : Int) = 61)) rfl (by exact decide_eq_true (by omega)) ?_
      repeat (first | refine go_ ?_ | intro _)
      refine AW_ret ?_
      repeat (first | refine ⟨0, rfl, ?_⟩ | refine ⟨1, rfl, ?_⟩ | refine ⟨2, rfl, ?_⟩ | refine ⟨3, rfl, ?_⟩ | refine ⟨4, rfl, ?_⟩ | refine ⟨5, rfl, ?_⟩ | refine ⟨6, rfl, ?_⟩)
      refine ⟨_, R, AVle.eq ?_, (by repeat (first | exact SLe.rfl | refine SLe.tail ?_)), rfl, rfl⟩
      rw [e]; rfl
    have n61 := h
    refine AW_weak (weak_of (l := [(30, .int .u8 c.toNat)]) (m := []) (S' := R) ?_ rfl ?_) ?_
    · repeat (first | exact trivial | refine ⟨AVle.refl _, ?_⟩ | refine ⟨AVle.tk, ?_⟩ | refine ⟨AVle.nil, ?_⟩ | refine ⟨AVle.nilFull, ?_⟩ | refine ⟨AVle.eq (congrArg (AV.int .i64) (by first | (simp; done) | (simp; omega) | (rw [wrap_i64 (by first | omega | (simp; omega))]; first | rfl | omega | (simp; done) | (simp; omega)))), ?_⟩)
    · refine SW.le ?_
      repeat (first | exact SW.nil | refine SW.cons ?_ | refine SW.cells (by repeat (first | exact trivial | refine ⟨AVle.refl _, ?_⟩ | refine ⟨AVle.nilFull, ?_⟩ | refine ⟨AVle.tk, ?_⟩ | refine ⟨AVle.nil, ?_⟩)) rfl ?_ | refine SW.full ?_ | refine SW.drop ?_)
    repeat (first | refine go_ ?_ | intro _)
    refine AW_iff (c.toNat = 60) rfl (by first | (simp; done) | (simp <;> omega)) (fun h => ?_) (fun h => ?_)
    · have e : signN c l = 1 := by rw [signN, if_neg h2, if_pos (sign_mem 60 (by omega) (by decide) h)]
      repeat (first | refine go_ ?_ | intro _)
      refine AW_true (b := decide ((c.toNat : Int) = 60)) rfl (by exact decide_eq_true (by omega)) ?_
      repeat (first | refine go_ ?_ | intro _)
      refine AW_ret ?_
      repeat (first | refine ⟨0, rfl, ?_⟩ | refine ⟨1, rfl, ?_⟩ | refine ⟨2, rfl, ?_⟩ | refine ⟨3, rfl, ?_⟩ | refine ⟨4, rfl, ?_⟩ | refine ⟨5, rfl, ?_⟩ | refine ⟨6, rfl, ?_⟩)
      refine ⟨_, R, AVle.eq ?_, (by repeat (first | exact SLe.rfl | refine SLe.tail ?_)), rfl, rfl⟩
      rw [e]; rfl
    have n60 := h
    refine AW_weak (weak_of (l := [(30, .int .u8 c.toNat)]) (m := []) (S' := R) ?_ rfl ?_) ?_
    · repeat (first | exact trivial | refine ⟨AVle.refl _, ?_⟩ | refine ⟨AVle.tk, ?_⟩ | refine ⟨AVle.nil, ?_⟩ | refine ⟨AVle.nilFull, ?_⟩ | refine ⟨AVle.eq (congrArg (AV.int .i64) (by first | (simp; done) | (simp; omega) | (rw [wrap_i64 (by first | omega | (simp; omega))]; first | rfl | omega | (simp; done) | (simp; omega)))), ?_⟩)
    · refine SW.le ?_
      repeat (first | exact SW.nil | refine SW.cons ?_ | refine SW.cells (by repeat (first | exact trivial | refine ⟨AVle.refl _, ?_⟩ | refine ⟨AVle.nilFull, ?_⟩ | refine ⟨AVle.tk, ?_⟩ | refine ⟨AVle.nil, ?_⟩)) rfl ?_ | refine SW.full ?_ | refine SW.drop ?_)
    repeat (first | refine go_ ?_ | intro _)
    refine AW_iff (c.toNat = 62) rfl (by first | (simp; done) | (simp <;> omega)) (fun h => ?_) (fun h => ?_)
    · have e : signN c l = 1 := by rw [signN, if_neg h2, if_pos (sign_mem 62 (by omega) (by decide) h)]
      repeat (first | refine go_ ?_ | intro _)
      refine AW_true (b := decide ((c.toNat : Int) = 62)) rfl (by exact decide_eq_true (by omega)) ?_
      repeat (first | refine go_ ?_ | intro _)
      refine AW_ret ?_
      repeat (first | refine ⟨0, rfl, ?_⟩ | refine ⟨1, rfl, ?_⟩ | refine ⟨2, rfl, ?_⟩ | refine ⟨3, rfl, ?_⟩ | refine ⟨4, rfl, ?_⟩ | refine ⟨5, rfl, ?_⟩ | refine ⟨6, rfl, ?_⟩)
      refine ⟨_, R, AVle.eq ?_, (by repeat (first | exact SLe.rfl | refine SLe.tail ?_)), rfl, rfl⟩
      rw [e]; rfl
    have n62 := h
    refine AW_weak (weak_of (l := [(30, .int .u8 c.toNat)]) (m := []) (S' := R) ?_ rfl ?_) ?_
    · repeat (first | exact trivial | refine ⟨AVle.refl _, ?_⟩ | refine ⟨AVle.tk, ?_⟩ | refine ⟨AVle.nil, ?_⟩ | refine ⟨AVle.nilFull, ?_⟩ | refine ⟨AVle.eq (congrArg (AV.int .i64) (by first | (simp; done) | (simp; omega) | (rw [wrap_i64 (by first | omega | (simp; omega))]; first | rfl | omega | (simp; done) | (simp; omega)))), ?_⟩)
    · refine SW.le ?_
      repeat (first | exact SW.nil | refine SW.cons ?_ | refine SW.cells (by repeat (first | exact trivial | refine ⟨AVle.refl _, ?_⟩ | refine ⟨AVle.nilFull, ?_⟩ | refine ⟨AVle.tk, ?_⟩ | refine ⟨AVle.nil, ?_⟩)) rfl ?_ | refine SW.full ?_ | refine SW.drop ?_)
    repeat (first | refine go_ ?_ | intro _)
    refine AW_iff (c.toNat = 43) rfl (by first | (simp; done) | (simp <;> omega)) (fun h => ?_) (fun h => ?_)
    · have e : signN c l = 1 := by rw [signN, if_neg h2, if_pos (sign_mem 43 (by omega) (by decide) h)]
      repeat (first | refine go_ ?_ | intro _)
      refine AW_true (b := decide ((c.toNat : Int) = 43)) rfl (by exact decide_eq_true (by omega)) ?_
      repeat (first | refine go_ ?_ | intro _)
      refine AW_ret ?_
      repeat (first | refine ⟨0, rfl, ?_⟩ | refine ⟨1, rfl, ?_⟩ | refine ⟨2, rfl, ?_⟩ | refine ⟨3, rfl, ?_⟩ | refine ⟨4, rfl, ?_⟩ | refine ⟨5, rfl, ?_⟩ | refine ⟨6, rfl, ?_⟩)
      refine ⟨_, R, AVle.eq ?_, (by repeat (first | exact SLe.rfl | refine SLe.tail ?_)), rfl, rfl⟩
      rw [e]; rfl
    have n43 := h
    refine AW_weak (weak_of (l := [(30, .int .u8 c.toNat)]) (m := []) (S' := R) ?_ rfl ?_) ?_
    · repeat (first | exact trivial | refine ⟨AVle.refl _, ?_⟩ | refine ⟨AVle.tk, ?_⟩ | refine ⟨AVle.nil, ?_⟩ | refine ⟨AVle.nilFull, ?_⟩ | refine ⟨AVle.eq (congrArg (AV.int .i64) (by first | (simp; done) | (simp; omega) | (rw [wrap_i64 (by first | omega | (simp; omega))]; first | rfl | omega | (simp; done) | (simp; omega)))), ?_⟩)
    · refine SW.le ?_
      repeat (first | exact SW.nil | refine SW.cons ?_ | refine SW.cells (by repeat (first | exact trivial | refine ⟨AVle.refl _, ?_⟩ | refine ⟨AVle.nilFull, ?_⟩ | refine ⟨AVle.tk, ?_⟩ | refine ⟨AVle.nil, ?_⟩)) rfl ?_ | refine SW.full ?_ | refine SW.drop ?_)
    repeat (first | refine go_ ?_ | intro _)
    refine AW_iff (c.toNat = 45) rfl (by first | (simp; done) | (simp <;> omega)) (fun h => ?_) (fun h => ?_)
    · have e : signN c l = 1 := by rw [signN, if_neg h2, if_pos (sign_mem 45 (by omega) (by decide) h)]
      repeat (first | refine go_ ?_ | intro _)
      refine AW_true (b := decide ((c.toNat : Int) = 45)) rfl (by exact decide_eq_true (by omega)) ?_
      repeat (first | refine go_ ?_ | intro _)
      refine AW_ret ?_
      repeat (first | refine ⟨0, rfl, ?_⟩ | refine ⟨1, rfl, ?_⟩ | refine ⟨2, rfl, ?_⟩ | refine ⟨3, rfl, ?_⟩ | refine ⟨4, rfl, ?_⟩ | refine ⟨5, rfl, ?_⟩ | refine ⟨6, rfl, ?_⟩)
      refine ⟨_, R, AVle.eq ?_, (by repeat (first | exact SLe.rfl | refine SLe.tail ?_)), rfl, rfl⟩
      rw [e]; rfl
    have n45 := h
    refine AW_weak (weak_of (l := [(30, .int .u8 c.toNat)]) (m := []) (S' := R) ?_ rfl ?_) ?_
    · repeat (first | exact trivial | refine ⟨AVle.refl _, ?_⟩ | refine ⟨AVle.tk, ?_⟩ | refine ⟨AVle.nil, ?_⟩ | refine ⟨AVle.nilFull, ?_⟩ | refine ⟨AVle.eq (congrArg (AV.int .i64) (by first | (simp; done) | (simp; omega) | (rw [wrap_i64 (by first | omega | (simp; omega))]; first | rfl | omega | (simp; done) | (simp; omega)))), ?_⟩)
    · refine SW.le ?_
      repeat (first | exact SW.nil | refine SW.cons ?_ | refine SW.cells (by repeat (first | exact trivial | refine ⟨AVle.refl _, ?_⟩ | refine ⟨AVle.nilFull, ?_⟩ | refine ⟨AVle.tk, ?_⟩ | refine ⟨AVle.nil, ?_⟩)) rfl ?_ | refine SW.full ?_ | refine SW.drop ?_)
    repeat (first | refine go_ ?_ | intro _)
    refine AW_iff (c.toNat = 42) rfl (by first | (simp; done) | (simp <;> omega)) (fun h => ?_) (fun h => ?_)
    · have e : signN c l = 1 := by rw [signN, if_neg h2, if_pos (sign_mem 42 (by omega) (by decide) h)]
      repeat (first | refine go_ ?_ | intro _)
      refine AW_ret ?_
      repeat (first | refine ⟨0, rfl, ?_⟩ | refine ⟨1, rfl, ?_⟩ | refine ⟨2, rfl, ?_⟩ | refine ⟨3, rfl, ?_⟩ | refine ⟨4, rfl, ?_⟩ | refine ⟨5, rfl, ?_⟩ | refine ⟨6, rfl, ?_⟩)
      refine ⟨_, R, AVle.eq ?_, (by repeat (first | exact SLe.rfl | refine SLe.tail ?_)), rfl, rfl⟩
      rw [e]; rfl
    · have e : signN c l = 0 := by
        rw [signN, if_neg h2, if_neg]
        intro hm
        have hall : ∀ x ∈ signs, x.toNat = 40 ∨ x.toNat = 41 ∨ x.toNat = 123 ∨ x.toNat = 125 ∨ x.toNat = 44 ∨ x.toNat = 46 ∨ x.toNat = 58 ∨ x.toNat = 33 ∨ x.toNat = 61 ∨ x.toNat = 60 ∨ x.toNat = 62 ∨ x.toNat = 43 ∨ x.toNat = 45 ∨ x.toNat = 42 := by decide
        have := hall c hm
        omega
      repeat (first | refine go_ ?_ | intro _)
      refine AW_ret ?_
      repeat (first | refine ⟨0, rfl, ?_⟩ | refine ⟨1, rfl, ?_⟩ | refine ⟨2, rfl, ?_⟩ | refine ⟨3, rfl, ?_⟩ | refine ⟨4, rfl, ?_⟩ | refine ⟨5, rfl, ?_⟩ | refine ⟨6, rfl, ?_⟩)
      refine ⟨_, R, AVle.eq ?_, (by repeat (first | exact SLe.rfl | refine SLe.tail ?_)), rfl, rfl⟩
      rw [e]; rfl
end Go.Proofs.YtgcoomicgdbmbaaGreatDoor
