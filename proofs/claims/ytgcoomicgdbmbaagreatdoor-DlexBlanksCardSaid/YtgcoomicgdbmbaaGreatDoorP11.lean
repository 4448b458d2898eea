/-
  The book's reading of one token. Own work.
-/
import Derived.Test.YtgcoomicgdbmbaaGreatDoorP10
import Derived.Test.YtgcoomicgdbmbaaGreatDoorP8
set_option linter.all false
namespace Go.Proofs.YtgcoomicgdbmbaaGreatDoor
open Go.Aw Go.RowKit
set_option maxHeartbeats 4000000

def oneAV (n : Nat) (x : Option (Nat × List UInt8 × List UInt8)) : AV := match x with
  | some q => .tup [encT ⟨q.1, q.2.1, 0⟩, .int .i64 ((n - q.2.2.length : Nat) : Int)]
  | none => .tup [encT ⟨0, [], 0⟩, .int .i64 0]
theorem word_ok (s : List UInt8) (k : Nat) (R : List En) (hk : k ≤ s.length) (hs : s.length ≤ 16777216) : ACall Tryz.prog 35 [.str s, .int .i64 (k : Nat)] R
    (fun r S => r = oneAV s.length (if ((s.drop k).takeWhile wordB).length ≤ 40 then some (1, (s.drop k).takeWhile wordB, (s.drop k).dropWhile wordB) else none) ∧ S = R) := by
  have hd : s.drop k = (s.drop k).takeWhile wordB ++ (s.drop k).dropWhile wordB := (List.takeWhile_append_dropWhile).symm
  have hc := cut_part _ _ hd
  have hl := part_len _ _ hk hd
  refine ACall_body tab_ok Tryz.func35 rfl rfl rfl (by kernel_rfl) (Nat.le_of_ble_eq_true rfl) ?_
  repeat (first | refine go_ ?_ | intro _)
  refine Or.inl ⟨⟨_, Tryz.func55, rfl, rfl⟩, ACall.mono ?_ (refRun_ok s k _ hk hs)⟩
  rintro _ S1 ⟨rfl, hS1⟩
  subst S1
  repeat (first | refine go_ ?_ | intro _)
  refine AW_iff (¬ ((s.drop k).takeWhile wordB).length ≤ 40) rfl (by rw [decide_eq_true_eq, wrap_i64 (by omega)]; omega) (fun h => ?_) (fun h => ?_)
  · rw [if_neg h]
    repeat (first | refine go_ ?_ | intro _)
    refine AW_ret ?_
    refine ⟨rfl, 0, _, rfl, ⟨Nat.le_of_ble_eq_true rfl, Nat.le_of_ble_eq_true rfl⟩, _, R, AVle.eq ?_, SLe.tail SLe.rfl, rfl, rfl⟩
    rfl
  · rw [if_pos (Decidable.not_not.1 h)]
    repeat (first | refine go_ ?_ | intro _)
    refine at_ss k (k + ((s.drop k).takeWhile wordB).length) _ rfl rfl (by omega) (by omega) hc ?_
    repeat (first | refine go_ ?_ | intro _)
    refine AW_ret ?_
    refine ⟨rfl, 0, _, rfl, ⟨Nat.le_of_ble_eq_true rfl, Nat.le_of_ble_eq_true rfl⟩, _, R, AVle.eq ?_, SLe.tail SLe.rfl, rfl, rfl⟩
    exact congrArg (fun x : Nat => AV.tup [encT ⟨1, (s.drop k).takeWhile wordB, 0⟩, .int .i64 (x : Int)]) (by show _ = s.length - ((s.drop k).dropWhile wordB).length; omega)
theorem number_ok (s : List UInt8) (k : Nat) (R : List En) (hk : k ≤ s.length) (hs : s.length ≤ 16777216) : ACall Tryz.prog 36 [.str s, .int .i64 (k : Nat)] R
    (fun r S => r = oneAV s.length (if (pnL ((s.drop k).takeWhile wordB)).2 = 0 then some (2, (s.drop k).takeWhile wordB, (s.drop k).dropWhile wordB) else none) ∧ S = R) := by
  have hd : s.drop k = (s.drop k).takeWhile wordB ++ (s.drop k).dropWhile wordB := (List.takeWhile_append_dropWhile).symm
  have hc := cut_part _ _ hd
  have hl := part_len _ _ hk hd
  have kp := fun R => refParse_ok ((s.drop k).takeWhile wordB) R
  rw [← pn_rp] at kp
  refine ACall_body tab_ok Tryz.func36 rfl rfl rfl (by kernel_rfl) (Nat.le_of_ble_eq_true rfl) ?_
  repeat (first | refine go_ ?_ | intro _)
  refine Or.inl ⟨⟨_, Tryz.func55, rfl, rfl⟩, ACall.mono ?_ (refRun_ok s k _ hk hs)⟩
  rintro _ S1 ⟨rfl, hS1⟩
  subst S1
  repeat (first | refine go_ ?_ | intro _)
  refine at_ss k (k + ((s.drop k).takeWhile wordB).length) _ rfl rfl (by omega) (by omega) hc ?_
  repeat (first | refine go_ ?_ | intro _)
  refine Or.inl ⟨⟨_, Tryz.func56, rfl, rfl⟩, ACall.mono ?_ (kp _)⟩
  rintro _ S1 ⟨rfl, hS1⟩
  subst S1
  repeat (first | refine go_ ?_ | intro _)
  by_cases h0 : (pnL ((s.drop k).takeWhile wordB)).2 = 0
  · rw [if_pos h0]
    refine AW_false (b := !decide ((pnL ((s.drop k).takeWhile wordB)).2 = 0)) rfl (by rw [h0]; rfl) ?_
    repeat (first | refine go_ ?_ | intro _)
    refine at_ss k (k + ((s.drop k).takeWhile wordB).length) _ rfl rfl (by omega) (by omega) hc ?_
    repeat (first | refine go_ ?_ | intro _)
    refine AW_ret ?_
    refine ⟨rfl, 0, _, rfl, ⟨Nat.le_of_ble_eq_true rfl, Nat.le_of_ble_eq_true rfl⟩, _, R, AVle.eq ?_, SLe.tail SLe.rfl, rfl, rfl⟩
    exact congrArg (fun x : Nat => AV.tup [encT ⟨2, (s.drop k).takeWhile wordB, 0⟩, .int .i64 (x : Int)]) (by show _ = s.length - ((s.drop k).dropWhile wordB).length; omega)
  · rw [if_neg h0]
    refine AW_true (b := !decide ((pnL ((s.drop k).takeWhile wordB)).2 = 0)) rfl (by rw [decide_eq_false h0]; rfl) ?_
    repeat (first | refine go_ ?_ | intro _)
    refine AW_ret ?_
    refine ⟨rfl, 0, _, rfl, ⟨Nat.le_of_ble_eq_true rfl, Nat.le_of_ble_eq_true rfl⟩, _, R, AVle.eq ?_, SLe.tail SLe.rfl, rfl, rfl⟩
    rfl
def oneCase (x : Option (Nat × List UInt8 × List UInt8)) (n : Nat) : Prop := match x with
  | some q => q.2.2.length ≤ n
  | none => True
theorem one_tok_ok (s : List UInt8) (k : Nat) (c : UInt8) (l : List UInt8) (R : List En) (hE : ErrG R) (hd : s.drop k = c :: l) (hs : s.length ≤ 16777214) : ACall Tryz.prog 21 [.str s, .int .i64 (k : Nat)] R (fun r S => r = oneAV s.length (oneT (c :: l)) ∧ S = R) := by
  have hk : k < s.length := by
    by_cases h : k < s.length
    · exact h
    · rw [List.drop_of_length_le (by omega)] at hd; cases hd
  have hc : c = s[k] := by rw [drop_one hk] at hd; exact ((List.cons.inj hd).1).symm
  have hl : s.drop (k + 1) = l := by rw [drop_one hk] at hd; exact (List.cons.inj hd).2
  have hll : l.length = s.length - (k + 1) := by rw [← hl, List.length_drop]
  have kw := word_ok s k
  have kn := number_ok s k
  have ky := refSymbol_ok s k
  have km := refSmall_ok s (k + 1)
  have kg := fun R => refSign_ok s k c l R hd (by omega)
  rw [hd] at kw kn
  rw [hl] at ky km
  refine ACall_body tab_ok Tryz.func21 rfl rfl rfl (by kernel_rfl) (Nat.le_of_ble_eq_true rfl) ?_
  repeat (first | refine go_ ?_ | intro _)
  rename_i b
  refine at_list k rfl hk ?_
  rw [← hc]
  repeat (first | refine go_ ?_ | intro _)
  refine Or.inl ⟨⟨_, Tryz.func33, rfl, rfl⟩, ACall.mono ?_ (letter_ok c _)⟩
  rintro _ S1 ⟨rfl, hS1⟩
  subst S1
  repeat (first | refine go_ ?_ | intro _)
  refine Or.inl ⟨⟨_, Tryz.func34, rfl, rfl⟩, ACall.mono ?_ (digit_ok c _)⟩
  rintro _ S1 ⟨rfl, hS1⟩
  subst S1
  repeat (first | refine det_step rfl ?_ | refine ⟨rfl, ?_⟩ | refine ⟨⟨_, rfl⟩, ?_⟩ | refine ⟨⟨_, rfl, rfl⟩, ?_⟩ | refine ⟨⟨rfl, rfl⟩, ?_⟩ | refine ⟨⟨Nat.le_of_ble_eq_true rfl, Nat.le_of_ble_eq_true rfl⟩, ?_⟩ | refine ⟨Nat.le_of_ble_eq_true rfl, ?_⟩ | refine ⟨_, _, rfl, ?_⟩ | refine ⟨0, _, rfl, ?_⟩ | refine ⟨1, _, rfl, ?_⟩ | refine ⟨2, _, rfl, ?_⟩ | refine ⟨3, _, rfl, ?_⟩ | refine ⟨4, _, rfl, ?_⟩ | refine ⟨5, _, rfl, ?_⟩ | refine ⟨_, rfl, ?_⟩ | intro _)
  refine AW_weak (weak_of (l := [(0, .str s), (1, .int .i64 (k : Nat)), (4, .ptr b 0), (6, .int .u8 c.toNat), (7, .bool (letterB c)), (8, .bool (digitB c))]) (m := []) (S' := .cells b [.int .i64 0, .str [], .int .i64 0] :: R) ?_ rfl ?_) ?_
  · repeat (first | exact trivial | refine ⟨AVle.refl _, ?_⟩ | refine ⟨AVle.tk, ?_⟩ | refine ⟨AVle.nil, ?_⟩ | refine ⟨AVle.nilFull, ?_⟩ | refine ⟨AVle.eq (congrArg (AV.int .i64) (by first | (simp; done) | (simp; omega) | (rw [wrap_i64 (by first | omega | (simp; omega))]; first | rfl | omega | (simp; done) | (simp; omega)))), ?_⟩)
  · refine SW.le ?_
    repeat (first | exact SW.nil | refine SW.cons ?_ | refine SW.cells (by repeat (first | exact trivial | refine ⟨AVle.refl _, ?_⟩ | refine ⟨AVle.nilFull, ?_⟩ | refine ⟨AVle.tk, ?_⟩ | refine ⟨AVle.nil, ?_⟩)) rfl ?_ | refine SW.full ?_ | refine SW.drop ?_)
  repeat (first | refine go_ ?_ | intro _)
  refine AW_cond (b := letterB c) rfl (fun h => ?_) (fun h => ?_)
  · have e : oneT (c :: l) = if ((c :: l).takeWhile wordB).length ≤ 40 then some (1, (c :: l).takeWhile wordB, (c :: l).dropWhile wordB) else none := by
      rw [oneT, if_pos h]
    rw [← e] at kw
    repeat (first | refine go_ ?_ | intro _)
    refine Or.inl ⟨⟨_, Tryz.func35, rfl, rfl⟩, ACall.mono ?_ (kw _ (by omega) (by omega))⟩
    rintro _ S1 ⟨rfl, hS1⟩
    subst S1
    cases oneT (c :: l) with
    | some q =>
      repeat (first | refine go_ ?_ | intro _)
      refine AW_ret ?_
      refine ⟨rfl, 0, _, rfl, ⟨Nat.le_of_ble_eq_true rfl, Nat.le_of_ble_eq_true rfl⟩, _, R, AVle.eq ?_, SLe.tail SLe.rfl, rfl, rfl⟩
      rfl
    | none =>
      repeat (first | refine go_ ?_ | intro _)
      refine AW_ret ?_
      refine ⟨rfl, 0, _, rfl, ⟨Nat.le_of_ble_eq_true rfl, Nat.le_of_ble_eq_true rfl⟩, _, R, AVle.eq ?_, SLe.tail SLe.rfl, rfl, rfl⟩
      rfl
  have h1 := h
  repeat (first | refine go_ ?_ | intro _)
  refine AW_cond (b := digitB c) rfl (fun h => ?_) (fun h => ?_)
  · have e : oneT (c :: l) = if (pnL ((c :: l).takeWhile wordB)).2 = 0 then some (2, (c :: l).takeWhile wordB, (c :: l).dropWhile wordB) else none := by
      rw [oneT, if_neg (by rw [h1]; decide), if_pos h]
    rw [← e] at kn
    repeat (first | refine go_ ?_ | intro _)
    refine Or.inl ⟨⟨_, Tryz.func36, rfl, rfl⟩, ACall.mono ?_ (kn _ (by omega) (by omega))⟩
    rintro _ S1 ⟨rfl, hS1⟩
    subst S1
    cases oneT (c :: l) with
    | some q =>
      repeat (first | refine go_ ?_ | intro _)
      refine AW_ret ?_
      refine ⟨rfl, 0, _, rfl, ⟨Nat.le_of_ble_eq_true rfl, Nat.le_of_ble_eq_true rfl⟩, _, R, AVle.eq ?_, SLe.tail SLe.rfl, rfl, rfl⟩
      rfl
    | none =>
      repeat (first | refine go_ ?_ | intro _)
      refine AW_ret ?_
      refine ⟨rfl, 0, _, rfl, ⟨Nat.le_of_ble_eq_true rfl, Nat.le_of_ble_eq_true rfl⟩, _, R, AVle.eq ?_, SLe.tail SLe.rfl, rfl, rfl⟩
      rfl
  have h2 := h
  refine AW_weak (weak_of (l := [(0, .str s), (1, .int .i64 (k : Nat)), (4, .ptr b 0), (6, .int .u8 c.toNat)]) (m := []) (S' := .cells b [.int .i64 0, .str [], .int .i64 0] :: R) ?_ rfl ?_) ?_
  · repeat (first | exact trivial | refine ⟨AVle.refl _, ?_⟩ | refine ⟨AVle.tk, ?_⟩ | refine ⟨AVle.nil, ?_⟩ | refine ⟨AVle.nilFull, ?_⟩ | refine ⟨AVle.eq (congrArg (AV.int .i64) (by first | (simp; done) | (simp; omega) | (rw [wrap_i64 (by first | omega | (simp; omega))]; first | rfl | omega | (simp; done) | (simp; omega)))), ?_⟩)
  · refine SW.le ?_
    repeat (first | exact SW.nil | refine SW.cons ?_ | refine SW.cells (by repeat (first | exact trivial | refine ⟨AVle.refl _, ?_⟩ | refine ⟨AVle.nilFull, ?_⟩ | refine ⟨AVle.tk, ?_⟩ | refine ⟨AVle.nil, ?_⟩)) rfl ?_ | refine SW.full ?_ | refine SW.drop ?_)
  repeat (first | refine go_ ?_ | intro _)
  refine AW_iff (c.toNat = 34) rfl (by first | (simp; done) | (simp <;> omega) | decide) (fun h => ?_) (fun h => ?_)
  · obtain rfl : c = 34 := UInt8.toNat_inj.1 h
    have e := oneT_quote l
    rw [e]
    cases hy : symR l with
    | some q =>
      obtain ⟨t, r⟩ := q
      obtain ⟨_, _, _, g4⟩ := sym_some hy
      have hq := (quoteL_len t).1
      have hdq : s.drop k = quoteL t ++ r := hd.trans g4
      have hcut := cut_part _ _ hdq
      have hpl := part_len _ _ (by omega) hdq
      rw [symV, hy] at ky
      simp only [] at ky
      have ku := fun R => refUnquote_ok (quoteL t) R (by omega)
      rw [unq_quote] at ku
      repeat (first | refine go_ ?_ | intro _)
      refine Or.inl ⟨⟨_, Tryz.func37, rfl, rfl⟩, ACall.mono ?_ (ky _ hk (by omega))⟩
      rintro _ S1 ⟨rfl, hS1⟩
      subst S1
      repeat (first | refine go_ ?_ | intro _)
      refine AW_false (b := decide (((s.length - r.length : Nat) : Int) = 0)) rfl (by exact decide_eq_false (by omega)) ?_
      repeat (first | refine go_ ?_ | intro _)
      refine at_ss k (k + (quoteL t).length) (quoteL t) rfl (by show ((s.length - r.length : Nat) : Int) = _; omega) (by omega) (by omega) hcut ?_
      repeat (first | refine go_ ?_ | intro _)
      refine Or.inl ⟨⟨_, Tryz.func38, rfl, rfl⟩, ACall.mono ?_ (ku _)⟩
      rintro _ S1 ⟨rfl, hS1⟩
      subst S1
      repeat (first | refine go_ ?_ | intro _)
      refine AW_ret ?_
      refine ⟨rfl, 0, _, rfl, ⟨Nat.le_of_ble_eq_true rfl, Nat.le_of_ble_eq_true rfl⟩, _, R, AVle.eq ?_, SLe.tail SLe.rfl, rfl, rfl⟩
      rfl
    | none =>
      rw [symV, hy] at ky
      simp only [] at ky
      repeat (first | refine go_ ?_ | intro _)
      refine Or.inl ⟨⟨_, Tryz.func37, rfl, rfl⟩, ACall.mono ?_ (ky _ hk (by omega))⟩
      rintro _ S1 ⟨rfl, hS1⟩
      subst S1
      repeat (first | refine go_ ?_ | intro _)
      refine AW_true (b := true) rfl (by first | rfl | (simp; done) | (simp; omega) | decide) ?_
      repeat (first | refine go_ ?_ | intro _)
      refine AW_ret ?_
      refine ⟨rfl, 0, _, rfl, ⟨Nat.le_of_ble_eq_true rfl, Nat.le_of_ble_eq_true rfl⟩, _, R, AVle.eq ?_, SLe.tail SLe.rfl, rfl, rfl⟩
      rfl
  have h3 := h
  have e : oneT (c :: l) = if c.toNat = 46 ∧ 0 < (l.takeWhile smallB).length then
      (if c :: l.takeWhile smallB = wDecl ∨ c :: l.takeWhile smallB = wIn ∨ c :: l.takeWhile smallB = wOut then some (5, c :: l.takeWhile smallB, l.dropWhile smallB) else none)
    else if signN c l = 0 then none else some (4, (c :: l).take (signN c l), (c :: l).drop (signN c l)) := by
    rw [oneT, if_neg (by rw [h1]; decide), if_neg (by rw [h2]; decide), if_neg h3]
  rw [e]
  have hsm := tw_len (p := smallB) (l := l)
  have e1 : IntKind.i64.wrap ((k : Int) + 1) = ((k + 1 : Nat) : Int) := by rw [wrap_i64 (by omega)]; omega
  have km2 : ∀ R, ACall Tryz.prog 39 [.str s, .int .i64 (IntKind.i64.wrap ((k : Int) + 1))] R (fun r S => r = .int .i64 ((k + 1 + (l.takeWhile smallB).length : Nat) : Int) ∧ S = R) := fun R => by rw [e1]; exact km R (by omega) (by omega)
  repeat (first | refine go_ ?_ | intro _)
  refine Or.inl ⟨⟨_, Tryz.func39, rfl, rfl⟩, ACall.mono ?_ (km2 _)⟩
  rintro _ S1 ⟨rfl, hS1⟩
  subst S1
  repeat (first | refine det_step rfl ?_ | refine ⟨rfl, ?_⟩ | refine ⟨⟨_, rfl⟩, ?_⟩ | refine ⟨⟨_, rfl, rfl⟩, ?_⟩ | refine ⟨⟨rfl, rfl⟩, ?_⟩ | refine ⟨⟨Nat.le_of_ble_eq_true rfl, Nat.le_of_ble_eq_true rfl⟩, ?_⟩ | refine ⟨Nat.le_of_ble_eq_true rfl, ?_⟩ | refine ⟨_, _, rfl, ?_⟩ | refine ⟨0, _, rfl, ?_⟩ | refine ⟨1, _, rfl, ?_⟩ | refine ⟨2, _, rfl, ?_⟩ | refine ⟨3, _, rfl, ?_⟩ | refine ⟨4, _, rfl, ?_⟩ | refine ⟨5, _, rfl, ?_⟩ | refine ⟨_, rfl, ?_⟩ | intro _)
  refine AW_weak (weak_of (l := [(0, .str s), (1, .int .i64 (k : Nat)), (4, .ptr b 0), (6, .int .u8 c.toNat), (12, .int .i64 ((k + 1 + (l.takeWhile smallB).length : Nat) : Int))]) (m := []) (S' := .cells b [.int .i64 0, .str [], .int .i64 0] :: R) ?_ rfl ?_) ?_
  · repeat (first | exact trivial | refine ⟨AVle.refl _, ?_⟩ | refine ⟨AVle.tk, ?_⟩ | refine ⟨AVle.nil, ?_⟩ | refine ⟨AVle.nilFull, ?_⟩ | refine ⟨AVle.eq (congrArg (AV.int .i64) (by first | (simp; done) | (simp; omega) | (rw [wrap_i64 (by first | omega | (simp; omega))]; first | rfl | omega | (simp; done) | (simp; omega)))), ?_⟩)
  · refine SW.le ?_
    repeat (first | exact SW.nil | refine SW.cons ?_ | refine SW.cells (by repeat (first | exact trivial | refine ⟨AVle.refl _, ?_⟩ | refine ⟨AVle.nilFull, ?_⟩ | refine ⟨AVle.tk, ?_⟩ | refine ⟨AVle.nil, ?_⟩)) rfl ?_ | refine SW.full ?_ | refine SW.drop ?_)
  repeat (first | refine go_ ?_ | intro _)
  have hds : s.drop k = (c :: l.takeWhile smallB) ++ l.dropWhile smallB := by rw [hd, List.cons_append, List.takeWhile_append_dropWhile]
  have hpl := part_len _ _ (by omega) hds
  have hct := cut_part _ _ hds
  rw [List.length_cons] at hpl hct
  obtain ⟨w, hw⟩ : ∃ w, w = c :: l.takeWhile smallB := ⟨_, rfl⟩
  rw [← hw] at hct ⊢
  have hsg := signN_le c l
  have hsl : s.drop k = (c :: l).take (signN c l) ++ (c :: l).drop (signN c l) := by rw [List.take_append_drop]; exact hd
  have hpl2 := part_len _ _ (by omega) hsl
  have hct2 := cut_part _ _ hsl
  have htl : ((c :: l).take (signN c l)).length = signN c l := by rw [List.length_take]; omega
  rw [htl] at hpl2 hct2
  refine gsplit (c.toNat = 46) (by first | (simp; done) | (simp <;> omega) | decide) (fun h => ?_) (fun h => ?_)
  · have h46 := h
    repeat (first | refine ga_ ?_ | intro _)
    refine AW_iff (0 < (l.takeWhile smallB).length) rfl (by rw [decide_eq_true_eq, wrap_i64 (by omega)]; omega) (fun h => ?_) (fun h => ?_)
    · rw [if_pos ⟨h46, h⟩]
      refine AW_weak (weak_of (l := [(0, .str s), (1, .int .i64 (k : Nat)), (4, .ptr b 0), (12, .int .i64 ((k + 1 + (l.takeWhile smallB).length : Nat) : Int))]) (m := []) (S' := .cells b [.int .i64 0, .str [], .int .i64 0] :: R) ?_ rfl ?_) ?_
      · repeat (first | exact trivial | refine ⟨AVle.refl _, ?_⟩ | refine ⟨AVle.tk, ?_⟩ | refine ⟨AVle.nil, ?_⟩ | refine ⟨AVle.nilFull, ?_⟩ | refine ⟨AVle.eq (congrArg (AV.int .i64) (by first | (simp; done) | (simp; omega) | (rw [wrap_i64 (by first | omega | (simp; omega))]; first | rfl | omega | (simp; done) | (simp; omega)))), ?_⟩)
      · refine SW.le ?_
        repeat (first | exact SW.nil | refine SW.cons ?_ | refine SW.cells (by repeat (first | exact trivial | refine ⟨AVle.refl _, ?_⟩ | refine ⟨AVle.nilFull, ?_⟩ | refine ⟨AVle.tk, ?_⟩ | refine ⟨AVle.nil, ?_⟩)) rfl ?_ | refine SW.full ?_ | refine SW.drop ?_)
      repeat (first | refine go_ ?_ | intro _)
      refine at_ss k (k + ((l.takeWhile smallB).length + 1)) w rfl (by show ((k + 1 + (l.takeWhile smallB).length : Nat) : Int) = _; omega) (by omega) (by omega) hct ?_
      repeat (first | refine det_step rfl ?_ | refine ⟨rfl, ?_⟩ | refine ⟨⟨_, rfl⟩, ?_⟩ | refine ⟨⟨_, rfl, rfl⟩, ?_⟩ | refine ⟨⟨rfl, rfl⟩, ?_⟩ | refine ⟨⟨Nat.le_of_ble_eq_true rfl, Nat.le_of_ble_eq_true rfl⟩, ?_⟩ | refine ⟨Nat.le_of_ble_eq_true rfl, ?_⟩ | refine ⟨_, _, rfl, ?_⟩ | refine ⟨0, _, rfl, ?_⟩ | refine ⟨1, _, rfl, ?_⟩ | refine ⟨2, _, rfl, ?_⟩ | refine ⟨3, _, rfl, ?_⟩ | refine ⟨4, _, rfl, ?_⟩ | refine ⟨5, _, rfl, ?_⟩ | refine ⟨_, rfl, ?_⟩ | intro _)
      refine AW_weak (weak_of (l := [(4, .ptr b 0), (12, .int .i64 ((k + 1 + (l.takeWhile smallB).length : Nat) : Int)), (13, .str w)]) (m := []) (S' := .cells b [.int .i64 0, .str [], .int .i64 0] :: R) ?_ rfl ?_) ?_
      · repeat (first | exact trivial | refine ⟨AVle.refl _, ?_⟩ | refine ⟨AVle.tk, ?_⟩ | refine ⟨AVle.nil, ?_⟩ | refine ⟨AVle.nilFull, ?_⟩ | refine ⟨AVle.eq (congrArg (AV.int .i64) (by first | (simp; done) | (simp; omega) | (rw [wrap_i64 (by first | omega | (simp; omega))]; first | rfl | omega | (simp; done) | (simp; omega)))), ?_⟩)
      · refine SW.le ?_
        repeat (first | exact SW.nil | refine SW.cons ?_ | refine SW.cells (by repeat (first | exact trivial | refine ⟨AVle.refl _, ?_⟩ | refine ⟨AVle.nilFull, ?_⟩ | refine ⟨AVle.tk, ?_⟩ | refine ⟨AVle.nil, ?_⟩)) rfl ?_ | refine SW.full ?_ | refine SW.drop ?_)
      repeat (first | refine go_ ?_ | intro _)
      by_cases d1 : w = wDecl
      · rw [if_pos (.inl d1)]
        refine known_false (b := !decide (w = wDecl)) (by rw [decide_eq_true d1]; rfl) ?_
        repeat (first | refine ga_ ?_ | intro _)
        refine AW_ret ?_
        refine ⟨rfl, 0, _, rfl, ⟨Nat.le_of_ble_eq_true rfl, Nat.le_of_ble_eq_true rfl⟩, _, R, AVle.eq ?_, SLe.tail SLe.rfl, rfl, rfl⟩
        exact congrArg (fun x : Nat => AV.tup [encT ⟨5, w, 0⟩, .int .i64 (x : Int)]) (by show _ = s.length - (l.dropWhile smallB).length; omega)
      · refine known_true (b := !decide (w = wDecl)) (by rw [decide_eq_false d1]; rfl) ?_
        repeat (first | refine ga_ ?_ | intro _)
        by_cases d2 : w = wIn
        · rw [if_pos (.inr (.inl d2))]
          refine known_false (b := !decide (w = wIn)) (by rw [decide_eq_true d2]; rfl) ?_
          repeat (first | refine ga_ ?_ | intro _)
          refine AW_ret ?_
          refine ⟨rfl, 0, _, rfl, ⟨Nat.le_of_ble_eq_true rfl, Nat.le_of_ble_eq_true rfl⟩, _, R, AVle.eq ?_, SLe.tail SLe.rfl, rfl, rfl⟩
          exact congrArg (fun x : Nat => AV.tup [encT ⟨5, w, 0⟩, .int .i64 (x : Int)]) (by show _ = s.length - (l.dropWhile smallB).length; omega)
        · refine known_true (b := !decide (w = wIn)) (by rw [decide_eq_false d2]; rfl) ?_
          repeat (first | refine ga_ ?_ | intro _)
          by_cases d3 : w = wOut
          · rw [if_pos (.inr (.inr d3))]
            refine AW_false (b := !decide (w = wOut)) rfl (by rw [decide_eq_true d3]; rfl) ?_
            repeat (first | refine ga_ ?_ | intro _)
            refine AW_ret ?_
            refine ⟨rfl, 0, _, rfl, ⟨Nat.le_of_ble_eq_true rfl, Nat.le_of_ble_eq_true rfl⟩, _, R, AVle.eq ?_, SLe.tail SLe.rfl, rfl, rfl⟩
            exact congrArg (fun x : Nat => AV.tup [encT ⟨5, w, 0⟩, .int .i64 (x : Int)]) (by show _ = s.length - (l.dropWhile smallB).length; omega)
          · rw [if_neg (by rintro (x | x | x); exact d1 x; exact d2 x; exact d3 x)]
            refine AW_true (b := !decide (w = wOut)) rfl (by rw [decide_eq_false d3]; rfl) ?_
            repeat (first | refine ga_ ?_ | intro _)
            refine AW_ret ?_
            refine ⟨rfl, 0, _, rfl, ⟨Nat.le_of_ble_eq_true rfl, Nat.le_of_ble_eq_true rfl⟩, _, R, AVle.eq ?_, SLe.tail SLe.rfl, rfl, rfl⟩
            rfl
    · rw [if_neg (fun x => h x.2)]
      refine AW_weak (weak_of (l := [(0, .str s), (1, .int .i64 (k : Nat)), (4, .ptr b 0)]) (m := []) (S' := .cells b [.int .i64 0, .str [], .int .i64 0] :: R) ?_ rfl ?_) ?_
      · repeat (first | exact trivial | refine ⟨AVle.refl _, ?_⟩ | refine ⟨AVle.tk, ?_⟩ | refine ⟨AVle.nil, ?_⟩ | refine ⟨AVle.nilFull, ?_⟩ | refine ⟨AVle.eq (congrArg (AV.int .i64) (by first | (simp; done) | (simp; omega) | (rw [wrap_i64 (by first | omega | (simp; omega))]; first | rfl | omega | (simp; done) | (simp; omega)))), ?_⟩)
      · refine SW.le ?_
        repeat (first | exact SW.nil | refine SW.cons ?_ | refine SW.cells (by repeat (first | exact trivial | refine ⟨AVle.refl _, ?_⟩ | refine ⟨AVle.nilFull, ?_⟩ | refine ⟨AVle.tk, ?_⟩ | refine ⟨AVle.nil, ?_⟩)) rfl ?_ | refine SW.full ?_ | refine SW.drop ?_)
      repeat (first | refine go_ ?_ | intro _)
      refine Or.inl ⟨⟨_, Tryz.func40, rfl, rfl⟩, ACall.mono ?_ (kg _)⟩
      rintro _ S1 ⟨rfl, hS1⟩
      subst S1
      repeat (first | refine go_ ?_ | intro _)
      by_cases h0 : signN c l = 0
      · rw [if_pos h0]
        refine AW_true (b := decide (((signN c l : Nat) : Int) = 0)) rfl (by exact decide_eq_true (by omega)) ?_
        repeat (first | refine go_ ?_ | intro _)
        refine AW_ret ?_
        refine ⟨rfl, 0, _, rfl, ⟨Nat.le_of_ble_eq_true rfl, Nat.le_of_ble_eq_true rfl⟩, _, R, AVle.eq ?_, SLe.tail SLe.rfl, rfl, rfl⟩
        rfl
      · rw [if_neg h0]
        have e2 : IntKind.i64.wrap ((k : Int) + ((signN c l : Nat) : Int)) = ((k + signN c l : Nat) : Int) := by rw [wrap_i64 (by omega)]; omega
        refine AW_false (b := decide (((signN c l : Nat) : Int) = 0)) rfl (by exact decide_eq_false (by omega)) ?_
        repeat (first | refine go_ ?_ | intro _)
        refine at_ss k (k + signN c l) ((c :: l).take (signN c l)) rfl e2 (by omega) (by omega) hct2 ?_
        repeat (first | refine go_ ?_ | intro _)
        refine AW_ret ?_
        refine ⟨rfl, 0, _, rfl, ⟨Nat.le_of_ble_eq_true rfl, Nat.le_of_ble_eq_true rfl⟩, _, R, AVle.eq ?_, SLe.tail SLe.rfl, rfl, rfl⟩
        show AV.tup [encT ⟨4, (c :: l).take (signN c l), 0⟩, .int .i64 (IntKind.i64.wrap ((k : Int) + ((signN c l : Nat) : Int)))] = _
        rw [e2]
        exact congrArg (fun x : Nat => AV.tup [encT ⟨4, (c :: l).take (signN c l), 0⟩, .int .i64 (x : Int)]) (by show _ = s.length - ((c :: l).drop (signN c l)).length; omega)
  · rw [if_neg (fun x => h x.1)]
    repeat (first | refine ga_ ?_ | intro _)
    repeat (first | refine go_ ?_ | intro _)
    refine Or.inl ⟨⟨_, Tryz.func40, rfl, rfl⟩, ACall.mono ?_ (kg _)⟩
    rintro _ S1 ⟨rfl, hS1⟩
    subst S1
    repeat (first | refine go_ ?_ | intro _)
    by_cases h0 : signN c l = 0
    · rw [if_pos h0]
      refine AW_true (b := decide (((signN c l : Nat) : Int) = 0)) rfl (by exact decide_eq_true (by omega)) ?_
      repeat (first | refine go_ ?_ | intro _)
      refine AW_ret ?_
      refine ⟨rfl, 0, _, rfl, ⟨Nat.le_of_ble_eq_true rfl, Nat.le_of_ble_eq_true rfl⟩, _, R, AVle.eq ?_, SLe.tail SLe.rfl, rfl, rfl⟩
      rfl
    · rw [if_neg h0]
      have e2 : IntKind.i64.wrap ((k : Int) + ((signN c l : Nat) : Int)) = ((k + signN c l : Nat) : Int) := by rw [wrap_i64 (by omega)]; omega
      refine AW_false (b := decide (((signN c l : Nat) : Int) = 0)) rfl (by exact decide_eq_false (by omega)) ?_
      repeat (first | refine go_ ?_ | intro _)
      refine at_ss k (k + signN c l) ((c :: l).take (signN c l)) rfl e2 (by omega) (by omega) hct2 ?_
      repeat (first | refine go_ ?_ | intro _)
      refine AW_ret ?_
      refine ⟨rfl, 0, _, rfl, ⟨Nat.le_of_ble_eq_true rfl, Nat.le_of_ble_eq_true rfl⟩, _, R, AVle.eq ?_, SLe.tail SLe.rfl, rfl, rfl⟩
      show AV.tup [encT ⟨4, (c :: l).take (signN c l), 0⟩, .int .i64 (IntKind.i64.wrap ((k : Int) + ((signN c l : Nat) : Int)))] = _
      rw [e2]
      exact congrArg (fun x : Nat => AV.tup [encT ⟨4, (c :: l).take (signN c l), 0⟩, .int .i64 (x : Int)]) (by show _ = s.length - ((c :: l).drop (signN c l)).length; omega)
end Go.Proofs.YtgcoomicgdbmbaaGreatDoor
/-
  The book's blanks and comments. Own work.
-/
namespace Go.Proofs.YtgcoomicgdbmbaaGreatDoor
open Go.Aw Go.RowKit
set_option maxHeartbeats 4000000

theorem cnt_cons (c : UInt8) (r : List UInt8) : cnt (c :: r) = cnt r + if c.toNat = 10 then 1 else 0 := by
  rw [cnt, List.countP_cons, cnt]
  by_cases h : c.toNat = 10
  · rw [if_pos h, decide_eq_true h]; rfl
  · rw [if_neg h, decide_eq_false h]; rfl
theorem cnt_noNl (l : List UInt8) : cnt (l.dropWhile noNl) = cnt l := by
  induction l with
  | nil => rfl
  | cons c r ih =>
    rw [List.dropWhile_cons]
    by_cases h : c.toNat = 10
    · rw [if_neg (by simp [noNl, h])]
    · rw [if_pos (by simp [noNl, h]), cnt_cons, if_neg h, ih]; rfl
def skipAV (s : List UInt8) (k : Nat) : AV := .tup [.int .i64 ((s.length - (skipL (s.drop k)).length : Nat) : Int), .int .i64 ((cnt (s.drop k) - cnt (skipL (s.drop k)) : Nat) : Int)]
theorem skipped_ok (s : List UInt8) (k : Nat) (R : List En) (hk : k ≤ s.length) (hs : s.length ≤ 16777214) : ACall Tryz.prog 20 [.str s, .int .i64 (k : Nat)] R (fun r S => r = skipAV s k ∧ S = R) := by
  have hcl := cnt_len (s.drop k)
  rw [List.length_drop] at hcl
  refine ACall_body tab_ok Tryz.func20 rfl rfl rfl (by kernel_rfl) (Nat.le_of_ble_eq_true rfl) ?_
  repeat (first | refine go_ ?_ | intro _)
  refine AW_for (α := Nat × Nat) (fun z => ⟨[(0, .str s), (1, .int .i64 (z.1 : Nat)), (6, .int .i64 (z.2 : Nat))], []⟩) (fun z => R) (fun z => s.length - z.1) (fun z => z.1 ≤ s.length ∧ skipL (s.drop z.1) = skipL (s.drop k) ∧ z.2 + cnt (s.drop z.1) = cnt (s.drop k)) ((k, 0)) ?_ (weak_of ?_ rfl ?_) (fun z hz => ?_)
  · exact ⟨hk, rfl, by simp⟩
  · repeat (first | exact trivial | refine ⟨AVle.refl _, ?_⟩ | refine ⟨AVle.tk, ?_⟩ | refine ⟨AVle.nil, ?_⟩ | refine ⟨AVle.nilFull, ?_⟩ | refine ⟨AVle.eq (congrArg (AV.int .i64) (by first | (simp; done) | (simp; omega) | (rw [wrap_i64 (by first | omega | (simp; omega))]; first | rfl | omega | (simp; done) | (simp; omega)))), ?_⟩)
  · repeat (first | exact SLe.rfl | refine SLe.tail ?_ | refine SLe.full ?_)
  obtain ⟨z, n⟩ := z
  obtain ⟨i1, i2, i3⟩ : z ≤ s.length ∧ skipL (s.drop z) = skipL (s.drop k) ∧ n + cnt (s.drop z) = cnt (s.drop k) := hz
  show AW _ _ _ _ ⟨[(0, .str s), (1, .int .i64 (z : Nat)), (6, .int .i64 (n : Nat))], []⟩ _ _
  repeat (first | refine go_ ?_ | intro _)
  refine AW_iff (z < s.length) rfl (by first | (simp; done) | (simp <;> omega) | decide) (fun h => ?_) (fun h => ?_)
  rotate_left
  · have hfix : skipL (s.drop z) = s.drop z := by rw [List.drop_of_length_le (by omega), skipL_nil]
    repeat (first | refine go_ ?_ | intro _)
    refine AW_ret ?_
    repeat (first | refine ⟨0, rfl, ?_⟩ | refine ⟨1, rfl, ?_⟩ | refine ⟨2, rfl, ?_⟩ | refine ⟨3, rfl, ?_⟩ | refine ⟨4, rfl, ?_⟩ | refine ⟨5, rfl, ?_⟩ | refine ⟨6, rfl, ?_⟩)
    refine ⟨_, R, AVle.eq ?_, (by repeat (first | exact SLe.rfl | refine SLe.tail ?_)), rfl, rfl⟩
    show AV.tup [.int .i64 ((z : Nat) : Int), .int .i64 ((n : Nat) : Int)] = _
    rw [skipAV, ← i2, hfix]
    have : (s.drop z).length = s.length - z := List.length_drop
    rw [this, show s.length - (s.length - z) = z by omega, show cnt (s.drop k) - cnt (s.drop z) = n by omega]
  have hlt := h
  have hd := drop_one hlt
  obtain ⟨c, hc⟩ : ∃ c, c = s[z] := ⟨_, rfl⟩
  rw [← hc] at hd
  repeat (first | refine go_ ?_ | intro _)
  refine at_list z rfl hlt ?_
  rw [← hc]
  repeat (first | refine go_ ?_ | intro _)
  refine gsplit (c.toNat = 32) (by first | (simp; done) | (simp <;> omega) | decide) (fun h => ?_) (fun h => ?_)
  · repeat (first | refine ga_ ?_ | intro _)
    refine at_list z rfl hlt ?_
    rw [← hc]
    repeat (first | refine go_ ?_ | intro _)
    refine AW_iff (c.toNat = 10) rfl (by first | (simp; done) | (simp <;> omega) | decide) (fun h => ?_) (fun h => ?_)
    · omega
    repeat (first | refine go_ ?_ | intro _)
    refine ⟨(z + 1, n), ?_, ?_, weak_of ?_ rfl ?_⟩
    · show s.length - (z + 1) < s.length - z; omega
    · exact ⟨hlt, by rw [← i2, hd, skipL_blank (by simp [blankB]; omega)], by show n + cnt (s.drop (z + 1)) = _; rw [← i3, hd, cnt_cons, if_neg (by omega)]; omega⟩
    · repeat (first | exact trivial | refine ⟨AVle.refl _, ?_⟩ | refine ⟨AVle.tk, ?_⟩ | refine ⟨AVle.nil, ?_⟩ | refine ⟨AVle.nilFull, ?_⟩ | refine ⟨AVle.eq (congrArg (AV.int .i64) (by first | (simp; done) | (simp; omega) | (rw [wrap_i64 (by first | omega | (simp; omega))]; first | rfl | omega | (simp; done) | (simp; omega)))), ?_⟩)
    · repeat (first | exact SLe.rfl | refine SLe.tail ?_ | refine SLe.full ?_)
  have n32 := h
  repeat (first | refine ga_ ?_ | intro _)
  refine at_list z rfl hlt ?_
  rw [← hc]
  repeat (first | refine ga_ ?_ | intro _)
  refine gsplit (c.toNat = 9) (by first | (simp; done) | (simp <;> omega) | decide) (fun h => ?_) (fun h => ?_)
  · repeat (first | refine ga_ ?_ | intro _)
    refine at_list z rfl hlt ?_
    rw [← hc]
    repeat (first | refine go_ ?_ | intro _)
    refine AW_iff (c.toNat = 10) rfl (by first | (simp; done) | (simp <;> omega) | decide) (fun h => ?_) (fun h => ?_)
    · omega
    repeat (first | refine go_ ?_ | intro _)
    refine ⟨(z + 1, n), ?_, ?_, weak_of ?_ rfl ?_⟩
    · show s.length - (z + 1) < s.length - z; omega
    · exact ⟨hlt, by rw [← i2, hd, skipL_blank (by simp [blankB]; omega)], by show n + cnt (s.drop (z + 1)) = _; rw [← i3, hd, cnt_cons, if_neg (by omega)]; omega⟩
    · repeat (first | exact trivial | refine ⟨AVle.refl _, ?_⟩ | refine ⟨AVle.tk, ?_⟩ | refine ⟨AVle.nil, ?_⟩ | refine ⟨AVle.nilFull, ?_⟩ | refine ⟨AVle.eq (congrArg (AV.int .i64) (by first | (simp; done) | (simp; omega) | (rw [wrap_i64 (by first | omega | (simp; omega))]; first | rfl | omega | (simp; done) | (simp; omega)))), ?_⟩)
    · repeat (first | exact SLe.rfl | refine SLe.tail ?_ | refine SLe.full ?_)
  have n9 := h
  repeat (first | refine ga_ ?_ | intro _)
  refine at_list z rfl hlt ?_
  rw [← hc]
  repeat (first | refine ga_ ?_ | intro _)
  refine AW_iff (c.toNat = 10) rfl (by first | (simp; done) | (simp <;> omega) | decide) (fun h => ?_) (fun h => ?_)
  · have h10 := h
    repeat (first | refine go_ ?_ | intro _)
    refine at_list z rfl hlt ?_
    rw [← hc]
    repeat (first | refine go_ ?_ | intro _)
    refine AW_iff (c.toNat = 10) rfl (by first | (simp; done) | (simp <;> omega) | decide) (fun h => ?_) (fun h => ?_)
    · repeat (first | refine go_ ?_ | intro _)
      refine ⟨(z + 1, n + 1), ?_, ?_, weak_of ?_ rfl ?_⟩
      · show s.length - (z + 1) < s.length - z; omega
      · exact ⟨hlt, by rw [← i2, hd, skipL_blank (by simp [blankB]; omega)], by show n + 1 + cnt (s.drop (z + 1)) = _; rw [← i3, hd, cnt_cons, if_pos h10]; omega⟩
      · repeat (first | exact trivial | refine ⟨AVle.refl _, ?_⟩ | refine ⟨AVle.tk, ?_⟩ | refine ⟨AVle.nil, ?_⟩ | refine ⟨AVle.nilFull, ?_⟩ | refine ⟨AVle.eq (congrArg (AV.int .i64) (by first | (simp; done) | (simp; omega) | (rw [wrap_i64 (by first | omega | (simp; omega))]; first | rfl | omega | (simp; done) | (simp; omega)))), ?_⟩)
      · repeat (first | exact SLe.rfl | refine SLe.tail ?_ | refine SLe.full ?_)
    · omega
  have n10 := h
  have hnb : blankB c = false := by simp [blankB, n32, n9, n10]
  refine AW_weak (weak_of (l := [(0, .str s), (1, .int .i64 (z : Nat)), (6, .int .i64 (n : Nat))]) (m := []) (S' := R) ?_ rfl ?_) ?_
  · repeat (first | exact trivial | refine ⟨AVle.refl _, ?_⟩ | refine ⟨AVle.tk, ?_⟩ | refine ⟨AVle.nil, ?_⟩ | refine ⟨AVle.nilFull, ?_⟩ | refine ⟨AVle.eq (congrArg (AV.int .i64) (by first | (simp; done) | (simp; omega) | (rw [wrap_i64 (by first | omega | (simp; omega))]; first | rfl | omega | (simp; done) | (simp; omega)))), ?_⟩)
  · refine SW.le ?_
    repeat (first | exact SW.nil | refine SW.cons ?_ | refine SW.cells (by repeat (first | exact trivial | refine ⟨AVle.refl _, ?_⟩ | refine ⟨AVle.nilFull, ?_⟩ | refine ⟨AVle.tk, ?_⟩ | refine ⟨AVle.nil, ?_⟩)) rfl ?_ | refine SW.full ?_ | refine SW.drop ?_)
  repeat (first | refine go_ ?_ | intro _)
  have e1 : IntKind.i64.wrap ((z : Int) + 1) = ((z + 1 : Nat) : Int) := by rw [wrap_i64 (by omega)]; omega
  have e2 : IntKind.i64.wrap ((z : Int) + 2) = ((z + 2 : Nat) : Int) := by rw [wrap_i64 (by omega)]; omega
  refine gsplit (s.length ≤ z + 1) (by rw [decide_eq_true_eq, e1]; omega) (fun h => ?_) (fun h => ?_)
  · have hfix : skipL (s.drop z) = s.drop z := by
      rw [hd]
      refine skipL_stop hnb ?_
      rintro ⟨_, b⟩
      rw [List.drop_of_length_le (by omega)] at b
      simp at b
    repeat (first | refine ga_ ?_ | intro _)
    refine AW_ret ?_
    repeat (first | refine ⟨0, rfl, ?_⟩ | refine ⟨1, rfl, ?_⟩ | refine ⟨2, rfl, ?_⟩ | refine ⟨3, rfl, ?_⟩ | refine ⟨4, rfl, ?_⟩ | refine ⟨5, rfl, ?_⟩ | refine ⟨6, rfl, ?_⟩)
    refine ⟨_, R, AVle.eq ?_, (by repeat (first | exact SLe.rfl | refine SLe.tail ?_)), rfl, rfl⟩
    show AV.tup [.int .i64 ((z : Nat) : Int), .int .i64 ((n : Nat) : Int)] = _
    rw [skipAV, ← i2, hfix]
    have : (s.drop z).length = s.length - z := List.length_drop
    rw [this, show s.length - (s.length - z) = z by omega, show cnt (s.drop k) - cnt (s.drop z) = n by omega]
  have hz1 := h
  repeat (first | refine ga_ ?_ | intro _)
  refine at_ss z (z + 2) ((s.take (z + 2)).drop z) rfl e2 (by omega) (by omega) rfl ?_
  repeat (first | refine ga_ ?_ | intro _)
  refine AW_iff (¬ (s.take (z + 2)).drop z = [47, 47]) rfl (by simp) (fun h => ?_) (fun h => ?_)
  · have hfix : skipL (s.drop z) = s.drop z := by
      rw [hd]
      refine skipL_stop hnb ?_
      rintro ⟨a, b⟩
      refine h ?_
      rw [List.drop_take, hd, Nat.add_sub_cancel_left]
      cases hr : s.drop (z + 1) with
      | nil => rw [hr] at b; simp at b
      | cons d r =>
        rw [hr] at b
        simp at b
        rw [b, show c = 47 from UInt8.toNat_inj.1 a]; rfl
    repeat (first | refine ga_ ?_ | intro _)
    refine AW_ret ?_
    repeat (first | refine ⟨0, rfl, ?_⟩ | refine ⟨1, rfl, ?_⟩ | refine ⟨2, rfl, ?_⟩ | refine ⟨3, rfl, ?_⟩ | refine ⟨4, rfl, ?_⟩ | refine ⟨5, rfl, ?_⟩ | refine ⟨6, rfl, ?_⟩)
    refine ⟨_, R, AVle.eq ?_, (by repeat (first | exact SLe.rfl | refine SLe.tail ?_)), rfl, rfl⟩
    show AV.tup [.int .i64 ((z : Nat) : Int), .int .i64 ((n : Nat) : Int)] = _
    rw [skipAV, ← i2, hfix]
    have : (s.drop z).length = s.length - z := List.length_drop
    rw [this, show s.length - (s.length - z) = z by omega, show cnt (s.drop k) - cnt (s.drop z) = n by omega]
  have h47 := Decidable.not_not.1 h
  rw [List.drop_take, Nat.add_sub_cancel_left] at h47
  obtain ⟨r, hr⟩ := head47 h47
  obtain ⟨t, ht⟩ : ∃ t, t = (s.drop z).dropWhile noNl := ⟨_, rfl⟩
  have htl : t.length ≤ r.length := by
    rw [ht, hr, List.dropWhile_cons, if_pos (by decide), List.dropWhile_cons, if_pos (by decide)]
    exact (List.dropWhile_sublist noNl).length_le
  have hrl : r.length + 2 = s.length - z := by
    have := congrArg List.length hr
    rw [List.length_drop] at this
    simp at this; omega
  have hst : skipL t = skipL (s.drop k) := by
    rw [← i2, ht, hr, skipL_comm, List.dropWhile_cons, if_pos (by decide), List.dropWhile_cons, if_pos (by decide)]
  have hct : cnt t = cnt (s.drop z) := by rw [ht, cnt_noNl]
  obtain ⟨y, rfl⟩ : ∃ y, y = z := ⟨z, rfl⟩
  refine AW_weak (weak_of (l := [(0, .str s), (1, .int .i64 (y : Nat)), (6, .int .i64 (n : Nat))]) (m := []) (S' := R) ?_ rfl ?_) ?_
  · repeat (first | exact trivial | refine ⟨AVle.refl _, ?_⟩ | refine ⟨AVle.tk, ?_⟩ | refine ⟨AVle.nil, ?_⟩ | refine ⟨AVle.nilFull, ?_⟩ | refine ⟨AVle.eq (congrArg (AV.int .i64) (by first | (simp; done) | (simp; omega) | (rw [wrap_i64 (by first | omega | (simp; omega))]; first | rfl | omega | (simp; done) | (simp; omega)))), ?_⟩)
  · refine SW.le ?_
    repeat (first | exact SW.nil | refine SW.cons ?_ | refine SW.cells (by repeat (first | exact trivial | refine ⟨AVle.refl _, ?_⟩ | refine ⟨AVle.nilFull, ?_⟩ | refine ⟨AVle.tk, ?_⟩ | refine ⟨AVle.nil, ?_⟩)) rfl ?_ | refine SW.full ?_ | refine SW.drop ?_)
  repeat (first | refine go_ ?_ | intro _)
  refine AW_for (α := Nat) (fun z => ⟨[(0, .str s), (1, .int .i64 (z : Nat)), (6, .int .i64 (n : Nat))], []⟩) (fun z => R) (fun z => s.length - z) (fun z => z ≤ s.length ∧ (s.drop z).dropWhile noNl = t) (y) ?_ (weak_of ?_ rfl ?_) (fun z hz => ?_)
  · exact ⟨i1, ht.symm⟩
  · repeat (first | exact trivial | refine ⟨AVle.refl _, ?_⟩ | refine ⟨AVle.tk, ?_⟩ | refine ⟨AVle.nil, ?_⟩ | refine ⟨AVle.nilFull, ?_⟩ | refine ⟨AVle.eq (congrArg (AV.int .i64) (by first | (simp; done) | (simp; omega) | (rw [wrap_i64 (by first | omega | (simp; omega))]; first | rfl | omega | (simp; done) | (simp; omega)))), ?_⟩)
  · repeat (first | exact SLe.rfl | refine SLe.tail ?_ | refine SLe.full ?_)
  obtain ⟨j1, j2⟩ := hz
  repeat (first | refine go_ ?_ | intro _)
  refine gsplit (z < s.length) (by first | (simp; done) | (simp <;> omega) | decide) (fun h => ?_) (fun h => ?_)
  · have hlt2 := h
    have hd2 := drop_one hlt2
    repeat (first | refine ga_ ?_ | intro _)
    refine at_list z rfl hlt2 ?_
    repeat (first | refine ga_ ?_ | intro _)
    refine AW_iff (¬ s[z].toNat = 10) rfl (by simp; omega) (fun h => ?_) (fun h => ?_)
    · rw [hd2, List.dropWhile_cons, if_pos (by simp [noNl, h])] at j2
      repeat (first | refine ga_ ?_ | intro _)
      refine ⟨z + 1, ?_, ?_, weak_of ?_ rfl ?_⟩
      · omega
      · exact ⟨hlt2, j2⟩
      · repeat (first | exact trivial | refine ⟨AVle.refl _, ?_⟩ | refine ⟨AVle.tk, ?_⟩ | refine ⟨AVle.nil, ?_⟩ | refine ⟨AVle.nilFull, ?_⟩ | refine ⟨AVle.eq (congrArg (AV.int .i64) (by first | (simp; done) | (simp; omega) | (rw [wrap_i64 (by first | omega | (simp; omega))]; first | rfl | omega | (simp; done) | (simp; omega)))), ?_⟩)
      · repeat (first | exact SLe.rfl | refine SLe.tail ?_ | refine SLe.full ?_)
    · have h10 := Decidable.not_not.1 h
      rw [hd2, List.dropWhile_cons, if_neg (by simp [noNl, h10]), ← hd2] at j2
      have hl2 : t.length = s.length - z := by rw [← j2, List.length_drop]
      repeat (first | refine ga_ ?_ | intro _)
      refine ⟨(z, n), ?_, ?_, weak_of ?_ rfl ?_⟩
      · show s.length - z < s.length - y; omega
      · exact ⟨j1, by show skipL (s.drop z) = _; rw [j2, hst], by show n + cnt (s.drop z) = _; rw [j2, hct]; exact i3⟩
      · repeat (first | exact trivial | refine ⟨AVle.refl _, ?_⟩ | refine ⟨AVle.tk, ?_⟩ | refine ⟨AVle.nil, ?_⟩ | refine ⟨AVle.nilFull, ?_⟩ | refine ⟨AVle.eq (congrArg (AV.int .i64) (by first | (simp; done) | (simp; omega) | (rw [wrap_i64 (by first | omega | (simp; omega))]; first | rfl | omega | (simp; done) | (simp; omega)))), ?_⟩)
      · repeat (first | exact SLe.rfl | refine SLe.tail ?_ | refine SLe.full ?_)
  · have hz : z = s.length := by omega
    have j3 : t = [] := by rw [← j2, hz, List.drop_length]; rfl
    have j4 : s.drop z = [] := List.drop_of_length_le (by omega)
    repeat (first | refine ga_ ?_ | intro _)
    refine ⟨(z, n), ?_, ?_, weak_of ?_ rfl ?_⟩
    · show s.length - z < s.length - y; omega
    · exact ⟨j1, by show skipL (s.drop z) = _; rw [j4, ← j3, hst], by show n + cnt (s.drop z) = _; rw [j4, ← j3, hct]; exact i3⟩
    · repeat (first | exact trivial | refine ⟨AVle.refl _, ?_⟩ | refine ⟨AVle.tk, ?_⟩ | refine ⟨AVle.nil, ?_⟩ | refine ⟨AVle.nilFull, ?_⟩ | refine ⟨AVle.eq (congrArg (AV.int .i64) (by first | (simp; done) | (simp; omega) | (rw [wrap_i64 (by first | omega | (simp; omega))]; first | rfl | omega | (simp; done) | (simp; omega)))), ?_⟩)
    · repeat (first | exact SLe.rfl | refine SLe.tail ?_ | refine SLe.full ?_)
end Go.Proofs.YtgcoomicgdbmbaaGreatDoor
