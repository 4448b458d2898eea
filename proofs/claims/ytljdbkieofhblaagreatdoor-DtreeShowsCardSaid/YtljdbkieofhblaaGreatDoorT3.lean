/-
  A symbol's text. Own work.
-/
import Derived.Test.YtljdbkieofhblaaGreatDoorT2
namespace Go.Proofs.YtljdbkieofhblaaGreatDoor
open Go.Aw
set_option maxHeartbeats 4000000

theorem flat_take' (s : List UInt8) {i : Nat} (h : i < s.length) : (s.take (i + 1)).flatMap oneL = (s.take i).flatMap oneL ++ oneL s[i] := by
  rw [List.take_add_one, List.getElem?_eq_getElem h, Option.toList_some, List.flatMap_append]; simp

theorem refQuote_ok (s : List UInt8) (R : List En) (hs : s.length ≤ 4000000) : ACall Tryz.prog 64 [.str s] R (fun r S => r = .str (quoteL s) ∧ S = R) := by
  refine ACall_body tab_ok Tryz.func64 rfl rfl rfl (by kernel_rfl) (Nat.le_of_ble_eq_true rfl) ?_
  repeat (first | refine go_ ?_ | intro _)
  refine AW_for (α := Nat) (fun z => ⟨[(0, .str s), (3, .str (34 :: (s.take z).flatMap oneL)), (4, .int .i64 (z : Nat))], []⟩) (fun z => R) (fun z => s.length - z) (fun z => z ≤ s.length) (0) ?_ (weak_of ?_ rfl ?_) (fun z hz => ?_)
  · simp
  · repeat (first | exact trivial | refine ⟨AVle.refl _, ?_⟩ | refine ⟨AVle.tk, ?_⟩ | refine ⟨AVle.nil, ?_⟩ | refine ⟨AVle.nilFull, ?_⟩ | refine ⟨AVle.eq (congrArg (AV.int .i64) (by first | (simp; done) | (simp; omega) | (rw [wrap_i64 (by first | omega | (simp; omega))]; first | rfl | omega | (simp; done) | (simp; omega)))), ?_⟩)
  · repeat (first | exact SLe.rfl | refine SLe.tail ?_ | refine SLe.full ?_)
  have hi : z ≤ s.length := hz
  have hf := flat_len (s.take z)
  have htl : (s.take z).length = z := by simp; omega
  rw [htl] at hf
  repeat (first | refine go_ ?_ | intro _)
  refine AW_iff (z < s.length) rfl (by first | (simp; done) | (simp <;> omega) | decide) (fun h => ?_) (fun h => ?_)
  · have hlt := h
    repeat (first | refine go_ ?_ | intro _)
    refine at_list (z) (by first | rfl | omega | (rw [wrap_i64 (by omega)]; omega)) (by first | assumption | omega) ?_
    repeat (first | refine go_ ?_ | intro _)
    refine Or.inl ⟨⟨_, Tryz.func75, rfl, rfl⟩, ACall.mono ?_ (one_ok s[z] _)⟩
    rintro _ S1 ⟨rfl, hS1⟩
    subst S1
    repeat (first | refine go_ ?_ | intro _)
    have h4 := (oneL_len s[z]).2
    refine cat_ ?_
    repeat (first | refine go_ ?_ | intro _)
    refine ⟨z + 1, ?_, ?_, weak_of ?_ rfl ?_⟩
    · omega
    · omega
    · repeat (first | exact trivial | refine ⟨(AVle.eq (congrArg AV.str (by rw [flat_take' s hlt]; rfl))), ?_⟩ | refine ⟨AVle.refl _, ?_⟩ | refine ⟨AVle.tk, ?_⟩ | refine ⟨AVle.nil, ?_⟩ | refine ⟨AVle.nilFull, ?_⟩ | refine ⟨AVle.eq (congrArg (AV.int .i64) (by first | (simp; done) | (simp; omega) | (rw [wrap_i64 (by first | omega | (simp; omega))]; first | rfl | omega | (simp; done) | (simp; omega)))), ?_⟩)
    · repeat (first | exact SLe.rfl | refine SLe.tail ?_ | refine SLe.full ?_)
  · repeat (first | refine go_ ?_ | intro _)
    refine cat_ ?_
    repeat (first | refine go_ ?_ | intro _)
    refine AW_ret ?_
    repeat (first | refine ⟨0, rfl, ?_⟩ | refine ⟨1, rfl, ?_⟩ | refine ⟨2, rfl, ?_⟩ | refine ⟨3, rfl, ?_⟩ | refine ⟨4, rfl, ?_⟩ | refine ⟨5, rfl, ?_⟩ | refine ⟨6, rfl, ?_⟩)
    refine ⟨_, R, AVle.eq ?_, (by repeat (first | exact SLe.rfl | refine SLe.tail ?_)), rfl, rfl⟩
    show AV.str _ = AV.str _
    rw [List.take_of_length_le (by omega)]; rfl

theorem quote_ok (s : List UInt8) (R : List En) (hs : s.length ≤ 4000000) : ACall Tryz.prog 56 [.str s] R (fun r S => r = .str (quoteL s) ∧ S = R) := by
  refine ACall_body tab_ok Tryz.func56 rfl rfl rfl (by kernel_rfl) (Nat.le_of_ble_eq_true rfl) ?_
  repeat (first | refine go_ ?_ | intro _)
  rename_i b
  refine Or.inl ⟨⟨_, Tryz.func70, rfl, rfl⟩, ACall.mono ?_ (writeByte_ok b false [] 0 0 [] 34 R (by simp) (by simp) (by simp))⟩
  rintro _ S1 ⟨rfl, bb, cap, rest, h1, h2, hS1⟩
  subst S1
  repeat (first | refine go_ ?_ | intro _)
  refine AW_for (α := Nat × Nat × Nat × List AV) (fun z => ⟨[(0, .str s), (3, .ptr b 0), (8, .int .i64 (s.length : Nat)), (9, .int .i64 (z.1 : Nat))], []⟩) (fun z => Bld b true (34 :: (s.take z.1).flatMap oneL) z.2.1 z.2.2.1 z.2.2.2 R) (fun z => s.length - z.1) (fun z => z.1 ≤ s.length ∧ (34 :: (s.take z.1).flatMap oneL).length ≤ z.2.2.1 ∧ z.2.2.2.length = z.2.2.1 - (34 :: (s.take z.1).flatMap oneL).length) ((0, bb, cap, rest)) ?_ (weak_of ?_ rfl ?_) (fun z hz => ?_)
  · exact ⟨by simp, h1, h2⟩
  · repeat (first | exact trivial | refine ⟨AVle.refl _, ?_⟩ | refine ⟨AVle.tk, ?_⟩ | refine ⟨AVle.nil, ?_⟩ | refine ⟨AVle.nilFull, ?_⟩ | refine ⟨AVle.eq (congrArg (AV.int .i64) (by first | (simp; done) | (simp; omega) | (rw [wrap_i64 (by first | omega | (simp; omega))]; first | rfl | omega | (simp; done) | (simp; omega)))), ?_⟩)
  · repeat (first | exact SLe.rfl | refine SLe.tail ?_ | refine SLe.full ?_)
  clear h1 h2
  clear bb cap rest
  obtain ⟨z, bb, cap, rest⟩ := z
  obtain ⟨hi, h1, h2⟩ := hz
  replace hi : z ≤ s.length := hi
  replace h1 : (34 :: (s.take z).flatMap oneL).length ≤ cap := h1
  replace h2 : rest.length = cap - (34 :: (s.take z).flatMap oneL).length := h2
  have hf := flat_len (s.take z)
  have htl : (s.take z).length = z := by simp; omega
  rw [htl] at hf
  repeat (first | refine go_ ?_ | intro _)
  refine AW_iff (z < s.length) rfl (by first | (simp; done) | (simp <;> omega) | decide) (fun h => ?_) (fun h => ?_)
  · have hlt := h
    have e := flat_take' s hlt
    obtain ⟨c, hc⟩ : ∃ c, c = s[z] := ⟨_, rfl⟩
    rw [← hc] at e
    repeat (first | refine go_ ?_ | intro _)
    refine at_list z rfl hlt ?_
    rw [← hc]
    repeat (first | refine go_ ?_ | intro _)
    refine Or.inl ⟨⟨_, Tryz.func71, rfl, rfl⟩, ACall.mono ?_ (isPlain_ok c _)⟩
    rintro _ S1 ⟨rfl, hS1⟩
    subst S1
    repeat (first | refine go_ ?_ | intro _)
    refine AW_cond (b := plainB c) rfl (fun h => ?_) (fun h => ?_)
    · have ho : oneL c = [c] := by
        simp only [plainB, Bool.and_eq_true, decide_eq_true_eq, Bool.not_eq_true', decide_eq_false_iff_not] at h
        rw [oneL, if_neg (by omega), if_neg (by omega), if_neg (by omega)]
      have e' : (34 :: (s.take z).flatMap oneL) ++ [c] = 34 :: (s.take (z + 1)).flatMap oneL := by rw [e, ho]; rfl
      repeat (first | refine go_ ?_ | intro _)
      refine Or.inl ⟨⟨_, Tryz.func70, rfl, rfl⟩, ACall.mono ?_ (writeByte_ok b true _ bb cap rest c R h1 h2 (by simp only [List.length_append, List.length_cons, List.length_nil]; omega))⟩
      rintro _ S1 ⟨rfl, bb, cap, rest, h1, h2, hS1⟩
      subst S1
      repeat (first | refine go_ ?_ | intro _)
      refine ⟨((z + 1, bb, cap, rest) : Nat × Nat × Nat × List AV), ?_, ?_, weak_of ?_ rfl ?_⟩
      · show s.length - (z + 1) < s.length - z; omega
      · exact ⟨by show z + 1 ≤ _; omega, e' ▸ h1, e' ▸ h2⟩
      · repeat (first | exact trivial | refine ⟨AVle.refl _, ?_⟩ | refine ⟨AVle.tk, ?_⟩ | refine ⟨AVle.nil, ?_⟩ | refine ⟨AVle.nilFull, ?_⟩ | refine ⟨AVle.eq (congrArg (AV.int .i64) (by first | (simp; done) | (simp; omega) | (rw [wrap_i64 (by first | omega | (simp; omega))]; first | rfl | omega | (simp; done) | (simp; omega)))), ?_⟩)
      · exact SLe.of_eq (congrArg (fun x => Bld b true x bb cap rest R) e')
    · repeat (first | refine go_ ?_ | intro _)
      refine AW_iff (c.toNat = 10) rfl (by first | (simp; done) | (simp <;> omega) | decide) (fun h => ?_) (fun h => ?_)
      · have ho : oneL c = [92, 110] := by rw [oneL, if_neg (by omega), if_pos (by omega)]
        have e' : (34 :: (s.take z).flatMap oneL) ++ [92, 110] = 34 :: (s.take (z + 1)).flatMap oneL := by rw [e, ho]; rfl
        repeat (first | refine go_ ?_ | intro _)
        refine Or.inl ⟨⟨_, Tryz.func13, rfl, rfl⟩, ACall.mono ?_ (writeString_ok b true _ bb cap rest [92, 110] R h1 h2 (by simp only [List.length_append, List.length_cons, List.length_nil]; omega))⟩
        rintro _ S1 ⟨rfl, bb, cap, rest, h1, h2, hS1⟩
        subst S1
        repeat (first | refine go_ ?_ | intro _)
        refine ⟨((z + 1, bb, cap, rest) : Nat × Nat × Nat × List AV), ?_, ?_, weak_of ?_ rfl ?_⟩
        · show s.length - (z + 1) < s.length - z; omega
        · exact ⟨by show z + 1 ≤ _; omega, e' ▸ h1, e' ▸ h2⟩
        · repeat (first | exact trivial | refine ⟨AVle.refl _, ?_⟩ | refine ⟨AVle.tk, ?_⟩ | refine ⟨AVle.nil, ?_⟩ | refine ⟨AVle.nilFull, ?_⟩ | refine ⟨AVle.eq (congrArg (AV.int .i64) (by first | (simp; done) | (simp; omega) | (rw [wrap_i64 (by first | omega | (simp; omega))]; first | rfl | omega | (simp; done) | (simp; omega)))), ?_⟩)
        · exact SLe.of_eq (congrArg (fun x => Bld b true x bb cap rest R) e')
      · have hn10 := h
        repeat (first | refine go_ ?_ | intro _)
        refine gsplit (¬ c.toNat = 34) (by first | (simp; done) | (simp <;> omega) | decide) (fun h => ?_) (fun h => ?_)
        · have hn34 := h
          repeat (first | refine go_ ?_ | intro _)
          refine AW_iff (¬ c.toNat = 92) rfl (by first | (simp; done) | (simp <;> omega) | decide) (fun h => ?_) (fun h => ?_)
          · have hp : c.toNat < 32 ∨ 126 < c.toNat := by
              have hq : plainB c = false := by assumption
              by_cases h3 : c.toNat < 32
              · exact .inl h3
              · by_cases h4 : 126 < c.toNat
                · exact .inr h4
                · exfalso
                  rw [plainB, decide_eq_true (show 32 ≤ c.toNat by omega), decide_eq_true (show c.toNat ≤ 126 by omega), decide_eq_false hn34, decide_eq_false h] at hq
                  cases hq
            have hlc := c.toNat_lt
            have ho : oneL c = [92, 120, hexd (c.toNat / 16), hexd (c.toNat % 16)] := by rw [oneL, if_neg (by omega), if_neg (by omega), if_pos hp]
            have e' : ((34 :: (s.take z).flatMap oneL) ++ [92, 120] ++ [hexd (c.toNat / 16)]) ++ [hexd (c.toNat % 16)] = 34 :: (s.take (z + 1)).flatMap oneL := by rw [e, ho]; simp
            repeat (first | refine go_ ?_ | intro _)
            refine Or.inl ⟨⟨_, Tryz.func13, rfl, rfl⟩, ACall.mono ?_ (writeString_ok b true _ bb cap rest [92, 120] R h1 h2 (by simp only [List.length_append, List.length_cons, List.length_nil]; omega))⟩
            rintro _ S1 ⟨rfl, bb, cap, rest, h1, h2, hS1⟩
            subst S1
            repeat (first | refine go_ ?_ | intro _)
            refine ⟨by decide, shr4_has c, ?_⟩
            repeat (first | refine go_ ?_ | intro _)
            refine at_hex (c.toNat / 16) (shr4 c) (by omega) ?_
            repeat (first | refine go_ ?_ | intro _)
            refine Or.inl ⟨⟨_, Tryz.func70, rfl, rfl⟩, ACall.mono ?_ (writeByte_ok b true _ bb cap rest (hexd (c.toNat / 16)) R h1 h2 (by simp only [List.length_append, List.length_cons, List.length_nil]; omega))⟩
            rintro _ S1 ⟨rfl, bb, cap, rest, h1, h2, hS1⟩
            subst S1
            repeat (first | refine go_ ?_ | intro _)
            refine at_hex (c.toNat % 16) (and15 c) (by omega) ?_
            repeat (first | refine go_ ?_ | intro _)
            refine Or.inl ⟨⟨_, Tryz.func70, rfl, rfl⟩, ACall.mono ?_ (writeByte_ok b true _ bb cap rest (hexd (c.toNat % 16)) R h1 h2 (by simp only [List.length_append, List.length_cons, List.length_nil]; omega))⟩
            rintro _ S1 ⟨rfl, bb, cap, rest, h1, h2, hS1⟩
            subst S1
            repeat (first | refine go_ ?_ | intro _)
            refine ⟨((z + 1, bb, cap, rest) : Nat × Nat × Nat × List AV), ?_, ?_, weak_of ?_ rfl ?_⟩
            · show s.length - (z + 1) < s.length - z; omega
            · exact ⟨by show z + 1 ≤ _; omega, e' ▸ h1, e' ▸ h2⟩
            · repeat (first | exact trivial | refine ⟨AVle.refl _, ?_⟩ | refine ⟨AVle.tk, ?_⟩ | refine ⟨AVle.nil, ?_⟩ | refine ⟨AVle.nilFull, ?_⟩ | refine ⟨AVle.eq (congrArg (AV.int .i64) (by first | (simp; done) | (simp; omega) | (rw [wrap_i64 (by first | omega | (simp; omega))]; first | rfl | omega | (simp; done) | (simp; omega)))), ?_⟩)
            · exact SLe.of_eq (congrArg (fun x => Bld b true x bb cap rest R) e')
          · have ho : oneL c = [92, c] := by rw [oneL, if_pos (by omega)]
            have e' : ((34 :: (s.take z).flatMap oneL) ++ [92]) ++ [c] = 34 :: (s.take (z + 1)).flatMap oneL := by rw [e, ho]; simp
            repeat (first | refine go_ ?_ | intro _)
            refine Or.inl ⟨⟨_, Tryz.func70, rfl, rfl⟩, ACall.mono ?_ (writeByte_ok b true _ bb cap rest 92 R h1 h2 (by simp only [List.length_append, List.length_cons, List.length_nil]; omega))⟩
            rintro _ S1 ⟨rfl, bb, cap, rest, h1, h2, hS1⟩
            subst S1
            repeat (first | refine go_ ?_ | intro _)
            refine Or.inl ⟨⟨_, Tryz.func70, rfl, rfl⟩, ACall.mono ?_ (writeByte_ok b true _ bb cap rest c R h1 h2 (by simp only [List.length_append, List.length_cons, List.length_nil]; omega))⟩
            rintro _ S1 ⟨rfl, bb, cap, rest, h1, h2, hS1⟩
            subst S1
            repeat (first | refine go_ ?_ | intro _)
            refine ⟨((z + 1, bb, cap, rest) : Nat × Nat × Nat × List AV), ?_, ?_, weak_of ?_ rfl ?_⟩
            · show s.length - (z + 1) < s.length - z; omega
            · exact ⟨by show z + 1 ≤ _; omega, e' ▸ h1, e' ▸ h2⟩
            · repeat (first | exact trivial | refine ⟨AVle.refl _, ?_⟩ | refine ⟨AVle.tk, ?_⟩ | refine ⟨AVle.nil, ?_⟩ | refine ⟨AVle.nilFull, ?_⟩ | refine ⟨AVle.eq (congrArg (AV.int .i64) (by first | (simp; done) | (simp; omega) | (rw [wrap_i64 (by first | omega | (simp; omega))]; first | rfl | omega | (simp; done) | (simp; omega)))), ?_⟩)
            · exact SLe.of_eq (congrArg (fun x => Bld b true x bb cap rest R) e')
        · have ho : oneL c = [92, c] := by rw [oneL, if_pos (by omega)]
          have e' : ((34 :: (s.take z).flatMap oneL) ++ [92]) ++ [c] = 34 :: (s.take (z + 1)).flatMap oneL := by rw [e, ho]; simp
          repeat (first | refine go_ ?_ | intro _)
          refine AW_false (b := false) rfl (by first | rfl | (simp; done) | (simp; omega) | decide) ?_
          repeat (first | refine go_ ?_ | intro _)
          refine Or.inl ⟨⟨_, Tryz.func70, rfl, rfl⟩, ACall.mono ?_ (writeByte_ok b true _ bb cap rest 92 R h1 h2 (by simp only [List.length_append, List.length_cons, List.length_nil]; omega))⟩
          rintro _ S1 ⟨rfl, bb, cap, rest, h1, h2, hS1⟩
          subst S1
          repeat (first | refine go_ ?_ | intro _)
          refine Or.inl ⟨⟨_, Tryz.func70, rfl, rfl⟩, ACall.mono ?_ (writeByte_ok b true _ bb cap rest c R h1 h2 (by simp only [List.length_append, List.length_cons, List.length_nil]; omega))⟩
          rintro _ S1 ⟨rfl, bb, cap, rest, h1, h2, hS1⟩
          subst S1
          repeat (first | refine go_ ?_ | intro _)
          refine ⟨((z + 1, bb, cap, rest) : Nat × Nat × Nat × List AV), ?_, ?_, weak_of ?_ rfl ?_⟩
          · show s.length - (z + 1) < s.length - z; omega
          · exact ⟨by show z + 1 ≤ _; omega, e' ▸ h1, e' ▸ h2⟩
          · repeat (first | exact trivial | refine ⟨AVle.refl _, ?_⟩ | refine ⟨AVle.tk, ?_⟩ | refine ⟨AVle.nil, ?_⟩ | refine ⟨AVle.nilFull, ?_⟩ | refine ⟨AVle.eq (congrArg (AV.int .i64) (by first | (simp; done) | (simp; omega) | (rw [wrap_i64 (by first | omega | (simp; omega))]; first | rfl | omega | (simp; done) | (simp; omega)))), ?_⟩)
          · exact SLe.of_eq (congrArg (fun x => Bld b true x bb cap rest R) e')
  · have hzl : z = s.length := by omega
    repeat (first | refine go_ ?_ | intro _)
    refine Or.inl ⟨⟨_, Tryz.func70, rfl, rfl⟩, ACall.mono ?_ (writeByte_ok b true _ bb cap rest 34 R h1 h2 (by simp only [List.length_append, List.length_cons, List.length_nil]; omega))⟩
    rintro _ S1 ⟨rfl, bb, cap, rest, h1, h2, hS1⟩
    subst S1
    repeat (first | refine go_ ?_ | intro _)
    refine Or.inl ⟨⟨_, Tryz.func15, rfl, rfl⟩, ACall.mono ?_ (bldString_ok b true _ bb cap rest R (by simp only [List.length_append, List.length_cons, List.length_nil]; omega))⟩
    rintro _ S1 ⟨rfl, hS1⟩
    subst S1
    repeat (first | refine go_ ?_ | intro _)
    refine AW_ret ?_
    repeat (first | refine ⟨0, rfl, ?_⟩ | refine ⟨1, rfl, ?_⟩ | refine ⟨2, rfl, ?_⟩ | refine ⟨3, rfl, ?_⟩ | refine ⟨4, rfl, ?_⟩ | refine ⟨5, rfl, ?_⟩ | refine ⟨6, rfl, ?_⟩)
    refine ⟨_, R, AVle.eq ?_, (by repeat (first | exact SLe.rfl | refine SLe.tail ?_)), rfl, rfl⟩
    show AV.str _ = AV.str _
    rw [hzl, List.take_length]; rfl
end Go.Proofs.YtljdbkieofhblaaGreatDoor

