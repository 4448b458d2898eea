/-
  Blanks and comments: the law's walk. Own work.
-/
import Derived.Test.YtgcoomicgdbmbaaGreatDoorP14
set_option linter.all false
namespace Go.Proofs.YtgcoomicgdbmbaaGreatDoor
open Go.Aw Go.RowKit
set_option maxHeartbeats 4000000

def blk (c : UInt8) : UInt8 := if c.toNat % 3 = 0 then 32 else if c.toNat % 3 = 1 then 9 else 10
def blks (s : List UInt8) : List UInt8 := 32 :: s.map blk
def coms (s : List UInt8) : List UInt8 := s.filter noNl
theorem blks_all (s : List UInt8) : (blks s).all blankB = true := by
  rw [blks, List.all_cons, List.all_map, List.all_eq_true.2]
  · rfl
  · intro c _
    show blankB (blk c) = true
    unfold blk
    split
    · rfl
    · split <;> rfl
theorem coms_all (s : List UInt8) : (coms s).all noNl = true := by
  rw [coms, List.all_filter, List.all_eq_true]
  intro c _
  cases noNl c <;> rfl
theorem tmod3 (c : UInt8) : Int.tmod (c.toNat : Int) 3 = ((c.toNat % 3 : Nat) : Int) := by rw [Int.tmod_eq_emod_of_nonneg (by omega)]; omega
theorem rem3_has (c : UInt8) : IntKind.u8.has (Int.tmod (c.toNat : Int) 3) := by
  rw [tmod3]
  have : c.toNat % 3 < 3 := Nat.mod_lt _ (by decide)
  simp only [IntKind.has, IntKind.min, IntKind.max, IntKind.bits, IntKind.signed]
  simp; omega
theorem dlexBlanks_ok (a t s k : List UInt8) (R : List En) (hG : LexG R) : ACall Tryz.prog 5 [.str a, .str t, .str s, .str k] R (fun r S => r = .bool true ∧ S = R) := by
  obtain ⟨x, hx⟩ : ∃ x, x = a.take 3000 := ⟨_, rfl⟩
  obtain ⟨y, hy⟩ : ∃ y, y = t.take 3000 := ⟨_, rfl⟩
  have hxl : x.length ≤ 3000 := hx ▸ take_le a 3000
  have hyl : y.length ≤ 3000 := hy ▸ take_le t 3000
  have kx := cut_ok a
  rw [← hx] at kx
  have ky := cut_ok t
  rw [← hy] at ky
  refine ACall_body tab_ok Tryz.func5 rfl rfl rfl (by kernel_rfl) (Nat.le_of_ble_eq_true rfl) ?_
  repeat (first | refine go_ ?_ | intro _)
  refine Or.inl ⟨⟨_, Tryz.func9, rfl, rfl⟩, ACall.mono ?_ (shown_ok R hG)⟩
  rintro _ S1 ⟨rfl, hS1⟩
  subst S1
  repeat (first | refine go_ ?_ | intro _)
  refine Or.inl ⟨⟨_, Tryz.func10, rfl, rfl⟩, ACall.mono ?_ (kx _)⟩
  rintro _ S1 ⟨rfl, hS1⟩
  subst S1
  repeat (first | refine go_ ?_ | intro _)
  refine Or.inl ⟨⟨_, Tryz.func10, rfl, rfl⟩, ACall.mono ?_ (ky _)⟩
  rintro _ S1 ⟨rfl, hS1⟩
  subst S1
  repeat (first | refine det_step rfl ?_ | refine ⟨rfl, ?_⟩ | refine ⟨⟨_, rfl⟩, ?_⟩ | refine ⟨⟨_, rfl, rfl⟩, ?_⟩ | refine ⟨⟨rfl, rfl⟩, ?_⟩ | refine ⟨⟨Nat.le_of_ble_eq_true rfl, Nat.le_of_ble_eq_true rfl⟩, ?_⟩ | refine ⟨Nat.le_of_ble_eq_true rfl, ?_⟩ | refine ⟨_, _, rfl, ?_⟩ | refine ⟨0, _, rfl, ?_⟩ | refine ⟨1, _, rfl, ?_⟩ | refine ⟨2, _, rfl, ?_⟩ | refine ⟨3, _, rfl, ?_⟩ | refine ⟨4, _, rfl, ?_⟩ | refine ⟨5, _, rfl, ?_⟩ | refine ⟨_, rfl, ?_⟩ | intro _)
  refine AW_weak (weak_of (l := [(0, .str x), (1, .str y), (2, .str s), (3, .str k), (9, .bool true)]) (m := []) (S' := R) ?_ rfl ?_) ?_
  · repeat (first | exact trivial | refine ⟨AVle.refl _, ?_⟩ | refine ⟨AVle.tk, ?_⟩ | refine ⟨AVle.nil, ?_⟩ | refine ⟨AVle.nilFull, ?_⟩ | refine ⟨AVle.eq (congrArg (AV.int .i64) (by first | (simp; done) | (simp; omega) | (rw [wrap_i64 (by first | omega | (simp; omega))]; first | rfl | omega | (simp; done) | (simp; omega)))), ?_⟩)
  · refine SW.le ?_
    repeat (first | exact SW.nil | refine SW.cons ?_ | refine SW.cells (by repeat (first | exact trivial | refine ⟨AVle.refl _, ?_⟩ | refine ⟨AVle.nilFull, ?_⟩ | refine ⟨AVle.tk, ?_⟩ | refine ⟨AVle.nil, ?_⟩)) rfl ?_ | refine SW.full ?_ | refine SW.drop ?_)
  refine AW_cut3 (α := List UInt8) (fun z => ⟨[(0, .str x), (1, .str y), (3, .str k), (9, .bool true), (10, .str z), (12, .str [47, 47])], []⟩) (fun z => R) (fun z => z.all blankB = true ∧ z.length ≤ 101) ?_ (fun z hz => ?_)
  · repeat (first | refine go_ ?_ | intro _)
    refine AW_for (α := Nat) (fun z => ⟨[(0, .str x), (1, .str y), (2, .str s), (3, .str k), (9, .bool true), (10, .str (blks (s.take z))), (11, .int .i64 (z : Nat))], []⟩) (fun z => R) (fun z => 100 - z) (fun z => z ≤ s.length ∧ z ≤ 100) (0) ?_ (weak_of ?_ rfl ?_) (fun z hz => ?_)
    · exact ⟨Nat.zero_le _, Nat.zero_le _⟩
    · repeat (first | exact trivial | refine ⟨AVle.refl _, ?_⟩ | refine ⟨AVle.tk, ?_⟩ | refine ⟨AVle.nil, ?_⟩ | refine ⟨AVle.nilFull, ?_⟩ | refine ⟨AVle.eq (congrArg (AV.int .i64) (by first | (simp; done) | (simp; omega) | (rw [wrap_i64 (by first | omega | (simp; omega))]; first | rfl | omega | (simp; done) | (simp; omega)))), ?_⟩)
    · repeat (first | exact SLe.rfl | refine SLe.tail ?_ | refine SLe.full ?_)
    obtain ⟨i1, i2⟩ := hz
    have hbl : (blks (s.take z)).length = z + 1 := by simp [blks]; omega
    repeat (first | refine go_ ?_ | intro _)
    refine gsplit (z < s.length) (by first | (simp; done) | (simp <;> omega) | decide) (fun h => ?_) (fun h => ?_)
    rotate_left
    · repeat (first | refine ga_ ?_ | intro _)
      refine ⟨blks (s.take z), ?_, weak_of ?_ rfl ?_⟩
      · exact ⟨blks_all _, by omega⟩
      · repeat (first | exact trivial | refine ⟨AVle.refl _, ?_⟩ | refine ⟨AVle.tk, ?_⟩ | refine ⟨AVle.nil, ?_⟩ | refine ⟨AVle.nilFull, ?_⟩ | refine ⟨AVle.eq (congrArg (AV.int .i64) (by first | (simp; done) | (simp; omega) | (rw [wrap_i64 (by first | omega | (simp; omega))]; first | rfl | omega | (simp; done) | (simp; omega)))), ?_⟩)
      · repeat (first | exact SLe.rfl | refine SLe.tail ?_ | refine SLe.full ?_)
    have hlt := h
    repeat (first | refine ga_ ?_ | intro _)
    refine AW_iff (z < 100) rfl (by first | (simp; done) | (simp <;> omega) | decide) (fun h => ?_) (fun h => ?_)
    rotate_left
    · repeat (first | refine ga_ ?_ | intro _)
      refine ⟨blks (s.take z), ?_, weak_of ?_ rfl ?_⟩
      · exact ⟨blks_all _, by omega⟩
      · repeat (first | exact trivial | refine ⟨AVle.refl _, ?_⟩ | refine ⟨AVle.tk, ?_⟩ | refine ⟨AVle.nil, ?_⟩ | refine ⟨AVle.nilFull, ?_⟩ | refine ⟨AVle.eq (congrArg (AV.int .i64) (by first | (simp; done) | (simp; omega) | (rw [wrap_i64 (by first | omega | (simp; omega))]; first | rfl | omega | (simp; done) | (simp; omega)))), ?_⟩)
      · repeat (first | exact SLe.rfl | refine SLe.tail ?_ | refine SLe.full ?_)
    have hl1 := h
    obtain ⟨c, hc⟩ : ∃ c, c = s[z] := ⟨_, rfl⟩
    have hbt : blks (s.take (z + 1)) = blks (s.take z) ++ [blk c] := by
      rw [blks, blks, List.take_succ_eq_append_getElem hlt, List.map_append, ← hc]; rfl
    have hm := tmod3 c
    repeat (first | refine ga_ ?_ | intro _)
    refine at_list z rfl hlt ?_
    rw [← hc]
    repeat (first | refine go_ ?_ | intro _)
    refine ⟨by decide, rem3_has c, ?_⟩
    rw [hm]
    repeat (first | refine go_ ?_ | intro _)
    refine AW_iff (c.toNat % 3 = 0) rfl (by first | (simp; done) | (simp <;> omega) | decide) (fun h => ?_) (fun h => ?_)
    · repeat (first | refine go_ ?_ | intro _)
      refine cat_ ?_
      repeat (first | refine go_ ?_ | intro _)
      refine ⟨z + 1, ?_, ?_, weak_of ?_ rfl ?_⟩
      · omega
      · exact ⟨hlt, hl1⟩
      · repeat (first | exact trivial | refine ⟨(AVle.eq (congrArg AV.str (show blks (s.take z) ++ [32] = blks (s.take (z + 1)) by rw [hbt, blk, if_pos h]))), ?_⟩ | refine ⟨AVle.refl _, ?_⟩ | refine ⟨AVle.tk, ?_⟩ | refine ⟨AVle.nil, ?_⟩ | refine ⟨AVle.nilFull, ?_⟩ | refine ⟨AVle.eq (congrArg (AV.int .i64) (by first | (simp; done) | (simp; omega) | (rw [wrap_i64 (by first | omega | (simp; omega))]; first | rfl | omega | (simp; done) | (simp; omega)))), ?_⟩)
      · repeat (first | exact SLe.rfl | refine SLe.tail ?_ | refine SLe.full ?_)
    have n0 := h
    repeat (first | refine go_ ?_ | intro _)
    refine AW_iff (c.toNat % 3 = 1) rfl (by first | (simp; done) | (simp <;> omega) | decide) (fun h => ?_) (fun h => ?_)
    · repeat (first | refine go_ ?_ | intro _)
      refine cat_ ?_
      repeat (first | refine go_ ?_ | intro _)
      refine ⟨z + 1, ?_, ?_, weak_of ?_ rfl ?_⟩
      · omega
      · exact ⟨hlt, hl1⟩
      · repeat (first | exact trivial | refine ⟨(AVle.eq (congrArg AV.str (show blks (s.take z) ++ [9] = blks (s.take (z + 1)) by rw [hbt, blk, if_neg n0, if_pos h]))), ?_⟩ | refine ⟨AVle.refl _, ?_⟩ | refine ⟨AVle.tk, ?_⟩ | refine ⟨AVle.nil, ?_⟩ | refine ⟨AVle.nilFull, ?_⟩ | refine ⟨AVle.eq (congrArg (AV.int .i64) (by first | (simp; done) | (simp; omega) | (rw [wrap_i64 (by first | omega | (simp; omega))]; first | rfl | omega | (simp; done) | (simp; omega)))), ?_⟩)
      · repeat (first | exact SLe.rfl | refine SLe.tail ?_ | refine SLe.full ?_)
    · repeat (first | refine go_ ?_ | intro _)
      refine cat_ ?_
      repeat (first | refine go_ ?_ | intro _)
      refine ⟨z + 1, ?_, ?_, weak_of ?_ rfl ?_⟩
      · omega
      · exact ⟨hlt, hl1⟩
      · repeat (first | exact trivial | refine ⟨(AVle.eq (congrArg AV.str (show blks (s.take z) ++ [10] = blks (s.take (z + 1)) by rw [hbt, blk, if_neg n0, if_neg h]))), ?_⟩ | refine ⟨AVle.refl _, ?_⟩ | refine ⟨AVle.tk, ?_⟩ | refine ⟨AVle.nil, ?_⟩ | refine ⟨AVle.nilFull, ?_⟩ | refine ⟨AVle.eq (congrArg (AV.int .i64) (by first | (simp; done) | (simp; omega) | (rw [wrap_i64 (by first | omega | (simp; omega))]; first | rfl | omega | (simp; done) | (simp; omega)))), ?_⟩)
      · repeat (first | exact SLe.rfl | refine SLe.tail ?_ | refine SLe.full ?_)
  obtain ⟨b, hb⟩ : ∃ b, b = z := ⟨z, rfl⟩
  subst hb
  obtain ⟨hb1, hb2⟩ := hz
  refine AW_cut1 (α := List UInt8) (fun z => ⟨[(0, .str x), (1, .str y), (9, .bool true), (10, .str b), (12, .str (47 :: 47 :: z))], []⟩) (fun z => R) (fun z => z.all noNl = true ∧ z.length ≤ 100) ?_ (fun z hz => ?_)
  · repeat (first | refine go_ ?_ | intro _)
    refine AW_for (α := Nat) (fun z => ⟨[(0, .str x), (1, .str y), (3, .str k), (9, .bool true), (10, .str b), (12, .str (47 :: 47 :: coms (k.take z))), (13, .int .i64 (z : Nat))], []⟩) (fun z => R) (fun z => 100 - z) (fun z => z ≤ k.length ∧ z ≤ 100) (0) ?_ (weak_of ?_ rfl ?_) (fun z hz => ?_)
    · exact ⟨Nat.zero_le _, Nat.zero_le _⟩
    · repeat (first | exact trivial | refine ⟨AVle.refl _, ?_⟩ | refine ⟨AVle.tk, ?_⟩ | refine ⟨AVle.nil, ?_⟩ | refine ⟨AVle.nilFull, ?_⟩ | refine ⟨AVle.eq (congrArg (AV.int .i64) (by first | (simp; done) | (simp; omega) | (rw [wrap_i64 (by first | omega | (simp; omega))]; first | rfl | omega | (simp; done) | (simp; omega)))), ?_⟩)
    · repeat (first | exact SLe.rfl | refine SLe.tail ?_ | refine SLe.full ?_)
    obtain ⟨i1, i2⟩ := hz
    have hcl : (coms (k.take z)).length ≤ z := Nat.le_trans (List.length_filter_le _ _) (by rw [List.length_take]; omega)
    repeat (first | refine go_ ?_ | intro _)
    refine gsplit (z < k.length) (by first | (simp; done) | (simp <;> omega) | decide) (fun h => ?_) (fun h => ?_)
    rotate_left
    · repeat (first | refine ga_ ?_ | intro _)
      refine ⟨coms (k.take z), ?_, weak_of ?_ rfl ?_⟩
      · exact ⟨coms_all _, by omega⟩
      · repeat (first | exact trivial | refine ⟨AVle.refl _, ?_⟩ | refine ⟨AVle.tk, ?_⟩ | refine ⟨AVle.nil, ?_⟩ | refine ⟨AVle.nilFull, ?_⟩ | refine ⟨AVle.eq (congrArg (AV.int .i64) (by first | (simp; done) | (simp; omega) | (rw [wrap_i64 (by first | omega | (simp; omega))]; first | rfl | omega | (simp; done) | (simp; omega)))), ?_⟩)
      · repeat (first | exact SLe.rfl | refine SLe.tail ?_ | refine SLe.full ?_)
    have hlt := h
    repeat (first | refine ga_ ?_ | intro _)
    refine AW_iff (z < 100) rfl (by first | (simp; done) | (simp <;> omega) | decide) (fun h => ?_) (fun h => ?_)
    rotate_left
    · repeat (first | refine ga_ ?_ | intro _)
      refine ⟨coms (k.take z), ?_, weak_of ?_ rfl ?_⟩
      · exact ⟨coms_all _, by omega⟩
      · repeat (first | exact trivial | refine ⟨AVle.refl _, ?_⟩ | refine ⟨AVle.tk, ?_⟩ | refine ⟨AVle.nil, ?_⟩ | refine ⟨AVle.nilFull, ?_⟩ | refine ⟨AVle.eq (congrArg (AV.int .i64) (by first | (simp; done) | (simp; omega) | (rw [wrap_i64 (by first | omega | (simp; omega))]; first | rfl | omega | (simp; done) | (simp; omega)))), ?_⟩)
      · repeat (first | exact SLe.rfl | refine SLe.tail ?_ | refine SLe.full ?_)
    have hl1 := h
    obtain ⟨c, hc⟩ : ∃ c, c = k[z] := ⟨_, rfl⟩
    have hct : coms (k.take (z + 1)) = coms (k.take z) ++ [c].filter noNl := by
      rw [coms, coms, List.take_succ_eq_append_getElem hlt, List.filter_append, ← hc]
    repeat (first | refine ga_ ?_ | intro _)
    refine at_list z rfl hlt ?_
    rw [← hc]
    repeat (first | refine go_ ?_ | intro _)
    refine AW_iff (¬ c.toNat = 10) rfl (by simp; omega) (fun h => ?_) (fun h => ?_)
    · have e : [c].filter noNl = [c] := by simp [noNl, h]
      rw [e] at hct
      repeat (first | refine go_ ?_ | intro _)
      refine at_list z rfl hlt ?_
      rw [← hc]
      repeat (first | refine go_ ?_ | intro _)
      refine ⟨[c], rfl, ?_⟩
      repeat (first | refine go_ ?_ | intro _)
      refine cat_ ?_
      repeat (first | refine go_ ?_ | intro _)
      refine ⟨z + 1, ?_, ?_, weak_of ?_ rfl ?_⟩
      · omega
      · exact ⟨hlt, hl1⟩
      · repeat (first | exact trivial | refine ⟨(AVle.eq (congrArg AV.str (show 47 :: 47 :: coms (k.take z) ++ [c] = 47 :: 47 :: coms (k.take (z + 1)) by rw [hct]; rfl))), ?_⟩ | refine ⟨AVle.refl _, ?_⟩ | refine ⟨AVle.tk, ?_⟩ | refine ⟨AVle.nil, ?_⟩ | refine ⟨AVle.nilFull, ?_⟩ | refine ⟨AVle.eq (congrArg (AV.int .i64) (by first | (simp; done) | (simp; omega) | (rw [wrap_i64 (by first | omega | (simp; omega))]; first | rfl | omega | (simp; done) | (simp; omega)))), ?_⟩)
      · repeat (first | exact SLe.rfl | refine SLe.tail ?_ | refine SLe.full ?_)
    · have e : [c].filter noNl = [] := by simp [noNl]; omega
      rw [e, List.append_nil] at hct
      repeat (first | refine go_ ?_ | intro _)
      refine ⟨z + 1, ?_, ?_, weak_of ?_ rfl ?_⟩
      · omega
      · exact ⟨hlt, hl1⟩
      · repeat (first | exact trivial | refine ⟨(AVle.eq (congrArg AV.str (show 47 :: 47 :: coms (k.take z) = 47 :: 47 :: coms (k.take (z + 1)) by rw [hct]))), ?_⟩ | refine ⟨AVle.refl _, ?_⟩ | refine ⟨AVle.tk, ?_⟩ | refine ⟨AVle.nil, ?_⟩ | refine ⟨AVle.nilFull, ?_⟩ | refine ⟨AVle.eq (congrArg (AV.int .i64) (by first | (simp; done) | (simp; omega) | (rw [wrap_i64 (by first | omega | (simp; omega))]; first | rfl | omega | (simp; done) | (simp; omega)))), ?_⟩)
      · repeat (first | exact SLe.rfl | refine SLe.tail ?_ | refine SLe.full ?_)
  obtain ⟨d, hd⟩ : ∃ d, d = z := ⟨z, rfl⟩
  subst hd
  obtain ⟨hd1, hd2⟩ := hz
  obtain ⟨w1, w2⟩ := wrap_law (b := b) (c := d) (s := x) (t := y) hb1 hd1
  obtain ⟨w, hw⟩ : ∃ w, w = wrapT b x (47 :: 47 :: d) y := ⟨_, rfl⟩
  rw [← hw] at w1 w2
  have hwl : w.length ≤ 7000 := by
    rw [hw, wrapT]
    simp only [List.length_append, List.length_cons, List.length_nil]; omega
  have k1 := lex_ok x R hG.1 hG.2.1 hG.2.2 (by omega)
  have k2 := lex_ok y R hG.1 hG.2.1 hG.2.2 (by omega)
  have k3 := lex_ok w R hG.1 hG.2.1 hG.2.2 (by omega)
  have nx := lexS_len x
  have ny := lexS_len y
  have nw := lexS_len w
  obtain ⟨X, hX⟩ : ∃ X, X = lexS x := ⟨_, rfl⟩
  obtain ⟨Y, hY⟩ : ∃ X, X = lexS y := ⟨_, rfl⟩
  obtain ⟨W, hW⟩ : ∃ X, X = lexS w := ⟨_, rfl⟩
  rw [← hX] at k1 nx
  rw [← hY] at k2 ny
  rw [← hW] at k3 nw
  rw [hw] at k3
  obtain ⟨lx, ix, ex⟩ := X
  obtain ⟨ly, iy, ey⟩ := Y
  obtain ⟨lw, iw, ew⟩ := W
  repeat (first | refine go_ ?_ | intro _)
  refine Or.inl ⟨⟨_, Tryz.func11, rfl, rfl⟩, ACall.mono ?_ (k1)⟩
  rintro _ S1 ⟨rfl, hS1⟩
  subst S1
  repeat (first | refine det_step rfl ?_ | refine ⟨rfl, ?_⟩ | refine ⟨⟨_, rfl⟩, ?_⟩ | refine ⟨⟨_, rfl, rfl⟩, ?_⟩ | refine ⟨⟨rfl, rfl⟩, ?_⟩ | refine ⟨⟨Nat.le_of_ble_eq_true rfl, Nat.le_of_ble_eq_true rfl⟩, ?_⟩ | refine ⟨Nat.le_of_ble_eq_true rfl, ?_⟩ | refine ⟨_, _, rfl, ?_⟩ | refine ⟨0, _, rfl, ?_⟩ | refine ⟨1, _, rfl, ?_⟩ | refine ⟨2, _, rfl, ?_⟩ | refine ⟨3, _, rfl, ?_⟩ | refine ⟨4, _, rfl, ?_⟩ | refine ⟨5, _, rfl, ?_⟩ | refine ⟨_, rfl, ?_⟩ | intro _)
  refine AW_weak (weak_of (l := [(0, .str x), (1, .str y), (9, .bool true), (10, .str b), (12, .str (47 :: 47 :: d)), (14, .sl 3 (lx.map encT) .no), (16, .int .i64 ex)]) (m := []) (S' := R) ?_ rfl ?_) ?_
  · repeat (first | exact trivial | refine ⟨AVle.refl _, ?_⟩ | refine ⟨AVle.tk, ?_⟩ | refine ⟨AVle.nil, ?_⟩ | refine ⟨AVle.nilFull, ?_⟩ | refine ⟨AVle.eq (congrArg (AV.int .i64) (by first | (simp; done) | (simp; omega) | (rw [wrap_i64 (by first | omega | (simp; omega))]; first | rfl | omega | (simp; done) | (simp; omega)))), ?_⟩)
  · refine SW.le ?_
    repeat (first | exact SW.nil | refine SW.cons ?_ | refine SW.cells (by repeat (first | exact trivial | refine ⟨AVle.refl _, ?_⟩ | refine ⟨AVle.nilFull, ?_⟩ | refine ⟨AVle.tk, ?_⟩ | refine ⟨AVle.nil, ?_⟩)) rfl ?_ | refine SW.full ?_ | refine SW.drop ?_)
  repeat (first | refine go_ ?_ | intro _)
  refine Or.inl ⟨⟨_, Tryz.func11, rfl, rfl⟩, ACall.mono ?_ (k2)⟩
  rintro _ S1 ⟨rfl, hS1⟩
  subst S1
  repeat (first | refine det_step rfl ?_ | refine ⟨rfl, ?_⟩ | refine ⟨⟨_, rfl⟩, ?_⟩ | refine ⟨⟨_, rfl, rfl⟩, ?_⟩ | refine ⟨⟨rfl, rfl⟩, ?_⟩ | refine ⟨⟨Nat.le_of_ble_eq_true rfl, Nat.le_of_ble_eq_true rfl⟩, ?_⟩ | refine ⟨Nat.le_of_ble_eq_true rfl, ?_⟩ | refine ⟨_, _, rfl, ?_⟩ | refine ⟨0, _, rfl, ?_⟩ | refine ⟨1, _, rfl, ?_⟩ | refine ⟨2, _, rfl, ?_⟩ | refine ⟨3, _, rfl, ?_⟩ | refine ⟨4, _, rfl, ?_⟩ | refine ⟨5, _, rfl, ?_⟩ | refine ⟨_, rfl, ?_⟩ | intro _)
  refine AW_weak (weak_of (l := [(0, .str x), (1, .str y), (9, .bool true), (10, .str b), (12, .str (47 :: 47 :: d)), (14, .sl 3 (lx.map encT) .no), (16, .int .i64 ex), (17, .sl 3 (ly.map encT) .no), (19, .int .i64 ey)]) (m := []) (S' := R) ?_ rfl ?_) ?_
  · repeat (first | exact trivial | refine ⟨AVle.refl _, ?_⟩ | refine ⟨AVle.tk, ?_⟩ | refine ⟨AVle.nil, ?_⟩ | refine ⟨AVle.nilFull, ?_⟩ | refine ⟨AVle.eq (congrArg (AV.int .i64) (by first | (simp; done) | (simp; omega) | (rw [wrap_i64 (by first | omega | (simp; omega))]; first | rfl | omega | (simp; done) | (simp; omega)))), ?_⟩)
  · refine SW.le ?_
    repeat (first | exact SW.nil | refine SW.cons ?_ | refine SW.cells (by repeat (first | exact trivial | refine ⟨AVle.refl _, ?_⟩ | refine ⟨AVle.nilFull, ?_⟩ | refine ⟨AVle.tk, ?_⟩ | refine ⟨AVle.nil, ?_⟩)) rfl ?_ | refine SW.full ?_ | refine SW.drop ?_)
  repeat (first | refine go_ ?_ | intro _)
  refine cat_ ?_
  repeat (first | refine go_ ?_ | intro _)
  refine cat_ ?_
  repeat (first | refine go_ ?_ | intro _)
  refine cat_ ?_
  repeat (first | refine go_ ?_ | intro _)
  refine cat_ ?_
  repeat (first | refine go_ ?_ | intro _)
  refine cat_ ?_
  repeat (first | refine go_ ?_ | intro _)
  refine cat_ ?_
  repeat (first | refine go_ ?_ | intro _)
  refine cat_ ?_
  repeat (first | refine go_ ?_ | intro _)
  refine cat_ ?_
  repeat (first | refine go_ ?_ | intro _)
  refine Or.inl ⟨⟨_, Tryz.func11, rfl, rfl⟩, ACall.mono ?_ (k3)⟩
  rintro _ S1 ⟨rfl, hS1⟩
  subst S1
  repeat (first | refine det_step rfl ?_ | refine ⟨rfl, ?_⟩ | refine ⟨⟨_, rfl⟩, ?_⟩ | refine ⟨⟨_, rfl, rfl⟩, ?_⟩ | refine ⟨⟨rfl, rfl⟩, ?_⟩ | refine ⟨⟨Nat.le_of_ble_eq_true rfl, Nat.le_of_ble_eq_true rfl⟩, ?_⟩ | refine ⟨Nat.le_of_ble_eq_true rfl, ?_⟩ | refine ⟨_, _, rfl, ?_⟩ | refine ⟨0, _, rfl, ?_⟩ | refine ⟨1, _, rfl, ?_⟩ | refine ⟨2, _, rfl, ?_⟩ | refine ⟨3, _, rfl, ?_⟩ | refine ⟨4, _, rfl, ?_⟩ | refine ⟨5, _, rfl, ?_⟩ | refine ⟨_, rfl, ?_⟩ | intro _)
  refine AW_weak (weak_of (l := [(9, .bool true), (14, .sl 3 (lx.map encT) .no), (16, .int .i64 ex), (17, .sl 3 (ly.map encT) .no), (19, .int .i64 ey), (20, .sl 3 (lw.map encT) .no), (22, .int .i64 ew)]) (m := []) (S' := R) ?_ rfl ?_) ?_
  · repeat (first | exact trivial | refine ⟨AVle.refl _, ?_⟩ | refine ⟨AVle.tk, ?_⟩ | refine ⟨AVle.nil, ?_⟩ | refine ⟨AVle.nilFull, ?_⟩ | refine ⟨AVle.eq (congrArg (AV.int .i64) (by first | (simp; done) | (simp; omega) | (rw [wrap_i64 (by first | omega | (simp; omega))]; first | rfl | omega | (simp; done) | (simp; omega)))), ?_⟩)
  · refine SW.le ?_
    repeat (first | exact SW.nil | refine SW.cons ?_ | refine SW.cells (by repeat (first | exact trivial | refine ⟨AVle.refl _, ?_⟩ | refine ⟨AVle.nilFull, ?_⟩ | refine ⟨AVle.tk, ?_⟩ | refine ⟨AVle.nil, ?_⟩)) rfl ?_ | refine SW.full ?_ | refine SW.drop ?_)
  by_cases ox : okX x
  rotate_left
  · obtain ⟨q, _, e⟩ := lex_bad_of (s := x) (by omega) ox
    obtain ⟨q2, _, e2⟩ := lex_bad_of (s := w) (by omega) (w2 (.inl ox))
    rw [e] at hX
    rw [e2] at hW
    cases hX; cases hW
    repeat (first | refine ga_ ?_ | intro _)
    refine AW_ret ?_
    repeat (first | refine ⟨0, rfl, ?_⟩ | refine ⟨1, rfl, ?_⟩ | refine ⟨2, rfl, ?_⟩ | refine ⟨3, rfl, ?_⟩ | refine ⟨4, rfl, ?_⟩ | refine ⟨5, rfl, ?_⟩ | refine ⟨6, rfl, ?_⟩)
    refine ⟨_, R, AVle.eq ?_, (by repeat (first | exact SLe.rfl | refine SLe.tail ?_)), rfl, rfl⟩
    rfl
  have eX := lex_ok_of (s := x) (by omega) ox
  have hex : ex = 0 := by rw [eX] at hX; cases hX; rfl
  subst hex
  by_cases oy : okX y
  rotate_left
  · obtain ⟨q, _, e⟩ := lex_bad_of (s := y) (by omega) oy
    obtain ⟨q2, _, e2⟩ := lex_bad_of (s := w) (by omega) (w2 (.inr oy))
    rw [e] at hY
    rw [e2] at hW
    cases hY; cases hW
    repeat (first | refine ga_ ?_ | intro _)
    refine AW_ret ?_
    repeat (first | refine ⟨0, rfl, ?_⟩ | refine ⟨1, rfl, ?_⟩ | refine ⟨2, rfl, ?_⟩ | refine ⟨3, rfl, ?_⟩ | refine ⟨4, rfl, ?_⟩ | refine ⟨5, rfl, ?_⟩ | refine ⟨6, rfl, ?_⟩)
    refine ⟨_, R, AVle.eq ?_, (by repeat (first | exact SLe.rfl | refine SLe.tail ?_)), rfl, rfl⟩
    rfl
  have eY := lex_ok_of (s := y) (by omega) oy
  have hey : ey = 0 := by rw [eY] at hY; cases hY; rfl
  subst hey
  obtain ⟨ow, kk⟩ := w1 ox oy
  have eW := lex_ok_of (s := w) (by omega) ow
  have hew : ew = 0 := by rw [eW] at hW; cases hW; rfl
  subst hew
  have hk : lw.map (fun t => (t.kind, t.s)) = (lx ++ ly).map (fun t => (t.kind, t.s)) := by
    have a1 : lw = (rawL (skipL w)).1.map (tokL (cnt w)) := by rw [eW] at hW; exact (congrArg (·.1) hW : _)
    have a2 : lx = (rawL (skipL x)).1.map (tokL (cnt x)) := by rw [eX] at hX; exact (congrArg (·.1) hX : _)
    have a3 : ly = (rawL (skipL y)).1.map (tokL (cnt y)) := by rw [eY] at hY; exact (congrArg (·.1) hY : _)
    rw [List.map_append, a1, a2, a3, lex_kind, lex_kind, lex_kind, ← List.map_append]
    exact congrArg _ kk
  obtain ⟨c1, c2⟩ := same_kws hk
  simp only [] at nx ny nw
  have k4 := fun tk R => alike_ok lw (lx ++ ly) c1 c2 R (by omega) .no tk
  have hlx : (lx.map encT).length = lx.length := List.length_map _
  have hly : (ly.map encT).length = ly.length := List.length_map _
  repeat (first | refine ga_ ?_ | intro _)
  refine ⟨0, lx.length + ly.length, rfl, (by rw [wrap_i64 (by omega)]; omega), Nat.zero_le _, room (by first | omega | (simp; omega)) rfl, .inl ⟨rfl, fun t1 => ?_⟩⟩
  repeat (first | refine ga_ ?_ | intro _)
  refine ⟨room (by first | omega | (simp; done) | (simp; omega) | (simp at *; done) | (simp at *; omega)) rfl, .inl rfl, .inr (.inl ⟨rfl, 0, rfl, lx.map encT, rfl, fun t1 => ?_⟩)⟩
  repeat (first | refine ga_ ?_ | intro _)
  refine ⟨room (by first | omega | (simp; done) | (simp; omega) | (simp at *; done) | (simp at *; omega)) rfl, .inl rfl, .inr (.inl ⟨rfl, 0, rfl, (lx ++ ly).map encT, (List.map_append).symm, fun t1 => ?_⟩)⟩
  repeat (first | refine ga_ ?_ | intro _)
  refine Or.inl ⟨⟨_, Tryz.func14, rfl, rfl⟩, ACall.mono ?_ (k4 _ _)⟩
  rintro _ S1 ⟨rfl, hS1⟩
  subst S1
  repeat (first | refine ga_ ?_ | intro _)
  refine AW_ret ?_
  repeat (first | refine ⟨0, rfl, ?_⟩ | refine ⟨1, rfl, ?_⟩ | refine ⟨2, rfl, ?_⟩ | refine ⟨3, rfl, ?_⟩ | refine ⟨4, rfl, ?_⟩ | refine ⟨5, rfl, ?_⟩ | refine ⟨6, rfl, ?_⟩)
  refine ⟨_, R, AVle.eq ?_, (by repeat (first | exact SLe.rfl | refine SLe.tail ?_)), rfl, rfl⟩
  rfl
end Go.Proofs.YtgcoomicgdbmbaaGreatDoor

