/-
  Runs of bytes, their lines, prefixes, the scanner's steps. Own work.
-/
import Derived.Test.YtgcoomicgdbmbaaGreatDoorP4
set_option linter.all false
namespace Go.Proofs.YtgcoomicgdbmbaaGreatDoor
open Go.Aw Go.RowKit
set_option maxHeartbeats 4000000

/-! ### lines counted -/
theorem cnt_byte (l : List UInt8) : Lib.countByte l 10 = cnt l := by
  rw [Lib.countByte, List.count, cnt]
  refine congrFun (congrArg _ (funext fun c => ?_)) _
  rw [Bool.eq_iff_iff]
  simp only [beq_iff_eq, decide_eq_true_eq]
  exact ⟨fun h => by rw [h]; rfl, fun h => UInt8.toNat_inj.1 h⟩
theorem cnt_len (l : List UInt8) : cnt l ≤ l.length := List.countP_le_length
theorem countString_call {l : List UInt8} {S : List En} {k : AV → List En → Prop} (hk : k (.int .i64 (cnt l : Nat)) S) (hl : l.length ≤ 16777216) : AExt Tryz.prog 71 [.str l, .int .u8 ((10 : Nat) : Int)] S k :=
  ⟨Tryz.f71, Extern.BytealgCount.count, Tryz.func71, by kernel_rfl, rfl, by kernel_rfl, by kernel_rfl, fun w0 K w vs hv hS => by
    obtain ⟨x, r, rfl, hx, hr⟩ := hv.cons_inv
    obtain ⟨y, r', rfl, hy, hr'⟩ := hr.cons_inv
    obtain rfl := hr'.nil_inv
    cases hx; cases hy
    have h := Lib.run_countString (P := Tryz.prog) ⟨l.toArray⟩ ((10 : Nat) : Int) w
    have e : (((10 : Nat) : Int)).toNat.toUInt8 = 10 := rfl
    rw [e] at h
    have hle := cnt_len l
    have e2 : ((Lib.countByte l 10 : Nat) : Int) = (cnt l : Nat) := by rw [cnt_byte]
    exact ⟨_, w, K, .int .i64 (cnt l : Nat), S, h, Kle.refl K, e2 ▸ .int _ _ (has_i64 (by rw [cnt_byte]; show -9223372036854775808 ≤ (cnt l : Int) ∧ (cnt l : Int) ≤ 9223372036854775807; omega)), hS, hk⟩⟩
theorem count_ok (l : List UInt8) (R : List En) (hl : l.length ≤ 16777216) : ACall Tryz.prog 60 [.str l, .str [10]] R (fun r S => r = .int .i64 (cnt l : Nat) ∧ S = R) := by
  refine ACall_body tab_ok Tryz.func60 rfl rfl rfl (by kernel_rfl) (Nat.le_of_ble_eq_true rfl) ?_
  repeat (first | refine go_ ?_ | intro _)
  refine AW_false (b := false) rfl (by first | rfl | (simp; done) | (simp; omega) | decide) ?_
  repeat (first | refine go_ ?_ | intro _)
  refine AW_true (b := true) rfl (by first | rfl | (simp; done) | (simp; omega) | decide) ?_
  repeat (first | refine go_ ?_ | intro _)
  refine at_list 0 rfl (by simp) ?_
  repeat (first | refine go_ ?_ | intro _)
  refine .inr (countString_call ?_ hl)
  repeat (first | refine go_ ?_ | intro _)
  refine AW_ret ?_
  repeat (first | refine ⟨0, rfl, ?_⟩ | refine ⟨1, rfl, ?_⟩ | refine ⟨2, rfl, ?_⟩ | refine ⟨3, rfl, ?_⟩ | refine ⟨4, rfl, ?_⟩ | refine ⟨5, rfl, ?_⟩ | refine ⟨6, rfl, ?_⟩)
  refine ⟨_, R, AVle.eq ?_, (by repeat (first | exact SLe.rfl | refine SLe.tail ?_)), rfl, rfl⟩
  rfl

/-! ### prefixes -/
theorem prefix_ok (s p : List UInt8) (R : List En) : ACall Tryz.prog 47 [.str s, .str p] R (fun r S => r = .bool (decide (s.take p.length = p)) ∧ S = R) := by
  have k : ACall Tryz.prog 59 [.str s, .str p] R (fun r S => r = .bool (decide (s.take p.length = p)) ∧ S = R) := by
    refine ACall_body tab_ok Tryz.func59 rfl rfl rfl (by kernel_rfl) (Nat.le_of_ble_eq_true rfl) ?_
    repeat (first | refine go_ ?_ | intro _)
    refine gsplit (p.length ≤ s.length) (by first | (simp; done) | (simp <;> omega) | decide) (fun h => ?_) (fun h => ?_)
    · repeat (first | refine ga_ ?_ | intro _)
      refine at_ss 0 p.length (s.take p.length) rfl rfl (by omega) (by omega) (by simp) ?_
      repeat (first | refine ga_ ?_ | intro _)
      refine AW_ret ?_
      repeat (first | refine ⟨0, rfl, ?_⟩ | refine ⟨1, rfl, ?_⟩ | refine ⟨2, rfl, ?_⟩ | refine ⟨3, rfl, ?_⟩ | refine ⟨4, rfl, ?_⟩ | refine ⟨5, rfl, ?_⟩ | refine ⟨6, rfl, ?_⟩)
      refine ⟨_, R, AVle.eq ?_, (by repeat (first | exact SLe.rfl | refine SLe.tail ?_)), rfl, rfl⟩
      rfl
    · repeat (first | refine ga_ ?_ | intro _)
      refine AW_ret ?_
      repeat (first | refine ⟨0, rfl, ?_⟩ | refine ⟨1, rfl, ?_⟩ | refine ⟨2, rfl, ?_⟩ | refine ⟨3, rfl, ?_⟩ | refine ⟨4, rfl, ?_⟩ | refine ⟨5, rfl, ?_⟩ | refine ⟨6, rfl, ?_⟩)
      refine ⟨_, R, AVle.eq ?_, (by repeat (first | exact SLe.rfl | refine SLe.tail ?_)), rfl, rfl⟩
      exact congrArg AV.bool (decide_eq_false fun e => h (by have := congrArg List.length e; simp at this; omega)).symm
  refine ACall_body tab_ok Tryz.func47 rfl rfl rfl (by kernel_rfl) (Nat.le_of_ble_eq_true rfl) ?_
  repeat (first | refine go_ ?_ | intro _)
  refine Or.inl ⟨⟨_, Tryz.func59, rfl, rfl⟩, ACall.mono ?_ (k)⟩
  rintro _ S1 ⟨rfl, hS1⟩
  subst S1
  repeat (first | refine go_ ?_ | intro _)
  refine AW_ret ?_
  repeat (first | refine ⟨0, rfl, ?_⟩ | refine ⟨1, rfl, ?_⟩ | refine ⟨2, rfl, ?_⟩ | refine ⟨3, rfl, ?_⟩ | refine ⟨4, rfl, ?_⟩ | refine ⟨5, rfl, ?_⟩ | refine ⟨6, rfl, ?_⟩)
  refine ⟨_, R, AVle.eq ?_, (by repeat (first | exact SLe.rfl | refine SLe.tail ?_)), rfl, rfl⟩
  rfl

/-! ### runs -/
def IsP (F : FuncId) (p : UInt8 → Bool) : Prop := fnOk Tryz.prog F ∧ ∀ (c : UInt8) (R : List En), ACall Tryz.prog F [.int .u8 c.toNat] R (fun r S => r = .bool (p c) ∧ S = R)
theorem isLetter_ok (c : UInt8) (R : List En) : ACall Tryz.prog 64 [.int .u8 c.toNat] R (fun r S => r = .bool (letterB c) ∧ S = R) := by
  refine ACall_body tab_ok Tryz.func64 rfl rfl rfl (by kernel_rfl) (Nat.le_of_ble_eq_true rfl) ?_
  all_goals (repeat (first | refine ga_ ?_ | intro _))
  all_goals (try (first | refine AW_cond rfl (fun h => ?_) (fun h => ?_) | refine ⟨fun h => ?_, fun h => ?_⟩))
  all_goals (try (repeat (first | refine ga_ ?_ | intro _)))
  all_goals (try (first | refine AW_cond rfl (fun h => ?_) (fun h => ?_) | refine ⟨fun h => ?_, fun h => ?_⟩))
  all_goals (try (repeat (first | refine ga_ ?_ | intro _)))
  all_goals (try (first | refine AW_cond rfl (fun h => ?_) (fun h => ?_) | refine ⟨fun h => ?_, fun h => ?_⟩))
  all_goals (try (repeat (first | refine ga_ ?_ | intro _)))
  all_goals (try (first | refine AW_cond rfl (fun h => ?_) (fun h => ?_) | refine ⟨fun h => ?_, fun h => ?_⟩))
  all_goals (try (repeat (first | refine ga_ ?_ | intro _)))
  all_goals (refine AW_ret ?_)
  all_goals (refine ⟨_, R, AVle.eq ?_, (by repeat (first | exact SLe.rfl | refine SLe.tail ?_)), rfl, rfl⟩)
  all_goals (show AV.bool _ = AV.bool _; congr 1; rw [Bool.eq_iff_iff]; simp [letterB] at *; omega)
theorem isDigit_ok (c : UInt8) (R : List En) : ACall Tryz.prog 65 [.int .u8 c.toNat] R (fun r S => r = .bool (digitB c) ∧ S = R) := by
  refine ACall_body tab_ok Tryz.func65 rfl rfl rfl (by kernel_rfl) (Nat.le_of_ble_eq_true rfl) ?_
  all_goals (repeat (first | refine ga_ ?_ | intro _))
  all_goals (try (first | refine AW_cond rfl (fun h => ?_) (fun h => ?_) | refine ⟨fun h => ?_, fun h => ?_⟩))
  all_goals (try (repeat (first | refine ga_ ?_ | intro _)))
  all_goals (try (first | refine AW_cond rfl (fun h => ?_) (fun h => ?_) | refine ⟨fun h => ?_, fun h => ?_⟩))
  all_goals (try (repeat (first | refine ga_ ?_ | intro _)))
  all_goals (refine AW_ret ?_)
  all_goals (refine ⟨_, R, AVle.eq ?_, (by repeat (first | exact SLe.rfl | refine SLe.tail ?_)), rfl, rfl⟩)
  all_goals (show AV.bool _ = AV.bool _; congr 1; rw [Bool.eq_iff_iff]; simp [digitB] at *; omega)
theorem isBlank_ok : IsP 46 blankB := ⟨⟨_, Tryz.func46, rfl, rfl⟩, fun c R => by
  refine ACall_body tab_ok Tryz.func46 rfl rfl rfl (by kernel_rfl) (Nat.le_of_ble_eq_true rfl) ?_
  all_goals (repeat (first | refine ga_ ?_ | intro _))
  all_goals (try (first | refine AW_cond rfl (fun h => ?_) (fun h => ?_) | refine ⟨fun h => ?_, fun h => ?_⟩))
  all_goals (try (repeat (first | refine ga_ ?_ | intro _)))
  all_goals (try (first | refine AW_cond rfl (fun h => ?_) (fun h => ?_) | refine ⟨fun h => ?_, fun h => ?_⟩))
  all_goals (try (repeat (first | refine ga_ ?_ | intro _)))
  all_goals (refine AW_ret ?_)
  all_goals (refine ⟨_, R, AVle.eq ?_, (by repeat (first | exact SLe.rfl | refine SLe.tail ?_)), rfl, rfl⟩)
  all_goals (show AV.bool _ = AV.bool _; congr 1; rw [Bool.eq_iff_iff]; simp [blankB] at *; omega)⟩
theorem isNoNl_ok : IsP 48 noNl := ⟨⟨_, Tryz.func48, rfl, rfl⟩, fun c R => by
  refine ACall_body tab_ok Tryz.func48 rfl rfl rfl (by kernel_rfl) (Nat.le_of_ble_eq_true rfl) ?_
  all_goals (repeat (first | refine ga_ ?_ | intro _))
  all_goals (try (first | refine AW_cond rfl (fun h => ?_) (fun h => ?_) | refine ⟨fun h => ?_, fun h => ?_⟩))
  all_goals (try (repeat (first | refine ga_ ?_ | intro _)))
  all_goals (try (first | refine AW_cond rfl (fun h => ?_) (fun h => ?_) | refine ⟨fun h => ?_, fun h => ?_⟩))
  all_goals (try (repeat (first | refine ga_ ?_ | intro _)))
  all_goals (refine AW_ret ?_)
  all_goals (refine ⟨_, R, AVle.eq ?_, (by repeat (first | exact SLe.rfl | refine SLe.tail ?_)), rfl, rfl⟩)
  all_goals (show AV.bool _ = AV.bool _; congr 1; rw [Bool.eq_iff_iff]; simp [noNl] at *; omega)⟩
theorem isSmall_ok : IsP 66 smallB := ⟨⟨_, Tryz.func66, rfl, rfl⟩, fun c R => by
  refine ACall_body tab_ok Tryz.func66 rfl rfl rfl (by kernel_rfl) (Nat.le_of_ble_eq_true rfl) ?_
  all_goals (repeat (first | refine ga_ ?_ | intro _))
  all_goals (try (first | refine AW_cond rfl (fun h => ?_) (fun h => ?_) | refine ⟨fun h => ?_, fun h => ?_⟩))
  all_goals (try (repeat (first | refine ga_ ?_ | intro _)))
  all_goals (try (first | refine AW_cond rfl (fun h => ?_) (fun h => ?_) | refine ⟨fun h => ?_, fun h => ?_⟩))
  all_goals (try (repeat (first | refine ga_ ?_ | intro _)))
  all_goals (refine AW_ret ?_)
  all_goals (refine ⟨_, R, AVle.eq ?_, (by repeat (first | exact SLe.rfl | refine SLe.tail ?_)), rfl, rfl⟩)
  all_goals (show AV.bool _ = AV.bool _; congr 1; rw [Bool.eq_iff_iff]; simp [smallB] at *; omega)⟩
theorem isWord_ok : IsP 63 wordB := ⟨⟨_, Tryz.func63, rfl, rfl⟩, fun c R => by
  refine ACall_body tab_ok Tryz.func63 rfl rfl rfl (by kernel_rfl) (Nat.le_of_ble_eq_true rfl) ?_
  repeat (first | refine go_ ?_ | intro _)
  refine Or.inl ⟨⟨_, Tryz.func64, rfl, rfl⟩, ACall.mono ?_ (isLetter_ok c _)⟩
  rintro _ S1 ⟨rfl, hS1⟩
  subst S1
  repeat (first | refine go_ ?_ | intro _)
  cases h : letterB c with
  | true =>
    repeat (first | refine ga_ ?_ | intro _)
    refine AW_ret ?_
    repeat (first | refine ⟨0, rfl, ?_⟩ | refine ⟨1, rfl, ?_⟩ | refine ⟨2, rfl, ?_⟩ | refine ⟨3, rfl, ?_⟩ | refine ⟨4, rfl, ?_⟩ | refine ⟨5, rfl, ?_⟩ | refine ⟨6, rfl, ?_⟩)
    refine ⟨_, R, AVle.eq ?_, (by repeat (first | exact SLe.rfl | refine SLe.tail ?_)), rfl, rfl⟩
    exact congrArg AV.bool (by rw [wordB, h]; rfl)
  | false =>
    repeat (first | refine ga_ ?_ | intro _)
    refine Or.inl ⟨⟨_, Tryz.func65, rfl, rfl⟩, ACall.mono ?_ (isDigit_ok c _)⟩
    rintro _ S1 ⟨rfl, hS1⟩
    subst S1
    repeat (first | refine go_ ?_ | intro _)
    refine AW_ret ?_
    repeat (first | refine ⟨0, rfl, ?_⟩ | refine ⟨1, rfl, ?_⟩ | refine ⟨2, rfl, ?_⟩ | refine ⟨3, rfl, ?_⟩ | refine ⟨4, rfl, ?_⟩ | refine ⟨5, rfl, ?_⟩ | refine ⟨6, rfl, ?_⟩)
    refine ⟨_, R, AVle.eq ?_, (by repeat (first | exact SLe.rfl | refine SLe.tail ?_)), rfl, rfl⟩
    exact congrArg AV.bool (by rw [wordB, h]; rfl)⟩
theorem tw_step {p : UInt8 → Bool} {l : List UInt8} {z : Nat} (h : z < l.length) : (l.drop z).takeWhile p = if p l[z] = true then l[z] :: (l.drop (z + 1)).takeWhile p else [] := by
  rw [List.drop_eq_getElem_cons h, List.takeWhile_cons]
theorem tw_len {p : UInt8 → Bool} {l : List UInt8} : (l.takeWhile p).length ≤ l.length := (List.takeWhile_sublist p).length_le
theorem drop_tw {p : UInt8 → Bool} (l : List UInt8) : l.drop (l.takeWhile p).length = l.dropWhile p := by
  have := List.takeWhile_append_dropWhile (p := p) (l := l)
  generalize l.takeWhile p = a at *
  generalize l.dropWhile p = b at *
  subst this
  exact List.drop_left
theorem take_tw {p : UInt8 → Bool} (l : List UInt8) : l.take (l.takeWhile p).length = l.takeWhile p := by
  have := List.takeWhile_append_dropWhile (p := p) (l := l)
  generalize l.takeWhile p = a at *
  generalize l.dropWhile p = b at *
  subst this
  exact List.take_left
theorem run_ok {F : FuncId} {p : UInt8 → Bool} (hF : IsP F p) (l : List UInt8) (R : List En) (hl : l.length ≤ 16777216) : ACall Tryz.prog 45 [.str l, .fn (.func F) [] []] R (fun r S => r = .int .i64 ((l.takeWhile p).length : Nat) ∧ S = R) := by
  refine ACall_body tab_ok Tryz.func45 rfl rfl rfl (by kernel_rfl) (Nat.le_of_ble_eq_true rfl) ?_
  repeat (first | refine go_ ?_ | intro _)
  refine AW_for (α := Nat) (fun z => ⟨[(0, .str l), (1, .fn (.func F) [] []), (5, .int .i64 (z : Nat))], []⟩) (fun z => R) (fun z => l.length - z) (fun z => z ≤ l.length ∧ (l.takeWhile p).length = z + ((l.drop z).takeWhile p).length) (0) ?_ (weak_of ?_ rfl ?_) (fun z hz => ?_)
  · exact ⟨by omega, by simp⟩
  · repeat (first | exact trivial | refine ⟨AVle.refl _, ?_⟩ | refine ⟨AVle.tk, ?_⟩ | refine ⟨AVle.nil, ?_⟩ | refine ⟨AVle.nilFull, ?_⟩ | refine ⟨AVle.eq (congrArg (AV.int .i64) (by first | (simp; done) | (simp; omega) | (rw [wrap_i64 (by first | omega | (simp; omega))]; first | rfl | omega | (simp; done) | (simp; omega)))), ?_⟩)
  · repeat (first | exact SLe.rfl | refine SLe.tail ?_ | refine SLe.full ?_)
  obtain ⟨i1, i2⟩ := hz
  repeat (first | refine go_ ?_ | intro _)
  refine gsplit (z < l.length) (by first | (simp; done) | (simp <;> omega) | decide) (fun h => ?_) (fun h => ?_)
  · have hlt := h
    rw [tw_step hlt] at i2
    repeat (first | refine ga_ ?_ | intro _)
    refine at_list z rfl hlt ?_
    repeat (first | refine ga_ ?_ | intro _)
    refine Or.inl ⟨hF.1, ACall.mono ?_ (hF.2 l[z] _)⟩
    rintro _ S1 ⟨rfl, hS1⟩
    subst S1
    repeat (first | refine go_ ?_ | intro _)
    refine AW_cond (b := p l[z]) rfl (fun h => ?_) (fun h => ?_)
    · rw [if_pos h] at i2
      repeat (first | refine go_ ?_ | intro _)
      refine ⟨z + 1, ?_, ?_, weak_of ?_ rfl ?_⟩
      · omega
      · exact ⟨hlt, by rw [i2, List.length_cons]; omega⟩
      · repeat (first | exact trivial | refine ⟨AVle.refl _, ?_⟩ | refine ⟨AVle.tk, ?_⟩ | refine ⟨AVle.nil, ?_⟩ | refine ⟨AVle.nilFull, ?_⟩ | refine ⟨AVle.eq (congrArg (AV.int .i64) (by first | (simp; done) | (simp; omega) | (rw [wrap_i64 (by first | omega | (simp; omega))]; first | rfl | omega | (simp; done) | (simp; omega)))), ?_⟩)
      · repeat (first | exact SLe.rfl | refine SLe.tail ?_ | refine SLe.full ?_)
    · rw [if_neg (by rw [h]; decide)] at i2
      repeat (first | refine go_ ?_ | intro _)
      refine AW_ret ?_
      repeat (first | refine ⟨0, rfl, ?_⟩ | refine ⟨1, rfl, ?_⟩ | refine ⟨2, rfl, ?_⟩ | refine ⟨3, rfl, ?_⟩ | refine ⟨4, rfl, ?_⟩ | refine ⟨5, rfl, ?_⟩ | refine ⟨6, rfl, ?_⟩)
      refine ⟨_, R, AVle.eq ?_, (by repeat (first | exact SLe.rfl | refine SLe.tail ?_)), rfl, rfl⟩
      rw [i2]; rfl
  · have e : z = l.length := by omega
    subst e
    rw [List.drop_length] at i2
    repeat (first | refine ga_ ?_ | intro _)
    refine AW_ret ?_
    repeat (first | refine ⟨0, rfl, ?_⟩ | refine ⟨1, rfl, ?_⟩ | refine ⟨2, rfl, ?_⟩ | refine ⟨3, rfl, ?_⟩ | refine ⟨4, rfl, ?_⟩ | refine ⟨5, rfl, ?_⟩ | refine ⟨6, rfl, ?_⟩)
    refine ⟨_, R, AVle.eq ?_, (by repeat (first | exact SLe.rfl | refine SLe.tail ?_)), rfl, rfl⟩
    rw [i2]; rfl
end Go.Proofs.YtgcoomicgdbmbaaGreatDoor
/-
  The scanner: what it takes, what it skips; a symbol's place; a sign. Own work.
-/
namespace Go.Proofs.YtgcoomicgdbmbaaGreatDoor
open Go.Aw Go.RowKit
set_option maxHeartbeats 4000000

/-- a scanner's cells: what is left, its line -/
def scn (M : Nat) (l : List UInt8) : List AV := [.str l, .int .i64 ((M - cnt l : Nat) : Int)]
theorem scn_take {M n : Nat} {l : List UInt8} (h : cnt l ≤ M) : M - cnt l + cnt (l.take n) = M - cnt (l.drop n) := by
  have := cnt_app (l.take n) (l.drop n)
  rw [List.take_append_drop] at this
  omega
theorem takes_ok (M n c : Nat) (l : List UInt8) (R : List En) (hn : n ≤ l.length) (hl : l.length ≤ 16777216) (hM : cnt l ≤ M) (hM2 : M ≤ 33554432) :
    ACall Tryz.prog 49 [.ptr c 0, .int .i64 (n : Nat)] (.cells c (scn M l) :: R) (fun _ S => S = .cells c (scn M (l.drop n)) :: R) := by
  have e1 := scn_take (n := n) hM
  have e2 : IntKind.i64.wrap (((M - cnt l : Nat) : Int) + ((cnt (l.take n) : Nat) : Int)) = ((M - cnt (l.drop n) : Nat) : Int) := by
    rw [wrap_i64 (by omega)]; omega
  refine ACall_body tab_ok Tryz.func49 rfl rfl rfl (by kernel_rfl) (Nat.le_of_ble_eq_true rfl) ?_
  repeat (first | refine go_ ?_ | intro _)
  refine AW_draw tab_ok mixed 12 (by first | rfl | kernel_rfl) ?_
  repeat (first | refine go_ ?_ | intro _)
  refine at_ss 0 n (l.take n) rfl rfl (by omega) hn (by simp) ?_
  repeat (first | refine go_ ?_ | intro _)
  apply call_step
  · rfl
  · exact Or.inl ⟨⟨_, Tryz.func60, rfl, rfl⟩, count_ok (l.take n) _ (by rw [List.length_take]; omega)⟩
  repeat (first | refine go_ ?_ | intro _)
  refine at_ss n l.length (l.drop n) rfl rfl (by omega) (by omega) (by simp) ?_
  repeat (first | refine go_ ?_ | intro _)
  refine ⟨.tup [], _, AVle.refl _, SLe.rfl, ?_⟩
  exact congrArg (fun x => En.cells c [.str (l.drop n), .int .i64 x] :: R) e2
theorem head47 {z : List UInt8} (h : z.take 2 = [47, 47]) : ∃ r, z = 47 :: 47 :: r := by
  match z, h with
  | [], h => simp at h
  | [_], h => simp at h
  | a :: b :: r, h => simp at h; exact ⟨r, by rw [h.1, h.2]⟩
theorem skip_blanks (z : List UInt8) : skipL (z.dropWhile blankB) = skipL z := by
  induction z with
  | nil => rfl
  | cons c z ih =>
    cases h : blankB c with
    | true => rw [skipL_blank h, List.dropWhile_cons, if_pos h]; exact ih
    | false => rw [List.dropWhile_cons, if_neg (by rw [h]; decide)]
theorem skip_here {z : List UInt8} (h1 : z.dropWhile blankB = z) (h2 : ¬ z.take 2 = [47, 47]) : skipL z = z := by
  cases z with
  | nil => exact skipL_nil
  | cons c r =>
    refine skipL_stop ?_ ?_
    · cases h : blankB c with
      | false => rfl
      | true =>
        rw [List.dropWhile_cons, if_pos h] at h1
        have := congrArg List.length h1
        have h3 := (List.dropWhile_sublist blankB (l := r)).length_le
        simp at this; omega
    · rintro ⟨a, b⟩
      cases r with
      | nil => simp at b
      | cons d r =>
        simp at b
        subst b
        obtain rfl : c = 47 := UInt8.toNat_inj.1 a
        exact h2 rfl
theorem skips_ok (M c : Nat) (l : List UInt8) (R : List En) (hl : l.length ≤ 16777216) (hM : cnt l ≤ M) (hM2 : M ≤ 33554432) :
    ACall Tryz.prog 27 [.ptr c 0] (.cells c (scn M l) :: R) (fun _ S => S = .cells c (scn M (skipL l)) :: R) := by
  refine ACall_body tab_ok Tryz.func27 rfl rfl rfl (by kernel_rfl) (Nat.le_of_ble_eq_true rfl) ?_
  repeat (first | refine go_ ?_ | intro _)
  refine AW_for (α := List UInt8) (fun z => ⟨[(0, .ptr c 0)], []⟩) (fun z => .cells c (scn M z) :: R) (fun z => z.length) (fun z => skipL z = skipL l ∧ z <:+ l) (l) ?_ (weak_of ?_ rfl ?_) (fun z hz => ?_)
  · exact ⟨rfl, List.suffix_refl _⟩
  · repeat (first | exact trivial | refine ⟨AVle.refl _, ?_⟩ | refine ⟨AVle.tk, ?_⟩ | refine ⟨AVle.nil, ?_⟩ | refine ⟨AVle.nilFull, ?_⟩ | refine ⟨AVle.eq (congrArg (AV.int .i64) (by first | (simp; done) | (simp; omega) | (rw [wrap_i64 (by first | omega | (simp; omega))]; first | rfl | omega | (simp; done) | (simp; omega)))), ?_⟩)
  · repeat (first | exact SLe.rfl | refine SLe.tail ?_ | refine SLe.full ?_)
  obtain ⟨i1, i2⟩ := hz
  have hzl := i2.length_le
  have hzc := cnt_suf i2
  have hb := tw_len (p := blankB) (l := z)
  have hd := drop_tw (p := blankB) z
  have hs := skip_blanks z
  repeat (first | refine go_ ?_ | intro _)
  refine Or.inl ⟨⟨_, Tryz.func45, rfl, rfl⟩, ACall.mono ?_ (run_ok isBlank_ok z _ (by omega))⟩
  rintro _ S1 ⟨rfl, hS1⟩
  subst S1
  repeat (first | refine go_ ?_ | intro _)
  refine at_ss (z.takeWhile blankB).length z.length (z.dropWhile blankB) rfl rfl (by omega) (by omega) (by rw [List.take_of_length_le (by omega)]; exact hd) ?_
  repeat (first | refine go_ ?_ | intro _)
  refine Or.inl ⟨⟨_, Tryz.func47, rfl, rfl⟩, ACall.mono ?_ (prefix_ok (z.dropWhile blankB) [47, 47] _)⟩
  rintro _ S1 ⟨rfl, hS1⟩
  subst S1
  repeat (first | refine go_ ?_ | intro _)
  refine AW_iff ((z.dropWhile blankB).take 2 = [47, 47]) rfl (by first | (simp; done) | (simp <;> omega) | decide) (fun h => ?_) (fun h => ?_)
  · obtain ⟨r, hr⟩ := head47 h
    have hn := tw_len (p := noNl) (l := z.dropWhile blankB)
    have hn2 : 1 ≤ ((z.dropWhile blankB).takeWhile noNl).length := by rw [hr, List.takeWhile_cons, if_pos (by decide)]; simp
    have hlen : (z.dropWhile blankB).length = z.length - (z.takeWhile blankB).length := by rw [← hd, List.length_drop]
    have hd2 : z.drop ((z.takeWhile blankB).length + ((z.dropWhile blankB).takeWhile noNl).length) = (z.dropWhile blankB).dropWhile noNl := by rw [← List.drop_drop, hd, drop_tw]
    have e : skipL ((z.dropWhile blankB).dropWhile noNl) = skipL l := by
      rw [← i1, ← hs, hr, skipL_comm, List.dropWhile_cons, if_pos (by decide), List.dropWhile_cons, if_pos (by decide)]
    repeat (first | refine go_ ?_ | intro _)
    refine at_ss (z.takeWhile blankB).length z.length (z.dropWhile blankB) rfl rfl (by omega) (by omega) (by rw [List.take_of_length_le (by omega)]; exact hd) ?_
    repeat (first | refine go_ ?_ | intro _)
    refine Or.inl ⟨⟨_, Tryz.func45, rfl, rfl⟩, ACall.mono ?_ (run_ok isNoNl_ok (z.dropWhile blankB) _ (by omega))⟩
    rintro _ S1 ⟨rfl, hS1⟩
    subst S1
    repeat (first | refine go_ ?_ | intro _)
    refine AW_weak (weak_of (l := [(0, .ptr c 0), (2, .int .i64 ((z.takeWhile blankB).length + ((z.dropWhile blankB).takeWhile noNl).length : Nat)), (25, .bool false)]) (m := []) (S' := .cells c (scn M z) :: R) ?_ rfl ?_) ?_
    · repeat (first | exact trivial | refine ⟨(AVle.eq (congrArg AV.bool (decide_eq_false (by rw [wrap_i64 (by omega)]; omega)))), ?_⟩ | refine ⟨AVle.refl _, ?_⟩ | refine ⟨AVle.tk, ?_⟩ | refine ⟨AVle.nil, ?_⟩ | refine ⟨AVle.nilFull, ?_⟩ | refine ⟨AVle.eq (congrArg (AV.int .i64) (by first | (simp; done) | (simp; omega) | (rw [wrap_i64 (by first | omega | (simp; omega))]; first | rfl | omega | (simp; done) | (simp; omega)))), ?_⟩)
    · refine SW.le ?_
      repeat (first | exact SW.nil | refine SW.cons ?_ | refine SW.cells (by repeat (first | exact trivial | refine ⟨AVle.refl _, ?_⟩ | refine ⟨AVle.nilFull, ?_⟩ | refine ⟨AVle.tk, ?_⟩ | refine ⟨AVle.nil, ?_⟩)) rfl ?_ | refine SW.full ?_ | refine SW.drop ?_)
    refine AW_false (b := false) rfl (by first | rfl | (simp; done) | (simp; omega) | decide) ?_
    repeat (first | refine go_ ?_ | intro _)
    refine Or.inl ⟨⟨_, Tryz.func49, rfl, rfl⟩, ACall.mono ?_ (takes_ok M ((z.takeWhile blankB).length + ((z.dropWhile blankB).takeWhile noNl).length) c z R (by omega) (by omega) (by omega) hM2)⟩
    rintro _ S1 rfl
    repeat (first | refine go_ ?_ | intro _)
    refine ⟨z.drop ((z.takeWhile blankB).length + ((z.dropWhile blankB).takeWhile noNl).length), ?_, ?_, weak_of ?_ rfl ?_⟩
    · show (z.drop _).length < _; rw [List.length_drop]; omega
    · exact ⟨by rw [hd2]; exact e, (List.drop_suffix _ _).trans i2⟩
    · repeat (first | exact trivial | refine ⟨AVle.refl _, ?_⟩ | refine ⟨AVle.tk, ?_⟩ | refine ⟨AVle.nil, ?_⟩ | refine ⟨AVle.nilFull, ?_⟩ | refine ⟨AVle.eq (congrArg (AV.int .i64) (by first | (simp; done) | (simp; omega) | (rw [wrap_i64 (by first | omega | (simp; omega))]; first | rfl | omega | (simp; done) | (simp; omega)))), ?_⟩)
    · repeat (first | exact SLe.rfl | refine SLe.tail ?_ | refine SLe.full ?_)
  · have hn := h
    repeat (first | refine go_ ?_ | intro _)
    refine AW_iff ((z.takeWhile blankB).length = 0) rfl (by first | (simp; done) | (simp <;> omega) | decide) (fun h => ?_) (fun h => ?_)
    · have e : z.dropWhile blankB = z := by rw [← hd, h]; rfl
      rw [e] at hn
      have e2 := skip_here e hn
      repeat (first | refine go_ ?_ | intro _)
      refine AW_ret ?_
      repeat (first | refine ⟨0, rfl, ?_⟩ | refine ⟨1, rfl, ?_⟩ | refine ⟨2, rfl, ?_⟩ | refine ⟨3, rfl, ?_⟩ | refine ⟨4, rfl, ?_⟩ | refine ⟨5, rfl, ?_⟩ | refine ⟨6, rfl, ?_⟩)
      refine ⟨_, _, AVle.refl _, SLe.rfl, ?_⟩
      rw [← i1, e2]
    · repeat (first | refine go_ ?_ | intro _)
      refine Or.inl ⟨⟨_, Tryz.func49, rfl, rfl⟩, ACall.mono ?_ (takes_ok M (z.takeWhile blankB).length c z R (by omega) (by omega) (by omega) hM2)⟩
      rintro _ S1 rfl
      repeat (first | refine go_ ?_ | intro _)
      refine ⟨z.drop (z.takeWhile blankB).length, ?_, ?_, weak_of ?_ rfl ?_⟩
      · show (z.drop _).length < _; rw [List.length_drop]; omega
      · exact ⟨by rw [hd, hs]; exact i1, (List.drop_suffix _ _).trans i2⟩
      · repeat (first | exact trivial | refine ⟨AVle.refl _, ?_⟩ | refine ⟨AVle.tk, ?_⟩ | refine ⟨AVle.nil, ?_⟩ | refine ⟨AVle.nilFull, ?_⟩ | refine ⟨AVle.eq (congrArg (AV.int .i64) (by first | (simp; done) | (simp; omega) | (rw [wrap_i64 (by first | omega | (simp; omega))]; first | rfl | omega | (simp; done) | (simp; omega)))), ?_⟩)
      · repeat (first | exact SLe.rfl | refine SLe.tail ?_ | refine SLe.full ?_)
end Go.Proofs.YtgcoomicgdbmbaaGreatDoor
/-
  A symbol's place, a symbol, a sign. Own work.
-/
namespace Go.Proofs.YtgcoomicgdbmbaaGreatDoor
open Go.Aw Go.RowKit
set_option maxHeartbeats 4000000

theorem ACall_dropX {f : FuncId} {args : List AV} {S S' : List En} {k : AV → List En → Prop} (hS : SLe S S') (hc : ACall Tryz.prog f args S' k) : ACall Tryz.prog f args S k := by
  unfold ACall at hc ⊢
  exact fun w0 K w vs hv h => hc w0 K w vs hv (hS _ _ _ h)
def quoV (l : List UInt8) : Int := match quoR l with | some n => ((n + 1 : Nat) : Int) | none => 0
theorem quoted_ok (l : List UInt8) (R : List En) (hl : l.length ≤ 16777216) : ACall Tryz.prog 61 [.str (34 :: l)] R (fun r S => r = .int .i64 (quoV l) ∧ S = R) := by
  obtain ⟨s, hs⟩ : ∃ s, s = 34 :: l := ⟨_, rfl⟩
  have hsl : s.length = l.length + 1 := by rw [hs]; rfl
  rw [← hs]
  refine ACall_body tab_ok Tryz.func61 rfl rfl rfl (by kernel_rfl) (Nat.le_of_ble_eq_true rfl) ?_
  repeat (first | refine go_ ?_ | intro _)
  refine AW_for (α := Nat) (fun z => ⟨[(0, .str s), (3, .int .i64 (z : Nat))], []⟩) (fun z => R) (fun z => l.length + 2 - z) (fun z => 1 ≤ z ∧ z ≤ l.length + 2 ∧ quoR l = (quoR (s.drop z)).map (· + (z - 1))) (1) ?_ (weak_of ?_ rfl ?_) (fun z hz => ?_)
  · refine ⟨by omega, by omega, ?_⟩
    rw [hs]
    show quoR l = (quoR l).map _
    cases quoR l <;> rfl
  · repeat (first | exact trivial | refine ⟨AVle.refl _, ?_⟩ | refine ⟨AVle.tk, ?_⟩ | refine ⟨AVle.nil, ?_⟩ | refine ⟨AVle.nilFull, ?_⟩ | refine ⟨AVle.eq (congrArg (AV.int .i64) (by first | (simp; done) | (simp; omega) | (rw [wrap_i64 (by first | omega | (simp; omega))]; first | rfl | omega | (simp; done) | (simp; omega)))), ?_⟩)
  · repeat (first | exact SLe.rfl | refine SLe.tail ?_ | refine SLe.full ?_)
  obtain ⟨i1, i2, i3⟩ := hz
  repeat (first | refine go_ ?_ | intro _)
  refine gsplit (z < s.length) (by first | (simp; done) | (simp <;> omega) | decide) (fun h => ?_) (fun h => ?_)
  rotate_left
  · have e : quoV l = 0 := by rw [quoV, i3, List.drop_of_length_le (by omega)]; rfl
    repeat (first | refine ga_ ?_ | intro _)
    refine AW_ret ?_
    repeat (first | refine ⟨0, rfl, ?_⟩ | refine ⟨1, rfl, ?_⟩ | refine ⟨2, rfl, ?_⟩ | refine ⟨3, rfl, ?_⟩ | refine ⟨4, rfl, ?_⟩ | refine ⟨5, rfl, ?_⟩ | refine ⟨6, rfl, ?_⟩)
    refine ⟨_, R, AVle.eq ?_, (by repeat (first | exact SLe.rfl | refine SLe.tail ?_)), rfl, rfl⟩
    rw [e]; rfl
  have hlt := h
  have hd : s.drop z = s[z] :: s.drop (z + 1) := List.drop_eq_getElem_cons hlt
  obtain ⟨c, hc⟩ : ∃ c, c = s[z] := ⟨_, rfl⟩
  rw [hd, ← hc] at i3
  repeat (first | refine ga_ ?_ | intro _)
  refine at_list z rfl hlt ?_
  rw [← hc]
  repeat (first | refine ga_ ?_ | intro _)
  refine AW_iff (¬ c.toNat = 10) rfl (by first | (simp; done) | (simp <;> omega) | decide) (fun h => ?_) (fun h => ?_)
  rotate_left
  · have e10 : c = 10 := UInt8.toNat_inj.1 (Decidable.not_not.1 h)
    have e : quoV l = 0 := by rw [quoV, i3, e10, quoR_nl]; rfl
    repeat (first | refine go_ ?_ | intro _)
    refine AW_ret ?_
    repeat (first | refine ⟨0, rfl, ?_⟩ | refine ⟨1, rfl, ?_⟩ | refine ⟨2, rfl, ?_⟩ | refine ⟨3, rfl, ?_⟩ | refine ⟨4, rfl, ?_⟩ | refine ⟨5, rfl, ?_⟩ | refine ⟨6, rfl, ?_⟩)
    refine ⟨_, R, AVle.eq ?_, (by repeat (first | exact SLe.rfl | refine SLe.tail ?_)), rfl, rfl⟩
    rw [e]; rfl
  have h10 := h
  repeat (first | refine go_ ?_ | intro _)
  refine at_list z rfl hlt ?_
  rw [← hc]
  repeat (first | refine go_ ?_ | intro _)
  refine AW_iff (c.toNat = 92) rfl (by first | (simp; done) | (simp <;> omega) | decide) (fun h => ?_) (fun h => ?_)
  · obtain rfl : c = 92 := UInt8.toNat_inj.1 h
    have e1 : IntKind.i64.wrap ((z : Int) + 1) = (z : Int) + 1 := wrap_i64 (by omega)
    have e2 : IntKind.i64.wrap (IntKind.i64.wrap ((z : Int) + 1) + 1) = ((z + 2 : Nat) : Int) := by rw [e1, wrap_i64 (by omega)]; omega
    repeat (first | refine go_ ?_ | intro _)
    refine ⟨z + 2, ?_, ?_, weak_of ?_ rfl ?_⟩
    · omega
    · refine ⟨by omega, by omega, ?_⟩
      by_cases hz2 : z + 1 < s.length
      · rw [List.drop_eq_getElem_cons hz2, quoR_esc] at i3
        rw [i3]
        show _ = Option.map _ (quoR (s.drop (z + 1 + 1)))
        cases quoR (s.drop (z + 1 + 1)) with
        | none => rfl
        | some n => simp; omega
      · rw [List.drop_of_length_le (by omega), quoR_esc1] at i3
        rw [i3, List.drop_of_length_le (by omega)]; rfl
    · repeat (first | exact trivial | refine ⟨(AVle.eq (congrArg (AV.int .i64) e2)), ?_⟩ | refine ⟨AVle.refl _, ?_⟩ | refine ⟨AVle.tk, ?_⟩ | refine ⟨AVle.nil, ?_⟩ | refine ⟨AVle.nilFull, ?_⟩ | refine ⟨AVle.eq (congrArg (AV.int .i64) (by first | (simp; done) | (simp; omega) | (rw [wrap_i64 (by first | omega | (simp; omega))]; first | rfl | omega | (simp; done) | (simp; omega)))), ?_⟩)
    · repeat (first | exact SLe.rfl | refine SLe.tail ?_ | refine SLe.full ?_)
  have h92 := h
  repeat (first | refine go_ ?_ | intro _)
  refine AW_iff (c.toNat = 34) rfl (by first | (simp; done) | (simp <;> omega) | decide) (fun h => ?_) (fun h => ?_)
  · obtain rfl : c = 34 := UInt8.toNat_inj.1 h
    have e : quoV l = ((z + 1 : Nat) : Int) := by rw [quoV, i3, quoR_end]; simp; omega
    repeat (first | refine go_ ?_ | intro _)
    refine AW_ret ?_
    repeat (first | refine ⟨0, rfl, ?_⟩ | refine ⟨1, rfl, ?_⟩ | refine ⟨2, rfl, ?_⟩ | refine ⟨3, rfl, ?_⟩ | refine ⟨4, rfl, ?_⟩ | refine ⟨5, rfl, ?_⟩ | refine ⟨6, rfl, ?_⟩)
    refine ⟨_, R, AVle.eq ?_, (by repeat (first | exact SLe.rfl | refine SLe.tail ?_)), rfl, rfl⟩
    rw [e]
    rw [← wrap_i64 (n := ((z + 1 : Nat) : Int)) (by omega)]; rfl
  · have h34 := h
    rw [quoR_one _ h10 h34 h92] at i3
    repeat (first | refine go_ ?_ | intro _)
    refine ⟨z + 1, ?_, ?_, weak_of ?_ rfl ?_⟩
    · omega
    · refine ⟨by omega, by omega, ?_⟩
      rw [i3]
      cases quoR (s.drop (z + 1)) with
      | none => rfl
      | some n => simp; omega
    · repeat (first | exact trivial | refine ⟨AVle.refl _, ?_⟩ | refine ⟨AVle.tk, ?_⟩ | refine ⟨AVle.nil, ?_⟩ | refine ⟨AVle.nilFull, ?_⟩ | refine ⟨AVle.eq (congrArg (AV.int .i64) (by first | (simp; done) | (simp; omega) | (rw [wrap_i64 (by first | omega | (simp; omega))]; first | rfl | omega | (simp; done) | (simp; omega)))), ?_⟩)
    · repeat (first | exact SLe.rfl | refine SLe.tail ?_ | refine SLe.full ?_)

/-! ### a token -/
def encT (t : Tok) : AV := .agg [.int .i64 t.kind, .str t.s, .int .i64 t.line]
/-- what reading a symbol's text needs -/
def ErrG (R : List En) : Prop := ∃ b o, En.glob 1 [.ifc 153 (.ptr b o)] ∈ R
theorem ErrG.cons {R : List En} (h : ErrG R) {e : En} : ErrG (e :: R) := let ⟨b, o, h⟩ := h; ⟨b, o, .tail _ h⟩
theorem ErrG.app {A R : List En} (h : ErrG R) : ErrG (A ++ R) := let ⟨b, o, h⟩ := h; ⟨b, o, List.mem_append_right _ h⟩
theorem symbol_ok (M c : Nat) (l : List UInt8) (R : List En) (hE : ErrG R) (hl : l.length ≤ 16777215) (hM : cnt (34 :: l) ≤ M) (hM2 : M ≤ 33554432) :
    ACall Tryz.prog 50 [.ptr c 0] (.cells c (scn M (34 :: l)) :: R)
      (fun r S => match symR l with
        | some q => r = .tup [encT ⟨3, q.1, 0⟩, .bool true] ∧ S = .cells c (scn M q.2) :: R
        | none => r = .tup [encT ⟨0, [], 0⟩, .bool false] ∧ S = .cells c (scn M (34 :: l)) :: R) := by
  obtain ⟨bE, oE, hE'⟩ := hE
  cases hsy : symR l with
  | some q =>
    obtain ⟨t, r⟩ := q
    obtain ⟨g1, g2, g3, g4⟩ := sym_some hsy
    have hq := (quoteL_len t).1
    have hv : quoV l = (((quoteL t).length : Nat) : Int) := by rw [quoV, g1]; simp; omega
    have hlen : (quoteL t).length ≤ (34 :: l).length := by rw [g4, List.length_append]; omega
    have ku := unquote_ok bE oE (quoteL t)
    rw [unq_quote] at ku
    have kq := quoted_ok l
    rw [hv] at kq
    have hdr : (34 :: l).drop (quoteL t).length = r := by rw [g4, List.drop_left]
    simp only []
    refine ACall_body tab_ok Tryz.func50 rfl rfl rfl (by kernel_rfl) (Nat.le_of_ble_eq_true rfl) ?_
    repeat (first | refine go_ ?_ | intro _)
    rename_i b
    refine Or.inl ⟨⟨_, Tryz.func61, rfl, rfl⟩, ACall.mono ?_ (kq _ (by omega))⟩
    rintro _ S1 ⟨rfl, hS1⟩
    subst S1
    repeat (first | refine go_ ?_ | intro _)
    refine at_ss 0 (quoteL t).length (quoteL t) rfl rfl (by omega) hlen (by simpa using g2) ?_
    repeat (first | refine go_ ?_ | intro _)
    refine Or.inl ⟨⟨_, Tryz.func62, rfl, rfl⟩, ACall.mono ?_ (ku _ (.tail _ (.tail _ hE')) (by simp at hlen; omega))⟩
    rintro _ S1 ⟨rfl, hS1⟩
    subst S1
    repeat (first | refine go_ ?_ | intro _)
    refine AW_false (b := false) rfl (by first | rfl | (simp; done) | (simp; omega) | decide) ?_
    repeat (first | refine go_ ?_ | intro _)
    refine Or.inl ⟨⟨_, Tryz.func49, rfl, rfl⟩, ACall_dropX (S' := .cells c (scn M (34 :: l)) :: .cells b [.int .i64 0, .str [], .int .i64 0] :: R) (fun _ _ _ h => h.perm (List.Perm.swap _ _ _)) (ACall.mono ?_ (takes_ok M (quoteL t).length c (34 :: l) _ hlen (by simp; omega) hM hM2))⟩
    rintro _ S1 rfl
    repeat (first | refine go_ ?_ | intro _)
    refine AW_ret ?_
    refine ⟨rfl, 1, _, rfl, ⟨Nat.le_of_ble_eq_true rfl, Nat.le_of_ble_eq_true rfl⟩, _, .cells c (scn M r) :: R, AVle.eq ?_, ?_, rfl, rfl⟩
    · rfl
    · exact hdr ▸ (fun w0 K w h => (h.perm (List.Perm.swap _ _ _)).tail)
  | none =>
    simp only []
    cases hqr : quoR l with
    | none =>
      have hv : quoV l = 0 := by rw [quoV, hqr]
      have kq := quoted_ok l
      rw [hv] at kq
      have ku := unquote_ok bE oE []
      rw [show unqS [] = ([], 10) from rfl] at ku
      refine ACall_body tab_ok Tryz.func50 rfl rfl rfl (by kernel_rfl) (Nat.le_of_ble_eq_true rfl) ?_
      repeat (first | refine go_ ?_ | intro _)
      rename_i b
      refine Or.inl ⟨⟨_, Tryz.func61, rfl, rfl⟩, ACall.mono ?_ (kq _ (by omega))⟩
      rintro _ S1 ⟨rfl, hS1⟩
      subst S1
      repeat (first | refine go_ ?_ | intro _)
      refine at_ss 0 0 [] rfl rfl (by omega) (by simp) (by simp) ?_
      repeat (first | refine go_ ?_ | intro _)
      refine Or.inl ⟨⟨_, Tryz.func62, rfl, rfl⟩, ACall.mono ?_ (ku _ (.tail _ (.tail _ hE')) (by simp))⟩
      rintro _ S1 ⟨rfl, hS1⟩
      subst S1
      repeat (first | refine go_ ?_ | intro _)
      refine AW_true (b := true) rfl (by first | rfl | (simp; done) | (simp; omega) | decide) ?_
      repeat (first | refine go_ ?_ | intro _)
      refine AW_ret ?_
      refine ⟨rfl, 0, _, rfl, ⟨Nat.le_of_ble_eq_true rfl, Nat.le_of_ble_eq_true rfl⟩, _, .cells c (scn M (34 :: l)) :: R, AVle.eq ?_, SLe.tail SLe.rfl, rfl, rfl⟩
      rfl
    | some n =>
      have hn := quoR_le l n hqr
      have hv : quoV l = ((n + 1 : Nat) : Int) := by rw [quoV, hqr]
      have kq := quoted_ok l
      rw [hv] at kq
      have ku := unquote_ok bE oE ((34 :: l).take (n + 1))
      rw [sym_none hsy hqr] at ku
      refine ACall_body tab_ok Tryz.func50 rfl rfl rfl (by kernel_rfl) (Nat.le_of_ble_eq_true rfl) ?_
      repeat (first | refine go_ ?_ | intro _)
      rename_i b
      refine Or.inl ⟨⟨_, Tryz.func61, rfl, rfl⟩, ACall.mono ?_ (kq _ (by omega))⟩
      rintro _ S1 ⟨rfl, hS1⟩
      subst S1
      repeat (first | refine go_ ?_ | intro _)
      refine at_ss 0 (n + 1) ((34 :: l).take (n + 1)) rfl rfl (by omega) (by simp; omega) (by simp) ?_
      repeat (first | refine go_ ?_ | intro _)
      refine Or.inl ⟨⟨_, Tryz.func62, rfl, rfl⟩, ACall.mono ?_ (ku _ (.tail _ (.tail _ hE')) (by rw [List.length_take]; simp; omega))⟩
      rintro _ S1 ⟨rfl, hS1⟩
      subst S1
      repeat (first | refine go_ ?_ | intro _)
      refine AW_true (b := true) rfl (by first | rfl | (simp; done) | (simp; omega) | decide) ?_
      repeat (first | refine go_ ?_ | intro _)
      refine AW_ret ?_
      refine ⟨rfl, 0, _, rfl, ⟨Nat.le_of_ble_eq_true rfl, Nat.le_of_ble_eq_true rfl⟩, _, .cells c (scn M (34 :: l)) :: R, AVle.eq ?_, SLe.tail SLe.rfl, rfl, rfl⟩
      rfl
end Go.Proofs.YtgcoomicgdbmbaaGreatDoor
