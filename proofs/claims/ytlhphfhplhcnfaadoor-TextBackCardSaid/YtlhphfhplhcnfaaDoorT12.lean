/-
  The book's Next and Unquote. Own work.
-/
import Derived.Test.YtlhphfhplhcnfaaDoorT11
namespace Go.Proofs.YtlhphfhplhcnfaaDoor
open Go.Aw Go.RowKit
set_option maxHeartbeats 4000000

theorem dec1_pre {t : List UInt8} {c : UInt8} (h : oneL c <+: t) : dec1 t = some (c, t.drop (oneL c).length) := by
  obtain ⟨r, rfl⟩ := h
  rw [dec1_one, List.drop_left]
theorem dec1_no {t : List UInt8} (h : ∀ c, ¬ oneL c <+: t) : dec1 t = none := by
  cases hd : dec1 t with
  | none => rfl
  | some q => exact absurd ⟨q.2, (dec1_some hd).symm⟩ (h q.1)
theorem unqL_nil : unqL [] = some [] := by simp [unqL, bytL]
theorem unqL_some {l r : List UInt8} {d : UInt8} (h : dec1 l = some (d, r)) : unqL l = (unqL r).map (d :: ·) := by
  unfold unqL
  rw [bytL_some h]
  simp only [List.all_cons, Bool.true_and, List.map_cons]
  split <;> rfl
theorem unqL_none {l : List UInt8} (hl : l ≠ []) (h : dec1 l = none) : unqL l = none := by
  cases l with
  | nil => exact absurd rfl hl
  | cons c l => unfold unqL; rw [bytL_none h]; rfl

def nextAV (t : List UInt8) : AV := match dec1 t with
  | some (c, _) => .tup [.int .u8 c.toNat, .int .i64 ((oneL c).length : Nat)]
  | none => .tup [.int .u8 0, .int .i64 (0 : Nat)]

theorem next_ok (s : List UInt8) (k : Nat) (R : List En) (hk : k ≤ s.length) (hs : s.length ≤ 16777216) : ACall Tryd.prog 31 [.str s, .int .i64 (k : Nat)] R (fun r S => r = nextAV (s.drop k) ∧ S = R) := by
  refine ACall_body tab_ok Tryd.func31 rfl rfl rfl (by kernel_rfl) (Nat.le_of_ble_eq_true rfl) ?_
  repeat (first | refine AW_seq ?_ | refine det_step rfl ?_ | refine AW_region tab_ok ?_ | refine AW_block ?_ | refine AW_scope ?_ | refine AW_exit ?_ | refine AW_goto ?_ | refine AW_label ?_ | refine AW_skip ?_ | refine ⟨rfl, ?_⟩ | refine ⟨⟨_, rfl⟩, ?_⟩ | refine ⟨⟨_, rfl, rfl⟩, ?_⟩ | refine ⟨⟨rfl, rfl⟩, ?_⟩ | refine ⟨⟨Nat.le_of_ble_eq_true rfl, Nat.le_of_ble_eq_true rfl⟩, ?_⟩ | refine ⟨Nat.le_of_ble_eq_true rfl, ?_⟩ | refine ⟨_, _, rfl, ?_⟩ | refine ⟨0, _, rfl, ?_⟩ | refine ⟨1, _, rfl, ?_⟩ | refine ⟨2, _, rfl, ?_⟩ | refine ⟨3, _, rfl, ?_⟩ | refine ⟨4, _, rfl, ?_⟩ | refine ⟨5, _, rfl, ?_⟩ | refine ⟨_, rfl, ?_⟩ | intro _)
  refine AW_for (α := Nat) (fun z => ⟨[(0, .str s), (1, .int .i64 (k : Nat)), (6, .int .i64 (z : Nat))], []⟩) (fun z => R) (fun z => 5 - z) (fun z => 1 ≤ z ∧ z ≤ 5 ∧ ∀ c, (oneL c).length < z → ¬ oneL c <+: s.drop k) (1) ?_ (weak_of ?_ rfl ?_) (fun z hz => ?_)
  · exact ⟨by omega, by omega, fun c h => by have := (oneL_len c).1; omega⟩
  · repeat (first | exact trivial | refine ⟨AVle.refl _, ?_⟩ | refine ⟨AVle.tk, ?_⟩ | refine ⟨AVle.nil, ?_⟩ | refine ⟨AVle.nilFull, ?_⟩ | refine ⟨AVle.eq (congrArg (AV.int .i64) (by first | (simp; done) | (simp; omega) | (rw [wrap_i64 (by first | omega | (simp; omega))]; first | rfl | omega | (simp; done) | (simp; omega)))), ?_⟩)
  · repeat (first | exact SLe.rfl | refine SLe.tail ?_ | refine SLe.full ?_)
  obtain ⟨i1, i2, i3⟩ := hz
  repeat (first | refine AW_seq ?_ | refine det_step rfl ?_ | refine AW_region tab_ok ?_ | refine AW_block ?_ | refine AW_scope ?_ | refine AW_exit ?_ | refine AW_goto ?_ | refine AW_label ?_ | refine AW_skip ?_ | refine ⟨rfl, ?_⟩ | refine ⟨⟨_, rfl⟩, ?_⟩ | refine ⟨⟨_, rfl, rfl⟩, ?_⟩ | refine ⟨⟨rfl, rfl⟩, ?_⟩ | refine ⟨⟨Nat.le_of_ble_eq_true rfl, Nat.le_of_ble_eq_true rfl⟩, ?_⟩ | refine ⟨Nat.le_of_ble_eq_true rfl, ?_⟩ | refine ⟨_, _, rfl, ?_⟩ | refine ⟨0, _, rfl, ?_⟩ | refine ⟨1, _, rfl, ?_⟩ | refine ⟨2, _, rfl, ?_⟩ | refine ⟨3, _, rfl, ?_⟩ | refine ⟨4, _, rfl, ?_⟩ | refine ⟨5, _, rfl, ?_⟩ | refine ⟨_, rfl, ?_⟩ | intro _)
  refine gsplit (z ≤ 4) (by first | (simp; done) | (simp <;> omega) | decide) (fun h => ?_) (fun h => ?_)
  rotate_left
  · have hd : dec1 (s.drop k) = none := dec1_no fun c => i3 c (by have := (oneL_len c).2; omega)
    repeat (first | refine AW_seq ?_ | refine det_step rfl ?_ | refine AW_region tab_ok ?_ | refine AW_block ?_ | refine AW_scope ?_ | refine AW_exit ?_ | refine AW_goto ?_ | refine AW_label ?_ | refine AW_skip ?_ | refine ⟨rfl, ?_⟩ | refine ⟨⟨_, rfl⟩, ?_⟩ | refine ⟨⟨_, rfl, rfl⟩, ?_⟩ | refine ⟨⟨rfl, rfl⟩, ?_⟩ | refine ⟨⟨Nat.le_of_ble_eq_true rfl, Nat.le_of_ble_eq_true rfl⟩, ?_⟩ | refine ⟨Nat.le_of_ble_eq_true rfl, ?_⟩ | refine ⟨_, _, rfl, ?_⟩ | refine ⟨0, _, rfl, ?_⟩ | refine ⟨1, _, rfl, ?_⟩ | refine ⟨2, _, rfl, ?_⟩ | refine ⟨3, _, rfl, ?_⟩ | refine ⟨4, _, rfl, ?_⟩ | refine ⟨5, _, rfl, ?_⟩ | refine ⟨_, rfl, ?_⟩ | intro _ | refine known_true (b := true) rfl ?_ | refine known_false (b := false) rfl ?_ | refine AW_true (b := true) rfl rfl ?_ | refine AW_false (b := false) rfl rfl ?_)
    refine AW_ret ?_
    repeat (first | refine ⟨0, rfl, ?_⟩ | refine ⟨1, rfl, ?_⟩ | refine ⟨2, rfl, ?_⟩ | refine ⟨3, rfl, ?_⟩ | refine ⟨4, rfl, ?_⟩ | refine ⟨5, rfl, ?_⟩ | refine ⟨6, rfl, ?_⟩)
    refine ⟨_, R, AVle.eq ?_, (by repeat (first | exact SLe.rfl | refine SLe.tail ?_)), rfl, rfl⟩
    rw [nextAV, hd]; rfl
  have h4 := h
  repeat (first | refine AW_seq ?_ | refine det_step rfl ?_ | refine AW_region tab_ok ?_ | refine AW_block ?_ | refine AW_scope ?_ | refine AW_exit ?_ | refine AW_goto ?_ | refine AW_label ?_ | refine AW_skip ?_ | refine ⟨rfl, ?_⟩ | refine ⟨⟨_, rfl⟩, ?_⟩ | refine ⟨⟨_, rfl, rfl⟩, ?_⟩ | refine ⟨⟨rfl, rfl⟩, ?_⟩ | refine ⟨⟨Nat.le_of_ble_eq_true rfl, Nat.le_of_ble_eq_true rfl⟩, ?_⟩ | refine ⟨Nat.le_of_ble_eq_true rfl, ?_⟩ | refine ⟨_, _, rfl, ?_⟩ | refine ⟨0, _, rfl, ?_⟩ | refine ⟨1, _, rfl, ?_⟩ | refine ⟨2, _, rfl, ?_⟩ | refine ⟨3, _, rfl, ?_⟩ | refine ⟨4, _, rfl, ?_⟩ | refine ⟨5, _, rfl, ?_⟩ | refine ⟨_, rfl, ?_⟩ | intro _ | refine known_true (b := true) rfl ?_ | refine known_false (b := false) rfl ?_ | refine AW_true (b := true) rfl rfl ?_ | refine AW_false (b := false) rfl rfl ?_)
  refine AW_iff (k + z ≤ s.length) rfl (by rw [decide_eq_true_eq, wrap_i64 (by omega)]; omega) (fun h => ?_) (fun h => ?_)
  rotate_left
  · have hd : dec1 (s.drop k) = none := dec1_no fun c hc => by
      by_cases hl : (oneL c).length < z
      · exact i3 c hl hc
      · have := hc.length_le
        rw [List.length_drop] at this; omega
    repeat (first | refine AW_seq ?_ | refine det_step rfl ?_ | refine AW_region tab_ok ?_ | refine AW_block ?_ | refine AW_scope ?_ | refine AW_exit ?_ | refine AW_goto ?_ | refine AW_label ?_ | refine AW_skip ?_ | refine ⟨rfl, ?_⟩ | refine ⟨⟨_, rfl⟩, ?_⟩ | refine ⟨⟨_, rfl, rfl⟩, ?_⟩ | refine ⟨⟨rfl, rfl⟩, ?_⟩ | refine ⟨⟨Nat.le_of_ble_eq_true rfl, Nat.le_of_ble_eq_true rfl⟩, ?_⟩ | refine ⟨Nat.le_of_ble_eq_true rfl, ?_⟩ | refine ⟨_, _, rfl, ?_⟩ | refine ⟨0, _, rfl, ?_⟩ | refine ⟨1, _, rfl, ?_⟩ | refine ⟨2, _, rfl, ?_⟩ | refine ⟨3, _, rfl, ?_⟩ | refine ⟨4, _, rfl, ?_⟩ | refine ⟨5, _, rfl, ?_⟩ | refine ⟨_, rfl, ?_⟩ | intro _ | refine known_true (b := true) rfl ?_ | refine known_false (b := false) rfl ?_ | refine AW_true (b := true) rfl rfl ?_ | refine AW_false (b := false) rfl rfl ?_)
    refine AW_ret ?_
    repeat (first | refine ⟨0, rfl, ?_⟩ | refine ⟨1, rfl, ?_⟩ | refine ⟨2, rfl, ?_⟩ | refine ⟨3, rfl, ?_⟩ | refine ⟨4, rfl, ?_⟩ | refine ⟨5, rfl, ?_⟩ | refine ⟨6, rfl, ?_⟩)
    refine ⟨_, R, AVle.eq ?_, (by repeat (first | exact SLe.rfl | refine SLe.tail ?_)), rfl, rfl⟩
    rw [nextAV, hd]; rfl
  have hkz := h
  obtain ⟨n, rfl⟩ : ∃ n, n = z := ⟨z, rfl⟩
  repeat (first | refine AW_seq ?_ | refine det_step rfl ?_ | refine AW_region tab_ok ?_ | refine AW_block ?_ | refine AW_scope ?_ | refine AW_exit ?_ | refine AW_goto ?_ | refine AW_label ?_ | refine AW_skip ?_ | refine ⟨rfl, ?_⟩ | refine ⟨⟨_, rfl⟩, ?_⟩ | refine ⟨⟨_, rfl, rfl⟩, ?_⟩ | refine ⟨⟨rfl, rfl⟩, ?_⟩ | refine ⟨⟨Nat.le_of_ble_eq_true rfl, Nat.le_of_ble_eq_true rfl⟩, ?_⟩ | refine ⟨Nat.le_of_ble_eq_true rfl, ?_⟩ | refine ⟨_, _, rfl, ?_⟩ | refine ⟨0, _, rfl, ?_⟩ | refine ⟨1, _, rfl, ?_⟩ | refine ⟨2, _, rfl, ?_⟩ | refine ⟨3, _, rfl, ?_⟩ | refine ⟨4, _, rfl, ?_⟩ | refine ⟨5, _, rfl, ?_⟩ | refine ⟨_, rfl, ?_⟩ | intro _)
  refine AW_for (α := Nat) (fun z => ⟨[(0, .str s), (1, .int .i64 (k : Nat)), (6, .int .i64 (n : Nat)), (7, .int .i64 (z : Nat))], []⟩) (fun z => R) (fun z => 256 - z) (fun z => z ≤ 256 ∧ ∀ c : UInt8, c.toNat < z → oneL c ≠ (s.take (k + n)).drop k) (0) ?_ (weak_of ?_ rfl ?_) (fun z hz => ?_)
  · exact ⟨by omega, fun c h => by omega⟩
  · repeat (first | exact trivial | refine ⟨AVle.refl _, ?_⟩ | refine ⟨AVle.tk, ?_⟩ | refine ⟨AVle.nil, ?_⟩ | refine ⟨AVle.nilFull, ?_⟩ | refine ⟨AVle.eq (congrArg (AV.int .i64) (by first | (simp; done) | (simp; omega) | (rw [wrap_i64 (by first | omega | (simp; omega))]; first | rfl | omega | (simp; done) | (simp; omega)))), ?_⟩)
  · repeat (first | exact SLe.rfl | refine SLe.tail ?_ | refine SLe.full ?_)
  obtain ⟨j1, j2⟩ := hz
  repeat (first | refine AW_seq ?_ | refine det_step rfl ?_ | refine AW_region tab_ok ?_ | refine AW_block ?_ | refine AW_scope ?_ | refine AW_exit ?_ | refine AW_goto ?_ | refine AW_label ?_ | refine AW_skip ?_ | refine ⟨rfl, ?_⟩ | refine ⟨⟨_, rfl⟩, ?_⟩ | refine ⟨⟨_, rfl, rfl⟩, ?_⟩ | refine ⟨⟨rfl, rfl⟩, ?_⟩ | refine ⟨⟨Nat.le_of_ble_eq_true rfl, Nat.le_of_ble_eq_true rfl⟩, ?_⟩ | refine ⟨Nat.le_of_ble_eq_true rfl, ?_⟩ | refine ⟨_, _, rfl, ?_⟩ | refine ⟨0, _, rfl, ?_⟩ | refine ⟨1, _, rfl, ?_⟩ | refine ⟨2, _, rfl, ?_⟩ | refine ⟨3, _, rfl, ?_⟩ | refine ⟨4, _, rfl, ?_⟩ | refine ⟨5, _, rfl, ?_⟩ | refine ⟨_, rfl, ?_⟩ | intro _)
  refine AW_iff (z < 256) rfl (by first | (simp; done) | (simp <;> omega) | decide) (fun h => ?_) (fun h => ?_)
  · have hlt := h
    have ez : IntKind.u8.wrap ((z : Nat) : Int) = ((UInt8.ofNat z).toNat : Int) := by rw [u8_wrap (by omega), UInt8.toNat_ofNat']; omega
    have hc1 : (UInt8.ofNat z).toNat = z := by rw [UInt8.toNat_ofNat']; omega
    have ko : ACall Tryd.prog 32 [.int .u8 (IntKind.u8.wrap ((z : Nat) : Int))] R (fun r S => r = .str (oneL (UInt8.ofNat z)) ∧ S = R) := by rw [ez]; exact one_ok _ _
    repeat (first | refine AW_seq ?_ | refine det_step rfl ?_ | refine AW_region tab_ok ?_ | refine AW_block ?_ | refine AW_scope ?_ | refine AW_exit ?_ | refine AW_goto ?_ | refine AW_label ?_ | refine AW_skip ?_ | refine ⟨rfl, ?_⟩ | refine ⟨⟨_, rfl⟩, ?_⟩ | refine ⟨⟨_, rfl, rfl⟩, ?_⟩ | refine ⟨⟨rfl, rfl⟩, ?_⟩ | refine ⟨⟨Nat.le_of_ble_eq_true rfl, Nat.le_of_ble_eq_true rfl⟩, ?_⟩ | refine ⟨Nat.le_of_ble_eq_true rfl, ?_⟩ | refine ⟨_, _, rfl, ?_⟩ | refine ⟨0, _, rfl, ?_⟩ | refine ⟨1, _, rfl, ?_⟩ | refine ⟨2, _, rfl, ?_⟩ | refine ⟨3, _, rfl, ?_⟩ | refine ⟨4, _, rfl, ?_⟩ | refine ⟨5, _, rfl, ?_⟩ | refine ⟨_, rfl, ?_⟩ | intro _)
    refine AW_draw tab_ok mixed 9 (by first | rfl | kernel_rfl) ?_
    repeat (first | refine AW_seq ?_ | refine det_step rfl ?_ | refine AW_region tab_ok ?_ | refine AW_block ?_ | refine AW_scope ?_ | refine AW_exit ?_ | refine AW_goto ?_ | refine AW_label ?_ | refine AW_skip ?_ | refine ⟨rfl, ?_⟩ | refine ⟨⟨_, rfl⟩, ?_⟩ | refine ⟨⟨_, rfl, rfl⟩, ?_⟩ | refine ⟨⟨rfl, rfl⟩, ?_⟩ | refine ⟨⟨Nat.le_of_ble_eq_true rfl, Nat.le_of_ble_eq_true rfl⟩, ?_⟩ | refine ⟨Nat.le_of_ble_eq_true rfl, ?_⟩ | refine ⟨_, _, rfl, ?_⟩ | refine ⟨0, _, rfl, ?_⟩ | refine ⟨1, _, rfl, ?_⟩ | refine ⟨2, _, rfl, ?_⟩ | refine ⟨3, _, rfl, ?_⟩ | refine ⟨4, _, rfl, ?_⟩ | refine ⟨5, _, rfl, ?_⟩ | refine ⟨_, rfl, ?_⟩ | intro _)
    apply call_step
    · rfl
    · exact Or.inl ⟨⟨_, Tryd.func32, rfl, rfl⟩, ko⟩
    repeat (first | refine AW_seq ?_ | refine det_step rfl ?_ | refine AW_region tab_ok ?_ | refine AW_block ?_ | refine AW_scope ?_ | refine AW_exit ?_ | refine AW_goto ?_ | refine AW_label ?_ | refine AW_skip ?_ | refine ⟨rfl, ?_⟩ | refine ⟨⟨_, rfl⟩, ?_⟩ | refine ⟨⟨_, rfl, rfl⟩, ?_⟩ | refine ⟨⟨rfl, rfl⟩, ?_⟩ | refine ⟨⟨Nat.le_of_ble_eq_true rfl, Nat.le_of_ble_eq_true rfl⟩, ?_⟩ | refine ⟨Nat.le_of_ble_eq_true rfl, ?_⟩ | refine ⟨_, _, rfl, ?_⟩ | refine ⟨0, _, rfl, ?_⟩ | refine ⟨1, _, rfl, ?_⟩ | refine ⟨2, _, rfl, ?_⟩ | refine ⟨3, _, rfl, ?_⟩ | refine ⟨4, _, rfl, ?_⟩ | refine ⟨5, _, rfl, ?_⟩ | refine ⟨_, rfl, ?_⟩ | intro _)
    refine at_ss k (k + n) ((s.take (k + n)).drop k) rfl (by show IntKind.i64.wrap ((k : Int) + (n : Int)) = _; rw [wrap_i64 (by omega)]; omega) (by omega) hkz rfl ?_
    repeat (first | refine AW_seq ?_ | refine det_step rfl ?_ | refine AW_region tab_ok ?_ | refine AW_block ?_ | refine AW_scope ?_ | refine AW_exit ?_ | refine AW_goto ?_ | refine AW_label ?_ | refine AW_skip ?_ | refine ⟨rfl, ?_⟩ | refine ⟨⟨_, rfl⟩, ?_⟩ | refine ⟨⟨_, rfl, rfl⟩, ?_⟩ | refine ⟨⟨rfl, rfl⟩, ?_⟩ | refine ⟨⟨Nat.le_of_ble_eq_true rfl, Nat.le_of_ble_eq_true rfl⟩, ?_⟩ | refine ⟨Nat.le_of_ble_eq_true rfl, ?_⟩ | refine ⟨_, _, rfl, ?_⟩ | refine ⟨0, _, rfl, ?_⟩ | refine ⟨1, _, rfl, ?_⟩ | refine ⟨2, _, rfl, ?_⟩ | refine ⟨3, _, rfl, ?_⟩ | refine ⟨4, _, rfl, ?_⟩ | refine ⟨5, _, rfl, ?_⟩ | refine ⟨_, rfl, ?_⟩ | intro _ | refine known_true (b := true) rfl ?_ | refine known_false (b := false) rfl ?_ | refine AW_true (b := true) rfl rfl ?_ | refine AW_false (b := false) rfl rfl ?_)
    refine AW_iff (oneL (UInt8.ofNat z) = (s.take (k + n)).drop k) rfl (by first | (simp; done) | (simp <;> omega) | decide) (fun h => ?_) (fun h => ?_)
    · have hl : (oneL (UInt8.ofNat z)).length = n := by rw [h]; simp; omega
      have hp : oneL (UInt8.ofNat z) <+: s.drop k := by
        rw [h, List.drop_take]
        exact List.take_prefix _ _
      have hd := dec1_pre hp
      repeat (first | refine AW_seq ?_ | refine det_step rfl ?_ | refine AW_region tab_ok ?_ | refine AW_block ?_ | refine AW_scope ?_ | refine AW_exit ?_ | refine AW_goto ?_ | refine AW_label ?_ | refine AW_skip ?_ | refine ⟨rfl, ?_⟩ | refine ⟨⟨_, rfl⟩, ?_⟩ | refine ⟨⟨_, rfl, rfl⟩, ?_⟩ | refine ⟨⟨rfl, rfl⟩, ?_⟩ | refine ⟨⟨Nat.le_of_ble_eq_true rfl, Nat.le_of_ble_eq_true rfl⟩, ?_⟩ | refine ⟨Nat.le_of_ble_eq_true rfl, ?_⟩ | refine ⟨_, _, rfl, ?_⟩ | refine ⟨0, _, rfl, ?_⟩ | refine ⟨1, _, rfl, ?_⟩ | refine ⟨2, _, rfl, ?_⟩ | refine ⟨3, _, rfl, ?_⟩ | refine ⟨4, _, rfl, ?_⟩ | refine ⟨5, _, rfl, ?_⟩ | refine ⟨_, rfl, ?_⟩ | intro _)
      refine AW_ret ?_
      repeat (first | refine ⟨0, rfl, ?_⟩ | refine ⟨1, rfl, ?_⟩ | refine ⟨2, rfl, ?_⟩ | refine ⟨3, rfl, ?_⟩ | refine ⟨4, rfl, ?_⟩ | refine ⟨5, rfl, ?_⟩ | refine ⟨6, rfl, ?_⟩)
      refine ⟨_, R, AVle.eq ?_, (by repeat (first | exact SLe.rfl | refine SLe.tail ?_)), rfl, rfl⟩
      have e1 : nextAV (s.drop k) = .tup [.int .u8 (IntKind.u8.wrap ((z : Nat) : Int)), .int .i64 (n : Nat)] := by rw [nextAV, hd]; simp only []; rw [hl, ez]
      exact Eq.trans rfl e1.symm
    · repeat (first | refine AW_seq ?_ | refine det_step rfl ?_ | refine AW_region tab_ok ?_ | refine AW_block ?_ | refine AW_scope ?_ | refine AW_exit ?_ | refine AW_goto ?_ | refine AW_label ?_ | refine AW_skip ?_ | refine ⟨rfl, ?_⟩ | refine ⟨⟨_, rfl⟩, ?_⟩ | refine ⟨⟨_, rfl, rfl⟩, ?_⟩ | refine ⟨⟨rfl, rfl⟩, ?_⟩ | refine ⟨⟨Nat.le_of_ble_eq_true rfl, Nat.le_of_ble_eq_true rfl⟩, ?_⟩ | refine ⟨Nat.le_of_ble_eq_true rfl, ?_⟩ | refine ⟨_, _, rfl, ?_⟩ | refine ⟨0, _, rfl, ?_⟩ | refine ⟨1, _, rfl, ?_⟩ | refine ⟨2, _, rfl, ?_⟩ | refine ⟨3, _, rfl, ?_⟩ | refine ⟨4, _, rfl, ?_⟩ | refine ⟨5, _, rfl, ?_⟩ | refine ⟨_, rfl, ?_⟩ | intro _)
      refine ⟨z + 1, ?_, ?_, weak_of ?_ rfl ?_⟩
      · omega
      · refine ⟨by omega, fun c hc => ?_⟩
        by_cases hcz : c.toNat < z
        · exact j2 c hcz
        · have : c = UInt8.ofNat z := by apply UInt8.toNat_inj.1; omega
          rw [this]; exact h
      · repeat (first | exact trivial | refine ⟨AVle.refl _, ?_⟩ | refine ⟨AVle.tk, ?_⟩ | refine ⟨AVle.nil, ?_⟩ | refine ⟨AVle.nilFull, ?_⟩ | refine ⟨AVle.eq (congrArg (AV.int .i64) (by first | (simp; done) | (simp; omega) | (rw [wrap_i64 (by first | omega | (simp; omega))]; first | rfl | omega | (simp; done) | (simp; omega)))), ?_⟩)
      · repeat (first | exact SLe.rfl | refine SLe.tail ?_ | refine SLe.full ?_)
  · have hall : ∀ c, oneL c ≠ (s.take (k + n)).drop k := fun c => j2 c (by have := c.toNat_lt; omega)
    repeat (first | refine AW_seq ?_ | refine det_step rfl ?_ | refine AW_region tab_ok ?_ | refine AW_block ?_ | refine AW_scope ?_ | refine AW_exit ?_ | refine AW_goto ?_ | refine AW_label ?_ | refine AW_skip ?_ | refine ⟨rfl, ?_⟩ | refine ⟨⟨_, rfl⟩, ?_⟩ | refine ⟨⟨_, rfl, rfl⟩, ?_⟩ | refine ⟨⟨rfl, rfl⟩, ?_⟩ | refine ⟨⟨Nat.le_of_ble_eq_true rfl, Nat.le_of_ble_eq_true rfl⟩, ?_⟩ | refine ⟨Nat.le_of_ble_eq_true rfl, ?_⟩ | refine ⟨_, _, rfl, ?_⟩ | refine ⟨0, _, rfl, ?_⟩ | refine ⟨1, _, rfl, ?_⟩ | refine ⟨2, _, rfl, ?_⟩ | refine ⟨3, _, rfl, ?_⟩ | refine ⟨4, _, rfl, ?_⟩ | refine ⟨5, _, rfl, ?_⟩ | refine ⟨_, rfl, ?_⟩ | intro _)
    refine ⟨n + 1, ?_, ?_, weak_of ?_ rfl ?_⟩
    · omega
    · refine ⟨by omega, by omega, fun c hc hp => ?_⟩
      by_cases hcn : (oneL c).length < n
      · exact i3 c hcn hp
      · have hl : (oneL c).length = n := by omega
        refine hall c ?_
        obtain ⟨r, hr⟩ := hp
        rw [List.drop_take, ← hr, Nat.add_sub_cancel_left, List.take_left' hl]
    · repeat (first | exact trivial | refine ⟨AVle.refl _, ?_⟩ | refine ⟨AVle.tk, ?_⟩ | refine ⟨AVle.nil, ?_⟩ | refine ⟨AVle.nilFull, ?_⟩ | refine ⟨AVle.eq (congrArg (AV.int .i64) (by first | (simp; done) | (simp; omega) | (rw [wrap_i64 (by first | omega | (simp; omega))]; first | rfl | omega | (simp; done) | (simp; omega)))), ?_⟩)
    · repeat (first | exact SLe.rfl | refine SLe.tail ?_ | refine SLe.full ?_)

theorem refUnquote_ok (s : List UInt8) (R : List En) (hs : s.length ≤ 16777216) : ACall Tryd.prog 18 [.str s] R (fun r S => r = unqAV (unqS s) ∧ S = R) := by
  refine ACall_body tab_ok Tryd.func18 rfl rfl rfl (by kernel_rfl) (Nat.le_of_ble_eq_true rfl) ?_
  repeat (first | refine AW_seq ?_ | refine det_step rfl ?_ | refine AW_region tab_ok ?_ | refine AW_block ?_ | refine AW_scope ?_ | refine AW_exit ?_ | refine AW_goto ?_ | refine AW_label ?_ | refine AW_skip ?_ | refine ⟨rfl, ?_⟩ | refine ⟨⟨_, rfl⟩, ?_⟩ | refine ⟨⟨_, rfl, rfl⟩, ?_⟩ | refine ⟨⟨rfl, rfl⟩, ?_⟩ | refine ⟨⟨Nat.le_of_ble_eq_true rfl, Nat.le_of_ble_eq_true rfl⟩, ?_⟩ | refine ⟨Nat.le_of_ble_eq_true rfl, ?_⟩ | refine ⟨_, _, rfl, ?_⟩ | refine ⟨0, _, rfl, ?_⟩ | refine ⟨1, _, rfl, ?_⟩ | refine ⟨2, _, rfl, ?_⟩ | refine ⟨3, _, rfl, ?_⟩ | refine ⟨4, _, rfl, ?_⟩ | refine ⟨5, _, rfl, ?_⟩ | refine ⟨_, rfl, ?_⟩ | intro _)
  refine gsplit (s.length < 2) (by first | (simp; done) | (simp <;> omega) | decide) (fun h => ?_) (fun h => ?_)
  · have e : unqS s = ([], 10) := by rw [unqS, if_pos (.inl h)]
    repeat (first | refine AW_seq ?_ | refine det_step rfl ?_ | refine AW_region tab_ok ?_ | refine AW_block ?_ | refine AW_scope ?_ | refine AW_exit ?_ | refine AW_goto ?_ | refine AW_label ?_ | refine AW_skip ?_ | refine ⟨rfl, ?_⟩ | refine ⟨⟨_, rfl⟩, ?_⟩ | refine ⟨⟨_, rfl, rfl⟩, ?_⟩ | refine ⟨⟨rfl, rfl⟩, ?_⟩ | refine ⟨⟨Nat.le_of_ble_eq_true rfl, Nat.le_of_ble_eq_true rfl⟩, ?_⟩ | refine ⟨Nat.le_of_ble_eq_true rfl, ?_⟩ | refine ⟨_, _, rfl, ?_⟩ | refine ⟨0, _, rfl, ?_⟩ | refine ⟨1, _, rfl, ?_⟩ | refine ⟨2, _, rfl, ?_⟩ | refine ⟨3, _, rfl, ?_⟩ | refine ⟨4, _, rfl, ?_⟩ | refine ⟨5, _, rfl, ?_⟩ | refine ⟨_, rfl, ?_⟩ | intro _ | refine known_true (b := true) rfl ?_ | refine known_false (b := false) rfl ?_ | refine AW_true (b := true) rfl rfl ?_ | refine AW_false (b := false) rfl rfl ?_)
    refine AW_ret ?_
    repeat (first | refine ⟨0, rfl, ?_⟩ | refine ⟨1, rfl, ?_⟩ | refine ⟨2, rfl, ?_⟩ | refine ⟨3, rfl, ?_⟩ | refine ⟨4, rfl, ?_⟩ | refine ⟨5, rfl, ?_⟩ | refine ⟨6, rfl, ?_⟩)
    refine ⟨_, R, AVle.eq ?_, (by repeat (first | exact SLe.rfl | refine SLe.tail ?_)), rfl, rfl⟩
    rw [e]; rfl
  have h1 := h
  repeat (first | refine AW_seq ?_ | refine det_step rfl ?_ | refine AW_region tab_ok ?_ | refine AW_block ?_ | refine AW_scope ?_ | refine AW_exit ?_ | refine AW_goto ?_ | refine AW_label ?_ | refine AW_skip ?_ | refine ⟨rfl, ?_⟩ | refine ⟨⟨_, rfl⟩, ?_⟩ | refine ⟨⟨_, rfl, rfl⟩, ?_⟩ | refine ⟨⟨rfl, rfl⟩, ?_⟩ | refine ⟨⟨Nat.le_of_ble_eq_true rfl, Nat.le_of_ble_eq_true rfl⟩, ?_⟩ | refine ⟨Nat.le_of_ble_eq_true rfl, ?_⟩ | refine ⟨_, _, rfl, ?_⟩ | refine ⟨0, _, rfl, ?_⟩ | refine ⟨1, _, rfl, ?_⟩ | refine ⟨2, _, rfl, ?_⟩ | refine ⟨3, _, rfl, ?_⟩ | refine ⟨4, _, rfl, ?_⟩ | refine ⟨5, _, rfl, ?_⟩ | refine ⟨_, rfl, ?_⟩ | intro _ | refine known_true (b := true) rfl ?_ | refine known_false (b := false) rfl ?_ | refine AW_true (b := true) rfl rfl ?_ | refine AW_false (b := false) rfl rfl ?_)
  refine at_list 0 rfl (by omega) ?_
  refine ⟨rfl, ?_⟩
  refine gsplit (s[0].toNat ≠ 34) (by first | (simp; done) | (simp <;> omega) | decide) (fun h => ?_) (fun h => ?_)
  · have e : unqS s = ([], 10) := by rw [unqS, if_pos (.inr (.inl (fun e => h (by rw [get0 (by omega)] at e; rw [e]; rfl))))]
    repeat (first | refine AW_seq ?_ | refine det_step rfl ?_ | refine AW_region tab_ok ?_ | refine AW_block ?_ | refine AW_scope ?_ | refine AW_exit ?_ | refine AW_goto ?_ | refine AW_label ?_ | refine AW_skip ?_ | refine ⟨rfl, ?_⟩ | refine ⟨⟨_, rfl⟩, ?_⟩ | refine ⟨⟨_, rfl, rfl⟩, ?_⟩ | refine ⟨⟨rfl, rfl⟩, ?_⟩ | refine ⟨⟨Nat.le_of_ble_eq_true rfl, Nat.le_of_ble_eq_true rfl⟩, ?_⟩ | refine ⟨Nat.le_of_ble_eq_true rfl, ?_⟩ | refine ⟨_, _, rfl, ?_⟩ | refine ⟨0, _, rfl, ?_⟩ | refine ⟨1, _, rfl, ?_⟩ | refine ⟨2, _, rfl, ?_⟩ | refine ⟨3, _, rfl, ?_⟩ | refine ⟨4, _, rfl, ?_⟩ | refine ⟨5, _, rfl, ?_⟩ | refine ⟨_, rfl, ?_⟩ | intro _ | refine known_true (b := true) rfl ?_ | refine known_false (b := false) rfl ?_ | refine AW_true (b := true) rfl rfl ?_ | refine AW_false (b := false) rfl rfl ?_)
    refine AW_ret ?_
    repeat (first | refine ⟨0, rfl, ?_⟩ | refine ⟨1, rfl, ?_⟩ | refine ⟨2, rfl, ?_⟩ | refine ⟨3, rfl, ?_⟩ | refine ⟨4, rfl, ?_⟩ | refine ⟨5, rfl, ?_⟩ | refine ⟨6, rfl, ?_⟩)
    refine ⟨_, R, AVle.eq ?_, (by repeat (first | exact SLe.rfl | refine SLe.tail ?_)), rfl, rfl⟩
    rw [e]; rfl
  have h2 : s[0].toNat = 34 := Decidable.not_not.1 h
  repeat (first | refine AW_seq ?_ | refine det_step rfl ?_ | refine AW_region tab_ok ?_ | refine AW_block ?_ | refine AW_scope ?_ | refine AW_exit ?_ | refine AW_goto ?_ | refine AW_label ?_ | refine AW_skip ?_ | refine ⟨rfl, ?_⟩ | refine ⟨⟨_, rfl⟩, ?_⟩ | refine ⟨⟨_, rfl, rfl⟩, ?_⟩ | refine ⟨⟨rfl, rfl⟩, ?_⟩ | refine ⟨⟨Nat.le_of_ble_eq_true rfl, Nat.le_of_ble_eq_true rfl⟩, ?_⟩ | refine ⟨Nat.le_of_ble_eq_true rfl, ?_⟩ | refine ⟨_, _, rfl, ?_⟩ | refine ⟨0, _, rfl, ?_⟩ | refine ⟨1, _, rfl, ?_⟩ | refine ⟨2, _, rfl, ?_⟩ | refine ⟨3, _, rfl, ?_⟩ | refine ⟨4, _, rfl, ?_⟩ | refine ⟨5, _, rfl, ?_⟩ | refine ⟨_, rfl, ?_⟩ | intro _ | refine known_true (b := true) rfl ?_ | refine known_false (b := false) rfl ?_ | refine AW_true (b := true) rfl rfl ?_ | refine AW_false (b := false) rfl rfl ?_)
  refine at_list (s.length - 1) (by rw [wrap_i64 (by omega)]; omega) (by omega) ?_
  repeat (first | refine AW_seq ?_ | refine det_step rfl ?_ | refine AW_region tab_ok ?_ | refine AW_block ?_ | refine AW_scope ?_ | refine AW_exit ?_ | refine AW_goto ?_ | refine AW_label ?_ | refine AW_skip ?_ | refine ⟨rfl, ?_⟩ | refine ⟨⟨_, rfl⟩, ?_⟩ | refine ⟨⟨_, rfl, rfl⟩, ?_⟩ | refine ⟨⟨rfl, rfl⟩, ?_⟩ | refine ⟨⟨Nat.le_of_ble_eq_true rfl, Nat.le_of_ble_eq_true rfl⟩, ?_⟩ | refine ⟨Nat.le_of_ble_eq_true rfl, ?_⟩ | refine ⟨_, _, rfl, ?_⟩ | refine ⟨0, _, rfl, ?_⟩ | refine ⟨1, _, rfl, ?_⟩ | refine ⟨2, _, rfl, ?_⟩ | refine ⟨3, _, rfl, ?_⟩ | refine ⟨4, _, rfl, ?_⟩ | refine ⟨5, _, rfl, ?_⟩ | refine ⟨_, rfl, ?_⟩ | intro _ | refine known_true (b := true) rfl ?_ | refine known_false (b := false) rfl ?_ | refine AW_true (b := true) rfl rfl ?_ | refine AW_false (b := false) rfl rfl ?_)
  refine AW_iff (s[s.length - 1].toNat ≠ 34) rfl (by first | (simp; done) | (simp <;> omega) | decide) (fun h => ?_) (fun h => ?_)
  · have e : unqS s = ([], 10) := by rw [unqS, if_pos (.inr (.inr (fun e => h (by rw [get0 (by omega)] at e; rw [e]; rfl))))]
    repeat (first | refine AW_seq ?_ | refine det_step rfl ?_ | refine AW_region tab_ok ?_ | refine AW_block ?_ | refine AW_scope ?_ | refine AW_exit ?_ | refine AW_goto ?_ | refine AW_label ?_ | refine AW_skip ?_ | refine ⟨rfl, ?_⟩ | refine ⟨⟨_, rfl⟩, ?_⟩ | refine ⟨⟨_, rfl, rfl⟩, ?_⟩ | refine ⟨⟨rfl, rfl⟩, ?_⟩ | refine ⟨⟨Nat.le_of_ble_eq_true rfl, Nat.le_of_ble_eq_true rfl⟩, ?_⟩ | refine ⟨Nat.le_of_ble_eq_true rfl, ?_⟩ | refine ⟨_, _, rfl, ?_⟩ | refine ⟨0, _, rfl, ?_⟩ | refine ⟨1, _, rfl, ?_⟩ | refine ⟨2, _, rfl, ?_⟩ | refine ⟨3, _, rfl, ?_⟩ | refine ⟨4, _, rfl, ?_⟩ | refine ⟨5, _, rfl, ?_⟩ | refine ⟨_, rfl, ?_⟩ | intro _ | refine known_true (b := true) rfl ?_ | refine known_false (b := false) rfl ?_ | refine AW_true (b := true) rfl rfl ?_ | refine AW_false (b := false) rfl rfl ?_)
    refine AW_ret ?_
    repeat (first | refine ⟨0, rfl, ?_⟩ | refine ⟨1, rfl, ?_⟩ | refine ⟨2, rfl, ?_⟩ | refine ⟨3, rfl, ?_⟩ | refine ⟨4, rfl, ?_⟩ | refine ⟨5, rfl, ?_⟩ | refine ⟨6, rfl, ?_⟩)
    refine ⟨_, R, AVle.eq ?_, (by repeat (first | exact SLe.rfl | refine SLe.tail ?_)), rfl, rfl⟩
    rw [e]; rfl
  have h3 : s[s.length - 1].toNat = 34 := Decidable.not_not.1 h
  have e : unqS s = match unqL ((s.take (s.length - 1)).drop 1) with
    | none => ([], 10)
    | some t => (t, 0) := by
    refine Eq.trans (if_neg ?_) rfl
    rintro (x | x | x)
    · exact h1 x
    · exact x (by rw [get0 (by omega)]; exact UInt8.toNat_inj.1 h2)
    · exact x (by rw [get0 (by omega)]; exact UInt8.toNat_inj.1 h3)
  obtain ⟨m, hm⟩ : ∃ m, (s.take (s.length - 1)).drop 1 = m := ⟨_, rfl⟩
  rw [hm] at e
  have hml : m.length ≤ s.length := by rw [← hm]; simp; omega
  repeat (first | refine AW_seq ?_ | refine det_step rfl ?_ | refine AW_region tab_ok ?_ | refine AW_block ?_ | refine AW_scope ?_ | refine AW_exit ?_ | refine AW_goto ?_ | refine AW_label ?_ | refine AW_skip ?_ | refine ⟨rfl, ?_⟩ | refine ⟨⟨_, rfl⟩, ?_⟩ | refine ⟨⟨_, rfl, rfl⟩, ?_⟩ | refine ⟨⟨rfl, rfl⟩, ?_⟩ | refine ⟨⟨Nat.le_of_ble_eq_true rfl, Nat.le_of_ble_eq_true rfl⟩, ?_⟩ | refine ⟨Nat.le_of_ble_eq_true rfl, ?_⟩ | refine ⟨_, _, rfl, ?_⟩ | refine ⟨0, _, rfl, ?_⟩ | refine ⟨1, _, rfl, ?_⟩ | refine ⟨2, _, rfl, ?_⟩ | refine ⟨3, _, rfl, ?_⟩ | refine ⟨4, _, rfl, ?_⟩ | refine ⟨5, _, rfl, ?_⟩ | refine ⟨_, rfl, ?_⟩ | intro _)
  refine at_ss 1 (s.length - 1) m rfl (by show IntKind.i64.wrap ((s.length : Int) - 1) = _; rw [wrap_i64 (by omega)]; omega) (by omega) (by omega) hm ?_
  repeat (first | refine AW_seq ?_ | refine det_step rfl ?_ | refine AW_region tab_ok ?_ | refine AW_block ?_ | refine AW_scope ?_ | refine AW_exit ?_ | refine AW_goto ?_ | refine AW_label ?_ | refine AW_skip ?_ | refine ⟨rfl, ?_⟩ | refine ⟨⟨_, rfl⟩, ?_⟩ | refine ⟨⟨_, rfl, rfl⟩, ?_⟩ | refine ⟨⟨rfl, rfl⟩, ?_⟩ | refine ⟨⟨Nat.le_of_ble_eq_true rfl, Nat.le_of_ble_eq_true rfl⟩, ?_⟩ | refine ⟨Nat.le_of_ble_eq_true rfl, ?_⟩ | refine ⟨_, _, rfl, ?_⟩ | refine ⟨0, _, rfl, ?_⟩ | refine ⟨1, _, rfl, ?_⟩ | refine ⟨2, _, rfl, ?_⟩ | refine ⟨3, _, rfl, ?_⟩ | refine ⟨4, _, rfl, ?_⟩ | refine ⟨5, _, rfl, ?_⟩ | refine ⟨_, rfl, ?_⟩ | intro _)
  refine AW_for (α := Nat × List UInt8 × Tk) (fun z => ⟨[(4, .str m), (5, .sl 1 (u8s z.2.1) z.2.2), (6, .int .i64 (z.1 : Nat))], []⟩) (fun z => .grow z.2.2 :: R) (fun z => m.length - z.1) (fun z => z.1 ≤ m.length ∧ unqL m = (unqL (m.drop z.1)).map (z.2.1 ++ ·) ∧ z.2.1.length ≤ z.1) ((0, [], .full)) ?_ (weak_of ?_ rfl ?_) (fun z hz => ?_)
  · refine ⟨by simp, ?_, by simp⟩
    show unqL m = (unqL m).map ([] ++ ·)
    cases unqL m <;> rfl
  · repeat (first | exact trivial | refine ⟨AVle.refl _, ?_⟩ | refine ⟨AVle.tk, ?_⟩ | refine ⟨AVle.nil, ?_⟩ | refine ⟨AVle.nilFull, ?_⟩ | refine ⟨AVle.eq (congrArg (AV.int .i64) (by first | (simp; done) | (simp; omega) | (rw [wrap_i64 (by first | omega | (simp; omega))]; first | rfl | omega | (simp; done) | (simp; omega)))), ?_⟩)
  · repeat (first | exact SLe.rfl | refine SLe.tail ?_ | refine SLe.full ?_)
  obtain ⟨k, o, tk⟩ := z
  obtain ⟨i1, i2, i3⟩ : k ≤ m.length ∧ unqL m = (unqL (m.drop k)).map (o ++ ·) ∧ o.length ≤ k := hz
  repeat (first | refine AW_seq ?_ | refine det_step rfl ?_ | refine AW_region tab_ok ?_ | refine AW_block ?_ | refine AW_scope ?_ | refine AW_exit ?_ | refine AW_goto ?_ | refine AW_label ?_ | refine AW_skip ?_ | refine ⟨rfl, ?_⟩ | refine ⟨⟨_, rfl⟩, ?_⟩ | refine ⟨⟨_, rfl, rfl⟩, ?_⟩ | refine ⟨⟨rfl, rfl⟩, ?_⟩ | refine ⟨⟨Nat.le_of_ble_eq_true rfl, Nat.le_of_ble_eq_true rfl⟩, ?_⟩ | refine ⟨Nat.le_of_ble_eq_true rfl, ?_⟩ | refine ⟨_, _, rfl, ?_⟩ | refine ⟨0, _, rfl, ?_⟩ | refine ⟨1, _, rfl, ?_⟩ | refine ⟨2, _, rfl, ?_⟩ | refine ⟨3, _, rfl, ?_⟩ | refine ⟨4, _, rfl, ?_⟩ | refine ⟨5, _, rfl, ?_⟩ | refine ⟨_, rfl, ?_⟩ | intro _)
  refine AW_iff (k < m.length) rfl (by first | (simp; done) | (simp <;> omega) | decide) (fun h => ?_) (fun h => ?_)
  · have kn := next_ok m k (.grow tk :: R) i1 (by omega)
    have hne : m.drop k ≠ [] := by intro x; have := congrArg List.length x; simp at this; omega
    cases hd : dec1 (m.drop k) with
    | none =>
      rw [nextAV, hd] at kn
      rw [unqL_none hne hd] at i2
      rw [i2] at e
      repeat (first | refine AW_seq ?_ | refine det_step rfl ?_ | refine AW_region tab_ok ?_ | refine AW_block ?_ | refine AW_scope ?_ | refine AW_exit ?_ | refine AW_goto ?_ | refine AW_label ?_ | refine AW_skip ?_ | refine ⟨rfl, ?_⟩ | refine ⟨⟨_, rfl⟩, ?_⟩ | refine ⟨⟨_, rfl, rfl⟩, ?_⟩ | refine ⟨⟨rfl, rfl⟩, ?_⟩ | refine ⟨⟨Nat.le_of_ble_eq_true rfl, Nat.le_of_ble_eq_true rfl⟩, ?_⟩ | refine ⟨Nat.le_of_ble_eq_true rfl, ?_⟩ | refine ⟨_, _, rfl, ?_⟩ | refine ⟨0, _, rfl, ?_⟩ | refine ⟨1, _, rfl, ?_⟩ | refine ⟨2, _, rfl, ?_⟩ | refine ⟨3, _, rfl, ?_⟩ | refine ⟨4, _, rfl, ?_⟩ | refine ⟨5, _, rfl, ?_⟩ | refine ⟨_, rfl, ?_⟩ | intro _)
      refine Or.inl ⟨⟨_, Tryd.func31, rfl, rfl⟩, ACall.mono ?_ (kn)⟩
      rintro _ S1 ⟨rfl, hS1⟩
      subst S1
      repeat (first | refine AW_seq ?_ | refine det_step rfl ?_ | refine AW_region tab_ok ?_ | refine AW_block ?_ | refine AW_scope ?_ | refine AW_exit ?_ | refine AW_goto ?_ | refine AW_label ?_ | refine AW_skip ?_ | refine ⟨rfl, ?_⟩ | refine ⟨⟨_, rfl⟩, ?_⟩ | refine ⟨⟨_, rfl, rfl⟩, ?_⟩ | refine ⟨⟨rfl, rfl⟩, ?_⟩ | refine ⟨⟨Nat.le_of_ble_eq_true rfl, Nat.le_of_ble_eq_true rfl⟩, ?_⟩ | refine ⟨Nat.le_of_ble_eq_true rfl, ?_⟩ | refine ⟨_, _, rfl, ?_⟩ | refine ⟨0, _, rfl, ?_⟩ | refine ⟨1, _, rfl, ?_⟩ | refine ⟨2, _, rfl, ?_⟩ | refine ⟨3, _, rfl, ?_⟩ | refine ⟨4, _, rfl, ?_⟩ | refine ⟨5, _, rfl, ?_⟩ | refine ⟨_, rfl, ?_⟩ | intro _ | refine known_true (b := true) rfl ?_ | refine known_false (b := false) rfl ?_ | refine AW_true (b := true) rfl rfl ?_ | refine AW_false (b := false) rfl rfl ?_)
      refine AW_ret ?_
      repeat (first | refine ⟨0, rfl, ?_⟩ | refine ⟨1, rfl, ?_⟩ | refine ⟨2, rfl, ?_⟩ | refine ⟨3, rfl, ?_⟩ | refine ⟨4, rfl, ?_⟩ | refine ⟨5, rfl, ?_⟩ | refine ⟨6, rfl, ?_⟩)
      refine ⟨_, R, AVle.eq ?_, (by repeat (first | exact SLe.rfl | refine SLe.tail ?_)), rfl, rfl⟩
      rw [e]; rfl
    | some q =>
      obtain ⟨c, r⟩ := q
      rw [nextAV, hd] at kn
      simp only [] at kn
      rw [unqL_some hd] at i2
      have hu := u8s_len o
      have hp := (oneL_len c).1
      have hds := dec1_some hd
      have hdl := congrArg List.length hds
      simp at hdl
      have hr : m.drop (k + (oneL c).length) = r := by rw [← List.drop_drop, hds, List.drop_left]
      repeat (first | refine AW_seq ?_ | refine det_step rfl ?_ | refine AW_region tab_ok ?_ | refine AW_block ?_ | refine AW_scope ?_ | refine AW_exit ?_ | refine AW_goto ?_ | refine AW_label ?_ | refine AW_skip ?_ | refine ⟨rfl, ?_⟩ | refine ⟨⟨_, rfl⟩, ?_⟩ | refine ⟨⟨_, rfl, rfl⟩, ?_⟩ | refine ⟨⟨rfl, rfl⟩, ?_⟩ | refine ⟨⟨Nat.le_of_ble_eq_true rfl, Nat.le_of_ble_eq_true rfl⟩, ?_⟩ | refine ⟨Nat.le_of_ble_eq_true rfl, ?_⟩ | refine ⟨_, _, rfl, ?_⟩ | refine ⟨0, _, rfl, ?_⟩ | refine ⟨1, _, rfl, ?_⟩ | refine ⟨2, _, rfl, ?_⟩ | refine ⟨3, _, rfl, ?_⟩ | refine ⟨4, _, rfl, ?_⟩ | refine ⟨5, _, rfl, ?_⟩ | refine ⟨_, rfl, ?_⟩ | intro _)
      refine Or.inl ⟨⟨_, Tryd.func31, rfl, rfl⟩, ACall.mono ?_ (kn)⟩
      rintro _ S1 ⟨rfl, hS1⟩
      subst S1
      repeat (first | refine AW_seq ?_ | refine det_step rfl ?_ | refine AW_region tab_ok ?_ | refine AW_block ?_ | refine AW_scope ?_ | refine AW_exit ?_ | refine AW_goto ?_ | refine AW_label ?_ | refine AW_skip ?_ | refine ⟨rfl, ?_⟩ | refine ⟨⟨_, rfl⟩, ?_⟩ | refine ⟨⟨_, rfl, rfl⟩, ?_⟩ | refine ⟨⟨rfl, rfl⟩, ?_⟩ | refine ⟨⟨Nat.le_of_ble_eq_true rfl, Nat.le_of_ble_eq_true rfl⟩, ?_⟩ | refine ⟨Nat.le_of_ble_eq_true rfl, ?_⟩ | refine ⟨_, _, rfl, ?_⟩ | refine ⟨0, _, rfl, ?_⟩ | refine ⟨1, _, rfl, ?_⟩ | refine ⟨2, _, rfl, ?_⟩ | refine ⟨3, _, rfl, ?_⟩ | refine ⟨4, _, rfl, ?_⟩ | refine ⟨5, _, rfl, ?_⟩ | refine ⟨_, rfl, ?_⟩ | intro _)
      refine AW_false (b := decide (((oneL c).length : Int) = 0)) rfl (by exact decide_eq_false (by omega)) ?_
      repeat (first | refine AW_seq ?_ | refine det_step rfl ?_ | refine AW_region tab_ok ?_ | refine AW_block ?_ | refine AW_scope ?_ | refine AW_exit ?_ | refine AW_goto ?_ | refine AW_label ?_ | refine AW_skip ?_ | refine ⟨rfl, ?_⟩ | refine ⟨⟨_, rfl⟩, ?_⟩ | refine ⟨⟨_, rfl, rfl⟩, ?_⟩ | refine ⟨⟨rfl, rfl⟩, ?_⟩ | refine ⟨⟨Nat.le_of_ble_eq_true rfl, Nat.le_of_ble_eq_true rfl⟩, ?_⟩ | refine ⟨Nat.le_of_ble_eq_true rfl, ?_⟩ | refine ⟨_, _, rfl, ?_⟩ | refine ⟨0, _, rfl, ?_⟩ | refine ⟨1, _, rfl, ?_⟩ | refine ⟨2, _, rfl, ?_⟩ | refine ⟨3, _, rfl, ?_⟩ | refine ⟨4, _, rfl, ?_⟩ | refine ⟨5, _, rfl, ?_⟩ | refine ⟨_, rfl, ?_⟩ | intro _)
      refine ⟨room (by first | omega | (simp; done) | (simp; omega) | (simp at *; done) | (simp at *; omega)) rfl, .inl rfl, .inr (.inl ⟨rfl, 0, rfl, u8s (o ++ [c]), (u8s_app o [c]).symm, fun t1 => ?_⟩)⟩
      repeat (first | refine AW_seq ?_ | refine det_step rfl ?_ | refine AW_region tab_ok ?_ | refine AW_block ?_ | refine AW_scope ?_ | refine AW_exit ?_ | refine AW_goto ?_ | refine AW_label ?_ | refine AW_skip ?_ | refine ⟨rfl, ?_⟩ | refine ⟨⟨_, rfl⟩, ?_⟩ | refine ⟨⟨_, rfl, rfl⟩, ?_⟩ | refine ⟨⟨rfl, rfl⟩, ?_⟩ | refine ⟨⟨Nat.le_of_ble_eq_true rfl, Nat.le_of_ble_eq_true rfl⟩, ?_⟩ | refine ⟨Nat.le_of_ble_eq_true rfl, ?_⟩ | refine ⟨_, _, rfl, ?_⟩ | refine ⟨0, _, rfl, ?_⟩ | refine ⟨1, _, rfl, ?_⟩ | refine ⟨2, _, rfl, ?_⟩ | refine ⟨3, _, rfl, ?_⟩ | refine ⟨4, _, rfl, ?_⟩ | refine ⟨5, _, rfl, ?_⟩ | refine ⟨_, rfl, ?_⟩ | intro _)
      refine ⟨(k + (oneL c).length, o ++ [c], t1), ?_, ?_, weak_of ?_ rfl ?_⟩
      · omega
      · refine ⟨by show k + (oneL c).length ≤ m.length; omega, ?_, by simp; omega⟩
        show unqL m = (unqL (m.drop (k + (oneL c).length))).map _
        rw [hr, i2]
        cases unqL r <;> simp
      · repeat (first | exact trivial | refine ⟨AVle.refl _, ?_⟩ | refine ⟨AVle.tk, ?_⟩ | refine ⟨AVle.nil, ?_⟩ | refine ⟨AVle.nilFull, ?_⟩ | refine ⟨AVle.eq (congrArg (AV.int .i64) (by first | (simp; done) | (simp; omega) | (rw [wrap_i64 (by first | omega | (simp; omega))]; first | rfl | omega | (simp; done) | (simp; omega)))), ?_⟩)
      · repeat (first | exact SLe.rfl | refine SLe.tail ?_ | refine SLe.full ?_)
  · have hk : k = m.length := by omega
    subst hk
    rw [List.drop_length, unqL_nil] at i2
    simp at i2
    rw [i2] at e
    repeat (first | refine AW_seq ?_ | refine det_step rfl ?_ | refine AW_region tab_ok ?_ | refine AW_block ?_ | refine AW_scope ?_ | refine AW_exit ?_ | refine AW_goto ?_ | refine AW_label ?_ | refine AW_skip ?_ | refine ⟨rfl, ?_⟩ | refine ⟨⟨_, rfl⟩, ?_⟩ | refine ⟨⟨_, rfl, rfl⟩, ?_⟩ | refine ⟨⟨rfl, rfl⟩, ?_⟩ | refine ⟨⟨Nat.le_of_ble_eq_true rfl, Nat.le_of_ble_eq_true rfl⟩, ?_⟩ | refine ⟨Nat.le_of_ble_eq_true rfl, ?_⟩ | refine ⟨_, _, rfl, ?_⟩ | refine ⟨0, _, rfl, ?_⟩ | refine ⟨1, _, rfl, ?_⟩ | refine ⟨2, _, rfl, ?_⟩ | refine ⟨3, _, rfl, ?_⟩ | refine ⟨4, _, rfl, ?_⟩ | refine ⟨5, _, rfl, ?_⟩ | refine ⟨_, rfl, ?_⟩ | intro _)
    refine AW_ret ?_
    repeat (first | refine ⟨0, rfl, ?_⟩ | refine ⟨1, rfl, ?_⟩ | refine ⟨2, rfl, ?_⟩ | refine ⟨3, rfl, ?_⟩ | refine ⟨4, rfl, ?_⟩ | refine ⟨5, rfl, ?_⟩ | refine ⟨6, rfl, ?_⟩)
    refine ⟨_, R, AVle.eq ?_, (by repeat (first | exact SLe.rfl | refine SLe.tail ?_)), rfl, rfl⟩
    rw [e]; rfl
end Go.Proofs.YtlhphfhplhcnfaaDoor

