/-
  Insert of a row. Own work.
-/
import Derived.Test.YtocbdcgbbdjhlaaR26
namespace Go.Proofs.Ytocbdcgbbdjhlaa
open Go.Aw
set_option maxHeartbeats 4000000

theorem mslNil_le {sz b off : Nat} : AVle (.msl b off 0 0) (.sl sz [] .full) := by
  intro K v h
  cases h with
  | mslnil => exact .slnil _ _ _ trivial
  | msl _ _ _ _ hle hmax _ => exact .sl (es := []) (vs := []) hle hmax (by simp) (by simp [Aw.flat]) rfl (fun i c v hc _ => by simp [Aw.flat] at hc) (fun i v hv => by simp at hv) rfl
theorem ACall_freeze {P : Program} {f : FuncId} {R : List En} {k : AV → List En → Prop} {b off n cap sz : Nat} {cs es : List AV} (hn : es.length = n) (hsz : ∀ e ∈ es, e.cells.length = sz) (hf : flat es = (cs.drop off).take (n * sz))
    (h : ACall P f [.sl sz es .no] R k) : ACall P f [.msl b off n cap] (.cells b cs :: R) k := by
  unfold ACall at h ⊢
  intro w0 K w vs hv hS
  obtain ⟨x, r, rfl, hx, hr⟩ := hv.cons_inv
  obtain ⟨K', hK, hS', us, e1, hr1, h1⟩ := hS.freeze (p := 0) rfl
  have := h w0 K' w (x :: r) (RelL.cons (AVle_frozen e1 hr1 h1 hn hsz hf (hx.mono hK)) (hr.mono hK)) hS'
  refine CallsIn.mono this ?_
  rintro e w' ⟨v, K2, av, S', h1, h2, h3⟩
  exact ⟨v, K2, av, S', h1, hK.trans h2, h3⟩
theorem clone_rows' (l : List (List V)) (t : Tk) (R : List En) (hl : l.length ≤ 16777216) : ACall Try.prog 39 [.sl 1 (l.map encR) t] R
    (fun r S => ∃ b cap rest, r = .msl b 0 l.length cap ∧ l.length ≤ cap ∧ (l.length = 0 → cap = 0) ∧ rest.length = cap - l.length ∧ S = hold l.length b (l.map encR ++ rest) R) := by
  refine ACall_body tab_ok Try.func39 rfl rfl rfl (by kernel_rfl) (Nat.le_of_ble_eq_true rfl) ?_
  repeat (first | refine AW_seq ?_ | refine det_step rfl ?_ | refine AW_region tab_ok ?_ | refine AW_block ?_ | refine AW_scope ?_ | refine AW_exit ?_ | refine AW_goto ?_ | refine AW_label ?_ | refine AW_skip ?_ | refine ⟨rfl, ?_⟩ | refine ⟨⟨_, rfl⟩, ?_⟩ | refine ⟨⟨Nat.le_of_ble_eq_true rfl, Nat.le_of_ble_eq_true rfl⟩, ?_⟩ | refine ⟨Nat.le_of_ble_eq_true rfl, ?_⟩ | refine ⟨_, _, rfl, ?_⟩ | refine ⟨0, _, rfl, ?_⟩ | refine ⟨1, _, rfl, ?_⟩ | refine ⟨2, _, rfl, ?_⟩ | refine ⟨3, _, rfl, ?_⟩ | refine ⟨4, _, rfl, ?_⟩ | refine ⟨5, _, rfl, ?_⟩ | refine ⟨_, rfl, ?_⟩ | intro _)
  rename_i b hb
  refine AW_cond (b := b) rfl (fun h => ?_) (fun h => ?_)
  · repeat (first | refine AW_seq ?_ | refine det_step rfl ?_ | refine AW_region tab_ok ?_ | refine AW_block ?_ | refine AW_scope ?_ | refine AW_exit ?_ | refine AW_goto ?_ | refine AW_label ?_ | refine AW_skip ?_ | refine ⟨rfl, ?_⟩ | refine ⟨⟨_, rfl⟩, ?_⟩ | refine ⟨⟨Nat.le_of_ble_eq_true rfl, Nat.le_of_ble_eq_true rfl⟩, ?_⟩ | refine ⟨Nat.le_of_ble_eq_true rfl, ?_⟩ | refine ⟨_, _, rfl, ?_⟩ | refine ⟨0, _, rfl, ?_⟩ | refine ⟨1, _, rfl, ?_⟩ | refine ⟨2, _, rfl, ?_⟩ | refine ⟨3, _, rfl, ?_⟩ | refine ⟨4, _, rfl, ?_⟩ | refine ⟨5, _, rfl, ?_⟩ | refine ⟨_, rfl, ?_⟩ | intro _)
    have : l = [] := by cases l with
      | nil => rfl
      | cons a x => rw [hb (by simp)] at h; cases h
    subst this
    exact AW_ret ⟨.msl 0 0 0 0, R, AVle.nilMsl, SLe.rfl, 0, 0, [], rfl, by simp, by simp, by simp, hold_zero.symm⟩
  · repeat (first | refine AW_seq ?_ | refine det_step rfl ?_ | refine AW_region tab_ok ?_ | refine AW_block ?_ | refine AW_scope ?_ | refine AW_exit ?_ | refine AW_goto ?_ | refine AW_label ?_ | refine AW_skip ?_ | refine ⟨rfl, ?_⟩ | refine ⟨⟨_, rfl⟩, ?_⟩ | refine ⟨⟨Nat.le_of_ble_eq_true rfl, Nat.le_of_ble_eq_true rfl⟩, ?_⟩ | refine ⟨Nat.le_of_ble_eq_true rfl, ?_⟩ | refine ⟨_, _, rfl, ?_⟩ | refine ⟨0, _, rfl, ?_⟩ | refine ⟨1, _, rfl, ?_⟩ | refine ⟨2, _, rfl, ?_⟩ | refine ⟨3, _, rfl, ?_⟩ | refine ⟨4, _, rfl, ?_⟩ | refine ⟨5, _, rfl, ?_⟩ | refine ⟨_, rfl, ?_⟩ | intro _)
    refine ⟨room (by first | omega | (simp; omega) | (simp at *; omega)) rfl, .inl rfl, .inr (.inr ⟨rfl, rfl, l.map encR, l.length, flat_rows l, List.length_map _, fun b1 cap1 rest1 hcap1 hcap0 hrest1 => ?_⟩)⟩
    repeat (first | refine AW_seq ?_ | refine det_step rfl ?_ | refine AW_region tab_ok ?_ | refine AW_block ?_ | refine AW_scope ?_ | refine AW_exit ?_ | refine AW_goto ?_ | refine AW_label ?_ | refine AW_skip ?_ | refine ⟨rfl, ?_⟩ | refine ⟨⟨_, rfl⟩, ?_⟩ | refine ⟨⟨Nat.le_of_ble_eq_true rfl, Nat.le_of_ble_eq_true rfl⟩, ?_⟩ | refine ⟨Nat.le_of_ble_eq_true rfl, ?_⟩ | refine ⟨_, _, rfl, ?_⟩ | refine ⟨0, _, rfl, ?_⟩ | refine ⟨1, _, rfl, ?_⟩ | refine ⟨2, _, rfl, ?_⟩ | refine ⟨3, _, rfl, ?_⟩ | refine ⟨4, _, rfl, ?_⟩ | refine ⟨5, _, rfl, ?_⟩ | refine ⟨_, rfl, ?_⟩ | intro _)
    exact AW_ret ⟨.msl b1 0 l.length cap1, _, AVle.refl _, SLe.rfl, b1, cap1, rest1, rfl, hcap1, hcap0, hrest1.trans (Nat.mul_one _), rfl⟩
end Go.Proofs.Ytocbdcgbbdjhlaa

