/-
  Rows in order (printed from the texts of rel by a program of ours). Own work.
-/
import Derived.Test.YtgkjbpnmeeibbaaGreatDoorTab
set_option linter.all false
namespace Go.Proofs.YtgkjbpnmeeibbaaGreatDoor.Rel
open Go.Aw Go.RowKit
set_option maxHeartbeats 4000000
set_option maxRecDepth 4000


structure V where
  sym : Bool
  n : Int
  s : List UInt8
deriving DecidableEq
def encV (v : V) : AV := .agg [.bool v.sym, .int .i64 v.n, .str v.s]
def encR (r : List V) : AV := .sl 3 (r.map encV) .no
def encL (l : List (List V)) : AV := .sl 1 (l.map encR) .no
def cmpI (a b : Int) : Int := if a < b then -1 else if b < a then 1 else 0
def cmpS (a b : List UInt8) : Int := if Op.bytesLess a b = true then -1 else if Op.bytesLess a b = true ∨ a = b then 0 else 1
def cmpV (a b : V) : Int := if a.sym = true ∧ b.sym = true then cmpS a.s b.s else if a.sym = true then 1 else if b.sym = true then -1 else cmpI a.n b.n
def cmpF {α : Type} (cmp : α → α → Int) : List α → List α → Int
  | [], [] => 0
  | [], _ :: _ => -1
  | _ :: _, [] => 1
  | a :: x, b :: y => if cmp a b = 0 then cmpF cmp x y else cmp a b
def cmpR (x y : List V) : Int := cmpF cmpV x y
theorem order_int (a b : Int) (R : List En) : ACall Tryz.prog 118 [.int .i64 a, .int .i64 b] R (fun r S => r = .int .i64 (cmpI a b) ∧ S = R) := by
  refine ACall_body tab_ok Tryz.func118 rfl rfl rfl (by kernel_rfl) (Nat.le_of_ble_eq_true rfl) ?_
  repeat (first | refine go_ ?_ | intro _)
  refine AW_iff (a < b) rfl (by first | (simp; done) | (simp <;> omega) | decide) (fun h => ?_) (fun h => ?_)
  · repeat (first | refine go_ ?_ | intro _)
    refine AW_ret ?_
    repeat refine mk_ ?_
    refine ⟨_, R, AVle.eq ?_, sle_, rfl, rfl⟩
    rw [cmpI, if_pos h]; rfl
  repeat (first | refine go_ ?_ | intro _)
  refine AW_iff (a > b) rfl (by first | (simp; done) | (simp <;> omega) | decide) (fun h => ?_) (fun h => ?_)
  · repeat (first | refine go_ ?_ | intro _)
    refine AW_ret ?_
    repeat refine mk_ ?_
    refine ⟨_, R, AVle.eq ?_, sle_, rfl, rfl⟩
    rw [cmpI, if_neg (by omega), if_pos h]; rfl
  repeat (first | refine go_ ?_ | intro _)
  refine AW_ret ?_
  repeat refine mk_ ?_
  refine ⟨_, R, AVle.eq ?_, sle_, rfl, rfl⟩
  rw [cmpI, if_neg (by omega), if_neg h]; rfl
theorem order_str (a b : List UInt8) (R : List En) : ACall Tryz.prog 117 [.str a, .str b] R (fun r S => r = .int .i64 (cmpS a b) ∧ S = R) := by
  refine ACall_body tab_ok Tryz.func117 rfl rfl rfl (by kernel_rfl) (Nat.le_of_ble_eq_true rfl) ?_
  repeat (first | refine go_ ?_ | intro _)
  refine AW_cond (b := Op.bytesLess a b) rfl (fun h => ?_) (fun h => ?_)
  · repeat (first | refine go_ ?_ | intro _)
    refine AW_ret ?_
    repeat refine mk_ ?_
    refine ⟨_, R, AVle.eq ?_, sle_, rfl, rfl⟩
    rw [cmpS, if_pos h]; rfl
  repeat (first | refine go_ ?_ | intro _)
  refine AW_cond (b := !(Op.bytesLess a b || decide (a = b))) rfl (fun h => ?_) (fun h => ?_)
  · repeat (first | refine go_ ?_ | intro _)
    refine AW_ret ?_
    repeat refine mk_ ?_
    refine ⟨_, R, AVle.eq ?_, sle_, rfl, rfl⟩
    have h' : ¬ (Op.bytesLess a b = true ∨ a = b) := by simpa using h
    rw [cmpS, if_neg (fun e => h' (.inl e)), if_neg h']; rfl
  repeat (first | refine go_ ?_ | intro _)
  refine AW_ret ?_
  repeat refine mk_ ?_
  refine ⟨_, R, AVle.eq ?_, sle_, rfl, rfl⟩
  rename_i h1
  have h' : Op.bytesLess a b = true ∨ a = b := by cases hb : Op.bytesLess a b <;> simp_all
  rw [cmpS, if_neg (by simp [h1]), if_pos h']; rfl
theorem vals_ok (a b : V) (R : List En) : ACall Tryz.prog 93 [encV a, encV b] R (fun r S => r = .int .i64 (cmpV a b) ∧ S = R) := by
  obtain ⟨s, n, t⟩ := a
  obtain ⟨s', n', t'⟩ := b
  refine ACall_body tab_ok Tryz.func93 rfl rfl rfl (by kernel_rfl) (Nat.le_of_ble_eq_true rfl) ?_
  repeat (first | refine go_ ?_ | intro _)
  refine ⟨fun h => ?_, fun h => ?_⟩
  · subst h
    repeat (first | refine go_ ?_ | intro _)
    refine AW_cond (b := s') rfl (fun h => ?_) (fun h => ?_)
    · subst h
      repeat (first | refine go_ ?_ | intro _)
      refine Or.inl ⟨⟨_, Tryz.func117, rfl, rfl⟩, ACall.mono ?_ (order_str _ _ _)⟩
      rintro _ S1 ⟨rfl, hS1⟩
      subst S1
      repeat (first | refine go_ ?_ | intro _)
      refine AW_ret ?_
      repeat refine mk_ ?_
      refine ⟨_, R, AVle.eq ?_, sle_, rfl, rfl⟩
      rfl
    · subst h
      repeat (first | refine go_ ?_ | intro _)
      refine AW_cond (b := true) rfl (fun h => ?_) (fun h => ?_)
      · repeat (first | refine go_ ?_ | intro _)
        refine AW_ret ?_
        repeat refine mk_ ?_
        refine ⟨_, R, AVle.eq ?_, sle_, rfl, rfl⟩
        rfl
      · cases h
  · subst h
    repeat (first | refine go_ ?_ | intro _)
    refine AW_cond (b := false) rfl (fun h => ?_) (fun h => ?_)
    · cases h
    · repeat (first | refine go_ ?_ | intro _)
      refine AW_cond (b := false) rfl (fun h => ?_) (fun h => ?_)
      · cases h
      · repeat (first | refine go_ ?_ | intro _)
        refine AW_cond (b := s') rfl (fun h => ?_) (fun h => ?_)
        · subst h
          repeat (first | refine go_ ?_ | intro _)
          refine AW_ret ?_
          repeat refine mk_ ?_
          refine ⟨_, R, AVle.eq ?_, sle_, rfl, rfl⟩
          rfl
        · subst h
          repeat (first | refine go_ ?_ | intro _)
          refine Or.inl ⟨⟨_, Tryz.func118, rfl, rfl⟩, ACall.mono ?_ (order_int _ _ _)⟩
          rintro _ S1 ⟨rfl, hS1⟩
          subst S1
          repeat (first | refine go_ ?_ | intro _)
          refine AW_ret ?_
          repeat refine mk_ ?_
          refine ⟨_, R, AVle.eq ?_, sle_, rfl, rfl⟩
          rfl
theorem get_drop {α : Type} {x : List α} {i : Nat} (h : i < x.length) : x.drop i = x[i] :: x.drop (i + 1) := (List.getElem_cons_drop h).symm
theorem compareFunc_ok (f : AV) (cmp : V → V → Int) (hf : ∀ a b S k, k (.int .i64 (cmp a b)) S → aCallV Tryz.prog f [encV a, encV b] S k) (x y : List V) (t t' : Tk) (R : List En) :
    ACall Tryz.prog 92 [.sl 3 (x.map encV) t, .sl 3 (y.map encV) t', f] R (fun r S => r = .int .i64 (cmpF cmp x y) ∧ S = R) := by
  refine ACall_sat fun hs => ?_
  have hx : x.length ≤ 9223372036854775807 := by simpa using (hs (.sl 3 (x.map encV) t) (by simp)).sl
  have hy : y.length ≤ 9223372036854775807 := by simpa using (hs (.sl 3 (y.map encV) t') (by simp)).sl
  refine ACall_body tab_ok Tryz.func92 rfl rfl rfl (by kernel_rfl) (Nat.le_of_ble_eq_true rfl) ?_
  repeat (first | refine go_ ?_ | intro _)
  refine AW_for (α := Nat) (fun z => ⟨[(0, .sl 3 (x.map encV) t), (1, .sl 3 (y.map encV) t'), (2, f), (11, .sl 3 (x.map encV) t), (12, .int .i64 (x.length : Nat)), (13, .int .i64 (z : Nat))], []⟩) (fun z => R) (fun z => x.length - z) (fun z => z ≤ x.length ∧ z ≤ y.length ∧ cmpF cmp (x.drop z) (y.drop z) = cmpF cmp x y) (0) ?_ (weak_of ?_ rfl ?_) (fun z hz => ?_)
  · simp
  · repeat (first | exact trivial | refine env_ ?_)
  · repeat (first | exact SLe.rfl | refine SLe.tail ?_ | refine SLe.full ?_)
  obtain ⟨h1, h2, h3⟩ := hz
  repeat (first | refine go_ ?_ | intro _)
  refine AW_iff (z < x.length) rfl (by first | (simp; done) | (simp <;> omega) | decide) (fun h => ?_) (fun h => ?_)
  · repeat (first | refine go_ ?_ | intro _)
    refine ⟨by omega, _, map_get h, ?_⟩
    repeat (first | refine go_ ?_ | intro _)
    refine AW_iff (y.length ≤ z) rfl (by first | (simp; done) | (simp <;> omega) | decide) (fun h => ?_) (fun h => ?_)
    · repeat (first | refine go_ ?_ | intro _)
      refine AW_ret ?_
      repeat refine mk_ ?_
      refine ⟨_, R, AVle.eq ?_, sle_, rfl, rfl⟩
      rw [← h3, get_drop ‹z < x.length›, List.drop_of_length_le h]; rfl
    · repeat (first | refine go_ ?_ | intro _)
      refine ⟨by omega, _, map_get (show z < y.length by omega), ?_⟩
      repeat (first | refine go_ ?_ | intro _)
      refine hf _ _ _ _ ?_
      repeat (first | refine go_ ?_ | intro _)
      refine AW_iff (cmp x[z] (y[z]'(by omega)) ≠ 0) rfl (by first | (simp; done) | (simp <;> omega) | decide) (fun h => ?_) (fun h => ?_)
      · repeat (first | refine go_ ?_ | intro _)
        refine AW_ret ?_
        repeat refine mk_ ?_
        refine ⟨_, R, AVle.eq ?_, sle_, rfl, rfl⟩
        rw [← h3, get_drop ‹z < x.length›, get_drop (show z < y.length by omega), cmpF, if_neg h]; rfl
      · repeat (first | refine go_ ?_ | intro _)
        refine ⟨(z + 1), ?_, ?_, weak_of ?_ rfl ?_⟩
        · omega
        · rw [get_drop ‹z < x.length›, get_drop (show z < y.length by omega), cmpF, if_pos (by simpa using h)] at h3
          exact ⟨by omega, by omega, h3⟩
        · repeat (first | exact trivial | refine env_ ?_)
        · repeat (first | exact SLe.rfl | refine SLe.tail ?_ | refine SLe.full ?_)
  · repeat (first | refine go_ ?_ | intro _)
    refine AW_iff (x.length < y.length) rfl (by first | (simp; done) | (simp <;> omega) | decide) (fun h => ?_) (fun h => ?_)
    · repeat (first | refine go_ ?_ | intro _)
      refine AW_ret ?_
      repeat refine mk_ ?_
      refine ⟨_, R, AVle.eq ?_, sle_, rfl, rfl⟩
      rw [← h3, List.drop_of_length_le (show x.length ≤ z by omega), get_drop (show z < y.length by omega)]; rfl
    · repeat (first | refine go_ ?_ | intro _)
      refine AW_ret ?_
      repeat refine mk_ ?_
      refine ⟨_, R, AVle.eq ?_, sle_, rfl, rfl⟩
      rw [← h3, List.drop_of_length_le (show x.length ≤ z by omega), List.drop_of_length_le (show y.length ≤ z by omega)]; rfl

theorem vals_call (a b : V) (S : List En) (k : AV → List En → Prop) (h : k (.int .i64 (cmpV a b)) S) : aCallV Tryz.prog (.fn (.func 93) [] []) [encV a, encV b] S k := by
  refine Or.inl ⟨⟨_, Tryz.func93, rfl, rfl⟩, ACall.mono ?_ (vals_ok a b S)⟩
  rintro _ S1 ⟨rfl, hS1⟩
  subst S1
  exact h
theorem compare_ok (x y : List V) (t t' : Tk) (R : List En) :
    ACall Tryz.prog 61 [.sl 3 (x.map encV) t, .sl 3 (y.map encV) t'] R (fun r S => r = .int .i64 (cmpR x y) ∧ S = R) := by
  refine ACall_body tab_ok Tryz.func61 rfl rfl rfl (by kernel_rfl) (Nat.le_of_ble_eq_true rfl) ?_
  repeat (first | refine go_ ?_ | intro _)
  refine Or.inl ⟨⟨_, Tryz.func92, rfl, rfl⟩, ACall.mono ?_ (compareFunc_ok (.fn (.func 93) [] []) cmpV (fun a b S k h => vals_call a b S k h) x y t t' _)⟩
  rintro _ S1 ⟨rfl, hS1⟩
  subst S1
  repeat (first | refine go_ ?_ | intro _)
  refine AW_ret ?_
  repeat refine mk_ ?_
  refine ⟨_, R, AVle.eq ?_, sle_, rfl, rfl⟩
  rfl
theorem compare_call (x y : List V) (t t' : Tk) (S : List En) (k : AV → List En → Prop) (h : k (.int .i64 (cmpR x y)) S) : aCallV Tryz.prog (.fn (.func 61) [] []) [.sl 3 (x.map encV) t, .sl 3 (y.map encV) t'] S k := by
  refine Or.inl ⟨⟨_, Tryz.func61, rfl, rfl⟩, ACall.mono ?_ (compare_ok x y t t' S)⟩
  rintro _ S1 ⟨rfl, hS1⟩
  subst S1
  exact h
theorem clone_row (x : List V) (t : Tk) (R : List En) (hx : x.length ≤ 16777216) : ACall Tryz.prog 94 [.sl 3 (x.map encV) t] R (fun r S => r = encR x ∧ S = R) := by
  refine ACall_body tab_ok Tryz.func94 rfl rfl rfl (by kernel_rfl) (Nat.le_of_ble_eq_true rfl) ?_
  repeat (first | refine go_ ?_ | intro _)
  rename_i b hb
  refine AW_cond (b := b) rfl (fun h => ?_) (fun h => ?_)
  · repeat (first | refine go_ ?_ | intro _)
    refine AW_ret ?_
    repeat refine mk_ ?_
    refine ⟨_, R, ?_, sle_, rfl, rfl⟩
    have : x = [] := by cases x with
      | nil => rfl
      | cons a x => rw [hb (by simp)] at h; cases h
    subst this
    exact AVle.nil
  · repeat (first | refine go_ ?_ | intro _)
    refine ⟨room (by first | omega | (simp; done) | (simp; omega) | (simp at *; done) | (simp at *; omega)) rfl, .inl rfl, .inl ⟨rfl, .inl rfl, _, rfl, fun t1 => ?_⟩⟩
    repeat (first | refine go_ ?_ | intro _)
    refine AW_ret ?_
    repeat refine mk_ ?_
    refine ⟨_, R, ?_, sle_, rfl, rfl⟩
    exact AVle.tk
/-- rows rise -/
def riseB : List (List V) → Bool
  | a :: b :: r => decide (cmpR a b < 0) && riseB (b :: r)
  | _ => true
theorem rise_ok (l : List (List V)) (t : Tk) (R : List En) : ACall Tryz.prog 40 [.sl 1 (l.map encR) t] R (fun r S => r = .bool (riseB l) ∧ S = R) := by
  refine ACall_sat fun hs => ?_
  have hx : l.length ≤ 9223372036854775807 := by simpa using (hs (.sl 1 (l.map encR) t) (by simp)).sl
  refine ACall_body tab_ok Tryz.func40 rfl rfl rfl (by kernel_rfl) (Nat.le_of_ble_eq_true rfl) ?_
  repeat (first | refine go_ ?_ | intro _)
  refine AW_for (α := Nat) (fun z => ⟨[(0, .sl 1 (l.map encR) t), (3, .int .i64 ((z + 1 : Nat) : Int))], []⟩) (fun z => R) (fun z => l.length - z) (fun z => riseB (l.drop z) = riseB l) (0) ?_ (weak_of ?_ rfl ?_) (fun z hz => ?_)
  · simp
  · repeat (first | exact trivial | refine env_ ?_)
  · repeat (first | exact SLe.rfl | refine SLe.tail ?_ | refine SLe.full ?_)
  repeat (first | refine go_ ?_ | intro _)
  refine AW_iff (z + 1 < l.length) rfl (by first | (simp; done) | (simp <;> omega) | decide) (fun h => ?_) (fun h => ?_)
  · repeat (first | refine go_ ?_ | intro _)
    refine AW_draw tab_ok mixed 11 (by first | rfl | kernel_rfl) ?_
    repeat (first | refine go_ ?_ | intro _)
    refine at_map (z) (by first | rfl | omega | (rw [wrap_i64 (by omega)]; omega)) (by first | assumption | omega) ?_
    repeat (first | refine go_ ?_ | intro _)
    refine at_map (z + 1) (by first | rfl | omega | (rw [wrap_i64 (by omega)]; omega)) (by first | assumption | omega) ?_
    repeat (first | refine go_ ?_ | intro _)
    apply call_step
    · rfl
    · exact Or.inl ⟨⟨_, Tryz.func61, rfl, rfl⟩, compare_ok _ _ _ _ _⟩
    repeat (first | refine go_ ?_ | intro _)
    refine AW_iff (0 ≤ cmpR (l[z]'(by omega)) (l[z+1]'h)) rfl (by first | (simp; done) | (simp <;> omega) | decide) (fun h => ?_) (fun h => ?_)
    · repeat (first | refine go_ ?_ | intro _)
      refine AW_ret ?_
      repeat refine mk_ ?_
      refine ⟨_, R, AVle.eq ?_, sle_, rfl, rfl⟩
      show AV.bool false = _
      rw [← hz, get_drop (show z < l.length by omega), get_drop (show z + 1 < l.length by omega), riseB, decide_eq_false (by omega)]
      rfl
    · repeat (first | refine go_ ?_ | intro _)
      refine ⟨(z + 1), ?_, ?_, weak_of ?_ rfl ?_⟩
      · omega
      · rw [← hz, get_drop (show z < l.length by omega), get_drop (show z + 1 < l.length by omega), riseB, decide_eq_true (by omega), Bool.true_and]
      · repeat (first | exact trivial | refine env_ ?_)
      · repeat (first | exact SLe.rfl | refine SLe.tail ?_ | refine SLe.full ?_)
  · repeat (first | refine go_ ?_ | intro _)
    refine AW_ret ?_
    repeat refine mk_ ?_
    refine ⟨_, R, AVle.eq ?_, sle_, rfl, rfl⟩
    show AV.bool true = _
    rw [← hz]
    rcases Nat.lt_or_ge z l.length with h5 | h5
    · rw [get_drop h5, List.drop_of_length_le (by omega)]; rfl
    · rw [List.drop_of_length_le (by omega)]; rfl
theorem eqk_val : EqK Tryz.prog 47 [.bool, .int .i64, .str] := ⟨⟨by kernel_rfl, by kernel_rfl, by kernel_rfl, by kernel_rfl⟩, by kernel_rfl⟩
theorem eqV (a b : V) : ((a.sym == b.sym) && (decide (a.n = b.n) && (decide (a.s = b.s) && true))) = decide (a = b) := by
  obtain ⟨x, y, z⟩ := a
  obtain ⟨x', y', z'⟩ := b
  rw [Bool.eq_iff_iff]; simp
theorem flat_rows (l : List (List V)) : flat (l.map encR) = l.map encR := one_flat (by simp [encR, AV.one])
theorem sat_row {l : List (List V)} {t : Tk} (h : Sat (.sl 1 (l.map encR) t)) {r : List V} (hr : r ∈ l) : r.length ≤ 9223372036854775807 := by
  have := (h.flat (c := encR r) (by rw [flat_rows]; exact List.mem_map_of_mem hr)).sl
  simpa using this
theorem same_ok (a b : List (List V)) (t t' : Tk) (R : List En) : ACall Tryz.prog 34 [.sl 1 (a.map encR) t, .sl 1 (b.map encR) t'] R (fun r S => r = .bool (decide (a = b)) ∧ S = R) := by
  refine ACall_sat fun hs => ?_
  have ha : a.length ≤ 9223372036854775807 := by simpa using (hs (.sl 1 (a.map encR) t) (by simp)).sl
  have hb : b.length ≤ 9223372036854775807 := by simpa using (hs (.sl 1 (b.map encR) t') (by simp)).sl
  refine ACall_body tab_ok Tryz.func34 rfl rfl rfl (by kernel_rfl) (Nat.le_of_ble_eq_true rfl) ?_
  repeat (first | refine go_ ?_ | intro _)
  refine AW_iff (a.length ≠ b.length) rfl (by first | (simp; done) | (simp <;> omega) | decide) (fun h => ?_) (fun h => ?_)
  · repeat (first | refine go_ ?_ | intro _)
    refine AW_ret ?_
    repeat refine mk_ ?_
    refine ⟨_, R, AVle.eq ?_, sle_, rfl, rfl⟩
    show AV.bool false = _
    rw [decide_eq_false (by intro e; rw [e] at h; exact h rfl : ¬ a = b)]
  repeat (first | refine go_ ?_ | intro _)
  refine AW_for (α := Nat) (fun z => ⟨[(0, .sl 1 (a.map encR) t), (1, .sl 1 (b.map encR) t'), (5, .int .i64 (z : Nat))], []⟩) (fun z => R) (fun z => a.length - z) (fun z => a.take z = b.take z) (0) ?_ (weak_of ?_ rfl ?_) (fun z hz => ?_)
  · simp
  · repeat (first | exact trivial | refine env_ ?_)
  · repeat (first | exact SLe.rfl | refine SLe.tail ?_ | refine SLe.full ?_)
  revert hz
  revert z
  intro i hi0
  repeat (first | refine go_ ?_ | intro _)
  refine AW_iff (i < a.length) rfl (by first | (simp; done) | (simp <;> omega) | decide) (fun h => ?_) (fun h => ?_)
  · repeat (first | refine go_ ?_ | intro _)
    have hi := h
    refine AW_draw tab_ok mixed 11 (by first | rfl | kernel_rfl) ?_
    repeat (first | refine go_ ?_ | intro _)
    refine at_map (i) (by first | rfl | omega | (rw [wrap_i64 (by omega)]; omega)) (by first | assumption | omega) ?_
    repeat (first | refine go_ ?_ | intro _)
    refine at_map (i) (by first | rfl | omega | (rw [wrap_i64 (by omega)]; omega)) (by first | assumption | omega) ?_
    repeat (first | refine go_ ?_ | intro _)
    refine AW_iff ((a[i]'hi).length ≠ (b[i]'(by omega)).length) rfl (by first | (simp; done) | (simp <;> omega) | decide) (fun h => ?_) (fun h => ?_)
    · repeat (first | refine go_ ?_ | intro _)
      refine AW_ret ?_
      repeat refine mk_ ?_
      refine ⟨_, R, AVle.eq ?_, sle_, rfl, rfl⟩
      show AV.bool false = _
      have : ¬ a = b := by intro e; subst e; exact h rfl
      rw [decide_eq_false this]
    repeat (first | refine go_ ?_ | intro _)
    refine AW_for (α := Nat) (fun z => ⟨[(0, .sl 1 (a.map encR) t), (1, .sl 1 (b.map encR) t'), (5, .int .i64 (i : Nat)), (6, .int .i64 (z : Nat))], []⟩) (fun z => R) (fun z => (a[i]'hi).length - z) (fun z => (a[i]'hi).take z = (b[i]'(by omega)).take z) (0) ?_ (weak_of ?_ rfl ?_) (fun z hz => ?_)
    · simp
    · repeat (first | exact trivial | refine env_ ?_)
    · repeat (first | exact SLe.rfl | refine SLe.tail ?_ | refine SLe.full ?_)
    repeat (first | refine go_ ?_ | intro _)
    refine at_map (i) (by first | rfl | omega | (rw [wrap_i64 (by omega)]; omega)) (by first | assumption | omega) ?_
    repeat (first | refine go_ ?_ | intro _)
    refine AW_iff (z < (a[i]'hi).length) rfl (by first | (simp; done) | (simp <;> omega) | decide) (fun h => ?_) (fun h => ?_)
    · repeat (first | refine go_ ?_ | intro _)
      refine AW_draw tab_ok mixed 15 (by first | rfl | kernel_rfl) ?_
      repeat (first | refine go_ ?_ | intro _)
      refine at_map (i) (by first | rfl | omega | (rw [wrap_i64 (by omega)]; omega)) (by first | assumption | omega) ?_
      repeat (first | refine go_ ?_ | intro _)
      refine at_map (z) (by first | rfl | omega | (rw [wrap_i64 (by omega)]; omega)) (by first | assumption | omega) ?_
      repeat (first | refine go_ ?_ | intro _)
      refine at_map (i) (by first | rfl | omega | (rw [wrap_i64 (by omega)]; omega)) (by first | assumption | omega) ?_
      repeat (first | refine go_ ?_ | intro _)
      refine at_map (z) (by first | rfl | omega | (rw [wrap_i64 (by omega)]; omega)) (by first | assumption | omega) ?_
      repeat (first | refine go_ ?_ | intro _)
      refine ⟨⟨_, eqk_val, rfl⟩, decide ((a[i]'hi)[z]'h = (b[i]'(by omega))[z]'(by omega)), congrArg some (eqV _ _), ?_⟩
      repeat (first | refine go_ ?_ | intro _)
      have hrow := sat_row (hs (.sl 1 (a.map encR) t) (by simp)) (List.getElem_mem hi)
      refine AW_ifn ((a[i]'hi)[z]'h = (b[i]'(by omega))[z]'(by omega)) rfl (fun h => ?_) (fun h => ?_)
      · repeat (first | refine go_ ?_ | intro _)
        refine AW_ret ?_
        repeat refine mk_ ?_
        refine ⟨_, R, AVle.eq ?_, sle_, rfl, rfl⟩
        show AV.bool false = _
        have : ¬ a = b := by intro e; subst e; exact h rfl
        rw [decide_eq_false this]
      · repeat (first | refine go_ ?_ | intro _)
        refine ⟨(z + 1), ?_, ?_, weak_of ?_ rfl ?_⟩
        · omega
        · rw [List.take_add_one, List.take_add_one, hz, List.getElem?_eq_getElem ‹z < (a[i]'hi).length›, List.getElem?_eq_getElem (show z < (b[i]'(by omega)).length by omega), h]
        · repeat (first | exact trivial | refine env_ ?_)
        · repeat (first | exact SLe.rfl | refine SLe.tail ?_ | refine SLe.full ?_)
    · repeat (first | refine go_ ?_ | intro _)
      refine ⟨(i + 1), ?_, ?_, weak_of ?_ rfl ?_⟩
      · omega
      · have e : a[i]'hi = b[i]'(by omega) := by
          rw [List.take_of_length_le (by omega), List.take_of_length_le (by omega)] at hz; exact hz
        rw [List.take_add_one, List.take_add_one, hi0, List.getElem?_eq_getElem hi, List.getElem?_eq_getElem (show i < b.length by omega), e]
      · repeat (first | exact trivial | refine env_ ?_)
      · repeat (first | exact SLe.rfl | refine SLe.tail ?_ | refine SLe.full ?_)
  · repeat (first | refine go_ ?_ | intro _)
    refine AW_ret ?_
    repeat refine mk_ ?_
    refine ⟨_, R, AVle.eq ?_, sle_, rfl, rfl⟩
    show AV.bool true = _
    have e : a = b := by
      rw [List.take_of_length_le (by omega), List.take_of_length_le (by omega)] at hi0; exact hi0
    rw [decide_eq_true e]

def txt : List UInt8 → List UInt8 → Int
  | [], [] => 0
  | [], _ :: _ => -1
  | _ :: _, [] => 1
  | a :: x, b :: y => if a.toNat < b.toNat then -1 else if b.toNat < a.toNat then 1 else txt x y
theorem texts_ok (x y : List UInt8) (R : List En) : ACall Tryz.prog 142 [.str x, .str y] R (fun r S => r = .int .i64 (txt x y) ∧ S = R) := by
  refine ACall_sat fun hs => ?_
  have hx := (hs (.str x) (by simp)).str
  have hy := (hs (.str y) (by simp)).str
  refine ACall_body tab_ok Tryz.func142 rfl rfl rfl (by kernel_rfl) (Nat.le_of_ble_eq_true rfl) ?_
  repeat (first | refine go_ ?_ | intro _)
  refine AW_for (α := Nat) (fun z => ⟨[(0, .str x), (1, .str y), (5, .int .i64 (z : Nat))], []⟩) (fun z => R) (fun z => x.length - z) (fun z => z ≤ x.length ∧ z ≤ y.length ∧ txt (x.drop z) (y.drop z) = txt x y) (0) ?_ (weak_of ?_ rfl ?_) (fun z hz => ?_)
  · simp
  · repeat (first | exact trivial | refine env_ ?_)
  · repeat (first | exact SLe.rfl | refine SLe.tail ?_ | refine SLe.full ?_)
  obtain ⟨h1, h2, h3⟩ := hz
  repeat (first | refine go_ ?_ | intro _)
  refine gsplit (z < x.length) (by first | (simp; done) | (simp <;> omega) | decide) (fun h => ?_) (fun h => ?_)
  · repeat (first | refine go_ ?_ | intro _)
    refine AW_iff (z < y.length) rfl (by first | (simp; done) | (simp <;> omega) | decide) (fun h => ?_) (fun h => ?_)
    · repeat (first | refine go_ ?_ | intro _)
      refine AW_draw tab_ok mixed 7 (by first | rfl | kernel_rfl) ?_
      repeat (first | refine go_ ?_ | intro _)
      refine at_list (z) (by first | rfl | omega | (rw [wrap_i64 (by omega)]; omega)) (by first | assumption | omega) ?_
      repeat (first | refine go_ ?_ | intro _)
      refine at_list (z) (by first | rfl | omega | (rw [wrap_i64 (by omega)]; omega)) (by first | assumption | omega) ?_
      repeat (first | refine go_ ?_ | intro _)
      refine AW_iff ((x[z]'(by omega)).toNat < (y[z]'(by omega)).toNat) rfl (by first | (simp; done) | (simp <;> omega) | decide) (fun h => ?_) (fun h => ?_)
      · repeat (first | refine go_ ?_ | intro _)
        refine AW_ret ?_
        repeat refine mk_ ?_
        refine ⟨_, R, AVle.eq ?_, sle_, rfl, rfl⟩
        show AV.int .i64 (-1) = _
        rw [← h3, get_drop (show z < x.length by omega), get_drop (show z < y.length by omega), txt, if_pos h]
      · repeat (first | refine go_ ?_ | intro _)
        refine AW_draw tab_ok mixed 7 (by first | rfl | kernel_rfl) ?_
        repeat (first | refine go_ ?_ | intro _)
        refine at_list (z) (by first | rfl | omega | (rw [wrap_i64 (by omega)]; omega)) (by first | assumption | omega) ?_
        repeat (first | refine go_ ?_ | intro _)
        refine at_list (z) (by first | rfl | omega | (rw [wrap_i64 (by omega)]; omega)) (by first | assumption | omega) ?_
        repeat (first | refine go_ ?_ | intro _)
        refine AW_iff ((y[z]'(by omega)).toNat < (x[z]'(by omega)).toNat) rfl (by first | (simp; done) | (simp <;> omega) | decide) (fun h => ?_) (fun h => ?_)
        · repeat (first | refine go_ ?_ | intro _)
          refine AW_ret ?_
          repeat refine mk_ ?_
          refine ⟨_, R, AVle.eq ?_, sle_, rfl, rfl⟩
          show AV.int .i64 1 = _
          rw [← h3, get_drop (show z < x.length by omega), get_drop (show z < y.length by omega), txt, if_neg (by assumption), if_pos h]
        · repeat (first | refine go_ ?_ | intro _)
          refine ⟨(z + 1), ?_, ?_, weak_of ?_ rfl ?_⟩
          · omega
          · refine ⟨by omega, by omega, ?_⟩
            rw [← h3, get_drop (show z < x.length by omega), get_drop (show z < y.length by omega), txt, if_neg (by assumption), if_neg h]
          · repeat (first | exact trivial | refine env_ ?_)
          · repeat (first | exact SLe.rfl | refine SLe.tail ?_ | refine SLe.full ?_)
    · repeat (first | refine go_ ?_ | intro _)
      refine AW_iff (x.length < y.length) rfl (by first | (simp; done) | (simp <;> omega) | decide) (fun h => ?_) (fun h => ?_)
      · omega
      · repeat (first | refine go_ ?_ | intro _)
        refine AW_iff (y.length < x.length) rfl (by first | (simp; done) | (simp <;> omega) | decide) (fun h => ?_) (fun h => ?_)
        · repeat (first | refine go_ ?_ | intro _)
          refine AW_ret ?_
          repeat refine mk_ ?_
          refine ⟨_, R, AVle.eq ?_, sle_, rfl, rfl⟩
          show AV.int .i64 1 = _
          rw [← h3, get_drop (show z < x.length by omega), List.drop_of_length_le (show y.length ≤ z by omega)]; rfl
        · omega
  · repeat (first | refine go_ ?_ | intro _)
    refine AW_cond (b := false) rfl (fun h => ?_) (fun h => ?_)
    · cases h
    repeat (first | refine go_ ?_ | intro _)
    refine AW_iff (x.length < y.length) rfl (by first | (simp; done) | (simp <;> omega) | decide) (fun h => ?_) (fun h => ?_)
    · repeat (first | refine go_ ?_ | intro _)
      refine AW_ret ?_
      repeat refine mk_ ?_
      refine ⟨_, R, AVle.eq ?_, sle_, rfl, rfl⟩
      show AV.int .i64 (-1) = _
      rw [← h3, List.drop_of_length_le (show x.length ≤ z by omega), get_drop (show z < y.length by omega)]; rfl
    · repeat (first | refine go_ ?_ | intro _)
      refine AW_iff (y.length < x.length) rfl (by first | (simp; done) | (simp <;> omega) | decide) (fun h => ?_) (fun h => ?_)
      · omega
      · repeat (first | refine go_ ?_ | intro _)
        refine AW_ret ?_
        repeat refine mk_ ?_
        refine ⟨_, R, AVle.eq ?_, sle_, rfl, rfl⟩
        show AV.int .i64 0 = _
        rw [← h3, List.drop_of_length_le (show x.length ≤ z by omega), List.drop_of_length_le (show y.length ≤ z by omega)]; rfl
theorem txt_cmpS (x y : List UInt8) : txt x y = cmpS x y := by
  induction x generalizing y with
  | nil => cases y <;> simp [txt, cmpS, Op.bytesLess]
  | cons a x ih =>
    cases y with
    | nil => simp [txt, cmpS, Op.bytesLess]
    | cons b y =>
      simp only [txt, cmpS, Op.bytesLess]
      by_cases h1 : a.toNat < b.toNat
      · have : a < b := UInt8.lt_iff_toNat_lt.2 h1
        simp [h1, this]
      · have h1' : ¬ a < b := fun h => h1 (UInt8.lt_iff_toNat_lt.1 h)
        by_cases h2 : b.toNat < a.toNat
        · have h3 : ¬ a = b := by intro e; subst e; omega
          simp [h1, h2, h1', h3]
        · have h3 : a = b := by apply UInt8.toNat_inj.1; omega
          subst h3
          have := ih y
          simp only [cmpS] at this
          simp [h1', this]
theorem refVals_ok (a b : V) (R : List En) : ACall Tryz.prog 125 [encV a, encV b] R (fun r S => r = .int .i64 (cmpV a b) ∧ S = R) := by
  obtain ⟨s, n, t⟩ := a
  obtain ⟨s', n', t'⟩ := b
  refine ACall_body tab_ok Tryz.func125 rfl rfl rfl (by kernel_rfl) (Nat.le_of_ble_eq_true rfl) ?_
  repeat (first | refine go_ ?_ | intro _)
  cases s <;> cases s'
  · refine AW_cond (b := false) rfl (fun h => ?_) (fun h => ?_)
    · cases h
    repeat (first | refine go_ ?_ | intro _)
    refine AW_cond (b := false) rfl (fun h => ?_) (fun h => ?_)
    · cases h
    repeat (first | refine go_ ?_ | intro _)
    refine AW_iff (n < n') rfl (by first | (simp; done) | (simp <;> omega) | decide) (fun h => ?_) (fun h => ?_)
    · repeat (first | refine go_ ?_ | intro _)
      refine AW_ret ?_
      repeat refine mk_ ?_
      refine ⟨_, R, AVle.eq ?_, sle_, rfl, rfl⟩
      show AV.int .i64 (-1) = _
      simp [cmpV, cmpI, h]
    · repeat (first | refine go_ ?_ | intro _)
      refine AW_iff (n' < n) rfl (by first | (simp; done) | (simp <;> omega) | decide) (fun h => ?_) (fun h => ?_)
      · repeat (first | refine go_ ?_ | intro _)
        refine AW_ret ?_
        repeat refine mk_ ?_
        refine ⟨_, R, AVle.eq ?_, sle_, rfl, rfl⟩
        show AV.int .i64 1 = _
        have h2 : ¬ n < n' := by omega
        simp [cmpV, cmpI, h, h2]
      · repeat (first | refine go_ ?_ | intro _)
        refine AW_ret ?_
        repeat refine mk_ ?_
        refine ⟨_, R, AVle.eq ?_, sle_, rfl, rfl⟩
        show AV.int .i64 0 = _
        have h2 : ¬ n < n' := by omega
        simp [cmpV, cmpI, h, h2]
  · refine AW_cond (b := true) rfl (fun h => ?_) (fun h => ?_)
    · repeat (first | refine go_ ?_ | intro _)
      refine AW_cond (b := true) rfl (fun h => ?_) (fun h => ?_)
      · repeat (first | refine go_ ?_ | intro _)
        refine AW_ret ?_
        repeat refine mk_ ?_
        refine ⟨_, R, AVle.eq ?_, sle_, rfl, rfl⟩
        show AV.int .i64 (-1) = _
        simp [cmpV]
      · cases h
    · cases h
  · refine AW_cond (b := true) rfl (fun h => ?_) (fun h => ?_)
    · repeat (first | refine go_ ?_ | intro _)
      refine AW_cond (b := false) rfl (fun h => ?_) (fun h => ?_)
      · cases h
      · repeat (first | refine go_ ?_ | intro _)
        refine AW_ret ?_
        repeat refine mk_ ?_
        refine ⟨_, R, AVle.eq ?_, sle_, rfl, rfl⟩
        show AV.int .i64 1 = _
        simp [cmpV]
    · cases h
  · refine AW_cond (b := false) rfl (fun h => ?_) (fun h => ?_)
    · cases h
    repeat (first | refine go_ ?_ | intro _)
    refine AW_cond (b := true) rfl (fun h => ?_) (fun h => ?_)
    · repeat (first | refine go_ ?_ | intro _)
      refine Or.inl ⟨⟨_, Tryz.func142, rfl, rfl⟩, ACall.mono ?_ (texts_ok _ _ _)⟩
      rintro _ S1 ⟨rfl, hS1⟩
      subst S1
      repeat (first | refine go_ ?_ | intro _)
      refine AW_ret ?_
      repeat refine mk_ ?_
      refine ⟨_, R, AVle.eq ?_, sle_, rfl, rfl⟩
      show AV.int .i64 (txt t t') = _
      simp [cmpV, txt_cmpS]
    · cases h
theorem refCompare_ok (x y : List V) (t t' : Tk) (R : List En) :
    ACall Tryz.prog 101 [.sl 3 (x.map encV) t, .sl 3 (y.map encV) t'] R (fun r S => r = .int .i64 (cmpR x y) ∧ S = R) := by
  refine ACall_sat fun hs => ?_
  have hx : x.length ≤ 9223372036854775807 := by simpa using (hs (.sl 3 (x.map encV) t) (by simp)).sl
  have hy : y.length ≤ 9223372036854775807 := by simpa using (hs (.sl 3 (y.map encV) t') (by simp)).sl
  refine ACall_body tab_ok Tryz.func101 rfl rfl rfl (by kernel_rfl) (Nat.le_of_ble_eq_true rfl) ?_
  repeat (first | refine go_ ?_ | intro _)
  refine AW_for (α := Nat) (fun z => ⟨[(0, .sl 3 (x.map encV) t), (1, .sl 3 (y.map encV) t'), (5, .int .i64 (z : Nat))], []⟩) (fun z => R) (fun z => x.length - z) (fun z => z ≤ x.length ∧ z ≤ y.length ∧ cmpR (x.drop z) (y.drop z) = cmpR x y) (0) ?_ (weak_of ?_ rfl ?_) (fun z hz => ?_)
  · simp
  · repeat (first | exact trivial | refine env_ ?_)
  · repeat (first | exact SLe.rfl | refine SLe.tail ?_ | refine SLe.full ?_)
  obtain ⟨h1, h2, h3⟩ := hz
  repeat (first | refine go_ ?_ | intro _)
  refine gsplit (z < x.length) (by first | (simp; done) | (simp <;> omega) | decide) (fun h => ?_) (fun h => ?_)
  · repeat (first | refine go_ ?_ | intro _)
    refine AW_iff (z < y.length) rfl (by first | (simp; done) | (simp <;> omega) | decide) (fun h => ?_) (fun h => ?_)
    · repeat (first | refine go_ ?_ | intro _)
      refine AW_draw tab_ok mixed 10 (by first | rfl | kernel_rfl) ?_
      repeat (first | refine go_ ?_ | intro _)
      refine at_map (z) (by first | rfl | omega | (rw [wrap_i64 (by omega)]; omega)) (by first | assumption | omega) ?_
      repeat (first | refine go_ ?_ | intro _)
      refine at_map (z) (by first | rfl | omega | (rw [wrap_i64 (by omega)]; omega)) (by first | assumption | omega) ?_
      repeat (first | refine go_ ?_ | intro _)
      apply call_step
      · rfl
      · exact Or.inl ⟨⟨_, Tryz.func125, rfl, rfl⟩, refVals_ok _ _ _⟩
      repeat (first | refine go_ ?_ | intro _)
      refine AW_ifn (cmpV (x[z]'(by omega)) (y[z]'(by omega)) = 0) rfl (fun h => ?_) (fun h => ?_)
      · repeat (first | refine go_ ?_ | intro _)
        refine AW_ret ?_
        repeat refine mk_ ?_
        refine ⟨_, R, AVle.eq ?_, sle_, rfl, rfl⟩
        show AV.int .i64 (cmpV (x[z]'(by omega)) (y[z]'(by omega))) = _
        rw [← h3, get_drop (show z < x.length by omega), get_drop (show z < y.length by omega), cmpR, cmpF, if_neg h]
      · repeat (first | refine go_ ?_ | intro _)
        refine ⟨(z + 1), ?_, ?_, weak_of ?_ rfl ?_⟩
        · omega
        · refine ⟨by omega, by omega, ?_⟩
          rw [← h3, get_drop (show z < x.length by omega), get_drop (show z < y.length by omega), cmpR, cmpR, cmpF, if_pos h]
        · repeat (first | exact trivial | refine env_ ?_)
        · repeat (first | exact SLe.rfl | refine SLe.tail ?_ | refine SLe.full ?_)
    · repeat (first | refine go_ ?_ | intro _)
      refine AW_iff (x.length < y.length) rfl (by first | (simp; done) | (simp <;> omega) | decide) (fun h => ?_) (fun h => ?_)
      · omega
      · repeat (first | refine go_ ?_ | intro _)
        refine AW_iff (y.length < x.length) rfl (by first | (simp; done) | (simp <;> omega) | decide) (fun h => ?_) (fun h => ?_)
        · repeat (first | refine go_ ?_ | intro _)
          refine AW_ret ?_
          repeat refine mk_ ?_
          refine ⟨_, R, AVle.eq ?_, sle_, rfl, rfl⟩
          show AV.int .i64 1 = _
          rw [← h3, get_drop (show z < x.length by omega), List.drop_of_length_le (show y.length ≤ z by omega)]; rfl
        · omega
  · repeat (first | refine go_ ?_ | intro _)
    refine AW_cond (b := false) rfl (fun h => ?_) (fun h => ?_)
    · cases h
    repeat (first | refine go_ ?_ | intro _)
    refine AW_iff (x.length < y.length) rfl (by first | (simp; done) | (simp <;> omega) | decide) (fun h => ?_) (fun h => ?_)
    · repeat (first | refine go_ ?_ | intro _)
      refine AW_ret ?_
      repeat refine mk_ ?_
      refine ⟨_, R, AVle.eq ?_, sle_, rfl, rfl⟩
      show AV.int .i64 (-1) = _
      rw [← h3, List.drop_of_length_le (show x.length ≤ z by omega), get_drop (show z < y.length by omega)]; rfl
    · repeat (first | refine go_ ?_ | intro _)
      refine AW_iff (y.length < x.length) rfl (by first | (simp; done) | (simp <;> omega) | decide) (fun h => ?_) (fun h => ?_)
      · omega
      · repeat (first | refine go_ ?_ | intro _)
        refine AW_ret ?_
        repeat refine mk_ ?_
        refine ⟨_, R, AVle.eq ?_, sle_, rfl, rfl⟩
        show AV.int .i64 0 = _
        rw [← h3, List.drop_of_length_le (show x.length ≤ z by omega), List.drop_of_length_le (show y.length ≤ z by omega)]; rfl
theorem refRise_ok (l : List (List V)) (t : Tk) (R : List En) : ACall Tryz.prog 73 [.sl 1 (l.map encR) t] R (fun r S => r = .bool (riseB l) ∧ S = R) := by
  refine ACall_sat fun hs => ?_
  have hx : l.length ≤ 9223372036854775807 := by simpa using (hs (.sl 1 (l.map encR) t) (by simp)).sl
  refine ACall_body tab_ok Tryz.func73 rfl rfl rfl (by kernel_rfl) (Nat.le_of_ble_eq_true rfl) ?_
  repeat (first | refine go_ ?_ | intro _)
  refine AW_for (α := Nat) (fun z => ⟨[(0, .sl 1 (l.map encR) t), (3, .int .i64 ((z + 1 : Nat) : Int))], []⟩) (fun z => R) (fun z => l.length - z) (fun z => riseB (l.drop z) = riseB l) (0) ?_ (weak_of ?_ rfl ?_) (fun z hz => ?_)
  · simp
  · repeat (first | exact trivial | refine env_ ?_)
  · repeat (first | exact SLe.rfl | refine SLe.tail ?_ | refine SLe.full ?_)
  repeat (first | refine go_ ?_ | intro _)
  refine AW_iff (z + 1 < l.length) rfl (by first | (simp; done) | (simp <;> omega) | decide) (fun h => ?_) (fun h => ?_)
  · repeat (first | refine go_ ?_ | intro _)
    refine AW_draw tab_ok mixed 11 (by first | rfl | kernel_rfl) ?_
    repeat (first | refine go_ ?_ | intro _)
    refine at_map (z) (by first | rfl | omega | (rw [wrap_i64 (by omega)]; omega)) (by first | assumption | omega) ?_
    repeat (first | refine go_ ?_ | intro _)
    refine at_map (z + 1) (by first | rfl | omega | (rw [wrap_i64 (by omega)]; omega)) (by first | assumption | omega) ?_
    repeat (first | refine go_ ?_ | intro _)
    apply call_step
    · rfl
    · exact Or.inl ⟨⟨_, Tryz.func101, rfl, rfl⟩, refCompare_ok _ _ _ _ _⟩
    repeat (first | refine go_ ?_ | intro _)
    refine AW_iff (0 ≤ cmpR (l[z]'(by omega)) (l[z+1]'h)) rfl (by first | (simp; done) | (simp <;> omega) | decide) (fun h => ?_) (fun h => ?_)
    · repeat (first | refine go_ ?_ | intro _)
      refine AW_ret ?_
      repeat refine mk_ ?_
      refine ⟨_, R, AVle.eq ?_, sle_, rfl, rfl⟩
      show AV.bool false = _
      rw [← hz, get_drop (show z < l.length by omega), get_drop (show z + 1 < l.length by omega), riseB, decide_eq_false (by omega)]
      rfl
    · repeat (first | refine go_ ?_ | intro _)
      refine ⟨(z + 1), ?_, ?_, weak_of ?_ rfl ?_⟩
      · omega
      · rw [← hz, get_drop (show z < l.length by omega), get_drop (show z + 1 < l.length by omega), riseB, decide_eq_true (by omega), Bool.true_and]
      · repeat (first | exact trivial | refine env_ ?_)
      · repeat (first | exact SLe.rfl | refine SLe.tail ?_ | refine SLe.full ?_)
  · repeat (first | refine go_ ?_ | intro _)
    refine AW_ret ?_
    repeat refine mk_ ?_
    refine ⟨_, R, AVle.eq ?_, sle_, rfl, rfl⟩
    show AV.bool true = _
    rw [← hz]
    rcases Nat.lt_or_ge z l.length with h5 | h5
    · rw [get_drop h5, List.drop_of_length_le (by omega)]; rfl
    · rw [List.drop_of_length_le (by omega)]; rfl
end Go.Proofs.YtgkjbpnmeeibbaaGreatDoor.Rel
/-
  Rows in order (printed from the texts of rel by a program of ours). Own work.
-/
namespace Go.Proofs.YtgkjbpnmeeibbaaGreatDoor.Rel
open Go.Aw Go.RowKit
set_option maxHeartbeats 4000000
set_option maxRecDepth 4000


theorem copied_ok (l : List (List V)) (t : Tk) (R : List En) (hl : l.length ≤ 16777216) (hr : ∀ r ∈ l, r.length ≤ 16777216) : ACall Tryz.prog 62 [.sl 1 (l.map encR) t] R (fun r S => r = encL l ∧ S = R) := by
  refine ACall_body tab_ok Tryz.func62 rfl rfl rfl (by kernel_rfl) (Nat.le_of_ble_eq_true rfl) ?_
  repeat (first | refine go_ ?_ | intro _)
  refine AW_for (α := Nat × Tk) (fun z => ⟨[(3, .sl 1 ((l.take z.1).map encR) z.2), (6, .sl 1 (l.map encR) t), (7, .int .i64 (l.length : Nat)), (8, .int .i64 (z.1 : Nat))], []⟩) (fun z => .grow z.2 :: R) (fun z => l.length - z.1) (fun z => z.1 ≤ l.length) ((0, .full)) ?_ (weak_of ?_ rfl ?_) (fun z hz => ?_)
  · simp
  · repeat (first | exact trivial | refine env_ ?_)
  · repeat (first | exact SLe.rfl | refine SLe.tail ?_ | refine SLe.full ?_)
  obtain ⟨i, tk⟩ := z
  repeat (first | refine go_ ?_ | intro _)
  refine AW_iff (i < l.length) rfl (by first | (simp; done) | (simp <;> omega) | decide) (fun h => ?_) (fun h => ?_)
  · repeat (first | refine go_ ?_ | intro _)
    refine at_map (i) (by first | rfl | omega | (rw [wrap_i64 (by omega)]; omega)) (by first | assumption | omega) ?_
    repeat (first | refine go_ ?_ | intro _)
    refine Or.inl ⟨⟨_, Tryz.func94, rfl, rfl⟩, ACall.mono ?_ (clone_row _ _ _ (hr _ (List.getElem_mem h)))⟩
    rintro _ S1 ⟨rfl, hS1⟩
    subst S1
    repeat (first | refine go_ ?_ | intro _)
    refine ⟨room (by first | omega | (simp; done) | (simp; omega) | (simp at *; done) | (simp at *; omega)) rfl, .inl rfl, .inr (.inl ⟨rfl, 0, rfl, (l.take (i + 1)).map encR, map_take_succ h, fun t1 => ?_⟩)⟩
    repeat (first | refine go_ ?_ | intro _)
    refine ⟨((i + 1, t1) : Nat × Tk), ?_, ?_, weak_of ?_ rfl ?_⟩
    · show l.length - (i + 1) < l.length - i; omega
    · show i + 1 ≤ l.length; omega
    · repeat (first | exact trivial | refine env_ ?_)
    · repeat (first | exact SLe.rfl | refine SLe.tail ?_ | refine SLe.full ?_)
  · repeat (first | refine go_ ?_ | intro _)
    refine AW_ret ?_
    repeat refine mk_ ?_
    refine ⟨_, R, ?_, sle_, rfl, rfl⟩
    show AVle (.sl 1 ((l.take i).map encR) tk) _
    have : i ≤ l.length := hz
    rw [List.take_of_length_le (by omega)]
    exact AVle.tk
theorem clone_rows (l : List (List V)) (t : Tk) (R : List En) (hl : l.length ≤ 16777216) : ACall Tryz.prog 59 [.sl 1 (l.map encR) t] R
    (fun r S => ∃ b cap rest, r = .msl b 0 l.length cap ∧ l.length ≤ cap ∧ S = hold l.length b (l.map encR ++ rest) R) := by
  refine ACall_body tab_ok Tryz.func59 rfl rfl rfl (by kernel_rfl) (Nat.le_of_ble_eq_true rfl) ?_
  repeat (first | refine go_ ?_ | intro _)
  rename_i b hb
  refine AW_cond (b := b) rfl (fun h => ?_) (fun h => ?_)
  · repeat (first | refine go_ ?_ | intro _)
    have : l = [] := by cases l with
      | nil => rfl
      | cons a x => rw [hb (by simp)] at h; cases h
    subst this
    exact AW_ret ⟨.msl 0 0 0 0, R, AVle.nilMsl, SLe.rfl, 0, 0, [], rfl, by simp, hold_zero.symm⟩
  · repeat (first | refine go_ ?_ | intro _)
    refine ⟨room (by first | omega | (simp; done) | (simp; omega) | (simp at *; done) | (simp at *; omega)) rfl, .inl rfl, .inr (.inr ⟨rfl, rfl, l.map encR, l.length, flat_rows l, List.length_map _, fun b1 cap1 rest1 hcap1 hcap0 hrest1 => ?_⟩)⟩
    repeat (first | refine go_ ?_ | intro _)
    exact AW_ret ⟨.msl b1 0 l.length cap1, _, AVle.refl _, SLe.rfl, b1, cap1, rest1, rfl, hcap1, rfl⟩
/-- a row put into rows that stand the other way round, behind those that are not greater -/
def insR (cmp : List V → List V → Int) (x : List V) : List (List V) → List (List V)
  | [] => [x]
  | y :: ys => if cmp x y < 0 then y :: insR cmp x ys else x :: y :: ys
def insF (cmp : List V → List V → Int) (l : List (List V)) : List (List V) := l.foldl (fun p x => insR cmp x p) []
def insS (cmp : List V → List V → Int) (l : List (List V)) : List (List V) := (insF cmp l).reverse
theorem insR_len (cmp : List V → List V → Int) (x : List V) (l : List (List V)) : (insR cmp x l).length = l.length + 1 := by
  induction l with
  | nil => rfl
  | cons y l ih => simp only [insR]; split <;> simp [ih]
theorem insF_snoc (cmp : List V → List V → Int) (l : List (List V)) (x : List V) : insF cmp (l ++ [x]) = insR cmp x (insF cmp l) := by
  simp [insF]
theorem insF_len (cmp : List V → List V → Int) (l : List (List V)) : (insF cmp l).length = l.length := by
  rw [← List.reverse_reverse l]
  generalize l.reverse = r
  induction r with
  | nil => rfl
  | cons a r ih => rw [List.reverse_cons, insF_snoc, insR_len, ih]; simp
theorem insertion_ok (f : AV) (cmp : List V → List V → Int) (hf : ∀ a b S k, k (.int .i64 (cmp a b)) S → aCallV Tryz.prog f [encR a, encR b] S k)
    (pre seg post : List (List V)) (b n cap : Nat) (rest : List AV) (hn : n = pre.length + seg.length + post.length) (lo hi : Nat) (hlo : lo = pre.length) (hhi : hi = pre.length + seg.length) (hmax : n ≤ 16777216) (R : List En) :
    ACall Tryz.prog 115 [.msl b 0 n cap, .int .i64 lo, .int .i64 hi, f] (hold n b ((pre ++ seg ++ post).map encR ++ rest) R)
      (fun r S => r = .tup [] ∧ S = hold n b ((pre ++ insS cmp seg ++ post).map encR ++ rest) R) := by
  refine ACall_sat fun hs => ?_
  have hcap := (hs (.msl b 0 n cap) (by simp)).msl
  refine ACall_body tab_ok Tryz.func115 rfl rfl rfl (by kernel_rfl) (Nat.le_of_ble_eq_true rfl) ?_
  repeat (first | refine go_ ?_ | intro _)
  refine AW_for (α := Nat) (fun z => ⟨[(0, .msl b 0 n cap), (1, .int .i64 (lo : Nat)), (2, .int .i64 (hi : Nat)), (3, f), (8, .int .i64 ((lo + z + 1 : Nat) : Int))], []⟩) (fun z => hold n b ((pre ++ (insF cmp (seg.take (z + 1))).reverse ++ seg.drop (z + 1) ++ post).map encR ++ rest) R) (fun z => seg.length - z) (fun z => True) (0) ?_ (weak_of ?_ rfl ?_) (fun z hz => ?_)
  · trivial
  · repeat (first | exact trivial | refine env_ ?_)
  · have : pre ++ seg ++ post = pre ++ (insF cmp (seg.take (0 + 1))).reverse ++ seg.drop (0 + 1) ++ post := by
      cases seg with
      | nil => simp [insF]
      | cons a seg => simp [insF, insR]
    rw [this]
    exact SLe.rfl
  clear hz
  revert z
  intro i
  repeat (first | refine go_ ?_ | intro _)
  refine AW_iff (lo + i + 1 < hi) rfl (by first | (simp; done) | (simp <;> omega) | decide) (fun h => ?_) (fun h => ?_)
  · repeat (first | refine go_ ?_ | intro _)
    have hk : i + 1 < seg.length := by omega
    have hst : (pre ++ (insF cmp (seg.take (i + 1))).reverse ++ seg.drop (i + 1) ++ post) = pre ++ (insF cmp (seg.take (i + 1))).reverse ++ [seg[i + 1]] ++ ([] : List (List V)).reverse ++ seg.drop (i + 2) ++ post := by
      rw [get_drop hk]; simp
    rw [hst]
    have hlen : (insF cmp (seg.take (i + 1))).length = i + 1 := by rw [insF_len, List.length_take]; omega
    refine AW_for (α := List (List V) × List (List V)) (fun z => ⟨[(0, .msl b 0 n cap), (1, .int .i64 (lo : Nat)), (2, .int .i64 (hi : Nat)), (3, f), (8, .int .i64 ((lo + i + 1 : Nat) : Int)), (9, .int .i64 ((lo + z.2.length : Nat) : Int))], []⟩) (fun z => .cells b ((pre ++ z.2.reverse ++ [seg[i+1]] ++ z.1.reverse ++ seg.drop (i + 2) ++ post).map encR ++ rest) :: R) (fun z => z.2.length) (fun z => insR cmp seg[i+1] (insF cmp (seg.take (i+1))) = z.1 ++ insR cmp seg[i+1] z.2) (([], insF cmp (seg.take (i+1)))) ?_ (weak_of ?_ rfl ?_) (fun z hz => ?_)
    · rfl
    · repeat (first | exact trivial | refine env_ ?_)
    · rw [hold_pos (by omega)]
      exact SLe.rfl
    obtain ⟨q, r⟩ := z
    replace hz : insR cmp seg[i+1] (insF cmp (seg.take (i+1))) = q ++ insR cmp seg[i+1] r := hz
    have hins : insF cmp (seg.take (i + 2)) = insR cmp seg[i+1] (insF cmp (seg.take (i + 1))) := by
      rw [List.take_add_one (i := i + 1), List.getElem?_eq_getElem hk, Option.toList_some, insF_snoc]
    generalize hx : seg[i+1] = x at *
    have hql : q.length + r.length = i + 1 := by
      have := congrArg List.length hz
      rw [insR_len, List.length_append, insR_len] at this; omega
    cases r with
    | nil =>
      repeat (first | refine go_ ?_ | intro _)
      refine AW_draw tab_ok mixed 17 (by first | rfl | kernel_rfl) ?_
      repeat (first | refine go_ ?_ | intro _)
      refine gsplit (False) (by first | (simp; done) | (simp <;> omega) | decide) (fun h => ?_) (fun h => ?_)
      · cases h
      · repeat (first | refine go_ ?_ | intro _)
        refine AW_cond (b := false) rfl (fun h => ?_) (fun h => ?_)
        · cases h
        repeat (first | refine go_ ?_ | intro _)
        refine ⟨(i + 1), ?_, ?_, weak_of ?_ rfl ?_⟩
        · omega
        · trivial
        · repeat (first | exact trivial | refine env_ ?_)
        · rw [hold_pos (by omega)]
          refine SLe.of_eq ?_
          show _ = En.cells b ((pre ++ (insF cmp (seg.take (i + 2))).reverse ++ seg.drop (i + 2) ++ post).map encR ++ rest) :: R
          rw [hins, hz]
          simp [insR]
    | cons y r =>
      simp only [List.length_cons] at hql
      obtain ⟨A, B, hA, hC, hD⟩ : ∃ A B : List AV, A.length = lo + r.length ∧ (pre ++ (y :: r).reverse ++ [x] ++ q.reverse ++ seg.drop (i + 2) ++ post).map encR ++ rest = A ++ encR y :: encR x :: B ∧
          (pre ++ r.reverse ++ [x] ++ (q ++ [y]).reverse ++ seg.drop (i + 2) ++ post).map encR ++ rest = A ++ encR x :: encR y :: B :=
        ⟨(pre ++ r.reverse).map encR, (q.reverse ++ seg.drop (i + 2) ++ post).map encR ++ rest, by simp [hlo], by simp, by simp⟩
      refine AW_drop (S' := .cells b (A ++ encR y :: encR x :: B) :: R) (SLe.of_eq (congrArg (fun l => En.cells b l :: R) hC)) ?_
      repeat (first | refine go_ ?_ | intro _)
      refine AW_draw tab_ok mixed 17 (by first | rfl | kernel_rfl) ?_
      repeat (first | refine go_ ?_ | intro _)
      refine gsplit (True) (by first | (simp; done) | (simp <;> omega) | decide) (fun h => ?_) (fun h => ?_)
      rotate_left
      · exact absurd trivial h
      repeat (first | refine go_ ?_ | intro _)
      refine at_msl (lo + r.length + 1) (lo + r.length + 1) (by first | rfl | omega | (rw [wrap_i64 (by first | omega | (simp; omega))]; first | rfl | omega | (simp; omega))) (by first | assumption | omega) (by show _ + _ * 1 = _; omega) ?_
      repeat (first | refine go_ ?_ | intro _)
      refine load_one (encR x) rfl rfl (hA ▸ mid_get1 A B _ _) ?_
      repeat (first | refine go_ ?_ | intro _)
      refine at_msl (lo + r.length) (lo + r.length) (by first | rfl | omega | (rw [wrap_i64 (by first | omega | (simp; omega))]; first | rfl | omega | (simp; omega))) (by first | assumption | omega) (by show _ + _ * 1 = _; omega) ?_
      repeat (first | refine go_ ?_ | intro _)
      refine load_one (encR y) rfl rfl (hA ▸ mid_get A _ _) ?_
      repeat (first | refine go_ ?_ | intro _)
      apply call_step
      · rfl
      · exact hf x y _ _ ⟨rfl, rfl⟩
      repeat (first | refine go_ ?_ | intro _)
      refine AW_iff (cmp x y < 0) rfl (by first | (simp; done) | (simp <;> omega) | decide) (fun h => ?_) (fun h => ?_)
      · repeat (first | refine go_ ?_ | intro _)
        refine AW_drawl tab_ok mixed 14 [2, 3, 4] (by first | rfl | kernel_rfl) ?_
        repeat (first | refine go_ ?_ | intro _)
        refine at_msl (lo + r.length) (lo + r.length) (by first | rfl | omega | (rw [wrap_i64 (by first | omega | (simp; omega))]; first | rfl | omega | (simp; omega))) (by first | assumption | omega) (by show _ + _ * 1 = _; omega) ?_
        repeat (first | refine go_ ?_ | intro _)
        refine load_one (encR y) rfl rfl (hA ▸ mid_get A _ _) ?_
        repeat (first | refine go_ ?_ | intro _)
        refine at_msl (lo + r.length + 1) (lo + r.length + 1) (by first | rfl | omega | (rw [wrap_i64 (by first | omega | (simp; omega))]; first | rfl | omega | (simp; omega))) (by first | assumption | omega) (by show _ + _ * 1 = _; omega) ?_
        repeat (first | refine go_ ?_ | intro _)
        refine load_one (encR x) rfl rfl (hA ▸ mid_get1 A B _ _) ?_
        repeat (first | refine go_ ?_ | intro _)
        refine at_msl (lo + r.length + 1) (lo + r.length + 1) (by first | rfl | omega | (rw [wrap_i64 (by first | omega | (simp; omega))]; first | rfl | omega | (simp; omega))) (by first | assumption | omega) (by show _ + _ * 1 = _; omega) ?_
        repeat (first | refine go_ ?_ | intro _)
        refine store_one (encR y) (A ++ encR y :: encR y :: B) rfl rfl (by simp [hA]) (hA ▸ mid_set1 A B _ _ _) ?_
        repeat (first | refine go_ ?_ | intro _)
        refine at_msl (lo + r.length) (lo + r.length) (by first | rfl | omega | (rw [wrap_i64 (by first | omega | (simp; omega))]; first | rfl | omega | (simp; omega))) (by first | assumption | omega) (by show _ + _ * 1 = _; omega) ?_
        repeat (first | refine go_ ?_ | intro _)
        refine store_one (encR x) (A ++ encR x :: encR y :: B) rfl rfl (by simp [hA]) (hA ▸ mid_set A _ _ _) ?_
        repeat (first | refine go_ ?_ | intro _)
        refine ⟨((q ++ [y], r) : List (List V) × List (List V)), ?_, ?_, weak_of ?_ rfl ?_⟩
        · show r.length < (y :: r).length; simp
        · show insR cmp x (insF cmp (seg.take (i+1))) = (q ++ [y]) ++ insR cmp x r
          rw [hz, insR, if_pos h]; simp
        · repeat (first | exact trivial | refine env_ ?_)
        · refine SLe.of_eq ?_
          show En.cells b (A ++ encR x :: encR y :: B) :: R = En.cells b ((pre ++ r.reverse ++ [x] ++ (q ++ [y]).reverse ++ seg.drop (i + 2) ++ post).map encR ++ rest) :: R
          rw [← hD]
      · repeat (first | refine go_ ?_ | intro _)
        refine ⟨(i + 1), ?_, ?_, weak_of ?_ rfl ?_⟩
        · omega
        · trivial
        · repeat (first | exact trivial | refine env_ ?_)
        · rw [hold_pos (by omega)]
          refine SLe.of_eq ?_
          show En.cells b (A ++ encR y :: encR x :: B) :: R = En.cells b ((pre ++ (insF cmp (seg.take (i + 2))).reverse ++ seg.drop (i + 2) ++ post).map encR ++ rest) :: R
          rw [hins, hz, ← hC, insR, if_neg h]
          simp
  · repeat (first | refine go_ ?_ | intro _)
    refine ⟨.tup [], _, AVle.refl _, SLe.rfl, rfl, ?_⟩
    show hold n b ((pre ++ (insF cmp (seg.take (i + 1))).reverse ++ seg.drop (i + 1) ++ post).map encR ++ rest) R = _
    rw [List.take_of_length_le (by omega), List.drop_of_length_le (by omega), List.append_nil]; rfl

def cptA (eq : List V → List V → Bool) (p : List V) : List (List V) → List (List V)
  | [] => []
  | x :: r => if eq x p = true then cptA eq x r else x :: cptA eq x r
def cpt (eq : List V → List V → Bool) : List (List V) → List (List V)
  | [] => []
  | a :: r => a :: cptA eq a r
theorem cptA_snoc (eq : List V → List V → Bool) (x y : List V) : ∀ (L : List (List V)) (p : List V), cptA eq p (L ++ [y, x]) = cptA eq p (L ++ [y]) ++ if eq x y = true then [] else [x]
  | [], p => by
    simp only [List.nil_append, cptA]
    split <;> split <;> simp
  | a :: L, p => by
    simp only [List.cons_append, cptA]
    split
    · exact cptA_snoc eq x y L a
    · rw [cptA_snoc eq x y L a]; rfl
theorem cpt_snoc (eq : List V → List V → Bool) (x y : List V) (L : List (List V)) : cpt eq (L ++ [y, x]) = cpt eq (L ++ [y]) ++ if eq x y = true then [] else [x] := by
  cases L with
  | nil => simp only [List.nil_append, cpt, cptA]; split <;> simp
  | cons a L => simp only [List.cons_append, cpt]; rw [cptA_snoc]
theorem cpt_take (eq : List V → List V → Bool) (l : List (List V)) (j : Nat) (h : j + 1 < l.length) : cpt eq (l.take (j + 2)) = cpt eq (l.take (j + 1)) ++ if eq l[j + 1] l[j] = true then [] else [l[j + 1]] := by
  have e1 : l.take (j + 1) = l.take j ++ [l[j]] := by rw [List.take_add_one, List.getElem?_eq_getElem (by omega)]; rfl
  have e2 : l.take (j + 2) = l.take j ++ [l[j], l[j + 1]] := by rw [List.take_add_one (i := j + 1), e1, List.getElem?_eq_getElem h, List.append_assoc]; rfl
  rw [e1, e2, cpt_snoc]
theorem cpt_few (eq : List V → List V → Bool) (l : List (List V)) (h : l.length < 2) : cpt eq l = l := by
  match l, h with
  | [], _ => rfl
  | [a], _ => rfl
theorem compact_ok (f : AV) (eq : List V → List V → Bool) (hf : ∀ a b S k, k (.bool (eq a b)) S → aCallV Tryz.prog f [encR a, encR b] S k)
    (l : List (List V)) (b cap : Nat) (rest : List AV) (hmax : l.length ≤ 16777216) (R : List En) :
    ACall Tryz.prog 63 [.msl b 0 l.length cap, f] (hold l.length b (l.map encR ++ rest) R) (fun r S => r = encL (cpt eq l) ∧ S = R) := by
  refine ACall_sat fun hs => ?_
  have hcap := (hs (.msl b 0 l.length cap) (by simp)).msl
  refine ACall_body tab_ok Tryz.func63 rfl rfl rfl (by kernel_rfl) (Nat.le_of_ble_eq_true rfl) ?_
  repeat (first | refine go_ ?_ | intro _)
  refine AW_iff (l.length < 2) rfl (by first | (simp; done) | (simp <;> omega) | decide) (fun h => ?_) (fun h => ?_)
  · repeat (first | refine go_ ?_ | intro _)
    refine AW_freeze 4 (sz := 1) (es := l.map encR) (fun h => h) rfl (by simp) (by simp [encR, AV.cells]) (by rw [flat_rows]; simp) ?_
    refine AW_ret ?_
    repeat refine mk_ ?_
    refine ⟨_, R, AVle.eq ?_, sle_, rfl, rfl⟩
    show AV.sl 1 (l.map encR) .no = _
    rw [cpt_few eq l h]; rfl
  repeat (first | refine go_ ?_ | intro _)
  refine AW_for (α := Nat) (fun z => ⟨[(0, .msl b 0 l.length cap), (1, f), (5, .int .i64 ((z + 1 : Nat) : Int))], []⟩) (fun z => hold l.length b (l.map encR ++ rest) R) (fun z => l.length - z) (fun z => z < l.length ∧ cpt eq (l.take (z + 1)) = l.take (z + 1)) (0) ?_ (weak_of ?_ rfl ?_) (fun z hz => ?_)
  · refine ⟨by omega, ?_⟩
    exact cpt_few _ _ (by simp; omega)
  · repeat (first | exact trivial | refine env_ ?_)
  · repeat (first | exact SLe.rfl | refine SLe.tail ?_ | refine SLe.full ?_)
  revert hz
  revert z
  intro j hz
  obtain ⟨hz1, hz2⟩ := hz
  repeat (first | refine go_ ?_ | intro _)
  refine AW_iff (j + 1 < l.length) rfl (by first | (simp; done) | (simp <;> omega) | decide) (fun h => ?_) (fun h => ?_)
  · repeat (first | refine go_ ?_ | intro _)
    rw [hold_pos (by omega)]
    have g0 : (l.map encR ++ rest)[j]? = some (encR l[j]) := by rw [List.getElem?_append_left (by simp; omega)]; simp [hz1]
    have g1 : (l.map encR ++ rest)[j + 1]? = some (encR l[j + 1]) := by rw [List.getElem?_append_left (by simp; omega)]; simp [h]
    refine AW_draw tab_ok mixed 11 (by first | rfl | kernel_rfl) ?_
    repeat (first | refine go_ ?_ | intro _)
    refine at_msl (j + 1) (j + 1) (by first | rfl | omega | (rw [wrap_i64 (by first | omega | (simp; omega))]; first | rfl | omega | (simp; omega))) (by first | assumption | omega) (by show _ + _ * 1 = _; omega) ?_
    repeat (first | refine go_ ?_ | intro _)
    refine load_one (encR l[j + 1]) rfl rfl g1 ?_
    repeat (first | refine go_ ?_ | intro _)
    refine at_msl (j) (j) (by first | rfl | omega | (rw [wrap_i64 (by first | omega | (simp; omega))]; first | rfl | omega | (simp; omega))) (by first | assumption | omega) (by show _ + _ * 1 = _; omega) ?_
    repeat (first | refine go_ ?_ | intro _)
    refine load_one (encR l[j]) rfl rfl g0 ?_
    repeat (first | refine go_ ?_ | intro _)
    apply call_step
    · rfl
    · exact hf l[j + 1] l[j] _ _ ⟨rfl, rfl⟩
    repeat (first | refine go_ ?_ | intro _)
    refine AW_iff (eq l[j + 1] l[j] = true) rfl (by first | (simp; done) | (simp <;> omega) | decide) (fun h => ?_) (fun h => ?_)
    · repeat (first | refine go_ ?_ | intro _)
      refine ⟨(by simp), (show (0 : Int) ≤ ((j + 1 : Nat) : Int) by first | omega | (simp; done) | (simp; omega)), (show (((j + 1 : Nat) : Int) : Int) ≤ (l.length : Nat) by first | omega | (simp; done) | (simp; omega)), (show ((l.length : Nat) : Int) ≤ (cap : Nat) by first | omega | (simp; done) | (simp; omega)), (by show ((cap : Nat) : Int) ≤ _; first | omega | (simp; done) | (simp; omega)), j + 1, l.length - (j + 1), cap - (j + 1), (by show _ + Int.toNat (((j + 1 : Nat) : Int)) * 1 = _; omega), (by show Int.toNat ((l.length : Nat)) - Int.toNat (((j + 1 : Nat) : Int)) = _; omega), (by show Int.toNat ((cap : Nat)) - Int.toNat (((j + 1 : Nat) : Int)) = _; omega), ?_⟩
      repeat (first | refine go_ ?_ | intro _)
      refine AW_for (α := Nat × Nat × List (List V)) (fun z => ⟨[(0, .msl b 0 l.length cap), (1, f), (5, .int .i64 (z.2.1 : Nat)), (6, .msl b (j + 1) (l.length - (j + 1)) (cap - (j + 1))), (7, .int .i64 ((z.1 + 1 : Nat) : Int))], []⟩) (fun z => .cells b (z.2.2.map encR ++ rest) :: R) (fun z => l.length - z.1) (fun z => z.2.2.length = l.length ∧ z.2.1 ≤ j + z.1 + 1 ∧ j + z.1 + 2 ≤ l.length ∧ z.2.2.take z.2.1 = cpt eq (l.take (j + z.1 + 2)) ∧ z.2.2.drop (j + z.1 + 1) = l.drop (j + z.1 + 1) ∧ z.2.1 = (cpt eq (l.take (j + z.1 + 2))).length) ((0, j + 1, l)) ?_ (weak_of ?_ rfl ?_) (fun z hz => ?_)
      · refine ⟨rfl, by simp, by simp; omega, ?_, rfl, ?_⟩
        · show l.take (j + 1) = cpt eq (l.take (j + 2))
          rw [cpt_take eq l j (by omega), if_pos (by assumption), List.append_nil, hz2]
        · show j + 1 = (cpt eq (l.take (j + 2))).length
          rw [cpt_take eq l j (by omega), if_pos (by assumption), List.append_nil, hz2, List.length_take]; omega
      · repeat (first | exact trivial | refine env_ ?_)
      · repeat (first | exact SLe.rfl | refine SLe.tail ?_ | refine SLe.full ?_)
      obtain ⟨i, k, C⟩ := z
      obtain ⟨c1, c2, c3, c4, c5, c6⟩ : C.length = l.length ∧ k ≤ j + i + 1 ∧ j + i + 2 ≤ l.length ∧ C.take k = cpt eq (l.take (j + i + 2)) ∧ C.drop (j + i + 1) = l.drop (j + i + 1) ∧ k = (cpt eq (l.take (j + i + 2))).length := hz
      repeat (first | refine go_ ?_ | intro _)
      refine AW_iff (i + 1 < l.length - (j + 1)) rfl (by first | (simp; done) | (simp <;> omega) | decide) (fun h => ?_) (fun h => ?_)
      · repeat (first | refine go_ ?_ | intro _)
        have hC : ∀ q, j + i + 1 ≤ q → C[q]? = l[q]? := by
          intro q hq
          have := congrArg (fun x => x[q - (j + i + 1)]?) c5
          simp only [List.getElem?_drop] at this
          rwa [show j + i + 1 + (q - (j + i + 1)) = q by omega] at this
        have hcell : ∀ q (hq : q < l.length), j + i + 1 ≤ q → (C.map encR ++ rest)[q]? = some (encR l[q]) := by
          intro q hq hj
          rw [List.getElem?_append_left (by simp; omega), List.getElem?_map, hC q hj, List.getElem?_eq_getElem hq]; rfl
        refine AW_draw tab_ok mixed 12 (by first | rfl | kernel_rfl) ?_
        repeat (first | refine go_ ?_ | intro _)
        refine at_msl (i + 1) (j + i + 2) (by first | rfl | omega | (rw [wrap_i64 (by first | omega | (simp; omega))]; first | rfl | omega | (simp; omega))) (by first | assumption | omega) (by show _ + _ * 1 = _; omega) ?_
        repeat (first | refine go_ ?_ | intro _)
        refine load_one (encR (l[j + i + 2]'(by omega))) rfl rfl (hcell _ (by omega) (by omega)) ?_
        repeat (first | refine go_ ?_ | intro _)
        refine at_msl (i) (j + i + 1) (by first | rfl | omega | (rw [wrap_i64 (by first | omega | (simp; omega))]; first | rfl | omega | (simp; omega))) (by first | assumption | omega) (by show _ + _ * 1 = _; omega) ?_
        repeat (first | refine go_ ?_ | intro _)
        refine load_one (encR (l[j + i + 1]'(by omega))) rfl rfl (hcell _ (by omega) (by omega)) ?_
        repeat (first | refine go_ ?_ | intro _)
        apply call_step
        · rfl
        · exact hf _ _ _ _ ⟨rfl, rfl⟩
        repeat (first | refine go_ ?_ | intro _)
        have hstep : cpt eq (l.take (j + i + 3)) = cpt eq (l.take (j + i + 2)) ++ (if eq (l[j + i + 2]'(by omega)) (l[j + i + 1]'(by omega)) = true then [] else [l[j + i + 2]'(by omega)]) := cpt_take eq l (j + i + 1) (by omega)
        refine AW_iff (¬ eq (l[j + i + 2]'(by omega)) (l[j + i + 1]'(by omega)) = true) rfl (by first | (simp; done) | (simp <;> omega) | decide) (fun h => ?_) (fun h => ?_)
        · rw [if_neg h] at hstep
          repeat (first | refine go_ ?_ | intro _)
          refine at_msl (i + 1) (j + i + 2) (by first | rfl | omega | (rw [wrap_i64 (by first | omega | (simp; omega))]; first | rfl | omega | (simp; omega))) (by first | assumption | omega) (by show _ + _ * 1 = _; omega) ?_
          repeat (first | refine go_ ?_ | intro _)
          refine load_one (encR (l[j + i + 2]'(by omega))) rfl rfl (hcell _ (by omega) (by omega)) ?_
          repeat (first | refine go_ ?_ | intro _)
          refine at_msl (k) (k) (by first | rfl | omega | (rw [wrap_i64 (by first | omega | (simp; omega))]; first | rfl | omega | (simp; omega))) (by first | assumption | omega) (by show _ + _ * 1 = _; omega) ?_
          repeat (first | refine go_ ?_ | intro _)
          refine store_one (encR (l[j + i + 2]'(by omega))) ((C.set k (l[j + i + 2]'(by omega))).map encR ++ rest) rfl rfl (by simp; omega) (by rw [List.set_append_left _ _ (by simp; omega), List.map_set]) ?_
          repeat (first | refine go_ ?_ | intro _)
          refine ⟨((i + 1, k + 1, C.set k (l[j + i + 2]'(by omega))) : Nat × Nat × List (List V)), ?_, ?_, weak_of ?_ rfl ?_⟩
          · show l.length - (i + 1) < l.length - i; omega
          · refine ⟨by simp [c1], ?_, ?_, ?_, ?_, ?_⟩
            · show k + 1 ≤ j + (i + 1) + 1; omega
            · show j + (i + 1) + 2 ≤ l.length; omega
            · show (C.set k (l[j + i + 2]'(by omega))).take (k + 1) = cpt eq (l.take (j + (i + 1) + 2))
              have hstep' := hstep
              rw [show j + i + 3 = j + (i + 1) + 2 by omega] at hstep'
              rw [hstep', ← c4, List.take_add_one, List.take_set_of_le (by omega), List.getElem?_set_self (by omega)]; rfl
            · show (C.set k (l[j + i + 2]'(by omega))).drop (j + (i + 1) + 1) = l.drop (j + (i + 1) + 1)
              rw [List.drop_set_of_lt (by omega)]
              apply List.ext_getElem?
              intro q
              rw [List.getElem?_drop, List.getElem?_drop, hC _ (by omega)]
            · show k + 1 = (cpt eq (l.take (j + (i + 1) + 2))).length
              have hstep' := hstep
              rw [show j + i + 3 = j + (i + 1) + 2 by omega] at hstep'
              rw [hstep', List.length_append, ← c6]; rfl
          · repeat (first | exact trivial | refine env_ ?_)
          · repeat (first | exact SLe.rfl | refine SLe.tail ?_ | refine SLe.full ?_)
        · replace h := Classical.not_not.1 h
          rw [if_pos h, List.append_nil] at hstep
          repeat (first | refine go_ ?_ | intro _)
          refine ⟨((i + 1, k, C) : Nat × Nat × List (List V)), ?_, ?_, weak_of ?_ rfl ?_⟩
          · show l.length - (i + 1) < l.length - i; omega
          · refine ⟨c1, ?_, ?_, ?_, ?_, ?_⟩
            · show k ≤ j + (i + 1) + 1; omega
            · show j + (i + 1) + 2 ≤ l.length; omega
            · show C.take k = cpt eq (l.take (j + (i + 1) + 2))
              have hstep' := hstep
              rw [show j + i + 3 = j + (i + 1) + 2 by omega] at hstep'
              rw [hstep', c4]
            · show C.drop (j + (i + 1) + 1) = l.drop (j + (i + 1) + 1)
              apply List.ext_getElem?
              intro q
              rw [List.getElem?_drop, List.getElem?_drop, hC _ (by omega)]
            · show k = (cpt eq (l.take (j + (i + 1) + 2))).length
              have hstep' := hstep
              rw [show j + i + 3 = j + (i + 1) + 2 by omega] at hstep'
              rw [hstep', c6]
          · repeat (first | exact trivial | refine env_ ?_)
          · repeat (first | exact SLe.rfl | refine SLe.tail ?_ | refine SLe.full ?_)
      · repeat (first | refine go_ ?_ | intro _)
        have hend : l.take (j + i + 2) = l := List.take_of_length_le (by omega)
        rw [hend] at c4 c6
        refine ⟨(by simp), (show (0 : Int) ≤ (k : Nat) by first | omega | (simp; done) | (simp; omega)), (show ((k : Nat) : Int) ≤ (l.length : Nat) by first | omega | (simp; done) | (simp; omega)), (show ((l.length : Nat) : Int) ≤ (cap : Nat) by first | omega | (simp; done) | (simp; omega)), (by show ((cap : Nat) : Int) ≤ _; first | omega | (simp; done) | (simp; omega)), k, l.length - k, cap - k, (by show _ + Int.toNat ((k : Nat)) * 1 = _; omega), (by show Int.toNat ((l.length : Nat)) - Int.toNat ((k : Nat)) = _; omega), (by show Int.toNat ((cap : Nat)) - Int.toNat ((k : Nat)) = _; omega), ?_⟩
        repeat (first | refine go_ ?_ | intro _)
        have hkl : k ≤ l.length := by have := congrArg List.length c4; simp only [List.length_take, c1, ← c6] at this; omega
        refine .inr ⟨0, _, rfl, (by show k + (l.length - k) * 1 ≤ _; simp; omega), _, rfl, ?_⟩
        repeat (first | refine go_ ?_ | intro _)
        refine ⟨(by simp), (show (0 : Int) ≤ 0 by first | omega | (simp; done) | (simp; omega)), (show (0 : Int) ≤ (k : Nat) by first | omega | (simp; done) | (simp; omega)), (show ((k : Nat) : Int) ≤ (cap : Nat) by first | omega | (simp; done) | (simp; omega)), (by show ((cap : Nat) : Int) ≤ _; first | omega | (simp; done) | (simp; omega)), 0, k, cap, (by show _ + Int.toNat (0) * 1 = _; omega), (by show Int.toNat ((k : Nat)) - Int.toNat (0) = _; omega), (by show Int.toNat ((cap : Nat)) - Int.toNat (0) = _; omega), ?_⟩
        repeat (first | refine go_ ?_ | intro _)
        refine AW_drop (S' := hold l.length b (setCells (C.map encR ++ rest) k (zerosAV (lkT tab 22).zero (l.length - k))) R) (by rw [hold_pos (by omega)]; exact SLe.rfl) ?_
        refine AW_freeze 4 (sz := 1) (es := (cpt eq l).map encR) (fun h => by omega) rfl (by simp [← c6]) (by simp [encR, AV.cells]) ?_ ?_
        · rw [flat_rows, ← c4]
          simp only [setCells, List.drop_zero, Nat.mul_one, List.append_assoc]
          rw [List.take_append_of_le_length (by simp; omega), List.take_take, Nat.min_self, List.take_append_of_le_length (by simp; omega), List.map_take]
        refine AW_ret ?_
        repeat refine mk_ ?_
        refine ⟨_, R, AVle.eq ?_, sle_, rfl, rfl⟩
        rfl
    · repeat (first | refine go_ ?_ | intro _)
      refine ⟨(j + 1), ?_, ?_, weak_of ?_ rfl ?_⟩
      · omega
      · refine ⟨by omega, ?_⟩
        rw [cpt_take eq l j (by omega), if_neg h, hz2, List.take_add_one (i := j + 1), List.getElem?_eq_getElem (show j + 1 < l.length by assumption)]; rfl
      · repeat (first | exact trivial | refine env_ ?_)
      · repeat (first | exact SLe.rfl | refine SLe.tail ?_ | refine SLe.full ?_)
  · repeat (first | refine go_ ?_ | intro _)
    refine AW_freeze 4 (sz := 1) (es := l.map encR) (fun h => h) rfl (by simp) (by simp [encR, AV.cells]) (by rw [flat_rows]; simp) ?_
    refine AW_ret ?_
    repeat refine mk_ ?_
    refine ⟨_, R, AVle.eq ?_, sle_, rfl, rfl⟩
    show AV.sl 1 (l.map encR) .no = _
    rw [List.take_of_length_le (by omega)] at hz2
    rw [hz2]; rfl

def eqR (a b : List V) : Bool := decide (cmpR a b = 0)
theorem sortEq_ok (x y : List V) (t t' : Tk) (R : List En) : ACall Tryz.prog 64 [.sl 3 (x.map encV) t, .sl 3 (y.map encV) t'] R (fun r S => r = .bool (eqR x y) ∧ S = R) := by
  refine ACall_body tab_ok Tryz.func64 rfl rfl rfl (by kernel_rfl) (Nat.le_of_ble_eq_true rfl) ?_
  repeat (first | refine go_ ?_ | intro _)
  refine Or.inl ⟨⟨_, Tryz.func61, rfl, rfl⟩, ACall.mono ?_ (compare_ok x y t t' _)⟩
  rintro _ S1 ⟨rfl, hS1⟩
  subst S1
  repeat (first | refine go_ ?_ | intro _)
  refine AW_ret ?_
  repeat refine mk_ ?_
  refine ⟨_, R, AVle.eq ?_, sle_, rfl, rfl⟩
  rfl
theorem sortEq_call (x y : List V) (S : List En) (k : AV → List En → Prop) (h : k (.bool (eqR x y)) S) : aCallV Tryz.prog (.fn (.func 64) [] []) [encR x, encR y] S k := by
  refine Or.inl ⟨⟨_, Tryz.func64, rfl, rfl⟩, ACall.mono ?_ (sortEq_ok x y .no .no S)⟩
  rintro _ S1 ⟨rfl, hS1⟩
  subst S1
  exact h
theorem cptA_mem (eq : List V → List V → Bool) {r : List V} : ∀ (l : List (List V)) (p : List V), r ∈ cptA eq p l → r ∈ l
  | [], _, h => by simp [cptA] at h
  | x :: l, p, h => by
    simp only [cptA] at h
    split at h
    · exact List.mem_cons_of_mem _ (cptA_mem eq l x h)
    · rcases List.mem_cons.1 h with rfl | h
      · exact List.mem_cons_self
      · exact List.mem_cons_of_mem _ (cptA_mem eq l x h)
theorem cpt_mem {eq : List V → List V → Bool} {r : List V} {l : List (List V)} (h : r ∈ cpt eq l) : r ∈ l := by
  cases l with
  | nil => exact h
  | cons a l =>
    rcases List.mem_cons.1 h with rfl | h
    · exact List.mem_cons_self
    · exact List.mem_cons_of_mem _ (cptA_mem eq l a h)
theorem cptA_len (eq : List V → List V → Bool) : ∀ (l : List (List V)) (p : List V), (cptA eq p l).length ≤ l.length
  | [], _ => by simp [cptA]
  | x :: l, p => by
    simp only [cptA]
    split
    · have := cptA_len eq l x; simp; omega
    · have := cptA_len eq l x; simp; omega
theorem cpt_len (eq : List V → List V → Bool) (l : List (List V)) : (cpt eq l).length ≤ l.length := by
  cases l with
  | nil => simp [cpt]
  | cons a l => have := cptA_len eq l a; simp [cpt]; omega
theorem insR_perm (cmp : List V → List V → Int) (x : List V) (l : List (List V)) : (insR cmp x l).Perm (x :: l) := by
  induction l with
  | nil => exact List.Perm.refl _
  | cons y l ih =>
    simp only [insR]
    split
    · exact (ih.cons y).trans (List.Perm.swap x y l)
    · exact List.Perm.refl _
theorem insF_perm (cmp : List V → List V → Int) (l : List (List V)) : (insF cmp l).Perm l := by
  rw [← List.reverse_reverse l]
  generalize l.reverse = r
  induction r with
  | nil => exact List.Perm.refl _
  | cons a r ih =>
    rw [List.reverse_cons, insF_snoc]
    exact (insR_perm cmp a _).trans ((ih.cons a).trans (List.perm_append_singleton a _).symm)
theorem insS_perm (cmp : List V → List V → Int) (l : List (List V)) : (insS cmp l).Perm l := (List.reverse_perm _).trans (insF_perm cmp l)
theorem compare_callR (x y : List V) (S : List En) (k : AV → List En → Prop) (h : k (.int .i64 (cmpR x y)) S) : aCallV Tryz.prog (.fn (.func 61) [] []) [encR x, encR y] S k :=
  compare_call x y .no .no S k h
end Go.Proofs.YtgkjbpnmeeibbaaGreatDoor.Rel
