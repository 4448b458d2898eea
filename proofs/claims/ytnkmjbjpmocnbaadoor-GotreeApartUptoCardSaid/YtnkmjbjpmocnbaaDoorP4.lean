/-
  How many parts an expression has; a text among some. Own work.
-/
import Derived.Test.YtnkmjbjpmocnbaaDoorP3
set_option linter.all false
namespace Go.Proofs.YtnkmjbjpmocnbaaDoor
open Go.Aw Go.RowKit
set_option maxHeartbeats 4000000

/-- how many parts, at least and at most -/
def partsN (op : Int) : Nat × Nat :=
  if op = 6 ∨ op = 10 ∨ op = 15 ∨ op = 16 then (2, 2) else if op = 7 ∨ op = 8 ∨ op = 12 ∨ op = 14 then (1, 1) else if op = 11 then (3, 3) else if op = 9 ∨ op = 13 then (0, 200) else (0, 0)
def countI (op : Int) : Int := if op = 9 ∨ op = 13 then -1 else ((partsN op).1 : Nat)
theorem count_ok (op : Int) (R : List En) : ACall Tryd.prog 61 [.int .i64 op] R (fun v S => v = .int .i64 (countI op) ∧ S = R) := by
  by_cases h1 : op = 6 ∨ op = 10 ∨ op = 15 ∨ op = 16
  · rcases h1 with rfl | rfl | rfl | rfl
    all_goals
      refine ACall_body tab_ok Tryd.func61 rfl rfl rfl (by kernel_rfl) (Nat.le_of_ble_eq_true rfl) ?_
      repeat (first | refine ga_ ?_ | intro _)
      refine AW_ret ?_
      repeat (first | refine ⟨0, rfl, ?_⟩ | refine ⟨1, rfl, ?_⟩ | refine ⟨2, rfl, ?_⟩ | refine ⟨3, rfl, ?_⟩ | refine ⟨4, rfl, ?_⟩ | refine ⟨5, rfl, ?_⟩ | refine ⟨6, rfl, ?_⟩)
      refine ⟨_, R, AVle.eq ?_, (by repeat (first | exact SLe.rfl | refine SLe.tail ?_)), rfl, rfl⟩
      rfl
  by_cases h2 : op = 7 ∨ op = 8 ∨ op = 12 ∨ op = 14
  · rcases h2 with rfl | rfl | rfl | rfl
    all_goals
      refine ACall_body tab_ok Tryd.func61 rfl rfl rfl (by kernel_rfl) (Nat.le_of_ble_eq_true rfl) ?_
      repeat (first | refine ga_ ?_ | intro _)
      refine AW_ret ?_
      repeat (first | refine ⟨0, rfl, ?_⟩ | refine ⟨1, rfl, ?_⟩ | refine ⟨2, rfl, ?_⟩ | refine ⟨3, rfl, ?_⟩ | refine ⟨4, rfl, ?_⟩ | refine ⟨5, rfl, ?_⟩ | refine ⟨6, rfl, ?_⟩)
      refine ⟨_, R, AVle.eq ?_, (by repeat (first | exact SLe.rfl | refine SLe.tail ?_)), rfl, rfl⟩
      rfl
  by_cases h3 : op = 11 ∨ op = 9 ∨ op = 13
  · rcases h3 with rfl | rfl | rfl
    all_goals
      refine ACall_body tab_ok Tryd.func61 rfl rfl rfl (by kernel_rfl) (Nat.le_of_ble_eq_true rfl) ?_
      repeat (first | refine ga_ ?_ | intro _)
      refine AW_ret ?_
      repeat (first | refine ⟨0, rfl, ?_⟩ | refine ⟨1, rfl, ?_⟩ | refine ⟨2, rfl, ?_⟩ | refine ⟨3, rfl, ?_⟩ | refine ⟨4, rfl, ?_⟩ | refine ⟨5, rfl, ?_⟩ | refine ⟨6, rfl, ?_⟩)
      refine ⟨_, R, AVle.eq ?_, (by repeat (first | exact SLe.rfl | refine SLe.tail ?_)), rfl, rfl⟩
      rfl
  have e : countI op = 0 := by simp only [countI, partsN]; rw [if_neg (by omega), if_neg (by omega), if_neg (by omega), if_neg (by omega), if_neg (by omega)]; rfl
  rw [e]
  refine ACall_body tab_ok Tryd.func61 rfl rfl rfl (by kernel_rfl) (Nat.le_of_ble_eq_true rfl) ?_
  repeat (first | refine ga_ ?_ | intro _)
  refine AW_false (b := decide (op = 6)) rfl (by exact decide_eq_false (by omega)) ?_
  repeat (first | refine ga_ ?_ | intro _)
  refine AW_false (b := decide (op = 10)) rfl (by exact decide_eq_false (by omega)) ?_
  repeat (first | refine ga_ ?_ | intro _)
  refine AW_false (b := decide (op = 15)) rfl (by exact decide_eq_false (by omega)) ?_
  repeat (first | refine ga_ ?_ | intro _)
  refine AW_false (b := decide (op = 16)) rfl (by exact decide_eq_false (by omega)) ?_
  repeat (first | refine ga_ ?_ | intro _)
  refine AW_false (b := decide (op = 7)) rfl (by exact decide_eq_false (by omega)) ?_
  repeat (first | refine ga_ ?_ | intro _)
  refine AW_false (b := decide (op = 8)) rfl (by exact decide_eq_false (by omega)) ?_
  repeat (first | refine ga_ ?_ | intro _)
  refine AW_false (b := decide (op = 12)) rfl (by exact decide_eq_false (by omega)) ?_
  repeat (first | refine ga_ ?_ | intro _)
  refine AW_false (b := decide (op = 14)) rfl (by exact decide_eq_false (by omega)) ?_
  repeat (first | refine ga_ ?_ | intro _)
  refine AW_false (b := decide (op = 11)) rfl (by exact decide_eq_false (by omega)) ?_
  repeat (first | refine ga_ ?_ | intro _)
  refine AW_false (b := decide (op = 9)) rfl (by exact decide_eq_false (by omega)) ?_
  repeat (first | refine ga_ ?_ | intro _)
  refine AW_false (b := decide (op = 13)) rfl (by exact decide_eq_false (by omega)) ?_
  repeat (first | refine ga_ ?_ | intro _)
  refine AW_ret ?_
  repeat (first | refine ⟨0, rfl, ?_⟩ | refine ⟨1, rfl, ?_⟩ | refine ⟨2, rfl, ?_⟩ | refine ⟨3, rfl, ?_⟩ | refine ⟨4, rfl, ?_⟩ | refine ⟨5, rfl, ?_⟩ | refine ⟨6, rfl, ?_⟩)
  refine ⟨_, R, AVle.eq ?_, (by repeat (first | exact SLe.rfl | refine SLe.tail ?_)), rfl, rfl⟩
  rfl
theorem parts_ok (op : Int) (R : List En) : ACall Tryd.prog 65 [.int .i64 op] R (fun v S => v = .tup [.int .i64 ((partsN op).1 : Nat), .int .i64 ((partsN op).2 : Nat)] ∧ S = R) := by
  by_cases h1 : op = 6 ∨ op = 10 ∨ op = 15 ∨ op = 16
  · rcases h1 with rfl | rfl | rfl | rfl
    all_goals
      refine ACall_body tab_ok Tryd.func65 rfl rfl rfl (by kernel_rfl) (Nat.le_of_ble_eq_true rfl) ?_
      repeat (first | refine ga_ ?_ | intro _)
      refine AW_ret ?_
      repeat (first | refine ⟨0, rfl, ?_⟩ | refine ⟨1, rfl, ?_⟩ | refine ⟨2, rfl, ?_⟩ | refine ⟨3, rfl, ?_⟩ | refine ⟨4, rfl, ?_⟩ | refine ⟨5, rfl, ?_⟩ | refine ⟨6, rfl, ?_⟩)
      refine ⟨_, R, AVle.eq ?_, (by repeat (first | exact SLe.rfl | refine SLe.tail ?_)), rfl, rfl⟩
      rfl
  by_cases h2 : op = 7 ∨ op = 8 ∨ op = 12 ∨ op = 14
  · rcases h2 with rfl | rfl | rfl | rfl
    all_goals
      refine ACall_body tab_ok Tryd.func65 rfl rfl rfl (by kernel_rfl) (Nat.le_of_ble_eq_true rfl) ?_
      repeat (first | refine ga_ ?_ | intro _)
      refine AW_ret ?_
      repeat (first | refine ⟨0, rfl, ?_⟩ | refine ⟨1, rfl, ?_⟩ | refine ⟨2, rfl, ?_⟩ | refine ⟨3, rfl, ?_⟩ | refine ⟨4, rfl, ?_⟩ | refine ⟨5, rfl, ?_⟩ | refine ⟨6, rfl, ?_⟩)
      refine ⟨_, R, AVle.eq ?_, (by repeat (first | exact SLe.rfl | refine SLe.tail ?_)), rfl, rfl⟩
      rfl
  by_cases h3 : op = 11 ∨ op = 9 ∨ op = 13
  · rcases h3 with rfl | rfl | rfl
    all_goals
      refine ACall_body tab_ok Tryd.func65 rfl rfl rfl (by kernel_rfl) (Nat.le_of_ble_eq_true rfl) ?_
      repeat (first | refine ga_ ?_ | intro _)
      refine AW_ret ?_
      repeat (first | refine ⟨0, rfl, ?_⟩ | refine ⟨1, rfl, ?_⟩ | refine ⟨2, rfl, ?_⟩ | refine ⟨3, rfl, ?_⟩ | refine ⟨4, rfl, ?_⟩ | refine ⟨5, rfl, ?_⟩ | refine ⟨6, rfl, ?_⟩)
      refine ⟨_, R, AVle.eq ?_, (by repeat (first | exact SLe.rfl | refine SLe.tail ?_)), rfl, rfl⟩
      rfl
  have e : partsN op = (0, 0) := by simp only [partsN]; rw [if_neg (by omega), if_neg (by omega), if_neg (by omega), if_neg (by omega)]
  rw [e]
  refine ACall_body tab_ok Tryd.func65 rfl rfl rfl (by kernel_rfl) (Nat.le_of_ble_eq_true rfl) ?_
  repeat (first | refine ga_ ?_ | intro _)
  refine AW_false (b := decide (op = 6)) rfl (by exact decide_eq_false (by omega)) ?_
  repeat (first | refine ga_ ?_ | intro _)
  refine AW_false (b := decide (op = 10)) rfl (by exact decide_eq_false (by omega)) ?_
  repeat (first | refine ga_ ?_ | intro _)
  refine AW_false (b := decide (op = 15)) rfl (by exact decide_eq_false (by omega)) ?_
  repeat (first | refine ga_ ?_ | intro _)
  refine AW_false (b := decide (op = 16)) rfl (by exact decide_eq_false (by omega)) ?_
  repeat (first | refine ga_ ?_ | intro _)
  refine AW_false (b := decide (op = 7)) rfl (by exact decide_eq_false (by omega)) ?_
  repeat (first | refine ga_ ?_ | intro _)
  refine AW_false (b := decide (op = 8)) rfl (by exact decide_eq_false (by omega)) ?_
  repeat (first | refine ga_ ?_ | intro _)
  refine AW_false (b := decide (op = 12)) rfl (by exact decide_eq_false (by omega)) ?_
  repeat (first | refine ga_ ?_ | intro _)
  refine AW_false (b := decide (op = 14)) rfl (by exact decide_eq_false (by omega)) ?_
  repeat (first | refine ga_ ?_ | intro _)
  refine AW_false (b := decide (op = 11)) rfl (by exact decide_eq_false (by omega)) ?_
  repeat (first | refine ga_ ?_ | intro _)
  refine AW_false (b := decide (op = 9)) rfl (by exact decide_eq_false (by omega)) ?_
  repeat (first | refine ga_ ?_ | intro _)
  refine AW_false (b := decide (op = 13)) rfl (by exact decide_eq_false (by omega)) ?_
  repeat (first | refine ga_ ?_ | intro _)
  refine AW_ret ?_
  repeat (first | refine ⟨0, rfl, ?_⟩ | refine ⟨1, rfl, ?_⟩ | refine ⟨2, rfl, ?_⟩ | refine ⟨3, rfl, ?_⟩ | refine ⟨4, rfl, ?_⟩ | refine ⟨5, rfl, ?_⟩ | refine ⟨6, rfl, ?_⟩)
  refine ⟨_, R, AVle.eq ?_, (by repeat (first | exact SLe.rfl | refine SLe.tail ?_)), rfl, rfl⟩
  rfl

/-! ### a text among some -/
theorem index_ok (l : List Key) (s : Key) (R : List En) (hl : l.length ≤ 1000000) : ACall Tryd.prog 105 [.sl 1 (l.map AV.str) .no, .str s] R (fun v S => ∃ n : Int, v = .int .i64 n ∧ (0 ≤ n ↔ s ∈ l) ∧ S = R) := by
  refine ACall_body tab_ok Tryd.func105 rfl rfl rfl (by kernel_rfl) (Nat.le_of_ble_eq_true rfl) ?_
  repeat (first | refine go_ ?_ | intro _)
  refine AW_for (α := Nat) (fun z => ⟨[(0, .sl 1 (l.map AV.str) .no), (1, .str s), (7, .int .i64 (l.length : Nat)), (8, .int .i64 (z : Nat))], []⟩) (fun z => R) (fun z => l.length - z) (fun z => z ≤ l.length ∧ s ∉ l.take z) (0) ?_ (weak_of ?_ rfl ?_) (fun z hz => ?_)
  · exact ⟨Nat.zero_le _, by simp⟩
  · repeat (first | exact trivial | refine ⟨(AVle.eq (congrArg (AV.int .i64) (by simp))), ?_⟩ | refine ⟨AVle.refl _, ?_⟩ | refine ⟨AVle.tk, ?_⟩ | refine ⟨AVle.nil, ?_⟩ | refine ⟨AVle.nilFull, ?_⟩ | refine ⟨AVle.eq (congrArg (AV.int .i64) (by first | (simp; done) | (simp; omega) | (rw [wrap_i64 (by first | omega | (simp; omega))]; first | rfl | omega | (simp; done) | (simp; omega)))), ?_⟩)
  · repeat (first | exact SLe.rfl | refine SLe.tail ?_ | refine SLe.full ?_)
  obtain ⟨i1, i2⟩ := hz
  repeat (first | refine go_ ?_ | intro _)
  refine AW_iff (z < l.length) rfl (by first | (simp; done) | (simp <;> omega) | decide) (fun h => ?_) (fun h => ?_)
  · have hlt := h
    obtain ⟨x, hx⟩ : ∃ x, x = l[z] := ⟨_, rfl⟩
    repeat (first | refine go_ ?_ | intro _)
    refine at_map (z) (by first | rfl | omega | (rw [wrap_i64 (by omega)]; omega)) (by first | assumption | omega) ?_
    rw [← hx]
    repeat (first | refine ga_ ?_ | intro _)
    refine AW_iff (s = x) rfl (by first | (simp; done) | (simp <;> omega) | decide) (fun h => ?_) (fun h => ?_)
    · have hs := h
      repeat (first | refine ga_ ?_ | intro _)
      refine AW_ret ?_
      repeat (first | refine ⟨0, rfl, ?_⟩ | refine ⟨1, rfl, ?_⟩ | refine ⟨2, rfl, ?_⟩ | refine ⟨3, rfl, ?_⟩ | refine ⟨4, rfl, ?_⟩ | refine ⟨5, rfl, ?_⟩ | refine ⟨6, rfl, ?_⟩)
      refine ⟨_, _, AVle.refl _, SLe.rfl, ?_⟩
      exact ⟨_, rfl, ⟨fun _ => by rw [hs, hx]; exact List.getElem_mem hlt, fun _ => by omega⟩, rfl⟩
    · have hs := h
      repeat (first | refine ga_ ?_ | intro _)
      refine ⟨z + 1, ?_, ?_, weak_of ?_ rfl ?_⟩
      · omega
      · refine ⟨hlt, fun hh => ?_⟩
        rw [List.take_succ_eq_append_getElem hlt, List.mem_append, List.mem_singleton, ← hx] at hh
        exact hh.elim i2 hs
      · repeat (first | exact trivial | refine ⟨AVle.refl _, ?_⟩ | refine ⟨AVle.tk, ?_⟩ | refine ⟨AVle.nil, ?_⟩ | refine ⟨AVle.nilFull, ?_⟩ | refine ⟨AVle.eq (congrArg (AV.int .i64) (by first | (simp; done) | (simp; omega) | (rw [wrap_i64 (by first | omega | (simp; omega))]; first | rfl | omega | (simp; done) | (simp; omega)))), ?_⟩)
      · repeat (first | exact SLe.rfl | refine SLe.tail ?_ | refine SLe.full ?_)
  · repeat (first | refine go_ ?_ | intro _)
    refine AW_ret ?_
    repeat (first | refine ⟨0, rfl, ?_⟩ | refine ⟨1, rfl, ?_⟩ | refine ⟨2, rfl, ?_⟩ | refine ⟨3, rfl, ?_⟩ | refine ⟨4, rfl, ?_⟩ | refine ⟨5, rfl, ?_⟩ | refine ⟨6, rfl, ?_⟩)
    refine ⟨_, _, AVle.refl _, SLe.rfl, ?_⟩
    refine ⟨_, rfl, ⟨fun hh => absurd hh (by decide), fun hh => ?_⟩, rfl⟩
    rw [List.take_of_length_le (by omega)] at i2
    exact absurd hh i2
theorem contains_ok (l : List Key) (s : Key) (R : List En) (hl : l.length ≤ 1000000) : ACall Tryd.prog 89 [.sl 1 (l.map AV.str) .no, .str s] R (fun v S => v = .bool (decide (s ∈ l)) ∧ S = R) := by
  refine ACall_body tab_ok Tryd.func89 rfl rfl rfl (by kernel_rfl) (Nat.le_of_ble_eq_true rfl) ?_
  repeat (first | refine go_ ?_ | intro _)
  refine Or.inl ⟨⟨_, Tryd.func105, rfl, rfl⟩, ACall.mono ?_ (index_ok l s _ hl)⟩
  rintro _ S1 ⟨n, rfl, hn, hS1⟩
  subst S1
  repeat (first | refine go_ ?_ | intro _)
  refine AW_ret ?_
  repeat (first | refine ⟨0, rfl, ?_⟩ | refine ⟨1, rfl, ?_⟩ | refine ⟨2, rfl, ?_⟩ | refine ⟨3, rfl, ?_⟩ | refine ⟨4, rfl, ?_⟩ | refine ⟨5, rfl, ?_⟩ | refine ⟨6, rfl, ?_⟩)
  refine ⟨_, R, AVle.eq ?_, (by repeat (first | exact SLe.rfl | refine SLe.tail ?_)), rfl, rfl⟩
  exact congrArg AV.bool (decide_eq_decide.2 hn)
end Go.Proofs.YtnkmjbjpmocnbaaDoor
/-
  A text's words, parted by blanks (a list). Own work.
-/
namespace Go.Proofs.YtnkmjbjpmocnbaaDoor
open Go.Aw Go.RowKit
set_option maxHeartbeats 4000000

/-! ### how many words -/
def starts : List UInt8 → Bool → Nat
  | [], _ => 0
  | c :: r, w => if spN c.toNat = true then starts r true else (if w = true then 1 else 0) + starts r false
theorem words_len : ∀ (l cur : List UInt8), (wordsL l cur).length = (if cur = [] then 0 else 1) + starts l (decide (cur = []))
  | [], cur => by
    rw [wordsL, starts]
    by_cases h : cur = []
    · rw [if_pos h, if_pos h]; rfl
    · rw [if_neg h, if_neg h]; rfl
  | c :: r, cur => by
    rw [wordsL, starts]
    by_cases hs : spN c.toNat = true
    · rw [if_pos hs, if_pos hs]
      by_cases h : cur = []
      · rw [if_pos h, if_pos h, words_len r []]; simp
      · rw [if_neg h, if_neg h, List.length_cons, words_len r []]; simp; omega
    · have hn : cur ++ [c] ≠ [] := by simp
      rw [if_neg hs, if_neg hs, words_len r (cur ++ [c]), if_neg hn, decide_eq_false hn]
      by_cases h : cur = []
      · simp [h]
      · simp [h]
theorem words_count (s : List UInt8) : (wordsL s []).length = starts s true := by rw [words_len]; simp
theorem starts_le : ∀ (l : List UInt8) (w : Bool), starts l w ≤ l.length
  | [], _ => Nat.le_refl _
  | c :: r, w => by
    have h1 := starts_le r true
    have h2 := starts_le r false
    rw [starts, List.length_cons]
    split
    · omega
    · split <;> omega
/-- bytes below 128, or'ed -/
def orI (a b : Int) : Int := IntKind.u8.wrap ((BitVec.ofInt IntKind.u8.bits a ||| BitVec.ofInt IntKind.u8.bits b).toNat : Int)
theorem or_lt {a b : Nat} (ha : a < 128) (hb : b < 128) : ∃ n : Nat, orI (a : Int) (b : Int) = (n : Int) ∧ n < 128 := by
  refine ⟨a ||| b, ?_, Nat.or_lt_two_pow (n := 7) ha hb⟩
  have h : (a ||| b) < 2 ^ 7 := Nat.or_lt_two_pow ha hb
  have e : (BitVec.ofInt 8 (a : Int) ||| BitVec.ofInt 8 (b : Int)).toNat = a ||| b := by
    rw [BitVec.toNat_or, BitVec.ofInt_natCast, BitVec.ofInt_natCast, BitVec.toNat_ofNat, BitVec.toNat_ofNat, Nat.mod_eq_of_lt (by omega), Nat.mod_eq_of_lt (by omega)]
  show IntKind.u8.wrap ((BitVec.ofInt 8 (a : Int) ||| BitVec.ofInt 8 (b : Int)).toNat : Int) = _
  rw [e]
  exact wrap_has_eq (by simp only [IntKind.has, IntKind.min, IntKind.max, IntKind.bits, IntKind.signed]; simp; omega)
theorem add_n {n k : Nat} {e : Int} (h : e = (k : Int)) (hn : n + k ≤ 2000000) : IntKind.i64.wrap ((n : Int) + e) = ((n + k : Nat) : Int) := by
  rw [h, wrap_i64 (by omega)]; omega
def andX (w v : Int) : Int := IntKind.i64.wrap ((BitVec.ofInt IntKind.i64.bits w &&& BitVec.ofInt IntKind.i64.bits (IntKind.i64.wrap ((BitVec.ofInt IntKind.i64.bits (if IntKind.i64.signed = true then -1 else IntKind.i64.max) ^^^ BitVec.ofInt IntKind.i64.bits (IntKind.i64.wrap v)).toNat : Int))).toNat : Int)
theorem and11 : andX 1 1 = ((0 : Nat) : Int) := by decide
theorem and01 : andX 0 1 = ((0 : Nat) : Int) := by decide
theorem and10 : andX 1 0 = ((1 : Nat) : Int) := by decide
theorem and00 : andX 0 0 = ((0 : Nat) : Int) := by decide
theorem wr1 : IntKind.i64.wrap 1 = 1 := by decide
theorem wr0 : IntKind.i64.wrap 0 = 0 := by decide
theorem flat_str : ∀ l : List Key, Aw.flat (l.map AV.str) = l.map AV.str
  | [] => rfl
  | x :: l => by
    have : Aw.flat ((x :: l).map AV.str) = (AV.str x).cells ++ Aw.flat (l.map AV.str) := by simp [Aw.flat]
    rw [this, flat_str l]; rfl
/-- the first words, and room for the others -/
def cW (W : List Key) (k : Nat) : List AV := (W.take k).map AV.str ++ List.replicate (W.length - k) (.str [])
theorem cW_len {W : List Key} {k : Nat} (h : k ≤ W.length) : (cW W k).length = W.length := by simp [cW]; omega
theorem cW_zero (W : List Key) : zerosAV [.str []] W.length = cW W 0 := by
  unfold zerosAV cW
  apply List.ext_getElem
  · simp
  · intro i h1 h2
    simp [Nat.mod_one]
theorem cW_all (W : List Key) : cW W W.length = W.map AV.str := by simp [cW]
theorem cW_set {W : List Key} {k : Nat} {x : Key} (h : W[k]? = some x) : setCells (cW W k) (k * 1) [.str x] = cW W (k + 1) := by
  obtain ⟨hk, hx⟩ := List.getElem?_eq_some_iff.1 h
  have hl : ((W.take k).map AV.str).length = k := by simp; omega
  unfold setCells cW
  rw [Nat.mul_one, List.take_left' hl, List.take_succ_eq_append_getElem hk, hx, List.map_append, show W.length - k = (W.length - (k + 1)) + 1 by omega, List.replicate_succ]
  rw [List.drop_append, List.drop_eq_nil_of_le (by simp; omega), hl]
  simp [show k + 1 - k = 1 by omega]

theorem hold_of (n b : Nat) (cs : List AV) (R : List En) : SLe (.cells b cs :: R) (hold n b cs R) := by
  unfold hold; split
  · exact SLe.tail SLe.rfl
  · exact SLe.rfl
theorem words_sp {r : List UInt8} {c : UInt8} (h : spN c.toNat = true) : wordsL (c :: r) [] = wordsL r [] := by rw [wordsL, if_pos h, if_pos rfl]
theorem fields_ok (s : List UInt8) (R : List En) (hE : spE ∈ R) (ha : ∀ c ∈ s, c.toNat < 128) (hs : s.length ≤ 1000000) : ACall Tryd.prog 90 [.str s] R (fun v S => v = .sl 1 ((wordsL s []).map AV.str) .no ∧ S = R) := by
  obtain ⟨W, hW⟩ : ∃ W, W = wordsL s [] := ⟨_, rfl⟩
  have hWl : W.length = starts s true := by rw [hW, words_count]
  have hWs := starts_le s true
  rw [← hW]
  refine ACall_body tab_ok Tryd.func90 rfl rfl rfl (by kernel_rfl) (Nat.le_of_ble_eq_true rfl) ?_
  repeat (first | refine go_ ?_ | intro _)
  refine AW_for (α := Nat × Nat × Bool × Nat) (fun z => ⟨[(0, .str s), (3, .int .i64 (z.2.1 : Nat)), (4, .int .i64 (if z.2.2.1 = true then 1 else 0)), (5, .int .u8 (z.2.2.2 : Nat)), (6, .int .i64 (z.1 : Nat))], []⟩) (fun z => R) (fun z => s.length - z.1) (fun z => z.1 ≤ s.length ∧ z.2.1 + starts (s.drop z.1) z.2.2.1 = W.length ∧ z.2.2.2 < 128) ((0, 0, true, 0)) ?_ (weak_of ?_ rfl ?_) (fun z hz => ?_)
  · exact ⟨Nat.zero_le _, by rw [hWl]; exact Nat.zero_add _, by show 0 < 128; omega⟩
  · repeat (first | exact trivial | refine ⟨AVle.refl _, ?_⟩ | refine ⟨AVle.tk, ?_⟩ | refine ⟨AVle.nil, ?_⟩ | refine ⟨AVle.nilFull, ?_⟩ | refine ⟨AVle.eq (congrArg (AV.int .i64) (by first | (simp; done) | (simp; omega) | (rw [wrap_i64 (by first | omega | (simp; omega))]; first | rfl | omega | (simp; done) | (simp; omega)))), ?_⟩)
  · repeat (first | exact SLe.rfl | refine SLe.tail ?_ | refine SLe.full ?_)
  obtain ⟨i, n, w, sb⟩ := z
  obtain ⟨i1, i2, i3⟩ : i ≤ s.length ∧ n + starts (s.drop i) w = W.length ∧ sb < 128 := hz
  repeat (first | refine go_ ?_ | intro _)
  refine AW_iff (i < s.length) rfl (by first | (simp; done) | (simp <;> omega) | decide) (fun h => ?_) (fun h => ?_)
  · have hlt := h
    obtain ⟨c, hc⟩ : ∃ c, c = s[i] := ⟨_, rfl⟩
    have hc128 : c.toNat < 128 := ha c (hc ▸ List.getElem_mem hlt)
    obtain ⟨sb2, ho, ho2⟩ := or_lt i3 hc128
    unfold orI at ho
    rw [dropAt hlt, ← hc, starts] at i2
    have hat := sp_at c
    repeat (first | refine go_ ?_ | intro _)
    refine at_list (i) (by first | rfl | omega | (rw [wrap_i64 (by omega)]; omega)) (by first | assumption | omega) ?_
    rw [← hc]
    repeat (first | refine go_ ?_ | intro _)
    refine ⟨(by omega), (by show (c.toNat : Int) < ((256 : Nat) : Int); omega), _, hE, _, hat, ?_⟩
    cases hsp : spN c.toNat with
    | true =>
      rw [if_pos hsp] at i2
      rw [show spI c.toNat = 1 from if_pos hsp]
      cases w with
      | true =>
        repeat (first | refine ga_ ?_ | intro _)
        refine ⟨(i + 1, n + 0, true, sb2), ?_, ?_, weak_of ?_ rfl ?_⟩
        · show s.length - (i + 1) < s.length - i; omega
        · exact ⟨hlt, by rw [Nat.add_zero]; exact i2, ho2⟩
        · repeat (first | exact trivial | refine ⟨(AVle.eq (show AV.int .i64 (IntKind.i64.wrap ((n : Int) + andX 1 1)) = AV.int .i64 ((n + 0 : Nat) : Int) from congrArg (AV.int .i64) (add_n (n := n) (k := 0) and11 (by omega)))), ?_⟩ | refine ⟨(AVle.eq (congrArg (AV.int .u8) ho)), ?_⟩ | refine ⟨(AVle.eq (congrArg (AV.int .i64) wr1)), ?_⟩ | refine ⟨AVle.refl _, ?_⟩ | refine ⟨AVle.tk, ?_⟩ | refine ⟨AVle.nil, ?_⟩ | refine ⟨AVle.nilFull, ?_⟩ | refine ⟨AVle.eq (congrArg (AV.int .i64) (by first | (simp; done) | (simp; omega) | (rw [wrap_i64 (by first | omega | (simp; omega))]; first | rfl | omega | (simp; done) | (simp; omega)))), ?_⟩)
        · repeat (first | exact SLe.rfl | refine SLe.tail ?_ | refine SLe.full ?_)
      | false =>
        repeat (first | refine ga_ ?_ | intro _)
        refine ⟨(i + 1, n + 0, true, sb2), ?_, ?_, weak_of ?_ rfl ?_⟩
        · show s.length - (i + 1) < s.length - i; omega
        · exact ⟨hlt, by rw [Nat.add_zero]; exact i2, ho2⟩
        · repeat (first | exact trivial | refine ⟨(AVle.eq (show AV.int .i64 (IntKind.i64.wrap ((n : Int) + andX 0 1)) = AV.int .i64 ((n + 0 : Nat) : Int) from congrArg (AV.int .i64) (add_n (n := n) (k := 0) and01 (by omega)))), ?_⟩ | refine ⟨(AVle.eq (congrArg (AV.int .u8) ho)), ?_⟩ | refine ⟨(AVle.eq (congrArg (AV.int .i64) wr1)), ?_⟩ | refine ⟨AVle.refl _, ?_⟩ | refine ⟨AVle.tk, ?_⟩ | refine ⟨AVle.nil, ?_⟩ | refine ⟨AVle.nilFull, ?_⟩ | refine ⟨AVle.eq (congrArg (AV.int .i64) (by first | (simp; done) | (simp; omega) | (rw [wrap_i64 (by first | omega | (simp; omega))]; first | rfl | omega | (simp; done) | (simp; omega)))), ?_⟩)
        · repeat (first | exact SLe.rfl | refine SLe.tail ?_ | refine SLe.full ?_)
    | false =>
      rw [if_neg (by rw [hsp]; decide)] at i2
      rw [show spI c.toNat = 0 from if_neg (by rw [hsp]; decide)]
      cases w with
      | true =>
        repeat (first | refine ga_ ?_ | intro _)
        refine ⟨(i + 1, n + 1, false, sb2), ?_, ?_, weak_of ?_ rfl ?_⟩
        · show s.length - (i + 1) < s.length - i; omega
        · exact ⟨hlt, by show n + 1 + starts (s.drop (i + 1)) false = W.length; rw [if_pos rfl] at i2; omega, ho2⟩
        · repeat (first | exact trivial | refine ⟨(AVle.eq (show AV.int .i64 (IntKind.i64.wrap ((n : Int) + andX 1 0)) = AV.int .i64 ((n + 1 : Nat) : Int) from congrArg (AV.int .i64) (add_n (n := n) (k := 1) and10 (by omega)))), ?_⟩ | refine ⟨(AVle.eq (congrArg (AV.int .u8) ho)), ?_⟩ | refine ⟨(AVle.eq (congrArg (AV.int .i64) wr0)), ?_⟩ | refine ⟨AVle.refl _, ?_⟩ | refine ⟨AVle.tk, ?_⟩ | refine ⟨AVle.nil, ?_⟩ | refine ⟨AVle.nilFull, ?_⟩ | refine ⟨AVle.eq (congrArg (AV.int .i64) (by first | (simp; done) | (simp; omega) | (rw [wrap_i64 (by first | omega | (simp; omega))]; first | rfl | omega | (simp; done) | (simp; omega)))), ?_⟩)
        · repeat (first | exact SLe.rfl | refine SLe.tail ?_ | refine SLe.full ?_)
      | false =>
        repeat (first | refine ga_ ?_ | intro _)
        refine ⟨(i + 1, n + 0, false, sb2), ?_, ?_, weak_of ?_ rfl ?_⟩
        · show s.length - (i + 1) < s.length - i; omega
        · exact ⟨hlt, by show n + 0 + starts (s.drop (i + 1)) false = W.length; rw [if_neg (by decide)] at i2; omega, ho2⟩
        · repeat (first | exact trivial | refine ⟨(AVle.eq (show AV.int .i64 (IntKind.i64.wrap ((n : Int) + andX 0 0)) = AV.int .i64 ((n + 0 : Nat) : Int) from congrArg (AV.int .i64) (add_n (n := n) (k := 0) and00 (by omega)))), ?_⟩ | refine ⟨(AVle.eq (congrArg (AV.int .u8) ho)), ?_⟩ | refine ⟨(AVle.eq (congrArg (AV.int .i64) wr0)), ?_⟩ | refine ⟨AVle.refl _, ?_⟩ | refine ⟨AVle.tk, ?_⟩ | refine ⟨AVle.nil, ?_⟩ | refine ⟨AVle.nilFull, ?_⟩ | refine ⟨AVle.eq (congrArg (AV.int .i64) (by first | (simp; done) | (simp; omega) | (rw [wrap_i64 (by first | omega | (simp; omega))]; first | rfl | omega | (simp; done) | (simp; omega)))), ?_⟩)
        · repeat (first | exact SLe.rfl | refine SLe.tail ?_ | refine SLe.full ?_)
  obtain rfl : i = s.length := by omega
  rw [List.drop_length, starts, Nat.add_zero] at i2
  subst i2
  repeat (first | refine ga_ ?_ | intro _)
  refine AW_false (b := decide ((128 : Int) ≤ (sb : Int))) rfl (by exact decide_eq_false (by omega)) ?_
  repeat (first | refine ga_ ?_ | intro _)
  refine ⟨W.length, W.length, rfl, rfl, Nat.le_refl _, room (by first | omega | (simp; omega)) rfl, .inr fun b1 => ?_⟩
  repeat (first | refine ga_ ?_ | intro _)
  refine AW_drop (SLe.of_eq (congrArg (fun k => En.cells b1 k :: R) (cW_zero W))) ?_
  refine AW_for (α := Nat) (fun z => ⟨[(0, .str s), (9, .msl b1 0 W.length W.length), (10, .int .i64 0), (12, .int .i64 (z : Nat))], []⟩) (fun z => .cells b1 (cW W 0) :: R) (fun z => s.length - z) (fun z => z ≤ s.length ∧ wordsL (s.drop z) [] = W) (0) ?_ (weak_of ?_ rfl ?_) (fun z hz => ?_)
  · exact ⟨Nat.zero_le _, hW.symm⟩
  · repeat (first | exact trivial | refine ⟨AVle.refl _, ?_⟩ | refine ⟨AVle.tk, ?_⟩ | refine ⟨AVle.nil, ?_⟩ | refine ⟨AVle.nilFull, ?_⟩ | refine ⟨AVle.eq (congrArg (AV.int .i64) (by first | (simp; done) | (simp; omega) | (rw [wrap_i64 (by first | omega | (simp; omega))]; first | rfl | omega | (simp; done) | (simp; omega)))), ?_⟩)
  · repeat (first | exact SLe.rfl | refine SLe.tail ?_ | refine SLe.full ?_)
  obtain ⟨i, hi⟩ : ∃ i, i = z := ⟨_, rfl⟩
  subst hi
  obtain ⟨k1, k3⟩ := hz
  repeat (first | refine ga_ ?_ | intro _)
  refine gsplit (i < s.length) (by first | (simp; done) | (simp <;> omega) | decide) (fun h => ?_) (fun h => ?_)
  · have hlt := h
    obtain ⟨c, hc⟩ : ∃ c, c = s[i] := ⟨_, rfl⟩
    have hc128 : c.toNat < 128 := ha c (hc ▸ List.getElem_mem hlt)
    repeat (first | refine ga_ ?_ | intro _)
    refine at_list (i) (by first | rfl | omega | (rw [wrap_i64 (by omega)]; omega)) (by first | assumption | omega) ?_
    rw [← hc]
    repeat (first | refine ga_ ?_ | intro _)
    refine ⟨(by omega), (by show (c.toNat : Int) < ((256 : Nat) : Int); omega), _, List.Mem.tail _ hE, _, sp_at c, ?_⟩
    repeat (first | refine ga_ ?_ | intro _)
    refine AW_iff (¬ spI c.toNat = 0) rfl (by first | (simp; done) | (simp <;> omega) | decide) (fun h => ?_) (fun h => ?_)
    · have hsp : spN c.toNat = true := by
        cases hh : spN c.toNat with
        | true => rfl
        | false => exact absurd (spI_0.2 hh) h
      rw [dropAt hlt, ← hc, words_sp hsp] at k3
      repeat (first | refine ga_ ?_ | intro _)
      refine ⟨i + 1, ?_, ?_, weak_of ?_ rfl ?_⟩
      · omega
      · exact ⟨hlt, k3⟩
      · repeat (first | exact trivial | refine ⟨AVle.refl _, ?_⟩ | refine ⟨AVle.tk, ?_⟩ | refine ⟨AVle.nil, ?_⟩ | refine ⟨AVle.nilFull, ?_⟩ | refine ⟨AVle.eq (congrArg (AV.int .i64) (by first | (simp; done) | (simp; omega) | (rw [wrap_i64 (by first | omega | (simp; omega))]; first | rfl | omega | (simp; done) | (simp; omega)))), ?_⟩)
      · repeat (first | exact SLe.rfl | refine SLe.tail ?_ | refine SLe.full ?_)
    · have hsp : spN c.toNat = false := spI_0.1 (Decidable.not_not.1 h)
      have hn : ∀ h : i < s.length, spN s[i].toNat = false := fun _ => by rw [← hc]; exact hsp
      clear hc hc128 hsp h
      repeat (first | refine ga_ ?_ | intro _)
      refine AW_for (α := Nat × Nat × Nat) (fun z => ⟨[(0, .str s), (9, .msl b1 0 W.length W.length), (10, .int .i64 (z.2.2 : Nat)), (11, .int .i64 (z.2.1 : Nat)), (12, .int .i64 (z.1 : Nat))], []⟩) (fun z => .cells b1 (cW W z.2.2) :: R) (fun z => s.length - z.1) (fun z => z.2.1 ≤ z.1 ∧ z.1 ≤ s.length ∧ W.drop z.2.2 = wordsL (s.drop z.1) ((s.take z.1).drop z.2.1) ∧ z.2.2 ≤ W.length ∧ (z.2.1 = z.1 → ∀ h : z.1 < s.length, spN s[z.1].toNat = false)) ((i, i, 0)) ?_ (weak_of ?_ rfl ?_) (fun z hz => ?_)
      · refine ⟨Nat.le_refl _, k1, ?_, Nat.zero_le _, fun _ => hn⟩
        have e0 : (s.take i).drop i = [] := List.drop_eq_nil_of_le (by rw [List.length_take]; omega)
        show W.drop 0 = wordsL (s.drop i) ((s.take i).drop i)
        rw [e0, List.drop_zero, k3]
      · repeat (first | exact trivial | refine ⟨AVle.refl _, ?_⟩ | refine ⟨AVle.tk, ?_⟩ | refine ⟨AVle.nil, ?_⟩ | refine ⟨AVle.nilFull, ?_⟩ | refine ⟨AVle.eq (congrArg (AV.int .i64) (by first | (simp; done) | (simp; omega) | (rw [wrap_i64 (by first | omega | (simp; omega))]; first | rfl | omega | (simp; done) | (simp; omega)))), ?_⟩)
      · repeat (first | exact SLe.rfl | refine SLe.tail ?_ | refine SLe.full ?_)
      obtain ⟨i, m, na⟩ := z
      obtain ⟨j1, j2, j3, j4, j5⟩ : m ≤ i ∧ i ≤ s.length ∧ W.drop na = wordsL (s.drop i) ((s.take i).drop m) ∧ na ≤ W.length ∧ (m = i → ∀ h : i < s.length, spN s[i].toNat = false) := hz
      repeat (first | refine ga_ ?_ | intro _)
      refine AW_iff (i < s.length) rfl (by first | (simp; done) | (simp <;> omega) | decide) (fun h => ?_) (fun h => ?_)
      rotate_left
      · obtain rfl : i = s.length := by omega
        rw [List.drop_length, wordsL, List.take_length] at j3
        repeat (first | refine ga_ ?_ | intro _)
        refine AW_iff (m < s.length) rfl (by first | (simp; done) | (simp <;> omega) | decide) (fun h => ?_) (fun h => ?_)
        · have hm := h
          have hne : s.drop m ≠ [] := by intro e; have := congrArg List.length e; simp at this; omega
          rw [if_neg hne] at j3
          obtain ⟨g1, g2, g3⟩ := drop_get j3
          have hna : na + 1 = W.length := by have := congrArg List.length g2; simp at this; omega
          repeat (first | refine ga_ ?_ | intro _)
          refine at_ss m s.length (s.drop m) rfl rfl (by omega) (Nat.le_refl _) (by rw [List.take_length]) ?_
          repeat (first | refine ga_ ?_ | intro _)
          refine at_msl na (na * 1) rfl (by omega) (by show 0 + na * 1 = _; omega) ?_
          repeat (first | refine ga_ ?_ | intro _)
          refine ⟨(by show na * 1 + 1 ≤ (cW W na).length; rw [cW_len j4]; omega), cW W (na + 1), cW_set g1, ?_⟩
          refine AW_drop (SLe.of_eq (congrArg (fun k => En.cells b1 (cW W k) :: R) hna)) ?_
          refine AW_seq ?_
          refine AW_weak (weak_of (l := [(9, .msl b1 0 W.length W.length)]) (m := []) (S' := .cells b1 (cW W W.length) :: R) ?_ rfl ?_) ?_
          · repeat (first | exact trivial | refine ⟨AVle.refl _, ?_⟩ | refine ⟨AVle.tk, ?_⟩ | refine ⟨AVle.nil, ?_⟩ | refine ⟨AVle.nilFull, ?_⟩ | refine ⟨AVle.eq (congrArg (AV.int .i64) (by first | (simp; done) | (simp; omega) | (rw [wrap_i64 (by first | omega | (simp; omega))]; first | rfl | omega | (simp; done) | (simp; omega)))), ?_⟩)
          · refine SW.le ?_
            repeat (first | exact SW.nil | refine SW.cons ?_ | refine SW.cells (by repeat (first | exact trivial | refine ⟨AVle.refl _, ?_⟩ | refine ⟨AVle.nilFull, ?_⟩ | refine ⟨AVle.tk, ?_⟩ | refine ⟨AVle.nil, ?_⟩)) rfl ?_ | refine SW.full ?_ | refine SW.drop ?_)
          refine AW_drop (hold_of W.length b1 _ _) ?_
          refine AW_freeze 9 (sz := 1) (es := W.map AV.str) (fun h => h) rfl (by simp) (by simp [AV.cells]) (by rw [List.drop_zero, Nat.mul_one, cW_all, List.take_of_length_le (by simp), flat_str]) ?_
          repeat (first | refine ga_ ?_ | intro _)
          refine AW_ret ?_
          repeat (first | refine ⟨0, rfl, ?_⟩ | refine ⟨1, rfl, ?_⟩ | refine ⟨2, rfl, ?_⟩ | refine ⟨3, rfl, ?_⟩ | refine ⟨4, rfl, ?_⟩ | refine ⟨5, rfl, ?_⟩ | refine ⟨6, rfl, ?_⟩)
          refine ⟨_, R, AVle.eq ?_, (by repeat (first | exact SLe.rfl | refine SLe.tail ?_)), rfl, rfl⟩
          rfl
        · have hm := h
          have he : s.drop m = [] := List.drop_eq_nil_of_le (by omega)
          rw [if_pos he] at j3
          have hna : na = W.length := by have := congrArg List.length j3; simp at this; omega
          subst hna
          refine AW_weak (weak_of (l := [(9, .msl b1 0 W.length W.length)]) (m := []) (S' := .cells b1 (cW W W.length) :: R) ?_ rfl ?_) ?_
          · repeat (first | exact trivial | refine ⟨AVle.refl _, ?_⟩ | refine ⟨AVle.tk, ?_⟩ | refine ⟨AVle.nil, ?_⟩ | refine ⟨AVle.nilFull, ?_⟩ | refine ⟨AVle.eq (congrArg (AV.int .i64) (by first | (simp; done) | (simp; omega) | (rw [wrap_i64 (by first | omega | (simp; omega))]; first | rfl | omega | (simp; done) | (simp; omega)))), ?_⟩)
          · refine SW.le ?_
            repeat (first | exact SW.nil | refine SW.cons ?_ | refine SW.cells (by repeat (first | exact trivial | refine ⟨AVle.refl _, ?_⟩ | refine ⟨AVle.nilFull, ?_⟩ | refine ⟨AVle.tk, ?_⟩ | refine ⟨AVle.nil, ?_⟩)) rfl ?_ | refine SW.full ?_ | refine SW.drop ?_)
          refine AW_drop (hold_of W.length b1 _ _) ?_
          refine AW_freeze 9 (sz := 1) (es := W.map AV.str) (fun h => h) rfl (by simp) (by simp [AV.cells]) (by rw [List.drop_zero, Nat.mul_one, cW_all, List.take_of_length_le (by simp), flat_str]) ?_
          repeat (first | refine ga_ ?_ | intro _)
          refine AW_ret ?_
          repeat (first | refine ⟨0, rfl, ?_⟩ | refine ⟨1, rfl, ?_⟩ | refine ⟨2, rfl, ?_⟩ | refine ⟨3, rfl, ?_⟩ | refine ⟨4, rfl, ?_⟩ | refine ⟨5, rfl, ?_⟩ | refine ⟨6, rfl, ?_⟩)
          refine ⟨_, R, AVle.eq ?_, (by repeat (first | exact SLe.rfl | refine SLe.tail ?_)), rfl, rfl⟩
          rfl
      have hlt := h
      obtain ⟨c, hc⟩ : ∃ c, c = s[i] := ⟨_, rfl⟩
      have hc128 : c.toNat < 128 := ha c (hc ▸ List.getElem_mem hlt)
      rw [dropAt hlt, ← hc, wordsL] at j3
      repeat (first | refine ga_ ?_ | intro _)
      refine at_list (i) (by first | rfl | omega | (rw [wrap_i64 (by omega)]; omega)) (by first | assumption | omega) ?_
      rw [← hc]
      repeat (first | refine ga_ ?_ | intro _)
      refine ⟨(by omega), (by show (c.toNat : Int) < ((256 : Nat) : Int); omega), _, List.Mem.tail _ hE, _, sp_at c, ?_⟩
      repeat (first | refine ga_ ?_ | intro _)
      refine AW_iff (spI c.toNat = 0) rfl (by first | (simp; done) | (simp <;> omega) | decide) (fun h => ?_) (fun h => ?_)
      · have hsp : ¬ spN c.toNat = true := by rw [spI_0.1 h]; decide
        rw [if_neg hsp] at j3
        repeat (first | refine ga_ ?_ | intro _)
        refine ⟨(i + 1, m, na), ?_, ?_, weak_of ?_ rfl ?_⟩
        · show s.length - (i + 1) < s.length - i; omega
        · refine ⟨Nat.le_succ_of_le j1, hlt, ?_, j4, fun e => absurd e (by show ¬ m = i + 1; omega)⟩
          show W.drop na = wordsL (s.drop (i + 1)) ((s.take (i + 1)).drop m)
          rw [take_at j1 hlt, ← hc]; exact j3
        · repeat (first | exact trivial | refine ⟨AVle.refl _, ?_⟩ | refine ⟨AVle.tk, ?_⟩ | refine ⟨AVle.nil, ?_⟩ | refine ⟨AVle.nilFull, ?_⟩ | refine ⟨AVle.eq (congrArg (AV.int .i64) (by first | (simp; done) | (simp; omega) | (rw [wrap_i64 (by first | omega | (simp; omega))]; first | rfl | omega | (simp; done) | (simp; omega)))), ?_⟩)
        · repeat (first | exact SLe.rfl | refine SLe.tail ?_ | refine SLe.full ?_)
      have hsp : spN c.toNat = true := by
        cases hh : spN c.toNat with
        | true => rfl
        | false => exact absurd (spI_0.2 hh) h
      have hmi : m < i := by
        rcases Nat.lt_or_eq_of_le j1 with h' | h'
        · exact h'
        · have := j5 h' hlt; rw [← hc, hsp] at this; cases this
      rw [if_pos hsp, if_neg (cur_ne hmi j2)] at j3
      obtain ⟨g1, g2, g3⟩ := drop_get j3
      repeat (first | refine ga_ ?_ | intro _)
      refine at_ss m i _ rfl rfl (by omega) j2 rfl ?_
      repeat (first | refine ga_ ?_ | intro _)
      refine at_msl na (na * 1) rfl (by omega) (by show 0 + na * 1 = _; omega) ?_
      repeat (first | refine ga_ ?_ | intro _)
      refine ⟨(by show na * 1 + 1 ≤ (cW W na).length; rw [cW_len j4]; omega), cW W (na + 1), cW_set g1, ?_⟩
      repeat (first | refine ga_ ?_ | intro _)
      refine AW_for (α := Nat) (fun z => ⟨[(0, .str s), (9, .msl b1 0 W.length W.length), (10, .int .i64 ((na + 1 : Nat) : Int)), (12, .int .i64 (z : Nat))], []⟩) (fun z => .cells b1 (cW W (na + 1)) :: R) (fun z => s.length - z) (fun z => z ≤ s.length ∧ i < z ∧ wordsL (s.drop z) [] = W.drop (na + 1)) (i + 1) ?_ (weak_of ?_ rfl ?_) (fun z hz => ?_)
      · exact ⟨hlt, Nat.lt_succ_self i, g2.symm⟩
      · repeat (first | exact trivial | refine ⟨AVle.refl _, ?_⟩ | refine ⟨AVle.tk, ?_⟩ | refine ⟨AVle.nil, ?_⟩ | refine ⟨AVle.nilFull, ?_⟩ | refine ⟨AVle.eq (congrArg (AV.int .i64) (by first | (simp; done) | (simp; omega) | (rw [wrap_i64 (by first | omega | (simp; omega))]; first | rfl | omega | (simp; done) | (simp; omega)))), ?_⟩)
      · repeat (first | exact SLe.rfl | refine SLe.tail ?_ | refine SLe.full ?_)
      obtain ⟨k1, k2, k3⟩ := hz
      have e0 : (s.take z).drop z = [] := List.drop_eq_nil_of_le (by rw [List.length_take]; omega)
      repeat (first | refine ga_ ?_ | intro _)
      refine gsplit (z < s.length) (by first | (simp; done) | (simp <;> omega) | decide) (fun h => ?_) (fun h => ?_)
      · have hlt2 := h
        obtain ⟨d, hd⟩ : ∃ d, d = s[z] := ⟨_, rfl⟩
        have hd128 : d.toNat < 128 := ha d (hd ▸ List.getElem_mem hlt2)
        repeat (first | refine ga_ ?_ | intro _)
        refine at_list (z) (by first | rfl | omega | (rw [wrap_i64 (by omega)]; omega)) (by first | assumption | omega) ?_
        rw [← hd]
        repeat (first | refine ga_ ?_ | intro _)
        refine ⟨(by omega), (by show (d.toNat : Int) < ((256 : Nat) : Int); omega), _, List.Mem.tail _ hE, _, sp_at d, ?_⟩
        repeat (first | refine ga_ ?_ | intro _)
        refine AW_iff (¬ spI d.toNat = 0) rfl (by first | (simp; done) | (simp <;> omega) | decide) (fun h => ?_) (fun h => ?_)
        · have hsp2 : spN d.toNat = true := by
            cases hh : spN d.toNat with
            | true => rfl
            | false => exact absurd (spI_0.2 hh) h
          rw [dropAt hlt2, ← hd, words_sp hsp2] at k3
          repeat (first | refine ga_ ?_ | intro _)
          refine ⟨z + 1, ?_, ?_, weak_of ?_ rfl ?_⟩
          · omega
          · exact ⟨hlt2, Nat.lt_succ_of_lt k2, k3⟩
          · repeat (first | exact trivial | refine ⟨AVle.refl _, ?_⟩ | refine ⟨AVle.tk, ?_⟩ | refine ⟨AVle.nil, ?_⟩ | refine ⟨AVle.nilFull, ?_⟩ | refine ⟨AVle.eq (congrArg (AV.int .i64) (by first | (simp; done) | (simp; omega) | (rw [wrap_i64 (by first | omega | (simp; omega))]; first | rfl | omega | (simp; done) | (simp; omega)))), ?_⟩)
          · repeat (first | exact SLe.rfl | refine SLe.tail ?_ | refine SLe.full ?_)
        · have hsp2 : spN d.toNat = false := spI_0.1 (Decidable.not_not.1 h)
          repeat (first | refine ga_ ?_ | intro _)
          refine ⟨(z, z, na + 1), ?_, ?_, weak_of ?_ rfl ?_⟩
          · show s.length - z < s.length - i; omega
          · exact ⟨Nat.le_refl _, k1, (by show W.drop (na + 1) = wordsL (s.drop z) ((s.take z).drop z); rw [e0]; exact k3.symm), g3, fun _ _ => by show spN s[z].toNat = false; rw [← hd]; exact hsp2⟩
          · repeat (first | exact trivial | refine ⟨AVle.refl _, ?_⟩ | refine ⟨AVle.tk, ?_⟩ | refine ⟨AVle.nil, ?_⟩ | refine ⟨AVle.nilFull, ?_⟩ | refine ⟨AVle.eq (congrArg (AV.int .i64) (by first | (simp; done) | (simp; omega) | (rw [wrap_i64 (by first | omega | (simp; omega))]; first | rfl | omega | (simp; done) | (simp; omega)))), ?_⟩)
          · repeat (first | exact SLe.rfl | refine SLe.tail ?_ | refine SLe.full ?_)
      · have hge := h
        repeat (first | refine ga_ ?_ | intro _)
        refine ⟨(z, z, na + 1), ?_, ?_, weak_of ?_ rfl ?_⟩
        · show s.length - z < s.length - i; omega
        · exact ⟨Nat.le_refl _, k1, (by show W.drop (na + 1) = wordsL (s.drop z) ((s.take z).drop z); rw [e0]; exact k3.symm), g3, fun _ h' => absurd h' hge⟩
        · repeat (first | exact trivial | refine ⟨AVle.refl _, ?_⟩ | refine ⟨AVle.tk, ?_⟩ | refine ⟨AVle.nil, ?_⟩ | refine ⟨AVle.nilFull, ?_⟩ | refine ⟨AVle.eq (congrArg (AV.int .i64) (by first | (simp; done) | (simp; omega) | (rw [wrap_i64 (by first | omega | (simp; omega))]; first | rfl | omega | (simp; done) | (simp; omega)))), ?_⟩)
        · repeat (first | exact SLe.rfl | refine SLe.tail ?_ | refine SLe.full ?_)
  · have hn : ∀ h : i < s.length, spN s[i].toNat = false := fun h' => absurd h' h
    repeat (first | refine ga_ ?_ | intro _)
    refine AW_for (α := Nat × Nat × Nat) (fun z => ⟨[(0, .str s), (9, .msl b1 0 W.length W.length), (10, .int .i64 (z.2.2 : Nat)), (11, .int .i64 (z.2.1 : Nat)), (12, .int .i64 (z.1 : Nat))], []⟩) (fun z => .cells b1 (cW W z.2.2) :: R) (fun z => s.length - z.1) (fun z => z.2.1 ≤ z.1 ∧ z.1 ≤ s.length ∧ W.drop z.2.2 = wordsL (s.drop z.1) ((s.take z.1).drop z.2.1) ∧ z.2.2 ≤ W.length ∧ (z.2.1 = z.1 → ∀ h : z.1 < s.length, spN s[z.1].toNat = false)) ((i, i, 0)) ?_ (weak_of ?_ rfl ?_) (fun z hz => ?_)
    · refine ⟨Nat.le_refl _, k1, ?_, Nat.zero_le _, fun _ => hn⟩
      have e0 : (s.take i).drop i = [] := List.drop_eq_nil_of_le (by rw [List.length_take]; omega)
      show W.drop 0 = wordsL (s.drop i) ((s.take i).drop i)
      rw [e0, List.drop_zero, k3]
    · repeat (first | exact trivial | refine ⟨AVle.refl _, ?_⟩ | refine ⟨AVle.tk, ?_⟩ | refine ⟨AVle.nil, ?_⟩ | refine ⟨AVle.nilFull, ?_⟩ | refine ⟨AVle.eq (congrArg (AV.int .i64) (by first | (simp; done) | (simp; omega) | (rw [wrap_i64 (by first | omega | (simp; omega))]; first | rfl | omega | (simp; done) | (simp; omega)))), ?_⟩)
    · repeat (first | exact SLe.rfl | refine SLe.tail ?_ | refine SLe.full ?_)
    obtain ⟨i, m, na⟩ := z
    obtain ⟨j1, j2, j3, j4, j5⟩ : m ≤ i ∧ i ≤ s.length ∧ W.drop na = wordsL (s.drop i) ((s.take i).drop m) ∧ na ≤ W.length ∧ (m = i → ∀ h : i < s.length, spN s[i].toNat = false) := hz
    repeat (first | refine ga_ ?_ | intro _)
    refine AW_iff (i < s.length) rfl (by first | (simp; done) | (simp <;> omega) | decide) (fun h => ?_) (fun h => ?_)
    rotate_left
    · obtain rfl : i = s.length := by omega
      rw [List.drop_length, wordsL, List.take_length] at j3
      repeat (first | refine ga_ ?_ | intro _)
      refine AW_iff (m < s.length) rfl (by first | (simp; done) | (simp <;> omega) | decide) (fun h => ?_) (fun h => ?_)
      · have hm := h
        have hne : s.drop m ≠ [] := by intro e; have := congrArg List.length e; simp at this; omega
        rw [if_neg hne] at j3
        obtain ⟨g1, g2, g3⟩ := drop_get j3
        have hna : na + 1 = W.length := by have := congrArg List.length g2; simp at this; omega
        repeat (first | refine ga_ ?_ | intro _)
        refine at_ss m s.length (s.drop m) rfl rfl (by omega) (Nat.le_refl _) (by rw [List.take_length]) ?_
        repeat (first | refine ga_ ?_ | intro _)
        refine at_msl na (na * 1) rfl (by omega) (by show 0 + na * 1 = _; omega) ?_
        repeat (first | refine ga_ ?_ | intro _)
        refine ⟨(by show na * 1 + 1 ≤ (cW W na).length; rw [cW_len j4]; omega), cW W (na + 1), cW_set g1, ?_⟩
        refine AW_drop (SLe.of_eq (congrArg (fun k => En.cells b1 (cW W k) :: R) hna)) ?_
        refine AW_seq ?_
        refine AW_weak (weak_of (l := [(9, .msl b1 0 W.length W.length)]) (m := []) (S' := .cells b1 (cW W W.length) :: R) ?_ rfl ?_) ?_
        · repeat (first | exact trivial | refine ⟨AVle.refl _, ?_⟩ | refine ⟨AVle.tk, ?_⟩ | refine ⟨AVle.nil, ?_⟩ | refine ⟨AVle.nilFull, ?_⟩ | refine ⟨AVle.eq (congrArg (AV.int .i64) (by first | (simp; done) | (simp; omega) | (rw [wrap_i64 (by first | omega | (simp; omega))]; first | rfl | omega | (simp; done) | (simp; omega)))), ?_⟩)
        · refine SW.le ?_
          repeat (first | exact SW.nil | refine SW.cons ?_ | refine SW.cells (by repeat (first | exact trivial | refine ⟨AVle.refl _, ?_⟩ | refine ⟨AVle.nilFull, ?_⟩ | refine ⟨AVle.tk, ?_⟩ | refine ⟨AVle.nil, ?_⟩)) rfl ?_ | refine SW.full ?_ | refine SW.drop ?_)
        refine AW_drop (hold_of W.length b1 _ _) ?_
        refine AW_freeze 9 (sz := 1) (es := W.map AV.str) (fun h => h) rfl (by simp) (by simp [AV.cells]) (by rw [List.drop_zero, Nat.mul_one, cW_all, List.take_of_length_le (by simp), flat_str]) ?_
        repeat (first | refine ga_ ?_ | intro _)
        refine AW_ret ?_
        repeat (first | refine ⟨0, rfl, ?_⟩ | refine ⟨1, rfl, ?_⟩ | refine ⟨2, rfl, ?_⟩ | refine ⟨3, rfl, ?_⟩ | refine ⟨4, rfl, ?_⟩ | refine ⟨5, rfl, ?_⟩ | refine ⟨6, rfl, ?_⟩)
        refine ⟨_, R, AVle.eq ?_, (by repeat (first | exact SLe.rfl | refine SLe.tail ?_)), rfl, rfl⟩
        rfl
      · have hm := h
        have he : s.drop m = [] := List.drop_eq_nil_of_le (by omega)
        rw [if_pos he] at j3
        have hna : na = W.length := by have := congrArg List.length j3; simp at this; omega
        subst hna
        refine AW_weak (weak_of (l := [(9, .msl b1 0 W.length W.length)]) (m := []) (S' := .cells b1 (cW W W.length) :: R) ?_ rfl ?_) ?_
        · repeat (first | exact trivial | refine ⟨AVle.refl _, ?_⟩ | refine ⟨AVle.tk, ?_⟩ | refine ⟨AVle.nil, ?_⟩ | refine ⟨AVle.nilFull, ?_⟩ | refine ⟨AVle.eq (congrArg (AV.int .i64) (by first | (simp; done) | (simp; omega) | (rw [wrap_i64 (by first | omega | (simp; omega))]; first | rfl | omega | (simp; done) | (simp; omega)))), ?_⟩)
        · refine SW.le ?_
          repeat (first | exact SW.nil | refine SW.cons ?_ | refine SW.cells (by repeat (first | exact trivial | refine ⟨AVle.refl _, ?_⟩ | refine ⟨AVle.nilFull, ?_⟩ | refine ⟨AVle.tk, ?_⟩ | refine ⟨AVle.nil, ?_⟩)) rfl ?_ | refine SW.full ?_ | refine SW.drop ?_)
        refine AW_drop (hold_of W.length b1 _ _) ?_
        refine AW_freeze 9 (sz := 1) (es := W.map AV.str) (fun h => h) rfl (by simp) (by simp [AV.cells]) (by rw [List.drop_zero, Nat.mul_one, cW_all, List.take_of_length_le (by simp), flat_str]) ?_
        repeat (first | refine ga_ ?_ | intro _)
        refine AW_ret ?_
        repeat (first | refine ⟨0, rfl, ?_⟩ | refine ⟨1, rfl, ?_⟩ | refine ⟨2, rfl, ?_⟩ | refine ⟨3, rfl, ?_⟩ | refine ⟨4, rfl, ?_⟩ | refine ⟨5, rfl, ?_⟩ | refine ⟨6, rfl, ?_⟩)
        refine ⟨_, R, AVle.eq ?_, (by repeat (first | exact SLe.rfl | refine SLe.tail ?_)), rfl, rfl⟩
        rfl
    have hlt := h
    obtain ⟨c, hc⟩ : ∃ c, c = s[i] := ⟨_, rfl⟩
    have hc128 : c.toNat < 128 := ha c (hc ▸ List.getElem_mem hlt)
    rw [dropAt hlt, ← hc, wordsL] at j3
    repeat (first | refine ga_ ?_ | intro _)
    refine at_list (i) (by first | rfl | omega | (rw [wrap_i64 (by omega)]; omega)) (by first | assumption | omega) ?_
    rw [← hc]
    repeat (first | refine ga_ ?_ | intro _)
    refine ⟨(by omega), (by show (c.toNat : Int) < ((256 : Nat) : Int); omega), _, List.Mem.tail _ hE, _, sp_at c, ?_⟩
    repeat (first | refine ga_ ?_ | intro _)
    refine AW_iff (spI c.toNat = 0) rfl (by first | (simp; done) | (simp <;> omega) | decide) (fun h => ?_) (fun h => ?_)
    · have hsp : ¬ spN c.toNat = true := by rw [spI_0.1 h]; decide
      rw [if_neg hsp] at j3
      repeat (first | refine ga_ ?_ | intro _)
      refine ⟨(i + 1, m, na), ?_, ?_, weak_of ?_ rfl ?_⟩
      · show s.length - (i + 1) < s.length - i; omega
      · refine ⟨Nat.le_succ_of_le j1, hlt, ?_, j4, fun e => absurd e (by show ¬ m = i + 1; omega)⟩
        show W.drop na = wordsL (s.drop (i + 1)) ((s.take (i + 1)).drop m)
        rw [take_at j1 hlt, ← hc]; exact j3
      · repeat (first | exact trivial | refine ⟨AVle.refl _, ?_⟩ | refine ⟨AVle.tk, ?_⟩ | refine ⟨AVle.nil, ?_⟩ | refine ⟨AVle.nilFull, ?_⟩ | refine ⟨AVle.eq (congrArg (AV.int .i64) (by first | (simp; done) | (simp; omega) | (rw [wrap_i64 (by first | omega | (simp; omega))]; first | rfl | omega | (simp; done) | (simp; omega)))), ?_⟩)
      · repeat (first | exact SLe.rfl | refine SLe.tail ?_ | refine SLe.full ?_)
    have hsp : spN c.toNat = true := by
      cases hh : spN c.toNat with
      | true => rfl
      | false => exact absurd (spI_0.2 hh) h
    have hmi : m < i := by
      rcases Nat.lt_or_eq_of_le j1 with h' | h'
      · exact h'
      · have := j5 h' hlt; rw [← hc, hsp] at this; cases this
    rw [if_pos hsp, if_neg (cur_ne hmi j2)] at j3
    obtain ⟨g1, g2, g3⟩ := drop_get j3
    repeat (first | refine ga_ ?_ | intro _)
    refine at_ss m i _ rfl rfl (by omega) j2 rfl ?_
    repeat (first | refine ga_ ?_ | intro _)
    refine at_msl na (na * 1) rfl (by omega) (by show 0 + na * 1 = _; omega) ?_
    repeat (first | refine ga_ ?_ | intro _)
    refine ⟨(by show na * 1 + 1 ≤ (cW W na).length; rw [cW_len j4]; omega), cW W (na + 1), cW_set g1, ?_⟩
    repeat (first | refine ga_ ?_ | intro _)
    refine AW_for (α := Nat) (fun z => ⟨[(0, .str s), (9, .msl b1 0 W.length W.length), (10, .int .i64 ((na + 1 : Nat) : Int)), (12, .int .i64 (z : Nat))], []⟩) (fun z => .cells b1 (cW W (na + 1)) :: R) (fun z => s.length - z) (fun z => z ≤ s.length ∧ i < z ∧ wordsL (s.drop z) [] = W.drop (na + 1)) (i + 1) ?_ (weak_of ?_ rfl ?_) (fun z hz => ?_)
    · exact ⟨hlt, Nat.lt_succ_self i, g2.symm⟩
    · repeat (first | exact trivial | refine ⟨AVle.refl _, ?_⟩ | refine ⟨AVle.tk, ?_⟩ | refine ⟨AVle.nil, ?_⟩ | refine ⟨AVle.nilFull, ?_⟩ | refine ⟨AVle.eq (congrArg (AV.int .i64) (by first | (simp; done) | (simp; omega) | (rw [wrap_i64 (by first | omega | (simp; omega))]; first | rfl | omega | (simp; done) | (simp; omega)))), ?_⟩)
    · repeat (first | exact SLe.rfl | refine SLe.tail ?_ | refine SLe.full ?_)
    obtain ⟨k1, k2, k3⟩ := hz
    have e0 : (s.take z).drop z = [] := List.drop_eq_nil_of_le (by rw [List.length_take]; omega)
    repeat (first | refine ga_ ?_ | intro _)
    refine gsplit (z < s.length) (by first | (simp; done) | (simp <;> omega) | decide) (fun h => ?_) (fun h => ?_)
    · have hlt2 := h
      obtain ⟨d, hd⟩ : ∃ d, d = s[z] := ⟨_, rfl⟩
      have hd128 : d.toNat < 128 := ha d (hd ▸ List.getElem_mem hlt2)
      repeat (first | refine ga_ ?_ | intro _)
      refine at_list (z) (by first | rfl | omega | (rw [wrap_i64 (by omega)]; omega)) (by first | assumption | omega) ?_
      rw [← hd]
      repeat (first | refine ga_ ?_ | intro _)
      refine ⟨(by omega), (by show (d.toNat : Int) < ((256 : Nat) : Int); omega), _, List.Mem.tail _ hE, _, sp_at d, ?_⟩
      repeat (first | refine ga_ ?_ | intro _)
      refine AW_iff (¬ spI d.toNat = 0) rfl (by first | (simp; done) | (simp <;> omega) | decide) (fun h => ?_) (fun h => ?_)
      · have hsp2 : spN d.toNat = true := by
          cases hh : spN d.toNat with
          | true => rfl
          | false => exact absurd (spI_0.2 hh) h
        rw [dropAt hlt2, ← hd, words_sp hsp2] at k3
        repeat (first | refine ga_ ?_ | intro _)
        refine ⟨z + 1, ?_, ?_, weak_of ?_ rfl ?_⟩
        · omega
        · exact ⟨hlt2, Nat.lt_succ_of_lt k2, k3⟩
        · repeat (first | exact trivial | refine ⟨AVle.refl _, ?_⟩ | refine ⟨AVle.tk, ?_⟩ | refine ⟨AVle.nil, ?_⟩ | refine ⟨AVle.nilFull, ?_⟩ | refine ⟨AVle.eq (congrArg (AV.int .i64) (by first | (simp; done) | (simp; omega) | (rw [wrap_i64 (by first | omega | (simp; omega))]; first | rfl | omega | (simp; done) | (simp; omega)))), ?_⟩)
        · repeat (first | exact SLe.rfl | refine SLe.tail ?_ | refine SLe.full ?_)
      · have hsp2 : spN d.toNat = false := spI_0.1 (Decidable.not_not.1 h)
        repeat (first | refine ga_ ?_ | intro _)
        refine ⟨(z, z, na + 1), ?_, ?_, weak_of ?_ rfl ?_⟩
        · show s.length - z < s.length - i; omega
        · exact ⟨Nat.le_refl _, k1, (by show W.drop (na + 1) = wordsL (s.drop z) ((s.take z).drop z); rw [e0]; exact k3.symm), g3, fun _ _ => by show spN s[z].toNat = false; rw [← hd]; exact hsp2⟩
        · repeat (first | exact trivial | refine ⟨AVle.refl _, ?_⟩ | refine ⟨AVle.tk, ?_⟩ | refine ⟨AVle.nil, ?_⟩ | refine ⟨AVle.nilFull, ?_⟩ | refine ⟨AVle.eq (congrArg (AV.int .i64) (by first | (simp; done) | (simp; omega) | (rw [wrap_i64 (by first | omega | (simp; omega))]; first | rfl | omega | (simp; done) | (simp; omega)))), ?_⟩)
        · repeat (first | exact SLe.rfl | refine SLe.tail ?_ | refine SLe.full ?_)
    · have hge := h
      repeat (first | refine ga_ ?_ | intro _)
      refine ⟨(z, z, na + 1), ?_, ?_, weak_of ?_ rfl ?_⟩
      · show s.length - z < s.length - i; omega
      · exact ⟨Nat.le_refl _, k1, (by show W.drop (na + 1) = wordsL (s.drop z) ((s.take z).drop z); rw [e0]; exact k3.symm), g3, fun _ h' => absurd h' hge⟩
      · repeat (first | exact trivial | refine ⟨AVle.refl _, ?_⟩ | refine ⟨AVle.tk, ?_⟩ | refine ⟨AVle.nil, ?_⟩ | refine ⟨AVle.nilFull, ?_⟩ | refine ⟨AVle.eq (congrArg (AV.int .i64) (by first | (simp; done) | (simp; omega) | (rw [wrap_i64 (by first | omega | (simp; omega))]; first | rfl | omega | (simp; done) | (simp; omega)))), ?_⟩)
      · repeat (first | exact SLe.rfl | refine SLe.tail ?_ | refine SLe.full ?_)
end Go.Proofs.YtnkmjbjpmocnbaaDoor
/-
  Which expressions may be. Own work.
-/
namespace Go.Proofs.YtnkmjbjpmocnbaaDoor
open Go.Aw Go.RowKit
set_option maxHeartbeats 4000000

def signS : List UInt8 := [43, 32, 45, 32, 42, 32, 47, 32, 37, 32, 61, 61, 32, 33, 61, 32, 60, 32, 60, 61, 32, 62, 32, 62, 61, 32, 38, 38, 32, 124, 124]
def signL : List Key := wordsL signS []
theorem sign_ascii : ∀ c ∈ signS, c.toNat < 128 := by decide +kernel
theorem sign_len : signS.length ≤ 1000000 := by decide +kernel
theorem sign_same : blanksL signS [] = signL := by decide +kernel
theorem sign_few : signL.length ≤ 1000000 := by decide +kernel
theorem sign_ne : ([] : Key) ∉ signL := by decide +kernel

def isNm (op : Int) : Bool := decide (op = 1) || decide (op = 9) || decide (op = 12) || decide (op = 13)
def bareG (t : T) : Bool :=
  if isNm t.op = true then ownB t.s && decide (t.n = 0) else if t.op = 2 then decide (t.s = []) && decide (0 ≤ t.n) else if t.op = 3 then decide (t.n = 0)
  else if t.op = 6 then decide (t.n = 0) && decide (t.s ∈ signL) else decide (t.s = []) && (decide (t.n = 0) && (decide (0 < t.op) && decide (t.op ≤ 16)))
theorem isBare_ok (t : T) (R : List En) (hE : spE ∈ R) : ACall Tryd.prog 62 [encU t] R (fun v S => v = .bool (bareG t) ∧ S = R) := by
  obtain ⟨op, s, n, l⟩ := t
  by_cases h1 : op = 1 ∨ op = 9 ∨ op = 12 ∨ op = 13
  · have e : bareG ⟨op, s, n, l⟩ = (ownB s && decide (n = 0)) := if_pos (by rcases h1 with rfl | rfl | rfl | rfl <;> rfl)
    rw [e]
    rcases h1 with rfl | rfl | rfl | rfl
    all_goals
      refine ACall_body tab_ok Tryd.func62 rfl rfl rfl (by kernel_rfl) (Nat.le_of_ble_eq_true rfl) ?_
      repeat (first | refine ga_ ?_ | intro _)
      refine Or.inl ⟨⟨_, Tryd.func9, rfl, rfl⟩, ACall.mono ?_ (isName_ok s _ (List.Mem.tail _ hE))⟩
      rintro _ S1 ⟨rfl, hS1⟩
      subst S1
      repeat (first | refine ga_ ?_ | intro _)
      refine gsplit (ownB s = true) (by first | (simp; done) | (simp <;> omega) | decide) (fun h => ?_) (fun h => ?_)
      · repeat (first | refine ga_ ?_ | intro _)
        refine AW_ret ?_
        repeat (first | refine ⟨0, rfl, ?_⟩ | refine ⟨1, rfl, ?_⟩ | refine ⟨2, rfl, ?_⟩ | refine ⟨3, rfl, ?_⟩ | refine ⟨4, rfl, ?_⟩ | refine ⟨5, rfl, ?_⟩ | refine ⟨6, rfl, ?_⟩)
        refine ⟨_, R, AVle.eq ?_, (by repeat (first | exact SLe.rfl | refine SLe.tail ?_)), rfl, rfl⟩
        exact congrArg AV.bool (by first | (simp [h, T.n, T.s, T.op]; done) | (rw [h]; rfl) | (rw [decide_eq_true h]; rfl))
      · repeat (first | refine ga_ ?_ | intro _)
        refine AW_ret ?_
        repeat (first | refine ⟨0, rfl, ?_⟩ | refine ⟨1, rfl, ?_⟩ | refine ⟨2, rfl, ?_⟩ | refine ⟨3, rfl, ?_⟩ | refine ⟨4, rfl, ?_⟩ | refine ⟨5, rfl, ?_⟩ | refine ⟨6, rfl, ?_⟩)
        refine ⟨_, R, AVle.eq ?_, (by repeat (first | exact SLe.rfl | refine SLe.tail ?_)), rfl, rfl⟩
        exact congrArg AV.bool (by first | (simp [h, T.n, T.s, T.op]; done) | (rw [h]; rfl) | (rw [decide_eq_true h]; rfl))
  by_cases h2 : op = 2
  · subst h2
    have e : bareG ⟨2, s, n, l⟩ = (decide (s = []) && decide (0 ≤ n)) := rfl
    rw [e]
    refine ACall_body tab_ok Tryd.func62 rfl rfl rfl (by kernel_rfl) (Nat.le_of_ble_eq_true rfl) ?_
    repeat (first | refine ga_ ?_ | intro _)
    refine gsplit (s = []) decide_eq_true_iff (fun h => ?_) (fun h => ?_)
    · repeat (first | refine ga_ ?_ | intro _)
      refine AW_ret ?_
      repeat (first | refine ⟨0, rfl, ?_⟩ | refine ⟨1, rfl, ?_⟩ | refine ⟨2, rfl, ?_⟩ | refine ⟨3, rfl, ?_⟩ | refine ⟨4, rfl, ?_⟩ | refine ⟨5, rfl, ?_⟩ | refine ⟨6, rfl, ?_⟩)
      refine ⟨_, R, AVle.eq ?_, (by repeat (first | exact SLe.rfl | refine SLe.tail ?_)), rfl, rfl⟩
      exact congrArg AV.bool (by first | (simp [h, T.n, T.s, T.op]; done) | (rw [h]; rfl) | (rw [decide_eq_true h]; rfl))
    · repeat (first | refine ga_ ?_ | intro _)
      refine AW_ret ?_
      repeat (first | refine ⟨0, rfl, ?_⟩ | refine ⟨1, rfl, ?_⟩ | refine ⟨2, rfl, ?_⟩ | refine ⟨3, rfl, ?_⟩ | refine ⟨4, rfl, ?_⟩ | refine ⟨5, rfl, ?_⟩ | refine ⟨6, rfl, ?_⟩)
      refine ⟨_, R, AVle.eq ?_, (by repeat (first | exact SLe.rfl | refine SLe.tail ?_)), rfl, rfl⟩
      exact congrArg AV.bool (by first | (simp [h, T.n, T.s, T.op]; done) | (rw [h]; rfl) | (rw [decide_eq_true h]; rfl))
  by_cases h3 : op = 3
  · subst h3
    have e : bareG ⟨3, s, n, l⟩ = decide (n = 0) := rfl
    rw [e]
    refine ACall_body tab_ok Tryd.func62 rfl rfl rfl (by kernel_rfl) (Nat.le_of_ble_eq_true rfl) ?_
    repeat (first | refine ga_ ?_ | intro _)
    refine AW_ret ?_
    repeat (first | refine ⟨0, rfl, ?_⟩ | refine ⟨1, rfl, ?_⟩ | refine ⟨2, rfl, ?_⟩ | refine ⟨3, rfl, ?_⟩ | refine ⟨4, rfl, ?_⟩ | refine ⟨5, rfl, ?_⟩ | refine ⟨6, rfl, ?_⟩)
    refine ⟨_, R, AVle.eq ?_, (by repeat (first | exact SLe.rfl | refine SLe.tail ?_)), rfl, rfl⟩
    rfl
  by_cases h6 : op = 6
  · subst h6
    have e : bareG ⟨6, s, n, l⟩ = (decide (n = 0) && decide (s ∈ signL)) := rfl
    rw [e]
    refine ACall_body tab_ok Tryd.func62 rfl rfl rfl (by kernel_rfl) (Nat.le_of_ble_eq_true rfl) ?_
    repeat (first | refine ga_ ?_ | intro _)
    refine AW_draw tab_ok mixed 10 (by first | rfl | kernel_rfl) ?_
    repeat (first | refine ga_ ?_ | intro _)
    refine gsplit (n = 0) decide_eq_true_iff (fun h => ?_) (fun h => ?_)
    · repeat (first | refine ga_ ?_ | intro _)
      apply call_step
      · rfl
      · exact Or.inl ⟨⟨_, Tryd.func90, rfl, rfl⟩, fields_ok signS _ (List.Mem.tail _ hE) sign_ascii sign_len⟩
      repeat (first | refine ga_ ?_ | intro _)
      apply call_step
      · rfl
      · exact Or.inl ⟨⟨_, Tryd.func89, rfl, rfl⟩, contains_ok signL s _ sign_few⟩
      repeat (first | refine ga_ ?_ | intro _)
      refine AW_ret ?_
      repeat (first | refine ⟨0, rfl, ?_⟩ | refine ⟨1, rfl, ?_⟩ | refine ⟨2, rfl, ?_⟩ | refine ⟨3, rfl, ?_⟩ | refine ⟨4, rfl, ?_⟩ | refine ⟨5, rfl, ?_⟩ | refine ⟨6, rfl, ?_⟩)
      refine ⟨_, R, AVle.eq ?_, (by repeat (first | exact SLe.rfl | refine SLe.tail ?_)), rfl, rfl⟩
      exact congrArg AV.bool (by rw [decide_eq_true h]; rfl)
    · repeat (first | refine ga_ ?_ | intro _)
      refine AW_ret ?_
      repeat (first | refine ⟨0, rfl, ?_⟩ | refine ⟨1, rfl, ?_⟩ | refine ⟨2, rfl, ?_⟩ | refine ⟨3, rfl, ?_⟩ | refine ⟨4, rfl, ?_⟩ | refine ⟨5, rfl, ?_⟩ | refine ⟨6, rfl, ?_⟩)
      refine ⟨_, R, AVle.eq ?_, (by repeat (first | exact SLe.rfl | refine SLe.tail ?_)), rfl, rfl⟩
      exact congrArg AV.bool (by rw [decide_eq_false h]; rfl)
  have e : bareG ⟨op, s, n, l⟩ = (decide (s = []) && (decide (n = 0) && (decide (0 < op) && decide (op ≤ 16)))) := by
    have hnm : ¬ isNm op = true := by simp [isNm]; omega
    exact (if_neg hnm).trans ((if_neg h2).trans ((if_neg h3).trans (if_neg h6)))
  rw [e]
  refine ACall_body tab_ok Tryd.func62 rfl rfl rfl (by kernel_rfl) (Nat.le_of_ble_eq_true rfl) ?_
  repeat (first | refine ga_ ?_ | intro _)
  refine AW_false (b := decide (op = 1)) rfl (by exact decide_eq_false (by omega)) ?_
  repeat (first | refine ga_ ?_ | intro _)
  refine AW_false (b := decide (op = 9)) rfl (by exact decide_eq_false (by omega)) ?_
  repeat (first | refine ga_ ?_ | intro _)
  refine AW_false (b := decide (op = 12)) rfl (by exact decide_eq_false (by omega)) ?_
  repeat (first | refine ga_ ?_ | intro _)
  refine AW_false (b := decide (op = 13)) rfl (by exact decide_eq_false (by omega)) ?_
  repeat (first | refine ga_ ?_ | intro _)
  refine AW_false (b := decide (op = 2)) rfl (by exact decide_eq_false (by omega)) ?_
  repeat (first | refine ga_ ?_ | intro _)
  refine AW_false (b := decide (op = 3)) rfl (by exact decide_eq_false (by omega)) ?_
  repeat (first | refine ga_ ?_ | intro _)
  refine AW_false (b := decide (op = 6)) rfl (by exact decide_eq_false (by omega)) ?_
  repeat (first | refine ga_ ?_ | intro _)
  refine gsplit (s = []) decide_eq_true_iff (fun h => ?_) (fun h => ?_)
  · have g1 := h
    repeat (first | refine ga_ ?_ | intro _)
    refine gsplit (n = 0) decide_eq_true_iff (fun h => ?_) (fun h => ?_)
    · have g2 := h
      repeat (first | refine ga_ ?_ | intro _)
      refine gsplit (0 < op) decide_eq_true_iff (fun h => ?_) (fun h => ?_)
      · have g3 := h
        repeat (first | refine ga_ ?_ | intro _)
        refine AW_ret ?_
        repeat (first | refine ⟨0, rfl, ?_⟩ | refine ⟨1, rfl, ?_⟩ | refine ⟨2, rfl, ?_⟩ | refine ⟨3, rfl, ?_⟩ | refine ⟨4, rfl, ?_⟩ | refine ⟨5, rfl, ?_⟩ | refine ⟨6, rfl, ?_⟩)
        refine ⟨_, R, AVle.eq ?_, (by repeat (first | exact SLe.rfl | refine SLe.tail ?_)), rfl, rfl⟩
        exact congrArg AV.bool (by rw [decide_eq_true g1, decide_eq_true g2, decide_eq_true g3]; rfl)
      · repeat (first | refine ga_ ?_ | intro _)
        refine AW_ret ?_
        repeat (first | refine ⟨0, rfl, ?_⟩ | refine ⟨1, rfl, ?_⟩ | refine ⟨2, rfl, ?_⟩ | refine ⟨3, rfl, ?_⟩ | refine ⟨4, rfl, ?_⟩ | refine ⟨5, rfl, ?_⟩ | refine ⟨6, rfl, ?_⟩)
        refine ⟨_, R, AVle.eq ?_, (by repeat (first | exact SLe.rfl | refine SLe.tail ?_)), rfl, rfl⟩
        exact congrArg AV.bool (by first | (simp [h, T.n, T.s, T.op]; done) | (rw [h]; rfl) | (rw [decide_eq_true h]; rfl))
    · repeat (first | refine ga_ ?_ | intro _)
      refine AW_ret ?_
      repeat (first | refine ⟨0, rfl, ?_⟩ | refine ⟨1, rfl, ?_⟩ | refine ⟨2, rfl, ?_⟩ | refine ⟨3, rfl, ?_⟩ | refine ⟨4, rfl, ?_⟩ | refine ⟨5, rfl, ?_⟩ | refine ⟨6, rfl, ?_⟩)
      refine ⟨_, R, AVle.eq ?_, (by repeat (first | exact SLe.rfl | refine SLe.tail ?_)), rfl, rfl⟩
      exact congrArg AV.bool (by first | (simp [h, T.n, T.s, T.op]; done) | (rw [h]; rfl) | (rw [decide_eq_true h]; rfl))
  · repeat (first | refine ga_ ?_ | intro _)
    refine AW_ret ?_
    repeat (first | refine ⟨0, rfl, ?_⟩ | refine ⟨1, rfl, ?_⟩ | refine ⟨2, rfl, ?_⟩ | refine ⟨3, rfl, ?_⟩ | refine ⟨4, rfl, ?_⟩ | refine ⟨5, rfl, ?_⟩ | refine ⟨6, rfl, ?_⟩)
    refine ⟨_, R, AVle.eq ?_, (by repeat (first | exact SLe.rfl | refine SLe.tail ?_)), rfl, rfl⟩
    exact congrArg AV.bool (by first | (simp [h, T.n, T.s, T.op]; done) | (rw [h]; rfl) | (rw [decide_eq_true h]; rfl))
end Go.Proofs.YtnkmjbjpmocnbaaDoor
