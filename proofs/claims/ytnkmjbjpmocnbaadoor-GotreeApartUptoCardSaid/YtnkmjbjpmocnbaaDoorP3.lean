/-
  Expressions of Go's part as data; what the arguments read as. Own work.
-/
import Derived.Test.YtnkmjbjpmocnbaaDoorFrame
import Derived.Test.YtnkmjbjpmocnbaaDoorP1
set_option linter.all false
namespace Go.Proofs.YtnkmjbjpmocnbaaDoor
open Go.Aw Go.ChangeShapes Go.WideShapes Go.ChangeAt Go.RowKit

inductive T
  | mk (op : Int) (s : List UInt8) (n : Int) (l : List T)
def T.op : T → Int
  | .mk a _ _ _ => a
def T.s : T → List UInt8
  | .mk _ a _ _ => a
def T.n : T → Int
  | .mk _ _ a _ => a
def T.l : T → List T
  | .mk _ _ _ a => a
mutual
def encT : T → AV
  | .mk op s n l => .agg [.int .i64 op, .str s, .int .i64 n, .sl 4 (encTs l) .no]
def encTs : List T → List AV
  | [] => []
  | t :: r => encT t :: encTs r
end
/-- an expression's cells -/
def cT (t : T) : List AV := [.int .i64 t.op, .str t.s, .int .i64 t.n, .sl 4 (encTs t.l) .no]
def encU (t : T) : AV := .agg (cT t)
theorem encT_eq (t : T) : encT t = encU t := by cases t; rfl
theorem encTs_map : ∀ l : List T, encTs l = l.map encU
  | [] => rfl
  | t :: l => by rw [encTs, encT_eq, encTs_map l]; rfl
@[simp] theorem encTs_len (l : List T) : (encTs l).length = l.length := by rw [encTs_map, List.length_map]
theorem encTs_get {l : List T} {i : Nat} (h : i < l.length) : (encTs l)[i]? = some (encU l[i]) := by
  rw [encTs_map, List.getElem?_map, List.getElem?_eq_getElem h]; rfl

/-! ### how much an expression holds -/
mutual
def szT : T → Nat
  | .mk _ s _ l => s.length + szTs l + 1
def szTs : List T → Nat
  | [] => 0
  | t :: r => szT t + szTs r
end
theorem szTs_map : ∀ l : List T, szTs l = (l.map szT).sum
  | [] => rfl
  | t :: l => by rw [szTs, szTs_map l]; rfl
theorem opens_T : ∀ n, Opens Tryd.prog n 26 encU szT
  | 0 => opens_zero
  | 1 => opens_map (opens_struct Tryd.underlying26 (by kernel_rfl) (opensF_cons (c := 1) rfl (by kernel_rfl) (opens_int (k := .i64) Tryd.underlying3 0) (opensF_cons (c := 1) rfl (by kernel_rfl) (opens_str Tryd.underlying9 0) (opensF_cons (c := 1) rfl (by kernel_rfl) (opens_int (k := .i64) Tryd.underlying2 0) (opensF_cons (c := 1) rfl (by kernel_rfl) (opens_zero (t := 24) (av := fun l : List T => .sl 4 (l.map encU) .no) (sz := fun l => (l.map szT).sum + 1)) opensF_nil)))))
      (fun x => .mk x.1 x.2.1 x.2.2.1 x.2.2.2.1) (fun x => by show AV.agg [_, _, _, AV.sl 4 (encTs _) .no] = _; rw [encTs_map]; rfl) (fun x => by show szT (.mk x.1 x.2.1 x.2.2.1 x.2.2.2.1) ≤ _; rw [szT, szTs_map]; omega)
  | n + 2 => opens_map (opens_struct Tryd.underlying26 (by kernel_rfl) (opensF_cons (c := 1) rfl (by kernel_rfl) (opens_int (k := .i64) Tryd.underlying3 (n + 1)) (opensF_cons (c := 1) rfl (by kernel_rfl) (opens_str Tryd.underlying9 (n + 1)) (opensF_cons (c := 1) rfl (by kernel_rfl) (opens_int (k := .i64) Tryd.underlying2 (n + 1)) (opensF_cons (c := 1) rfl (by kernel_rfl) (opens_slice (c := 4) Tryd.underlying24 (by kernel_rfl) (by decide) (opens_T n)) opensF_nil)))))
      (fun x => .mk x.1 x.2.1 x.2.2.1 x.2.2.2.1) (fun x => by show AV.agg [_, _, _, AV.sl 4 (encTs _) .no] = _; rw [encTs_map]; rfl) (fun x => by show szT (.mk x.1 x.2.1 x.2.2.1 x.2.2.2.1) ≤ _; rw [szT, szTs_map]; omega)
end Go.Proofs.YtnkmjbjpmocnbaaDoor
/-
  A text's words, parted by blanks (a generator). Own work.
-/
namespace Go.Proofs.YtnkmjbjpmocnbaaDoor
open Go.Aw Go.RowKit
set_option maxHeartbeats 4000000

theorem SLe.dup {S : List En} {e : En} (he : e ∈ S) (hb : e.blk = none) : SLe S (e :: S) := fun w0 K w h => by
  refine ⟨h.below, h.kcell, fun x hx => ?_, by have := h.apart; rw [List.filterMap_cons, hb]; exact this⟩
  rcases List.mem_cons.1 hx with rfl | hx
  · exact h.ents _ he
  · exact h.ents _ hx
theorem at_ss {lo hi : Int} {s : List UInt8} {F : List UInt8 → Prop} (l h : Nat) (r : List UInt8) (hl : lo = (l : Int)) (hh : hi = (h : Int)) (h1 : l ≤ h) (h2 : h ≤ s.length) (hr : (s.take h).drop l = r) (hk : F r) :
    0 ≤ lo ∧ lo ≤ hi ∧ hi ≤ (s.length : Int) ∧ ∃ r, (s.take hi.toNat).drop lo.toNat = r ∧ F r := by
  subst hl; subst hh
  exact ⟨by omega, by omega, by omega, r, by simpa using hr, hk⟩

/-! ### what is a blank -/
def spN (n : Nat) : Bool := decide (n = 32) || (decide (9 ≤ n) && decide (n ≤ 13))
def spI (n : Nat) : Int := if spN n = true then 1 else 0
def spT : List Int := (List.range 256).map spI
def spE : En := .glob 0 (spT.map (AV.int .u8))
theorem spI_0 {n : Nat} : spI n = 0 ↔ spN n = false := by unfold spI; split <;> simp [*]
theorem sp_at (c : UInt8) : ((spT.map (AV.int .u8)).drop ((c.toNat : Int).toNat * 1)).take 1 = [.int .u8 (spI c.toNat)] := by
  have hc := c.toNat_lt
  have e : (spT.map (AV.int .u8))[c.toNat]? = some (.int .u8 (spI c.toNat)) := by
    unfold spT
    rw [List.getElem?_map, List.getElem?_map, List.getElem?_range (by omega)]; rfl
  obtain ⟨h, e2⟩ := List.getElem?_eq_some_iff.1 e
  rw [Nat.mul_one, Int.toNat_natCast, ← List.getElem_cons_drop h, List.take_succ_cons, List.take_zero, e2]
theorem at_sp {S : List En} {c : UInt8} {k : AV → List En → Prop} (hm : spE ∈ S) (h : k (.ref [.int .u8 (spI c.toNat)]) S) :
    (0 : Int) ≤ (c.toNat : Int) ∧ (c.toNat : Int) < (256 : Nat) ∧ ∃ cs, En.glob 0 cs ∈ S ∧ ∃ r, (cs.drop ((c.toNat : Int).toNat * 1)).take 1 = r ∧ k (.ref r) S :=
  ⟨by omega, by have := c.toNat_lt; omega, _, hm, _, sp_at c, h⟩

/-! ### words -/
def wordsL : List UInt8 → List UInt8 → List (List UInt8)
  | [], cur => if cur = [] then [] else [cur]
  | c :: r, cur => if spN c.toNat = true then (if cur = [] then wordsL r [] else cur :: wordsL r []) else wordsL r (cur ++ [c])
def curL (s : List UInt8) (i : Nat) (st : Int) : List UInt8 := if st < 0 then [] else (s.take i).drop st.toNat
def encW (w : List UInt8) : List AV := [.str w]
theorem dropAt {α : Type} {l : List α} {i : Nat} (h : i < l.length) : l.drop i = l[i] :: l.drop (i + 1) := (List.getElem_cons_drop h).symm
theorem take_at {s : List UInt8} {m i : Nat} (hm : m ≤ i) (h : i < s.length) : (s.take (i + 1)).drop m = (s.take i).drop m ++ [s[i]] := by
  rw [List.take_succ_eq_append_getElem h, List.drop_append_of_le_length (by rw [List.length_take]; omega)]
theorem cur_ne {s : List UInt8} {m i : Nat} (hm : m < i) (h : i ≤ s.length) : (s.take i).drop m ≠ [] := by
  intro e
  have := congrArg List.length e
  simp at this; omega

theorem drop_get {α : Type} {l r : List α} {j : Nat} {a : α} (h : l.drop j = a :: r) : l[j]? = some a ∧ l.drop (j + 1) = r ∧ j + 1 ≤ l.length := by
  have hl := congrArg List.length h
  simp only [List.length_drop, List.length_cons] at hl
  have hj : j < l.length := by omega
  rw [dropAt hj] at h
  simp only [List.cons.injEq] at h
  exact ⟨by rw [List.getElem?_eq_getElem hj, h.1], h.2, hj⟩
theorem curL_no (s : List UInt8) (i : Nat) : curL s i (-1) = [] := rfl
theorem curL_at (s : List UInt8) (i m : Nat) : curL s i (m : Int) = (s.take i).drop m := by
  unfold curL; rw [if_neg (by omega)]; rfl
theorem wrap32 {n : Nat} (h : n < 256) : IntKind.i32.wrap (n : Int) = n := wrap_has_eq (by simp only [IntKind.has, IntKind.min, IntKind.max, IntKind.bits, IntKind.signed]; simp; omega)
theorem fields_gen (s : List UInt8) (p : Nat) (ha : ∀ c ∈ s, c.toNat < 128) (hs : s.length ≤ 1000000) : AGen Tryd.prog (.fn (.func 81) [] [.ptr p 0]) [.cells p [.str s], spE] ((wordsL s []).map encW) := by
  intro l J Z Sc hY h0
  refine ⟨⟨_, Tryd.func81, rfl, rfl⟩, ?_⟩
  show ACall Tryd.prog 81 [.fn (.yield l) [] [], .ptr p 0] (.cells p [.str s] :: spE :: Sc) _
  refine ACall_body tab_ok Tryd.func81 rfl rfl rfl (by kernel_rfl) (Nat.le_of_ble_eq_true rfl) ?_
  repeat (first | refine go_ ?_ | intro _)
  refine AW_for (α := Nat × Int × Nat × List En) (fun z => ⟨[(0, .fn (.yield l) [] []), (1, .ptr p 0), (3, .int .i64 z.2.1), (4, .int .i64 (z.1 : Nat))], []⟩) (fun z => .cells p [.str s] :: spE :: z.2.2.2) (fun z => s.length - z.1) (fun z => z.1 ≤ s.length ∧ (wordsL s []).drop z.2.2.1 = wordsL (s.drop z.1) (curL s z.1 z.2.1) ∧ (z.2.1 = -1 ∨ ∃ m : Nat, z.2.1 = (m : Int) ∧ m < z.1) ∧ J z.2.2.1 z.2.2.2 ∧ z.2.2.1 ≤ (wordsL s []).length) ((0, -1, 0, Sc)) ?_ (weak_of ?_ rfl ?_) (fun z hz => ?_)
  · exact ⟨Nat.zero_le _, rfl, .inl rfl, h0, Nat.zero_le _⟩
  · repeat (first | exact trivial | refine ⟨AVle.refl _, ?_⟩ | refine ⟨AVle.tk, ?_⟩ | refine ⟨AVle.nil, ?_⟩ | refine ⟨AVle.nilFull, ?_⟩ | refine ⟨AVle.eq (congrArg (AV.int .i64) (by first | (simp; done) | (simp; omega) | (rw [wrap_i64 (by first | omega | (simp; omega))]; first | rfl | omega | (simp; done) | (simp; omega)))), ?_⟩)
  · repeat (first | exact SLe.rfl | refine SLe.tail ?_ | refine SLe.full ?_)
  obtain ⟨i, st, j, Sc'⟩ := z
  obtain ⟨i1, i2, i3, i4, i5⟩ : i ≤ s.length ∧ (wordsL s []).drop j = wordsL (s.drop i) (curL s i st) ∧ (st = -1 ∨ ∃ m : Nat, st = (m : Int) ∧ m < i) ∧ J j Sc' ∧ j ≤ (wordsL s []).length := hz
  repeat (first | refine go_ ?_ | intro _)
  refine AW_iff (i < s.length) rfl (by first | (simp; done) | (simp <;> omega) | decide) (fun h => ?_) (fun h => ?_)
  rotate_left
  · obtain rfl : i = s.length := by omega
    rw [List.drop_length, wordsL] at i2
    rcases i3 with rfl | ⟨m, rfl, hm⟩
    · rw [curL_no, if_pos rfl] at i2
      have hl := congrArg List.length i2
      simp only [List.length_drop, List.length_nil] at hl
      repeat (first | refine ga_ ?_ | intro _)
      refine ⟨.tup [], Sc', AVle.refl _, SLe.tail (SLe.tail SLe.rfl), Sc', SLe.rfl, .inl ?_⟩
      rw [List.length_map, show (wordsL s []).length = j by omega]
      exact i4
    · rw [curL_at, if_neg (cur_ne hm (Nat.le_refl _)), List.take_length] at i2
      obtain ⟨g1, g2, g3⟩ := drop_get i2
      have hl := congrArg List.length g2
      simp only [List.length_drop, List.length_nil] at hl
      repeat (first | refine ga_ ?_ | intro _)
      refine at_ss m s.length (s.drop m) rfl rfl (by omega) (Nat.le_refl _) (by rw [List.take_length]) ?_
      repeat (first | refine ga_ ?_ | intro _)
      refine AYield.mono ?_ (hY [.cells p [.str s], spE] j (encW (s.drop m)) Sc' (by rw [List.getElem?_map, (g1)]; rfl) i4)
      rintro _ S1 ⟨w, Sc1, rfl, rfl, hj, hz⟩
      repeat (first | refine ga_ ?_ | intro _)
      refine ⟨.tup [], Sc1, AVle.refl _, SLe.tail (SLe.tail SLe.rfl), Sc1, SLe.rfl, ?_⟩
      cases w with
      | true =>
        refine .inl ?_
        rw [List.length_map, show (wordsL s []).length = j + 1 by omega]
        exact hj rfl
      | false => exact .inr (hz rfl)
  have hlt := h
  obtain ⟨c, hc⟩ : ∃ c, c = s[i] := ⟨_, rfl⟩
  have hc128 : c.toNat < 128 := ha c (hc ▸ List.getElem_mem hlt)
  rw [dropAt hlt, ← hc, wordsL] at i2
  repeat (first | refine go_ ?_ | intro _)
  refine at_list (i) (by first | rfl | omega | (rw [wrap_i64 (by omega)]; omega)) (by first | assumption | omega) ?_
  rw [← hc]
  repeat (first | refine go_ ?_ | intro _)
  refine at_list (i) (by first | rfl | omega | (rw [wrap_i64 (by omega)]; omega)) (by first | assumption | omega) ?_
  rw [← hc]
  repeat (first | refine go_ ?_ | intro _)
  refine ⟨(by omega), (by show (c.toNat : Int) < ((256 : Nat) : Int); omega), _, List.Mem.tail _ (List.Mem.head _), _, sp_at c, ?_⟩
  repeat (first | refine go_ ?_ | intro _)
  refine AW_false (b := decide ((128 : Int) ≤ IntKind.i32.wrap (c.toNat : Int))) rfl (by exact decide_eq_false (by rw [wrap32 (by omega)]; omega)) ?_
  repeat (first | refine ga_ ?_ | intro _)
  refine AW_iff (¬ spI c.toNat = 0) rfl (by first | (simp; done) | (simp <;> omega) | decide) (fun h => ?_) (fun h => ?_)
  · have hsp : spN c.toNat = true := by
      cases hh : spN c.toNat with
      | true => rfl
      | false => exact absurd (spI_0.2 hh) h
    rw [if_pos hsp] at i2
    rcases i3 with rfl | ⟨m, rfl, hm⟩
    · rw [curL_no, if_pos rfl] at i2
      repeat (first | refine ga_ ?_ | intro _)
      refine ⟨(i + 1, -1, j, Sc'), ?_, ?_, weak_of ?_ rfl ?_⟩
      · show s.length - (i + 1) < s.length - i; omega
      · exact ⟨hlt, i2, .inl rfl, i4, i5⟩
      · repeat (first | exact trivial | refine ⟨AVle.refl _, ?_⟩ | refine ⟨AVle.tk, ?_⟩ | refine ⟨AVle.nil, ?_⟩ | refine ⟨AVle.nilFull, ?_⟩ | refine ⟨AVle.eq (congrArg (AV.int .i64) (by first | (simp; done) | (simp; omega) | (rw [wrap_i64 (by first | omega | (simp; omega))]; first | rfl | omega | (simp; done) | (simp; omega)))), ?_⟩)
      · repeat (first | exact SLe.rfl | refine SLe.tail ?_ | refine SLe.full ?_)
    · rw [curL_at, if_neg (cur_ne hm i1)] at i2
      obtain ⟨g1, g2, g3⟩ := drop_get i2
      repeat (first | refine ga_ ?_ | intro _)
      refine at_ss m i _ rfl rfl (by omega) i1 rfl ?_
      repeat (first | refine ga_ ?_ | intro _)
      refine AYield.mono ?_ (hY [.cells p [.str s], spE] j (encW ((s.take i).drop m)) Sc' (by rw [List.getElem?_map, (g1)]; rfl) i4)
      rintro _ S1 ⟨w, Sc1, rfl, rfl, hj, hz⟩
      cases w with
      | false =>
        repeat (first | refine ga_ ?_ | intro _)
        refine AW_ret ?_
        repeat (first | refine ⟨0, rfl, ?_⟩ | refine ⟨1, rfl, ?_⟩ | refine ⟨2, rfl, ?_⟩ | refine ⟨3, rfl, ?_⟩ | refine ⟨4, rfl, ?_⟩ | refine ⟨5, rfl, ?_⟩ | refine ⟨6, rfl, ?_⟩)
        refine ⟨_, _, AVle.refl _, SLe.rfl, ?_⟩
        exact ⟨Sc1, SLe.tail (SLe.tail SLe.rfl), .inr (hz rfl)⟩
      | true =>
        repeat (first | refine ga_ ?_ | intro _)
        refine ⟨(i + 1, -1, j + 1, Sc1), ?_, ?_, weak_of ?_ rfl ?_⟩
        · show s.length - (i + 1) < s.length - i; omega
        · exact ⟨hlt, g2, .inl rfl, hj rfl, g3⟩
        · repeat (first | exact trivial | refine ⟨AVle.refl _, ?_⟩ | refine ⟨AVle.tk, ?_⟩ | refine ⟨AVle.nil, ?_⟩ | refine ⟨AVle.nilFull, ?_⟩ | refine ⟨AVle.eq (congrArg (AV.int .i64) (by first | (simp; done) | (simp; omega) | (rw [wrap_i64 (by first | omega | (simp; omega))]; first | rfl | omega | (simp; done) | (simp; omega)))), ?_⟩)
        · repeat (first | exact SLe.rfl | refine SLe.tail ?_ | refine SLe.full ?_)
  · have hsp : ¬ spN c.toNat = true := by rw [Decidable.not_not] at h; rw [spI_0.1 h]; decide
    rw [if_neg hsp] at i2
    have ht : ∀ m : Nat, m ≤ i → (s.take (i + 1)).drop m = (s.take i).drop m ++ [c] := fun m hm => by rw [hc]; exact take_at hm hlt
    rcases i3 with rfl | ⟨m, rfl, hm⟩
    · rw [curL_no] at i2
      repeat (first | refine ga_ ?_ | intro _)
      refine ⟨(i + 1, (i : Int), j, Sc'), ?_, ?_, weak_of ?_ rfl ?_⟩
      · show s.length - (i + 1) < s.length - i; omega
      · refine ⟨hlt, ?_, .inr ⟨i, rfl, Nat.lt_succ_self i⟩, i4, i5⟩
        have e0 : (s.take i).drop i = [] := List.drop_eq_nil_of_le (by rw [List.length_take]; omega)
        rw [i2, curL_at, ht i (Nat.le_refl _), e0]
      · repeat (first | exact trivial | refine ⟨AVle.refl _, ?_⟩ | refine ⟨AVle.tk, ?_⟩ | refine ⟨AVle.nil, ?_⟩ | refine ⟨AVle.nilFull, ?_⟩ | refine ⟨AVle.eq (congrArg (AV.int .i64) (by first | (simp; done) | (simp; omega) | (rw [wrap_i64 (by first | omega | (simp; omega))]; first | rfl | omega | (simp; done) | (simp; omega)))), ?_⟩)
      · repeat (first | exact SLe.rfl | refine SLe.tail ?_ | refine SLe.full ?_)
    · rw [curL_at] at i2
      repeat (first | refine ga_ ?_ | intro _)
      refine ⟨(i + 1, (m : Int), j, Sc'), ?_, ?_, weak_of ?_ rfl ?_⟩
      · show s.length - (i + 1) < s.length - i; omega
      · refine ⟨hlt, ?_, .inr ⟨m, rfl, Nat.lt_succ_of_lt hm⟩, i4, i5⟩
        rw [i2, curL_at, ht m (Nat.le_of_lt hm)]
      · repeat (first | exact trivial | refine ⟨AVle.refl _, ?_⟩ | refine ⟨AVle.tk, ?_⟩ | refine ⟨AVle.nil, ?_⟩ | refine ⟨AVle.nilFull, ?_⟩ | refine ⟨AVle.eq (congrArg (AV.int .i64) (by first | (simp; done) | (simp; omega) | (rw [wrap_i64 (by first | omega | (simp; omega))]; first | rfl | omega | (simp; done) | (simp; omega)))), ?_⟩)
      · repeat (first | exact SLe.rfl | refine SLe.tail ?_ | refine SLe.full ?_)
end Go.Proofs.YtnkmjbjpmocnbaaDoor
/-
  Names of Go's. Own work.
-/
namespace Go.Proofs.YtnkmjbjpmocnbaaDoor
open Go.Aw Go.RowKit
set_option maxHeartbeats 4000000

theorem zero_bool : zeroIs Tryd.prog 4 (.bool false) := by
  obtain ⟨x, h1, h2⟩ := Option.map_eq_some_iff.1 (show ((Tryd.prog).info? 4).map (·.zero) = some (some (.bool false)) by kernel_rfl)
  exact ⟨x, h1, h2⟩
abbrev Key := List UInt8
def metL (o : List Key) : List (Key × AV) := o.map fun x => (x, AV.bool true)
theorem mget_met (s : Key) : ∀ o : List Key, mget s (.bool false) (metL o) = (.bool (decide (s ∈ o)), decide (s ∈ o))
  | [] => rfl
  | x :: o => by
    have ih := mget_met s o
    unfold metL at ih ⊢
    rw [List.map_cons, mget]
    by_cases h : x = s
    · simp [h]
    · rw [if_neg h, ih]
      have : (s ∈ x :: o) ↔ s ∈ o := by simp [Ne.symm h]
      simp [this]
theorem mput_met {s : Key} {o : List Key} (h : s ∉ o) : mput s (.bool true) (metL o) = metL (o ++ [s]) := by
  rw [mput_no]
  · simp [metL]
  · intro p hp e
    unfold metL at hp
    obtain ⟨x, hx, rfl⟩ := List.mem_map.1 hp
    exact h (e ▸ hx)

/-! ### Go's own names -/
def ownS : List UInt8 := [112, 97, 99, 107, 97, 103, 101, 32, 116, 121, 112, 101, 32, 115, 116, 114, 117, 99, 116, 32, 102, 117, 110, 99, 32, 118, 97, 114, 32, 105, 102, 32, 101, 108, 115, 101, 32, 102, 111, 114, 32, 114, 101, 116, 117, 114, 110, 32, 98, 114, 101, 97, 107, 32, 99, 97, 115, 101, 32, 99, 104, 97, 110, 32, 99, 111, 110, 115, 116, 32, 99, 111, 110, 116, 105, 110, 117, 101, 32, 100, 101, 102, 97, 117, 108, 116, 32, 100, 101, 102, 101, 114, 32, 102, 97, 108, 108, 116, 104, 114, 111, 117, 103, 104, 32, 103, 111, 32, 103, 111, 116, 111, 32, 105, 109, 112, 111, 114, 116, 32, 105, 110, 116, 101, 114, 102, 97, 99, 101, 32, 109, 97, 112, 32, 114, 97, 110, 103, 101, 32, 115, 101, 108, 101, 99, 116, 32, 115, 119, 105, 116, 99, 104, 32, 116, 114, 117, 101, 32, 102, 97, 108, 115, 101, 32, 105, 110, 116, 32, 115, 116, 114, 105, 110, 103, 32, 98, 111, 111, 108, 32, 108, 101, 110, 32, 97, 112, 112, 101, 110, 100]
def ownL : List Key := wordsL ownS []
theorem own_ascii : ∀ c ∈ ownS, c.toNat < 128 := by decide +kernel
theorem own_nodup : ownL.Nodup := by decide +kernel
theorem own_len : ownS.length ≤ 1000000 := by decide +kernel

/-- a text's parts between single blanks -/
def blanksL : List UInt8 → List UInt8 → List Key
  | [], cur => [cur]
  | c :: r, cur => if c = 32 then cur :: blanksL r [] else blanksL r (cur ++ [c])
theorem own_same : blanksL ownS [] = ownL := by decide +kernel
theorem among_ok (l s : List UInt8) (R : List En) (hl : l.length ≤ 1000000) : ACall Tryd.prog 26 [.str l, .str s] R (fun v S => v = .bool (decide (s ∈ blanksL l [])) ∧ S = R) := by
  refine ACall_body tab_ok Tryd.func26 rfl rfl rfl (by kernel_rfl) (Nat.le_of_ble_eq_true rfl) ?_
  repeat (first | refine go_ ?_ | intro _)
  refine AW_for (α := Nat × Nat) (fun z => ⟨[(0, .str l), (1, .str s), (5, .int .i64 (z.2 : Nat)), (6, .int .i64 (z.1 : Nat))], []⟩) (fun z => R) (fun z => l.length + 1 - z.1) (fun z => z.2 ≤ z.1 ∧ z.1 ≤ l.length + 1 ∧ ((z.1 ≤ l.length ∧ (s ∈ blanksL l [] ↔ s ∈ blanksL (l.drop z.1) ((l.take z.1).drop z.2))) ∨ (l.length < z.1 ∧ s ∉ blanksL l []))) ((0, 0)) ?_ (weak_of ?_ rfl ?_) (fun z hz => ?_)
  · exact ⟨Nat.le_refl _, Nat.zero_le _, .inl ⟨Nat.zero_le _, Iff.rfl⟩⟩
  · repeat (first | exact trivial | refine ⟨AVle.refl _, ?_⟩ | refine ⟨AVle.tk, ?_⟩ | refine ⟨AVle.nil, ?_⟩ | refine ⟨AVle.nilFull, ?_⟩ | refine ⟨AVle.eq (congrArg (AV.int .i64) (by first | (simp; done) | (simp; omega) | (rw [wrap_i64 (by first | omega | (simp; omega))]; first | rfl | omega | (simp; done) | (simp; omega)))), ?_⟩)
  · repeat (first | exact SLe.rfl | refine SLe.tail ?_ | refine SLe.full ?_)
  obtain ⟨i, m⟩ := z
  obtain ⟨i1, i2, i3⟩ : m ≤ i ∧ i ≤ l.length + 1 ∧ ((i ≤ l.length ∧ (s ∈ blanksL l [] ↔ s ∈ blanksL (l.drop i) ((l.take i).drop m))) ∨ (l.length < i ∧ s ∉ blanksL l [])) := hz
  repeat (first | refine go_ ?_ | intro _)
  refine AW_iff (i ≤ l.length) rfl (by first | (simp; done) | (simp <;> omega) | decide) (fun h => ?_) (fun h => ?_)
  rotate_left
  · rcases i3 with ⟨h1, _⟩ | ⟨_, h2⟩
    · omega
    repeat (first | refine go_ ?_ | intro _)
    refine AW_ret ?_
    repeat (first | refine ⟨0, rfl, ?_⟩ | refine ⟨1, rfl, ?_⟩ | refine ⟨2, rfl, ?_⟩ | refine ⟨3, rfl, ?_⟩ | refine ⟨4, rfl, ?_⟩ | refine ⟨5, rfl, ?_⟩ | refine ⟨6, rfl, ?_⟩)
    refine ⟨_, R, AVle.eq ?_, (by repeat (first | exact SLe.rfl | refine SLe.tail ?_)), rfl, rfl⟩
    exact congrArg AV.bool (decide_eq_false h2).symm
  have hle := h
  obtain ⟨_, i4⟩ := i3.resolve_right (by omega)
  have hcmp : ∀ x : Key, (if x = s then s ∈ blanksL l [] else True) → True := fun _ _ => trivial
  clear hcmp
  repeat (first | refine go_ ?_ | intro _)
  refine gsplit (i < l.length) (by first | (simp; done) | (simp <;> omega) | decide) (fun h => ?_) (fun h => ?_)
  · have hlt := h
    obtain ⟨c, hc⟩ : ∃ c, c = l[i] := ⟨_, rfl⟩
    rw [dropAt hlt, ← hc, blanksL] at i4
    repeat (first | refine ga_ ?_ | intro _)
    refine at_list (i) (by first | rfl | omega | (rw [wrap_i64 (by omega)]; omega)) (by first | assumption | omega) ?_
    rw [← hc]
    repeat (first | refine ga_ ?_ | intro _)
    refine AW_iff (¬ c.toNat = 32) rfl (by first | (simp; done) | (simp <;> omega) | decide) (fun h => ?_) (fun h => ?_)
    · have h32 : ¬ c = 32 := fun e => h (by rw [e]; rfl)
      rw [if_neg h32] at i4
      repeat (first | refine ga_ ?_ | intro _)
      refine ⟨(i + 1, m), ?_, ?_, weak_of ?_ rfl ?_⟩
      · show l.length + 1 - (i + 1) < l.length + 1 - i; omega
      · exact ⟨Nat.le_succ_of_le i1, by show i + 1 ≤ l.length + 1; omega, .inl ⟨hlt, by show _ ↔ s ∈ blanksL (l.drop (i + 1)) ((l.take (i + 1)).drop m); rw [take_at i1 hlt, ← hc]; exact i4⟩⟩
      · repeat (first | exact trivial | refine ⟨AVle.refl _, ?_⟩ | refine ⟨AVle.tk, ?_⟩ | refine ⟨AVle.nil, ?_⟩ | refine ⟨AVle.nilFull, ?_⟩ | refine ⟨AVle.eq (congrArg (AV.int .i64) (by first | (simp; done) | (simp; omega) | (rw [wrap_i64 (by first | omega | (simp; omega))]; first | rfl | omega | (simp; done) | (simp; omega)))), ?_⟩)
      · repeat (first | exact SLe.rfl | refine SLe.tail ?_ | refine SLe.full ?_)
    · have h32 : c = 32 := UInt8.toNat_inj.1 (Decidable.not_not.1 h)
      rw [if_pos h32, List.mem_cons] at i4
      repeat (first | refine ga_ ?_ | intro _)
      refine at_ss m i _ rfl rfl i1 hle rfl ?_
      repeat (first | refine ga_ ?_ | intro _)
      refine AW_iff ((l.take i).drop m = s) rfl (by first | (simp; done) | (simp <;> omega) | decide) (fun h => ?_) (fun h => ?_)
      · have hs := h
        repeat (first | refine ga_ ?_ | intro _)
        refine AW_ret ?_
        repeat (first | refine ⟨0, rfl, ?_⟩ | refine ⟨1, rfl, ?_⟩ | refine ⟨2, rfl, ?_⟩ | refine ⟨3, rfl, ?_⟩ | refine ⟨4, rfl, ?_⟩ | refine ⟨5, rfl, ?_⟩ | refine ⟨6, rfl, ?_⟩)
        refine ⟨_, R, AVle.eq ?_, (by repeat (first | exact SLe.rfl | refine SLe.tail ?_)), rfl, rfl⟩
        exact congrArg AV.bool (decide_eq_true (i4.2 (.inl hs.symm))).symm
      · have hs := h
        repeat (first | refine ga_ ?_ | intro _)
        refine ⟨(i + 1, i + 1), ?_, ?_, weak_of ?_ rfl ?_⟩
        · show l.length + 1 - (i + 1) < l.length + 1 - i; omega
        · refine ⟨Nat.le_refl _, by show i + 1 ≤ l.length + 1; omega, .inl ⟨hlt, ?_⟩⟩
          show _ ↔ s ∈ blanksL (l.drop (i + 1)) ((l.take (i + 1)).drop (i + 1))
          have e0 : (l.take (i + 1)).drop (i + 1) = [] := List.drop_eq_nil_of_le (by rw [List.length_take]; omega)
          rw [e0, i4]
          exact ⟨fun hh => hh.resolve_left fun e => hs e.symm, .inr⟩
        · repeat (first | exact trivial | refine ⟨AVle.refl _, ?_⟩ | refine ⟨AVle.tk, ?_⟩ | refine ⟨AVle.nil, ?_⟩ | refine ⟨AVle.nilFull, ?_⟩ | refine ⟨AVle.eq (congrArg (AV.int .i64) (by first | (simp; done) | (simp; omega) | (rw [wrap_i64 (by first | omega | (simp; omega))]; first | rfl | omega | (simp; done) | (simp; omega)))), ?_⟩)
        · repeat (first | exact SLe.rfl | refine SLe.tail ?_ | refine SLe.full ?_)
  · obtain rfl : i = l.length := by omega
    rw [List.drop_length, blanksL, List.mem_singleton] at i4
    repeat (first | refine ga_ ?_ | intro _)
    refine at_ss m l.length _ rfl rfl i1 hle rfl ?_
    repeat (first | refine ga_ ?_ | intro _)
    refine AW_iff ((l.take l.length).drop m = s) rfl (by first | (simp; done) | (simp <;> omega) | decide) (fun h => ?_) (fun h => ?_)
    · have hs := h
      repeat (first | refine ga_ ?_ | intro _)
      refine AW_ret ?_
      repeat (first | refine ⟨0, rfl, ?_⟩ | refine ⟨1, rfl, ?_⟩ | refine ⟨2, rfl, ?_⟩ | refine ⟨3, rfl, ?_⟩ | refine ⟨4, rfl, ?_⟩ | refine ⟨5, rfl, ?_⟩ | refine ⟨6, rfl, ?_⟩)
      refine ⟨_, R, AVle.eq ?_, (by repeat (first | exact SLe.rfl | refine SLe.tail ?_)), rfl, rfl⟩
      exact congrArg AV.bool (decide_eq_true (i4.2 hs.symm)).symm
    · have hs := h
      repeat (first | refine ga_ ?_ | intro _)
      refine ⟨(l.length + 1, l.length + 1), ?_, ?_, weak_of ?_ rfl ?_⟩
      · show l.length + 1 - (l.length + 1) < l.length + 1 - l.length; omega
      · exact ⟨Nat.le_refl _, Nat.le_refl _, .inr ⟨Nat.lt_succ_self _, fun hh => hs (i4.1 hh).symm⟩⟩
      · repeat (first | exact trivial | refine ⟨AVle.refl _, ?_⟩ | refine ⟨AVle.tk, ?_⟩ | refine ⟨AVle.nil, ?_⟩ | refine ⟨AVle.nilFull, ?_⟩ | refine ⟨AVle.eq (congrArg (AV.int .i64) (by first | (simp; done) | (simp; omega) | (rw [wrap_i64 (by first | omega | (simp; omega))]; first | rfl | omega | (simp; done) | (simp; omega)))), ?_⟩)
      · repeat (first | exact SLe.rfl | refine SLe.tail ?_ | refine SLe.full ?_)
def ownB (s : List UInt8) : Bool := nameB s && !decide (s ∈ ownL)
theorem refIsName_ok (s : List UInt8) (R : List En) : ACall Tryd.prog 10 [.str s] R (fun v S => v = .bool (ownB s) ∧ S = R) := by
  have ka := fun R => among_ok ownS s R own_len
  rw [own_same] at ka
  refine ACall_body tab_ok Tryd.func10 rfl rfl rfl (by kernel_rfl) (Nat.le_of_ble_eq_true rfl) ?_
  repeat (first | refine go_ ?_ | intro _)
  refine Or.inl ⟨⟨_, Tryd.func25, rfl, rfl⟩, ACall.mono ?_ (refName_ok s _)⟩
  rintro _ S1 ⟨rfl, hS1⟩
  subst S1
  repeat (first | refine go_ ?_ | intro _)
  refine gsplit (nameB s = true) (by first | (simp; done) | (simp <;> omega) | decide) (fun h => ?_) (fun h => ?_)
  · repeat (first | refine ga_ ?_ | intro _)
    refine Or.inl ⟨⟨_, Tryd.func26, rfl, rfl⟩, ACall.mono ?_ (ka _)⟩
    rintro _ S1 ⟨rfl, hS1⟩
    subst S1
    repeat (first | refine ga_ ?_ | intro _)
    refine AW_ret ?_
    repeat (first | refine ⟨0, rfl, ?_⟩ | refine ⟨1, rfl, ?_⟩ | refine ⟨2, rfl, ?_⟩ | refine ⟨3, rfl, ?_⟩ | refine ⟨4, rfl, ?_⟩ | refine ⟨5, rfl, ?_⟩ | refine ⟨6, rfl, ?_⟩)
    refine ⟨_, R, AVle.eq ?_, (by repeat (first | exact SLe.rfl | refine SLe.tail ?_)), rfl, rfl⟩
    exact congrArg AV.bool (by simp [ownB, h])
  · repeat (first | refine ga_ ?_ | intro _)
    refine AW_ret ?_
    repeat (first | refine ⟨0, rfl, ?_⟩ | refine ⟨1, rfl, ?_⟩ | refine ⟨2, rfl, ?_⟩ | refine ⟨3, rfl, ?_⟩ | refine ⟨4, rfl, ?_⟩ | refine ⟨5, rfl, ?_⟩ | refine ⟨6, rfl, ?_⟩)
    refine ⟨_, R, AVle.eq ?_, (by repeat (first | exact SLe.rfl | refine SLe.tail ?_)), rfl, rfl⟩
    exact congrArg AV.bool (by simp [ownB, h])
theorem fieldsSeq_ok (s : List UInt8) (R : List En) : ACall Tryd.prog 51 [.str s] R (fun v S => ∃ p, v = .fn (.func 81) [] [.ptr p 0] ∧ S = .cells p [.str s] :: R) := by
  refine ACall_body tab_ok Tryd.func51 rfl rfl rfl (by kernel_rfl) (Nat.le_of_ble_eq_true rfl) ?_
  repeat (first | refine go_ ?_ | intro _)
  refine AW_ret ?_
  repeat (first | refine ⟨0, rfl, ?_⟩ | refine ⟨1, rfl, ?_⟩ | refine ⟨2, rfl, ?_⟩ | refine ⟨3, rfl, ?_⟩ | refine ⟨4, rfl, ?_⟩ | refine ⟨5, rfl, ?_⟩ | refine ⟨6, rfl, ?_⟩)
  refine ⟨_, _, AVle.refl _, SLe.rfl, ?_⟩
  exact ⟨_, rfl, rfl⟩
theorem taken_ok (R : List En) (hE : spE ∈ R) : ACall Tryd.prog 24 [] R (fun v S => ∃ b, v = .map b ∧ S = .map b (mkM (metL ownL)) :: R) := by
  refine ACall_body tab_ok Tryd.func24 rfl rfl rfl (by kernel_rfl) (Nat.le_of_ble_eq_true rfl) ?_
  repeat (first | refine go_ ?_ | intro _)
  rename_i mb c1
  refine Or.inl ⟨⟨_, Tryd.func51, rfl, rfl⟩, ACall.mono ?_ (fieldsSeq_ok ownS _)⟩
  rintro _ S1 ⟨q, rfl, hS1⟩
  subst S1
  repeat (first | refine go_ ?_ | intro _)
  refine AW_rangeOut (xs := ownL.map encW) (α := Unit) (st := fun i z => [.cells c1 [.map mb], .map mb (mkM (metL (ownL.take i)))]) (inv := fun i z => True) (Q := fun x Sc => False) ([.cells q [.str ownS], spE]) (R) (()) rfl (fields_gen ownS q own_ascii own_len) ?_ ?_ ?_ ?_ ?_ ?_
  · refine fun w0 K x h => ((SLe.dup (e := spE) (.tail _ (.tail _ (.tail _ hE))) rfl) w0 K x h).perm ?_
    exact List.Perm.swap _ _ _
  · trivial
  · intro i args h
    rw [List.getElem?_map] at h
    obtain ⟨x, _, rfl⟩ := Option.map_eq_some_iff.1 h
    rfl
  · intro lp R1 i args z hl hx hz
    rw [List.getElem?_map] at hx
    obtain ⟨x, hx2, rfl⟩ := Option.map_eq_some_iff.1 hx
    obtain ⟨hi, hx3⟩ := List.getElem?_eq_some_iff.1 hx2
    have ht : ownL.take (i + 1) = ownL.take i ++ [x] := by rw [List.take_succ_eq_append_getElem hi, hx3]
    have hn : x ∉ ownL.take i := by
      have := (List.take_sublist (i + 1) ownL).nodup own_nodup
      rw [ht, List.nodup_append] at this
      exact fun hh => this.2.2 x hh x (by simp) rfl
    repeat (first | refine ga_ ?_ | intro _)
    refine ⟨_, _, 1, _, rfl, rfl, rfl, metL (ownL.take (i + 1)), (by rw [ht]; exact mput_met hn), ?_⟩
    repeat (first | refine ga_ ?_ | intro _)
    exact ⟨(), trivial, SLe.rfl⟩
  · intro d z hz
    repeat (first | refine go_ ?_ | intro _)
    have e : metL (ownL.take (ownL.map encW).length) = metL ownL := by rw [List.length_map, List.take_length]
    refine AW_ret ?_
    repeat (first | refine ⟨0, rfl, ?_⟩ | refine ⟨1, rfl, ?_⟩ | refine ⟨2, rfl, ?_⟩)
    exact ⟨.map mb, .map mb (mkM (metL ownL)) :: R, AVle.refl _, (by repeat (first | exact SLe.of_eq (congrArg (fun m => En.map mb (mkM m) :: R) e) | refine SLe.tail ?_)), mb, rfl, rfl⟩
  · rintro d x Sc hf _
    exact hf.elim
theorem isName_ok (s : List UInt8) (R : List En) (hE : spE ∈ R) : ACall Tryd.prog 9 [.str s] R (fun v S => v = .bool (ownB s) ∧ S = R) := by
  refine ACall_body tab_ok Tryd.func9 rfl rfl rfl (by kernel_rfl) (Nat.le_of_ble_eq_true rfl) ?_
  repeat (first | refine go_ ?_ | intro _)
  refine Or.inl ⟨⟨_, Tryd.func23, rfl, rfl⟩, ACall.mono ?_ (name_ok s _)⟩
  rintro _ S1 ⟨rfl, hS1⟩
  subst S1
  repeat (first | refine go_ ?_ | intro _)
  refine gsplit (nameB s = true) (by first | (simp; done) | (simp <;> omega) | decide) (fun h => ?_) (fun h => ?_)
  · have hn := h
    repeat (first | refine ga_ ?_ | intro _)
    refine Or.inl ⟨⟨_, Tryd.func24, rfl, rfl⟩, ACall.mono ?_ (taken_ok _ hE)⟩
    rintro _ S1 ⟨mb, rfl, hS1⟩
    subst S1
    repeat (first | refine ga_ ?_ | intro _)
    refine ⟨_, _, _, 0, _, rfl, rfl, zero_bool, rfl, (.bool (decide (s ∈ ownL)), decide (s ∈ ownL)), mget_met s ownL, ?_⟩
    repeat (first | refine ga_ ?_ | intro _)
    refine AW_ret ?_
    repeat (first | refine ⟨0, rfl, ?_⟩ | refine ⟨1, rfl, ?_⟩ | refine ⟨2, rfl, ?_⟩ | refine ⟨3, rfl, ?_⟩ | refine ⟨4, rfl, ?_⟩ | refine ⟨5, rfl, ?_⟩ | refine ⟨6, rfl, ?_⟩)
    refine ⟨_, R, AVle.eq ?_, (by repeat (first | exact SLe.rfl | refine SLe.tail ?_)), rfl, rfl⟩
    exact congrArg AV.bool (by simp [ownB, hn])
  · repeat (first | refine ga_ ?_ | intro _)
    refine AW_ret ?_
    repeat (first | refine ⟨0, rfl, ?_⟩ | refine ⟨1, rfl, ?_⟩ | refine ⟨2, rfl, ?_⟩ | refine ⟨3, rfl, ?_⟩ | refine ⟨4, rfl, ?_⟩ | refine ⟨5, rfl, ?_⟩ | refine ⟨6, rfl, ?_⟩)
    refine ⟨_, R, AVle.eq ?_, (by repeat (first | exact SLe.rfl | refine SLe.tail ?_)), rfl, rfl⟩
    exact congrArg AV.bool (by simp [ownB, h])
end Go.Proofs.YtnkmjbjpmocnbaaDoor
