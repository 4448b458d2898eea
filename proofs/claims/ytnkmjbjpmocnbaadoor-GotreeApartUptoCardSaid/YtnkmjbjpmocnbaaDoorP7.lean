/-
  An expression's text. Own work.
-/
import Derived.Test.YtnkmjbjpmocnbaaDoorP5
import Derived.Test.YtnkmjbjpmocnbaaDoorP2
set_option linter.all false
namespace Go.Proofs.YtnkmjbjpmocnbaaDoor
open Go.Aw Go.RowKit

/-- an expression's text, by its parts' -/
def textG (op : Int) (s : List UInt8) (n : Int) (num : Bool) (p : List (List UInt8)) : List UInt8 :=
  if op = 1 then s else if op = 2 then Lib.itoa n else if op = 3 then quoteL s else if op = 4 then [116, 114, 117, 101] else if op = 5 then [102, 97, 108, 115, 101]
  else if op = 6 then [40] ++ (p.getD 0 [] ++ ([32] ++ (s ++ ([32] ++ (p.getD 1 [] ++ [41])))))
  else if op = 7 then [40, 45] ++ (p.getD 0 [] ++ [41]) else if op = 8 then [40, 33] ++ (p.getD 0 [] ++ [41])
  else if op = 9 then s ++ ([40] ++ (Lib.join p [44, 32] ++ [41]))
  else if op = 10 then p.getD 0 [] ++ ([91] ++ (p.getD 1 [] ++ [93]))
  else if op = 11 then p.getD 0 [] ++ ([91] ++ (p.getD 1 [] ++ ([58] ++ (p.getD 2 [] ++ [93]))))
  else if op = 12 then (if num = true then [40] ++ (p.getD 0 [] ++ ([41, 46] ++ s)) else p.getD 0 [] ++ ([46] ++ s))
  else if op = 13 then [40] ++ (s ++ ([123] ++ (Lib.join p [44, 32] ++ [125, 41])))
  else if op = 14 then [108, 101, 110, 40] ++ (p.getD 0 [] ++ [41])
  else if op = 15 then [97, 112, 112, 101, 110, 100, 40] ++ (Lib.join p [44, 32] ++ [41])
  else [105, 110, 116, 40] ++ (p.getD 0 [] ++ ([91] ++ (p.getD 1 [] ++ [93, 41])))
def headI (l : List T) : Bool := match l with
  | [] => false
  | t :: _ => decide (t.op = 2)
mutual
def showG : T → List UInt8
  | .mk op s n l => textG op s n (headI l) (showGs l)
def showGs : List T → List (List UInt8)
  | [] => []
  | t :: r => showG t :: showGs r
end
theorem showG_eq (t : T) : showG t = textG t.op t.s t.n (headI t.l) (showGs t.l) := by cases t; rw [showG]; rfl
theorem showGs_map : ∀ l : List T, showGs l = l.map showG
  | [] => rfl
  | t :: l => by rw [showGs, showGs_map l]; rfl
theorem showGs_at {l : List T} {i : Nat} (h : i < l.length) : (showGs l).getD i [] = showG l[i] := by
  rw [showGs_map, List.getD_eq_getElem?_getD, List.getElem?_map, List.getElem?_eq_getElem h]; rfl
/-! ### the numbers are in range -/
mutual
def okT : T → Prop
  | .mk _ _ n l => inR64 n ∧ okTs l
def okTs : List T → Prop
  | [] => True
  | t :: r => okT t ∧ okTs r
end
theorem okTs_mem : ∀ {l : List T} {x : T}, okTs l → x ∈ l → okT x
  | t :: r, x, h, hx => by
    rw [okTs] at h
    rcases List.mem_cons.1 hx with rfl | hx
    · exact h.1
    · exact okTs_mem h.2 hx
theorem flat_cons (a : AV) (l : List AV) : flat (a :: l) = a.cells ++ flat l := by simp [Aw.flat]
mutual
theorem okT_of : ∀ t : T, (∀ c ∈ cT t, Sat c) → okT t
  | .mk op s n l, h => by
    rw [okT]
    refine ⟨i64_of (h (.int .i64 n) (by simp [cT, T.n])).int, okTs_of l fun c hc => ?_⟩
    exact (h (.sl 4 (encTs l) .no) (by simp [cT, T.l])).flat hc
theorem okTs_of : ∀ l : List T, (∀ c ∈ flat (encTs l), Sat c) → okTs l
  | [], _ => by rw [okTs]; trivial
  | t :: r, h => by
    rw [encTs, encT_eq, flat_cons] at h
    rw [okTs]
    exact ⟨okT_of t fun c hc => h c (List.mem_append_left _ hc), okTs_of r fun c hc => h c (List.mem_append_right _ hc)⟩
end
/-! ### lengths -/
theorem szT_pos : ∀ t : T, 1 ≤ szT t
  | .mk _ _ _ l => by rw [szT]; omega
theorem len_szTs : ∀ l : List T, l.length ≤ szTs l
  | [] => by simp
  | t :: r => by have := len_szTs r; have := szT_pos t; rw [szTs]; simp; omega
theorem szTs_mem {x : T} : ∀ {l : List T}, x ∈ l → szT x ≤ szTs l
  | t :: r, h => by
    rw [szTs]
    rcases List.mem_cons.1 h with rfl | h
    · omega
    · have := szTs_mem h; omega
theorem szT_eq (t : T) : szT t = t.s.length + szTs t.l + 1 := by cases t; rw [szT]; rfl
theorem join_le (xs : List (List UInt8)) : (Lib.join xs [44, 32]).length ≤ (xs.map List.length).sum + 2 * xs.length := by
  cases xs with
  | nil => simp [Lib.join_nil]
  | cons x r =>
    have h := Lib.join_length x r [44, 32]
    have e : Lib.lens (x :: r) = ((x :: r).map List.length).sum := rfl
    rw [e] at h
    have h2 : (Lib.join (x :: r) [44, 32]).length = 2 * r.length + ((x :: r).map List.length).sum := h
    rw [h2, List.length_cons]; omega
theorem three_len (l : List (List UInt8)) : (l.getD 0 []).length + (l.getD 1 []).length + (l.getD 2 []).length ≤ (l.map List.length).sum := by
  match l with
  | [] => simp
  | [a] => simp
  | [a, b] => simp
  | a :: b :: c :: r => simp only [List.getD_cons_zero, List.getD_cons_succ, List.map_cons, List.sum_cons]; omega
theorem itoa_le {n : Int} (h : inR64 n) {k : Nat} (hk : 20 ≤ k) : (Lib.itoa n).length ≤ k := Nat.le_trans (itoa_len h) hk
theorem ite_len {c : Prop} [Decidable c] {a b : List UInt8} {k : Nat} (h1 : a.length ≤ k) (h2 : b.length ≤ k) : (if c then a else b).length ≤ k := by split <;> assumption
theorem textG_len {op : Int} {s : List UInt8} {n : Int} {b : Bool} {p : List (List UInt8)} (hn : inR64 n) : (textG op s n b p).length ≤ 4 * s.length + 22 + (p.map List.length).sum + 2 * p.length := by
  have h1 := itoa_len hn
  have h2 := flat_len s
  have h3 := three_len p
  have h4 := join_le p
  unfold textG
  repeat' (first | exact itoa_le hn (by omega) | refine ite_len ?_ ?_)
  all_goals (first | omega | (simp only [quoteL, List.length_append, List.length_cons, List.length_nil]; omega))
theorem showGs_len0 (l : List T) : (showGs l).length = l.length := by rw [showGs_map, List.length_map]
mutual
def cntT : T → Nat
  | .mk _ _ _ l => cntTs l + 1
def cntTs : List T → Nat
  | [] => 0
  | t :: r => cntT t + cntTs r
end
mutual
theorem cntT_le : ∀ t : T, cntT t ≤ szT t
  | .mk _ s _ l => by have := cntTs_le l; rw [cntT, szT]; omega
theorem cntTs_le : ∀ l : List T, cntTs l ≤ szTs l
  | [] => by rw [cntTs, szTs]; omega
  | t :: r => by have := cntT_le t; have := cntTs_le r; rw [cntTs, szTs]; omega
end
mutual
theorem showG_cnt : ∀ t : T, okT t → (showG t).length + 2 ≤ 4 * szT t + 20 * cntT t
  | .mk op s n l, h => by
    rw [okT] at h
    have h1 := showGs_cnt l h.2
    have h2 := textG_len (op := op) (s := s) (b := headI l) (p := showGs l) h.1
    have h3 := showGs_len0 l
    rw [showG, szT, cntT]
    omega
theorem showGs_cnt : ∀ l : List T, okTs l → ((showGs l).map List.length).sum + 2 * l.length ≤ 4 * szTs l + 20 * cntTs l
  | [], _ => by simp [showGs]
  | t :: r, h => by
    rw [okTs] at h
    have h1 := showG_cnt t h.1
    have h2 := showGs_cnt r h.2
    rw [showGs, szTs, cntTs]
    simp only [List.map_cons, List.sum_cons, List.length_cons]; omega
end
theorem showG_len (t : T) (h : okT t) : (showG t).length + 2 ≤ 24 * szT t := by have := showG_cnt t h; have := cntT_le t; omega
theorem showGs_len (l : List T) (h : okTs l) : ((showGs l).map List.length).sum + 2 * l.length ≤ 24 * szTs l := by have := showGs_cnt l h; have := cntTs_le l; omega
end Go.Proofs.YtnkmjbjpmocnbaaDoor
/-
  An expression's text: the program. Own work.
-/
namespace Go.Proofs.YtnkmjbjpmocnbaaDoor
open Go.Aw Go.RowKit
set_option maxHeartbeats 4000000

theorem take_snoc {α : Type} {l : List α} {z : Nat} {x : α} (h : z < l.length) (hx : x = l[z]) : l.take (z + 1) = l.take z ++ [x] := by rw [List.take_succ_eq_append_getElem h, hx]
theorem szTs_take : ∀ (l : List T) (z : Nat), szTs (l.take z) ≤ szTs l
  | [], z => by simp
  | t :: r, 0 => by rw [List.take_zero, szTs]; omega
  | t :: r, z + 1 => by have := szTs_take r z; rw [List.take_succ_cons, szTs, szTs]; omega
theorem okTs_take {l : List T} (h : okTs l) (z : Nat) : okTs (l.take z) := by
  induction l generalizing z with
  | nil => simpa using h
  | cons t r ih =>
    rw [okTs] at h
    cases z with
    | zero => rw [List.take_zero, okTs]; trivial
    | succ z => rw [List.take_succ_cons, okTs]; exact ⟨h.1, ih h.2 z⟩
theorem joinG_len {l : List T} (h : okTs l) : (Lib.join (showGs l) [44, 32]).length ≤ 24 * szTs l := by
  have h1 := showGs_len l h
  have h2 := join_le (showGs l)
  have h3 := showGs_len0 l
  omega
/-- what is known of a part -/
def KG (R0 : List En → Prop) (f : Nat) (x : T) : Prop := ∀ R, R0 R → ACall Tryd.prog f [encU x] R (fun r S => r = .str (showG x) ∧ S = R)
theorem all_ok (l : List T) (R : List En) (hl : l.length ≤ 200) (ho : okTs l) (hs : szTs l ≤ 2000000) (hG : NumG R) (k : ∀ x ∈ l, KG NumG 27 x) : ACall Tryd.prog 57 [.sl 4 (encTs l) .no] R (fun r S => r = .str (Lib.join (showGs l) [44, 32]) ∧ S = R) := by
  refine ACall_body tab_ok Tryd.func57 rfl rfl rfl (by kernel_rfl) (Nat.le_of_ble_eq_true rfl) ?_
  repeat (first | refine go_ ?_ | intro _)
  refine AW_for (α := Nat × Tk) (fun z => ⟨[(3, .sl 1 ((showGs (l.take z.1)).map AV.str) z.2), (6, .sl 4 (encTs l) .no), (7, .int .i64 (l.length : Nat)), (8, .int .i64 (z.1 : Nat))], []⟩) (fun z => .grow z.2 :: R) (fun z => l.length - z.1) (fun z => z.1 ≤ l.length) ((0, .full)) ?_ (weak_of ?_ rfl ?_) (fun z hz => ?_)
  · exact Nat.zero_le _
  · repeat (first | exact trivial | refine ⟨(AVle.eq (congrArg (AV.int .i64) (by simp))), ?_⟩ | refine ⟨AVle.refl _, ?_⟩ | refine ⟨AVle.tk, ?_⟩ | refine ⟨AVle.nil, ?_⟩ | refine ⟨AVle.nilFull, ?_⟩ | refine ⟨AVle.eq (congrArg (AV.int .i64) (by first | (simp; done) | (simp; omega) | (rw [wrap_i64 (by first | omega | (simp; omega))]; first | rfl | omega | (simp; done) | (simp; omega)))), ?_⟩)
  · refine SW.le ?_
    repeat (first | exact SW.nil | refine SW.cons ?_ | refine SW.cells (by repeat (first | exact trivial | refine ⟨AVle.refl _, ?_⟩ | refine ⟨AVle.nilFull, ?_⟩ | refine ⟨AVle.tk, ?_⟩ | refine ⟨AVle.nil, ?_⟩)) rfl ?_ | refine SW.full ?_ | refine SW.drop ?_)
  obtain ⟨z, tk⟩ := z
  replace hz : z ≤ l.length := hz
  have hsl := showGs_len0 (l.take z)
  rw [List.length_take] at hsl
  repeat (first | refine go_ ?_ | intro _)
  refine AW_iff (z < l.length) rfl (by first | (simp; done) | (simp <;> omega) | decide) (fun h => ?_) (fun h => ?_)
  · have hlt := h
    obtain ⟨x, hx⟩ : ∃ x, x = l[z] := ⟨_, rfl⟩
    have hm : x ∈ l := hx ▸ List.getElem_mem hlt
    repeat (first | refine go_ ?_ | intro _)
    refine at_get (z) (encU x) (by first | rfl | omega | (rw [wrap_i64 (by omega)]; omega)) (by rw [hx]; exact encTs_get hlt) ?_
    repeat (first | refine go_ ?_ | intro _)
    refine Or.inl ⟨⟨_, Tryd.func27, rfl, rfl⟩, ACall.mono ?_ (k x hm _ hG.cons.cons)⟩
    rintro _ S1 ⟨rfl, hS1⟩
    subst S1
    repeat (first | refine go_ ?_ | intro _)
    refine ⟨room (by first | omega | (simp; done) | (simp; omega) | (simp at *; done) | (simp at *; omega)) rfl, .inl rfl, .inr (.inl ⟨rfl, 1, rfl, (showGs (l.take (z + 1))).map AV.str, by rw [take_snoc hlt hx, showGs_map, showGs_map, List.map_append, List.map_append]; rfl, fun t1 => ?_⟩)⟩
    repeat (first | refine go_ ?_ | intro _)
    refine ⟨(z + 1, t1), ?_, ?_, weak_of ?_ rfl ?_⟩
    · exact Nat.sub_lt_sub_left hlt (Nat.lt_succ_self z)
    · exact hlt
    · repeat (first | exact trivial | refine ⟨AVle.refl _, ?_⟩ | refine ⟨AVle.tk, ?_⟩ | refine ⟨AVle.nil, ?_⟩ | refine ⟨AVle.nilFull, ?_⟩ | refine ⟨AVle.eq (congrArg (AV.int .i64) (by first | (simp; done) | (simp; omega) | (rw [wrap_i64 (by first | omega | (simp; omega))]; first | rfl | omega | (simp; done) | (simp; omega)))), ?_⟩)
    · refine SW.le ?_
      repeat (first | exact SW.nil | refine SW.cons ?_ | refine SW.cells (by repeat (first | exact trivial | refine ⟨AVle.refl _, ?_⟩ | refine ⟨AVle.nilFull, ?_⟩ | refine ⟨AVle.tk, ?_⟩ | refine ⟨AVle.nil, ?_⟩)) rfl ?_ | refine SW.full ?_ | refine SW.drop ?_)
  have hz' : z = l.length := by omega
  have hj := joinG_len (okTs_take ho z)
  have hs2 := szTs_take l z
  have kj := fun R => join_ok (showGs (l.take z)) [44, 32] tk R (by rw [showGs_len0, List.length_take]; omega) (by omega)
  repeat (first | refine go_ ?_ | intro _)
  refine Or.inl ⟨⟨_, Tryd.func43, rfl, rfl⟩, ACall.mono ?_ (kj _)⟩
  rintro _ S1 ⟨rfl, hS1⟩
  subst S1
  repeat (first | refine go_ ?_ | intro _)
  refine AW_ret ?_
  repeat (first | refine ⟨0, rfl, ?_⟩ | refine ⟨1, rfl, ?_⟩ | refine ⟨2, rfl, ?_⟩ | refine ⟨3, rfl, ?_⟩ | refine ⟨4, rfl, ?_⟩ | refine ⟨5, rfl, ?_⟩ | refine ⟨6, rfl, ?_⟩)
  refine ⟨_, R, AVle.eq ?_, (by repeat (first | exact SLe.rfl | refine SLe.tail ?_)), rfl, rfl⟩
  exact congrArg (fun x => AV.str (Lib.join (showGs x) [44, 32])) (by rw [hz', List.take_length])
theorem part_ok (t : T) (i : Nat) (p : Nat) (R : List En) (x : T) (hi : i < t.l.length) (hx : x = t.l[i]) (k : KG NumG 27 x) (hG : NumG R) : ACall Tryd.prog 54 [.int .i64 (i : Nat), .ptr p 0] (.cells p (cT t) :: R) (fun r S => r = .str (showG x) ∧ S = .cells p (cT t) :: R) := by
  refine ACall_body tab_ok Tryd.func54 rfl rfl rfl (by kernel_rfl) (Nat.le_of_ble_eq_true rfl) ?_
  repeat (first | refine go_ ?_ | intro _)
  refine at_get (i) (encU x) (by first | rfl | omega | (rw [wrap_i64 (by omega)]; omega)) (by rw [hx]; exact encTs_get hi) ?_
  repeat (first | refine go_ ?_ | intro _)
  refine Or.inl ⟨⟨_, Tryd.func27, rfl, rfl⟩, ACall.mono ?_ (k _ hG.cons)⟩
  rintro _ S1 ⟨rfl, hS1⟩
  subst S1
  repeat (first | refine go_ ?_ | intro _)
  refine AW_ret ?_
  repeat (first | refine ⟨0, rfl, ?_⟩ | refine ⟨1, rfl, ?_⟩ | refine ⟨2, rfl, ?_⟩ | refine ⟨3, rfl, ?_⟩ | refine ⟨4, rfl, ?_⟩ | refine ⟨5, rfl, ?_⟩ | refine ⟨6, rfl, ?_⟩)
  refine ⟨_, .cells p (cT t) :: R, AVle.eq ?_, (by repeat (first | exact SLe.rfl | refine SLe.tail ?_)), rfl, rfl⟩
  rfl
end Go.Proofs.YtnkmjbjpmocnbaaDoor
/-
  An expression's text: the program, by induction. Own work.
-/
namespace Go.Proofs.YtnkmjbjpmocnbaaDoor
open Go.Aw Go.RowKit
set_option maxHeartbeats 4000000

theorem rightG_all {t : T} {h : Nat} (hr : rightG t (h + 1) = true) : bareG t = true ∧ (partsN t.op).1 ≤ t.l.length ∧ t.l.length ≤ (partsN t.op).2 ∧ ∀ x ∈ t.l, rightG x h = true := by
  rw [rightG_eq] at hr
  simp only [Bool.and_eq_true, decide_eq_true_eq, List.all_eq_true] at hr
  exact hr
theorem op_range {t : T} (hb : bareG t = true) : 1 ≤ t.op ∧ t.op ≤ 16 := by
  refine ⟨Int.not_lt.1 fun h => ?_, Int.not_lt.1 fun h => ?_⟩
  · rw [bareG_out (.inl h)] at hb; cases hb
  · rw [bareG_out (.inr h)] at hb; cases hb
theorem op_cases {op : Int} (h : 1 ≤ op ∧ op ≤ 16) : op = 1 ∨ op = 2 ∨ op = 3 ∨ op = 4 ∨ op = 5 ∨ op = 6 ∨ op = 7 ∨ op = 8 ∨ op = 9 ∨ op = 10 ∨ op = 11 ∨ op = 12 ∨ op = 13 ∨ op = 14 ∨ op = 15 ∨ op = 16 := by omega
theorem parts_few (op : Int) : (partsN op).2 ≤ 200 := by
  have := ((parts_iff op (partsN op).2).1 ⟨by unfold partsN; (repeat' split) <;> decide, Nat.le_refl _⟩).2
  exact this

theorem showExpr_ok : ∀ (h : Nat) (t : T) (R : List En), rightG t h = true → okT t → szT t ≤ 1048576 → NumG R → ACall Tryd.prog 27 [encU t] R (fun r S => r = .str (showG t) ∧ S = R)
  | 0, t, R, hr, _, _, _ => by rw [rightG] at hr; cases hr
  | m + 1, t, R, hr, ho, hc, hG => by
    obtain ⟨hb, h1, h2, h3⟩ := rightG_all hr
    have hop := op_cases (op_range hb)
    have hfew := parts_few t.op
    obtain ⟨op, s, n, l⟩ := t
    replace h1 : (partsN op).1 ≤ l.length := h1
    replace h2 : l.length ≤ (partsN op).2 := h2
    replace hfew : (partsN op).2 ≤ 200 := hfew
    replace h3 : ∀ x ∈ l, rightG x m = true := h3
    replace hop : op = 1 ∨ op = 2 ∨ op = 3 ∨ op = 4 ∨ op = 5 ∨ op = 6 ∨ op = 7 ∨ op = 8 ∨ op = 9 ∨ op = 10 ∨ op = 11 ∨ op = 12 ∨ op = 13 ∨ op = 14 ∨ op = 15 ∨ op = 16 := hop
    rw [okT] at ho
    rw [szT] at hc
    have hs : showG (.mk op s n l) = textG op s n (headI l) (showGs l) := by rw [showG]
    have hlen : ∀ x ∈ l, (showG x).length ≤ 25165824 := fun x hx => by
      have := showG_len x (okTs_mem ho.2 hx)
      have := szTs_mem hx
      omega
    have kp : ∀ x ∈ l, KG NumG 27 x := fun x hx R hG => showExpr_ok m x R (h3 x hx) (okTs_mem ho.2 hx) (by have := szTs_mem hx; omega) hG
    have lj := joinG_len ho.2
    have ka := fun R hG => all_ok l R (by omega) ho.2 (by omega) hG kp
    have hq := flat_len s
    rcases hop with rfl | rfl | rfl | rfl | rfl | rfl | rfl | rfl | rfl | rfl | rfl | rfl | rfl | rfl | rfl | rfl
    all_goals
      refine ACall_body tab_ok Tryd.func27 rfl rfl rfl (by kernel_rfl) (Nat.le_of_ble_eq_true rfl) ?_
      repeat (first | refine ga_ ?_ | intro _)
    · refine AW_ret ?_
      repeat (first | refine ⟨0, rfl, ?_⟩ | refine ⟨1, rfl, ?_⟩ | refine ⟨2, rfl, ?_⟩ | refine ⟨3, rfl, ?_⟩ | refine ⟨4, rfl, ?_⟩ | refine ⟨5, rfl, ?_⟩ | refine ⟨6, rfl, ?_⟩)
      refine ⟨_, R, AVle.eq ?_, (by repeat (first | exact SLe.rfl | refine SLe.tail ?_)), rfl, rfl⟩
      rw [hs]; rfl
    · rename_i p
      refine Or.inl ⟨⟨_, Tryd.func55, rfl, rfl⟩, ACall.mono ?_ (num_ok n _ hG.cons)⟩
      rintro _ S1 ⟨rfl, hS1⟩
      subst S1
      repeat (first | refine go_ ?_ | intro _)
      refine AW_ret ?_
      repeat (first | refine ⟨0, rfl, ?_⟩ | refine ⟨1, rfl, ?_⟩ | refine ⟨2, rfl, ?_⟩ | refine ⟨3, rfl, ?_⟩ | refine ⟨4, rfl, ?_⟩ | refine ⟨5, rfl, ?_⟩ | refine ⟨6, rfl, ?_⟩)
      refine ⟨_, R, AVle.eq ?_, (by repeat (first | exact SLe.rfl | refine SLe.tail ?_)), rfl, rfl⟩
      rw [hs]; rfl
    · rename_i p
      refine Or.inl ⟨⟨_, Tryd.func56, rfl, rfl⟩, ACall.mono ?_ (quote_ok s _ (by omega))⟩
      rintro _ S1 ⟨rfl, hS1⟩
      subst S1
      repeat (first | refine go_ ?_ | intro _)
      refine AW_ret ?_
      repeat (first | refine ⟨0, rfl, ?_⟩ | refine ⟨1, rfl, ?_⟩ | refine ⟨2, rfl, ?_⟩ | refine ⟨3, rfl, ?_⟩ | refine ⟨4, rfl, ?_⟩ | refine ⟨5, rfl, ?_⟩ | refine ⟨6, rfl, ?_⟩)
      refine ⟨_, R, AVle.eq ?_, (by repeat (first | exact SLe.rfl | refine SLe.tail ?_)), rfl, rfl⟩
      rw [hs]; rfl
    · refine AW_ret ?_
      repeat (first | refine ⟨0, rfl, ?_⟩ | refine ⟨1, rfl, ?_⟩ | refine ⟨2, rfl, ?_⟩ | refine ⟨3, rfl, ?_⟩ | refine ⟨4, rfl, ?_⟩ | refine ⟨5, rfl, ?_⟩ | refine ⟨6, rfl, ?_⟩)
      refine ⟨_, R, AVle.eq ?_, (by repeat (first | exact SLe.rfl | refine SLe.tail ?_)), rfl, rfl⟩
      rw [hs]; rfl
    · refine AW_ret ?_
      repeat (first | refine ⟨0, rfl, ?_⟩ | refine ⟨1, rfl, ?_⟩ | refine ⟨2, rfl, ?_⟩ | refine ⟨3, rfl, ?_⟩ | refine ⟨4, rfl, ?_⟩ | refine ⟨5, rfl, ?_⟩ | refine ⟨6, rfl, ?_⟩)
      refine ⟨_, R, AVle.eq ?_, (by repeat (first | exact SLe.rfl | refine SLe.tail ?_)), rfl, rfl⟩
      rw [hs]; rfl
    · rename_i p
      have hl : l.length = 2 := by have e1 : (partsN 6).1 = 2 := rfl; have e2 : (partsN 6).2 = 2 := rfl; omega
      obtain ⟨x, hx⟩ : ∃ x, x = l[0]'(by omega) := ⟨_, rfl⟩
      have lx := hlen x (hx ▸ List.getElem_mem _)
      have kx := fun R hG => part_ok ⟨6, s, n, l⟩ 0 p R x (by show 0 < l.length; omega) hx (kp x (hx ▸ List.getElem_mem _)) hG
      have ex : (showGs l).getD 0 [] = showG x := by rw [showGs_at (by omega), hx]
      obtain ⟨y, hy⟩ : ∃ x, x = l[1]'(by omega) := ⟨_, rfl⟩
      have ly := hlen y (hy ▸ List.getElem_mem _)
      have ky := fun R hG => part_ok ⟨6, s, n, l⟩ 1 p R y (by show 1 < l.length; omega) hy (kp y (hy ▸ List.getElem_mem _)) hG
      have ey : (showGs l).getD 1 [] = showG y := by rw [showGs_at (by omega), hy]
      have hss : (T.mk 6 s n l).s.length = s.length := rfl
      have hT : showG (.mk 6 s n l) = [40] ++ showG x ++ [32] ++ s ++ [32] ++ showG y ++ [41] := by
        rw [hs]; show [40] ++ ((showGs l).getD 0 [] ++ ([32] ++ (s ++ ([32] ++ ((showGs l).getD 1 [] ++ [41]))))) = _
        rw [ex, ey]; simp
      refine AW_draw tab_ok mixed 12 (by first | rfl | kernel_rfl) ?_
      repeat (first | refine ga_ ?_ | intro _)
      apply call_step
      · rfl
      · exact Or.inl ⟨⟨_, Tryd.func54, rfl, rfl⟩, kx _ hG⟩
      repeat (first | refine ga_ ?_ | intro _)
      refine cat_ ?_
      repeat (first | refine ga_ ?_ | intro _)
      refine cat_ ?_
      repeat (first | refine ga_ ?_ | intro _)
      refine cat_ ?_
      repeat (first | refine ga_ ?_ | intro _)
      refine cat_ ?_
      repeat (first | refine ga_ ?_ | intro _)
      apply call_step
      · rfl
      · exact Or.inl ⟨⟨_, Tryd.func54, rfl, rfl⟩, ky _ hG⟩
      repeat (first | refine ga_ ?_ | intro _)
      refine cat_ ?_
      repeat (first | refine ga_ ?_ | intro _)
      refine cat_ ?_
      repeat (first | refine ga_ ?_ | intro _)
      refine AW_ret ?_
      repeat (first | refine ⟨0, rfl, ?_⟩ | refine ⟨1, rfl, ?_⟩ | refine ⟨2, rfl, ?_⟩ | refine ⟨3, rfl, ?_⟩ | refine ⟨4, rfl, ?_⟩ | refine ⟨5, rfl, ?_⟩ | refine ⟨6, rfl, ?_⟩)
      refine ⟨_, R, AVle.eq ?_, (by repeat (first | exact SLe.rfl | refine SLe.tail ?_)), rfl, rfl⟩
      exact congrArg AV.str (show [40] ++ showG x ++ [32] ++ s ++ [32] ++ showG y ++ [41] = _ by rw [hT])
    · rename_i p
      have hl : l.length = 1 := by have e1 : (partsN 7).1 = 1 := rfl; have e2 : (partsN 7).2 = 1 := rfl; omega
      obtain ⟨x, hx⟩ : ∃ x, x = l[0]'(by omega) := ⟨_, rfl⟩
      have lx := hlen x (hx ▸ List.getElem_mem _)
      have kx := fun R hG => part_ok ⟨7, s, n, l⟩ 0 p R x (by show 0 < l.length; omega) hx (kp x (hx ▸ List.getElem_mem _)) hG
      have ex : (showGs l).getD 0 [] = showG x := by rw [showGs_at (by omega), hx]
      have hss : (T.mk 7 s n l).s.length = s.length := rfl
      have hT : showG (.mk 7 s n l) = [40, 45] ++ showG x ++ [41] := by
        rw [hs]; show [40, 45] ++ ((showGs l).getD 0 [] ++ [41]) = _
        rw [ex]; simp
      refine Or.inl ⟨⟨_, Tryd.func54, rfl, rfl⟩, ACall.mono ?_ (kx _ hG)⟩
      rintro _ S1 ⟨rfl, hS1⟩
      subst S1
      repeat (first | refine ga_ ?_ | intro _)
      refine cat_ ?_
      repeat (first | refine ga_ ?_ | intro _)
      refine cat_ ?_
      repeat (first | refine ga_ ?_ | intro _)
      refine AW_ret ?_
      repeat (first | refine ⟨0, rfl, ?_⟩ | refine ⟨1, rfl, ?_⟩ | refine ⟨2, rfl, ?_⟩ | refine ⟨3, rfl, ?_⟩ | refine ⟨4, rfl, ?_⟩ | refine ⟨5, rfl, ?_⟩ | refine ⟨6, rfl, ?_⟩)
      refine ⟨_, R, AVle.eq ?_, (by repeat (first | exact SLe.rfl | refine SLe.tail ?_)), rfl, rfl⟩
      exact congrArg AV.str (show [40, 45] ++ showG x ++ [41] = _ by rw [hT])
    · rename_i p
      have hl : l.length = 1 := by have e1 : (partsN 8).1 = 1 := rfl; have e2 : (partsN 8).2 = 1 := rfl; omega
      obtain ⟨x, hx⟩ : ∃ x, x = l[0]'(by omega) := ⟨_, rfl⟩
      have lx := hlen x (hx ▸ List.getElem_mem _)
      have kx := fun R hG => part_ok ⟨8, s, n, l⟩ 0 p R x (by show 0 < l.length; omega) hx (kp x (hx ▸ List.getElem_mem _)) hG
      have ex : (showGs l).getD 0 [] = showG x := by rw [showGs_at (by omega), hx]
      have hss : (T.mk 8 s n l).s.length = s.length := rfl
      have hT : showG (.mk 8 s n l) = [40, 33] ++ showG x ++ [41] := by
        rw [hs]; show [40, 33] ++ ((showGs l).getD 0 [] ++ [41]) = _
        rw [ex]; simp
      refine Or.inl ⟨⟨_, Tryd.func54, rfl, rfl⟩, ACall.mono ?_ (kx _ hG)⟩
      rintro _ S1 ⟨rfl, hS1⟩
      subst S1
      repeat (first | refine ga_ ?_ | intro _)
      refine cat_ ?_
      repeat (first | refine ga_ ?_ | intro _)
      refine cat_ ?_
      repeat (first | refine ga_ ?_ | intro _)
      refine AW_ret ?_
      repeat (first | refine ⟨0, rfl, ?_⟩ | refine ⟨1, rfl, ?_⟩ | refine ⟨2, rfl, ?_⟩ | refine ⟨3, rfl, ?_⟩ | refine ⟨4, rfl, ?_⟩ | refine ⟨5, rfl, ?_⟩ | refine ⟨6, rfl, ?_⟩)
      refine ⟨_, R, AVle.eq ?_, (by repeat (first | exact SLe.rfl | refine SLe.tail ?_)), rfl, rfl⟩
      exact congrArg AV.str (show [40, 33] ++ showG x ++ [41] = _ by rw [hT])
    · rename_i p
      have hss : (T.mk 9 s n l).s.length = s.length := rfl
      have hT : showG (.mk 9 s n l) = s ++ [40] ++ Lib.join (showGs l) [44, 32] ++ [41] := by
        rw [hs]; show s ++ ([40] ++ (Lib.join (showGs l) [44, 32] ++ [41])) = _
        simp
      refine AW_draw tab_ok mixed 8 (by first | rfl | kernel_rfl) ?_
      repeat (first | refine ga_ ?_ | intro _)
      refine cat_ ?_
      repeat (first | refine ga_ ?_ | intro _)
      apply call_step
      · rfl
      · exact Or.inl ⟨⟨_, Tryd.func57, rfl, rfl⟩, ka _ hG.cons⟩
      repeat (first | refine ga_ ?_ | intro _)
      refine cat_ ?_
      repeat (first | refine ga_ ?_ | intro _)
      refine cat_ ?_
      repeat (first | refine ga_ ?_ | intro _)
      refine AW_ret ?_
      repeat (first | refine ⟨0, rfl, ?_⟩ | refine ⟨1, rfl, ?_⟩ | refine ⟨2, rfl, ?_⟩ | refine ⟨3, rfl, ?_⟩ | refine ⟨4, rfl, ?_⟩ | refine ⟨5, rfl, ?_⟩ | refine ⟨6, rfl, ?_⟩)
      refine ⟨_, R, AVle.eq ?_, (by repeat (first | exact SLe.rfl | refine SLe.tail ?_)), rfl, rfl⟩
      exact congrArg AV.str (show s ++ [40] ++ Lib.join (showGs l) [44, 32] ++ [41] = _ by rw [hT])
    · rename_i p
      have hl : l.length = 2 := by have e1 : (partsN 10).1 = 2 := rfl; have e2 : (partsN 10).2 = 2 := rfl; omega
      obtain ⟨x, hx⟩ : ∃ x, x = l[0]'(by omega) := ⟨_, rfl⟩
      have lx := hlen x (hx ▸ List.getElem_mem _)
      have kx := fun R hG => part_ok ⟨10, s, n, l⟩ 0 p R x (by show 0 < l.length; omega) hx (kp x (hx ▸ List.getElem_mem _)) hG
      have ex : (showGs l).getD 0 [] = showG x := by rw [showGs_at (by omega), hx]
      obtain ⟨y, hy⟩ : ∃ x, x = l[1]'(by omega) := ⟨_, rfl⟩
      have ly := hlen y (hy ▸ List.getElem_mem _)
      have ky := fun R hG => part_ok ⟨10, s, n, l⟩ 1 p R y (by show 1 < l.length; omega) hy (kp y (hy ▸ List.getElem_mem _)) hG
      have ey : (showGs l).getD 1 [] = showG y := by rw [showGs_at (by omega), hy]
      have hss : (T.mk 10 s n l).s.length = s.length := rfl
      have hT : showG (.mk 10 s n l) = showG x ++ [91] ++ showG y ++ [93] := by
        rw [hs]; show (showGs l).getD 0 [] ++ ([91] ++ ((showGs l).getD 1 [] ++ [93])) = _
        rw [ex, ey]; simp
      refine Or.inl ⟨⟨_, Tryd.func54, rfl, rfl⟩, ACall.mono ?_ (kx _ hG)⟩
      rintro _ S1 ⟨rfl, hS1⟩
      subst S1
      repeat (first | refine ga_ ?_ | intro _)
      refine cat_ ?_
      repeat (first | refine ga_ ?_ | intro _)
      refine Or.inl ⟨⟨_, Tryd.func54, rfl, rfl⟩, ACall.mono ?_ (ky _ hG)⟩
      rintro _ S1 ⟨rfl, hS1⟩
      subst S1
      repeat (first | refine ga_ ?_ | intro _)
      refine cat_ ?_
      repeat (first | refine ga_ ?_ | intro _)
      refine cat_ ?_
      repeat (first | refine ga_ ?_ | intro _)
      refine AW_ret ?_
      repeat (first | refine ⟨0, rfl, ?_⟩ | refine ⟨1, rfl, ?_⟩ | refine ⟨2, rfl, ?_⟩ | refine ⟨3, rfl, ?_⟩ | refine ⟨4, rfl, ?_⟩ | refine ⟨5, rfl, ?_⟩ | refine ⟨6, rfl, ?_⟩)
      refine ⟨_, R, AVle.eq ?_, (by repeat (first | exact SLe.rfl | refine SLe.tail ?_)), rfl, rfl⟩
      exact congrArg AV.str (show showG x ++ [91] ++ showG y ++ [93] = _ by rw [hT])
    · rename_i p
      have hl : l.length = 3 := by have e1 : (partsN 11).1 = 3 := rfl; have e2 : (partsN 11).2 = 3 := rfl; omega
      obtain ⟨x, hx⟩ : ∃ x, x = l[0]'(by omega) := ⟨_, rfl⟩
      have lx := hlen x (hx ▸ List.getElem_mem _)
      have kx := fun R hG => part_ok ⟨11, s, n, l⟩ 0 p R x (by show 0 < l.length; omega) hx (kp x (hx ▸ List.getElem_mem _)) hG
      have ex : (showGs l).getD 0 [] = showG x := by rw [showGs_at (by omega), hx]
      obtain ⟨y, hy⟩ : ∃ x, x = l[1]'(by omega) := ⟨_, rfl⟩
      have ly := hlen y (hy ▸ List.getElem_mem _)
      have ky := fun R hG => part_ok ⟨11, s, n, l⟩ 1 p R y (by show 1 < l.length; omega) hy (kp y (hy ▸ List.getElem_mem _)) hG
      have ey : (showGs l).getD 1 [] = showG y := by rw [showGs_at (by omega), hy]
      obtain ⟨v, hv⟩ : ∃ x, x = l[2]'(by omega) := ⟨_, rfl⟩
      have lv := hlen v (hv ▸ List.getElem_mem _)
      have kv := fun R hG => part_ok ⟨11, s, n, l⟩ 2 p R v (by show 2 < l.length; omega) hv (kp v (hv ▸ List.getElem_mem _)) hG
      have ev : (showGs l).getD 2 [] = showG v := by rw [showGs_at (by omega), hv]
      have hss : (T.mk 11 s n l).s.length = s.length := rfl
      have hT : showG (.mk 11 s n l) = showG x ++ [91] ++ showG y ++ [58] ++ showG v ++ [93] := by
        rw [hs]; show (showGs l).getD 0 [] ++ ([91] ++ ((showGs l).getD 1 [] ++ ([58] ++ ((showGs l).getD 2 [] ++ [93])))) = _
        rw [ex, ey, ev]; simp
      refine Or.inl ⟨⟨_, Tryd.func54, rfl, rfl⟩, ACall.mono ?_ (kx _ hG)⟩
      rintro _ S1 ⟨rfl, hS1⟩
      subst S1
      repeat (first | refine ga_ ?_ | intro _)
      refine cat_ ?_
      repeat (first | refine ga_ ?_ | intro _)
      refine Or.inl ⟨⟨_, Tryd.func54, rfl, rfl⟩, ACall.mono ?_ (ky _ hG)⟩
      rintro _ S1 ⟨rfl, hS1⟩
      subst S1
      repeat (first | refine ga_ ?_ | intro _)
      refine cat_ ?_
      repeat (first | refine ga_ ?_ | intro _)
      refine cat_ ?_
      repeat (first | refine ga_ ?_ | intro _)
      refine Or.inl ⟨⟨_, Tryd.func54, rfl, rfl⟩, ACall.mono ?_ (kv _ hG)⟩
      rintro _ S1 ⟨rfl, hS1⟩
      subst S1
      repeat (first | refine ga_ ?_ | intro _)
      refine cat_ ?_
      repeat (first | refine ga_ ?_ | intro _)
      refine cat_ ?_
      repeat (first | refine ga_ ?_ | intro _)
      refine AW_ret ?_
      repeat (first | refine ⟨0, rfl, ?_⟩ | refine ⟨1, rfl, ?_⟩ | refine ⟨2, rfl, ?_⟩ | refine ⟨3, rfl, ?_⟩ | refine ⟨4, rfl, ?_⟩ | refine ⟨5, rfl, ?_⟩ | refine ⟨6, rfl, ?_⟩)
      refine ⟨_, R, AVle.eq ?_, (by repeat (first | exact SLe.rfl | refine SLe.tail ?_)), rfl, rfl⟩
      exact congrArg AV.str (show showG x ++ [91] ++ showG y ++ [58] ++ showG v ++ [93] = _ by rw [hT])
    · rename_i p
      have hl : l.length = 1 := by have e1 : (partsN 12).1 = 1 := rfl; have e2 : (partsN 12).2 = 1 := rfl; omega
      obtain ⟨x, hx⟩ : ∃ x, x = l[0]'(by omega) := ⟨_, rfl⟩
      have lx := hlen x (hx ▸ List.getElem_mem _)
      have kx := fun R hG => part_ok ⟨12, s, n, l⟩ 0 p R x (by show 0 < l.length; omega) hx (kp x (hx ▸ List.getElem_mem _)) hG
      have ex : (showGs l).getD 0 [] = showG x := by rw [showGs_at (by omega), hx]
      have hh : headI l = decide (x.op = 2) := by
        cases l with
        | nil => simp at hl
        | cons a r => rw [hx]; rfl
      have hss : (T.mk 12 s n l).s.length = s.length := rfl
      have hT : showG (.mk 12 s n l) = if x.op = 2 then [40] ++ showG x ++ [41, 46] ++ s else showG x ++ [46] ++ s := by
        rw [hs]; show (if headI l = true then [40] ++ ((showGs l).getD 0 [] ++ ([41, 46] ++ s)) else (showGs l).getD 0 [] ++ ([46] ++ s)) = _
        rw [ex, hh]
        by_cases q : x.op = 2
        · rw [if_pos (decide_eq_true q), if_pos q]; simp
        · rw [if_neg (by rw [decide_eq_false q]; simp), if_neg q]; simp
      refine at_get (0) (encU x) (by first | rfl | omega | (rw [wrap_i64 (by omega)]; omega)) (by rw [hx]; exact encTs_get (l := l) (by omega)) ?_
      repeat (first | refine ga_ ?_ | intro _)
      by_cases q : x.op = 2
      · rw [if_pos q] at hT
        refine AW_true (b := decide (x.op = 2)) rfl (by exact decide_eq_true q) ?_
        repeat (first | refine ga_ ?_ | intro _)
        refine AW_draw tab_ok mixed 7 (by first | rfl | kernel_rfl) ?_
        repeat (first | refine ga_ ?_ | intro _)
        apply call_step
        · rfl
        · exact Or.inl ⟨⟨_, Tryd.func54, rfl, rfl⟩, kx _ hG⟩
        repeat (first | refine ga_ ?_ | intro _)
        refine cat_ ?_
        repeat (first | refine ga_ ?_ | intro _)
        refine cat_ ?_
        repeat (first | refine ga_ ?_ | intro _)
        refine cat_ ?_
        repeat (first | refine ga_ ?_ | intro _)
        refine AW_ret ?_
        repeat (first | refine ⟨0, rfl, ?_⟩ | refine ⟨1, rfl, ?_⟩ | refine ⟨2, rfl, ?_⟩ | refine ⟨3, rfl, ?_⟩ | refine ⟨4, rfl, ?_⟩ | refine ⟨5, rfl, ?_⟩ | refine ⟨6, rfl, ?_⟩)
        refine ⟨_, R, AVle.eq ?_, (by repeat (first | exact SLe.rfl | refine SLe.tail ?_)), rfl, rfl⟩
        exact congrArg AV.str (show [40] ++ showG x ++ [41, 46] ++ s = _ by rw [hT])
      · rw [if_neg q] at hT
        refine AW_false (b := decide (x.op = 2)) rfl (by exact decide_eq_false q) ?_
        repeat (first | refine ga_ ?_ | intro _)
        refine AW_draw tab_ok mixed 6 (by first | rfl | kernel_rfl) ?_
        repeat (first | refine ga_ ?_ | intro _)
        apply call_step
        · rfl
        · exact Or.inl ⟨⟨_, Tryd.func54, rfl, rfl⟩, kx _ hG⟩
        repeat (first | refine ga_ ?_ | intro _)
        refine cat_ ?_
        repeat (first | refine ga_ ?_ | intro _)
        refine cat_ ?_
        repeat (first | refine ga_ ?_ | intro _)
        refine AW_ret ?_
        repeat (first | refine ⟨0, rfl, ?_⟩ | refine ⟨1, rfl, ?_⟩ | refine ⟨2, rfl, ?_⟩ | refine ⟨3, rfl, ?_⟩ | refine ⟨4, rfl, ?_⟩ | refine ⟨5, rfl, ?_⟩ | refine ⟨6, rfl, ?_⟩)
        refine ⟨_, R, AVle.eq ?_, (by repeat (first | exact SLe.rfl | refine SLe.tail ?_)), rfl, rfl⟩
        exact congrArg AV.str (show showG x ++ [46] ++ s = _ by rw [hT])
    · rename_i p
      have hss : (T.mk 13 s n l).s.length = s.length := rfl
      have hT : showG (.mk 13 s n l) = [40] ++ s ++ [123] ++ Lib.join (showGs l) [44, 32] ++ [125, 41] := by
        rw [hs]; show [40] ++ (s ++ ([123] ++ (Lib.join (showGs l) [44, 32] ++ [125, 41]))) = _
        simp
      refine AW_draw tab_ok mixed 9 (by first | rfl | kernel_rfl) ?_
      repeat (first | refine ga_ ?_ | intro _)
      refine cat_ ?_
      repeat (first | refine ga_ ?_ | intro _)
      refine cat_ ?_
      repeat (first | refine ga_ ?_ | intro _)
      apply call_step
      · rfl
      · exact Or.inl ⟨⟨_, Tryd.func57, rfl, rfl⟩, ka _ hG.cons⟩
      repeat (first | refine ga_ ?_ | intro _)
      refine cat_ ?_
      repeat (first | refine ga_ ?_ | intro _)
      refine cat_ ?_
      repeat (first | refine ga_ ?_ | intro _)
      refine AW_ret ?_
      repeat (first | refine ⟨0, rfl, ?_⟩ | refine ⟨1, rfl, ?_⟩ | refine ⟨2, rfl, ?_⟩ | refine ⟨3, rfl, ?_⟩ | refine ⟨4, rfl, ?_⟩ | refine ⟨5, rfl, ?_⟩ | refine ⟨6, rfl, ?_⟩)
      refine ⟨_, R, AVle.eq ?_, (by repeat (first | exact SLe.rfl | refine SLe.tail ?_)), rfl, rfl⟩
      exact congrArg AV.str (show [40] ++ s ++ [123] ++ Lib.join (showGs l) [44, 32] ++ [125, 41] = _ by rw [hT])
    · rename_i p
      have hl : l.length = 1 := by have e1 : (partsN 14).1 = 1 := rfl; have e2 : (partsN 14).2 = 1 := rfl; omega
      obtain ⟨x, hx⟩ : ∃ x, x = l[0]'(by omega) := ⟨_, rfl⟩
      have lx := hlen x (hx ▸ List.getElem_mem _)
      have kx := fun R hG => part_ok ⟨14, s, n, l⟩ 0 p R x (by show 0 < l.length; omega) hx (kp x (hx ▸ List.getElem_mem _)) hG
      have ex : (showGs l).getD 0 [] = showG x := by rw [showGs_at (by omega), hx]
      have hss : (T.mk 14 s n l).s.length = s.length := rfl
      have hT : showG (.mk 14 s n l) = [108, 101, 110, 40] ++ showG x ++ [41] := by
        rw [hs]; show [108, 101, 110, 40] ++ ((showGs l).getD 0 [] ++ [41]) = _
        rw [ex]; simp
      refine Or.inl ⟨⟨_, Tryd.func54, rfl, rfl⟩, ACall.mono ?_ (kx _ hG)⟩
      rintro _ S1 ⟨rfl, hS1⟩
      subst S1
      repeat (first | refine ga_ ?_ | intro _)
      refine cat_ ?_
      repeat (first | refine ga_ ?_ | intro _)
      refine cat_ ?_
      repeat (first | refine ga_ ?_ | intro _)
      refine AW_ret ?_
      repeat (first | refine ⟨0, rfl, ?_⟩ | refine ⟨1, rfl, ?_⟩ | refine ⟨2, rfl, ?_⟩ | refine ⟨3, rfl, ?_⟩ | refine ⟨4, rfl, ?_⟩ | refine ⟨5, rfl, ?_⟩ | refine ⟨6, rfl, ?_⟩)
      refine ⟨_, R, AVle.eq ?_, (by repeat (first | exact SLe.rfl | refine SLe.tail ?_)), rfl, rfl⟩
      exact congrArg AV.str (show [108, 101, 110, 40] ++ showG x ++ [41] = _ by rw [hT])
    · rename_i p
      have hss : (T.mk 15 s n l).s.length = s.length := rfl
      have hT : showG (.mk 15 s n l) = [97, 112, 112, 101, 110, 100, 40] ++ Lib.join (showGs l) [44, 32] ++ [41] := by
        rw [hs]; show [97, 112, 112, 101, 110, 100, 40] ++ (Lib.join (showGs l) [44, 32] ++ [41]) = _
        simp
      refine Or.inl ⟨⟨_, Tryd.func57, rfl, rfl⟩, ACall.mono ?_ (ka _ hG.cons)⟩
      rintro _ S1 ⟨rfl, hS1⟩
      subst S1
      repeat (first | refine ga_ ?_ | intro _)
      refine cat_ ?_
      repeat (first | refine ga_ ?_ | intro _)
      refine cat_ ?_
      repeat (first | refine ga_ ?_ | intro _)
      refine AW_ret ?_
      repeat (first | refine ⟨0, rfl, ?_⟩ | refine ⟨1, rfl, ?_⟩ | refine ⟨2, rfl, ?_⟩ | refine ⟨3, rfl, ?_⟩ | refine ⟨4, rfl, ?_⟩ | refine ⟨5, rfl, ?_⟩ | refine ⟨6, rfl, ?_⟩)
      refine ⟨_, R, AVle.eq ?_, (by repeat (first | exact SLe.rfl | refine SLe.tail ?_)), rfl, rfl⟩
      exact congrArg AV.str (show [97, 112, 112, 101, 110, 100, 40] ++ Lib.join (showGs l) [44, 32] ++ [41] = _ by rw [hT])
    · rename_i p
      have hl : l.length = 2 := by have e1 : (partsN 16).1 = 2 := rfl; have e2 : (partsN 16).2 = 2 := rfl; omega
      obtain ⟨x, hx⟩ : ∃ x, x = l[0]'(by omega) := ⟨_, rfl⟩
      have lx := hlen x (hx ▸ List.getElem_mem _)
      have kx := fun R hG => part_ok ⟨16, s, n, l⟩ 0 p R x (by show 0 < l.length; omega) hx (kp x (hx ▸ List.getElem_mem _)) hG
      have ex : (showGs l).getD 0 [] = showG x := by rw [showGs_at (by omega), hx]
      obtain ⟨y, hy⟩ : ∃ x, x = l[1]'(by omega) := ⟨_, rfl⟩
      have ly := hlen y (hy ▸ List.getElem_mem _)
      have ky := fun R hG => part_ok ⟨16, s, n, l⟩ 1 p R y (by show 1 < l.length; omega) hy (kp y (hy ▸ List.getElem_mem _)) hG
      have ey : (showGs l).getD 1 [] = showG y := by rw [showGs_at (by omega), hy]
      have hss : (T.mk 16 s n l).s.length = s.length := rfl
      have hT : showG (.mk 16 s n l) = [105, 110, 116, 40] ++ showG x ++ [91] ++ showG y ++ [93, 41] := by
        rw [hs]; show [105, 110, 116, 40] ++ ((showGs l).getD 0 [] ++ ([91] ++ ((showGs l).getD 1 [] ++ [93, 41]))) = _
        rw [ex, ey]; simp
      refine Or.inl ⟨⟨_, Tryd.func54, rfl, rfl⟩, ACall.mono ?_ (kx _ hG)⟩
      rintro _ S1 ⟨rfl, hS1⟩
      subst S1
      repeat (first | refine ga_ ?_ | intro _)
      refine cat_ ?_
      repeat (first | refine ga_ ?_ | intro _)
      refine cat_ ?_
      repeat (first | refine ga_ ?_ | intro _)
      refine Or.inl ⟨⟨_, Tryd.func54, rfl, rfl⟩, ACall.mono ?_ (ky _ hG)⟩
      rintro _ S1 ⟨rfl, hS1⟩
      subst S1
      repeat (first | refine ga_ ?_ | intro _)
      refine cat_ ?_
      repeat (first | refine ga_ ?_ | intro _)
      refine cat_ ?_
      repeat (first | refine ga_ ?_ | intro _)
      refine AW_ret ?_
      repeat (first | refine ⟨0, rfl, ?_⟩ | refine ⟨1, rfl, ?_⟩ | refine ⟨2, rfl, ?_⟩ | refine ⟨3, rfl, ?_⟩ | refine ⟨4, rfl, ?_⟩ | refine ⟨5, rfl, ?_⟩ | refine ⟨6, rfl, ?_⟩)
      refine ⟨_, R, AVle.eq ?_, (by repeat (first | exact SLe.rfl | refine SLe.tail ?_)), rfl, rfl⟩
      exact congrArg AV.str (show [105, 110, 116, 40] ++ showG x ++ [91] ++ showG y ++ [93, 41] = _ by rw [hT])
end Go.Proofs.YtnkmjbjpmocnbaaDoor
