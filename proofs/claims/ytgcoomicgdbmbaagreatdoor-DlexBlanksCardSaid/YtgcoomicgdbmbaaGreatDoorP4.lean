/-
  Tokens: what stands next in a text. Own work.
-/
import Derived.Test.YtgcoomicgdbmbaaGreatDoorP3
set_option linter.all false
namespace Go.Proofs.YtgcoomicgdbmbaaGreatDoor
open Go.Aw

theorem unqL_flat (t : List UInt8) : unqL (t.flatMap oneL) = some t := by
  induction t with
  | nil => exact unqL_nil
  | cons c t ih =>
    rw [List.flatMap_cons, unqL_some (dec1_one c _), ih]; rfl
theorem unqL_back : ∀ (n : Nat) (l t : List UInt8), l.length ≤ n → unqL l = some t → l = t.flatMap oneL
  | n, l, t, hn, h => by
    by_cases hl : l = []
    · subst hl
      rw [unqL_nil] at h
      cases h; rfl
    cases hd : dec1 l with
    | none => rw [unqL_none hl hd] at h; cases h
    | some q =>
      obtain ⟨c, r⟩ := q
      rw [unqL_some hd] at h
      obtain ⟨t', h1, rfl⟩ := Option.map_eq_some_iff.1 h
      have hlt := dec1_len hd
      cases n with
      | zero => omega
      | succ n =>
        have := unqL_back n r t' (by omega) h1
        rw [dec1_some hd, this, List.flatMap_cons]
theorem unq_quote (t : List UInt8) : unqS (quoteL t) = (t, 0) := by
  have hl := (quoteL_len t).1
  have hq : quoteL t = 34 :: (t.flatMap oneL ++ [34]) := by simp [quoteL]
  have h1 : (quoteL t).getD 0 0 = 34 := by rw [hq]; rfl
  have hm : (quoteL t).take ((quoteL t).length - 1) = 34 :: t.flatMap oneL := by rw [hq]; simp
  have h2 : (quoteL t).getD ((quoteL t).length - 1) 0 = 34 := by
    rw [hq]
    simp [List.getD_eq_getElem?_getD]
  rw [unqS, if_neg (by rintro (x | x | x) <;> first | omega | exact x h1 | exact x h2), hm]
  rw [List.drop_one, List.tail_cons, unqL_flat]
theorem unq_ok {s : List UInt8} (h : (unqS s).2 = 0) : quoteL (unqS s).1 = s := by
  unfold unqS at h ⊢
  split at h
  · cases h
  · rename_i hn
    rw [if_neg hn]
    have h1 : 2 ≤ s.length := by omega
    have h2 : s.getD 0 0 = 34 := Decidable.not_not.1 fun x => hn (.inr (.inl x))
    have h3 : s.getD (s.length - 1) 0 = 34 := Decidable.not_not.1 fun x => hn (.inr (.inr x))
    cases hu : unqL ((s.take (s.length - 1)).drop 1) with
    | none => rw [hu] at h; cases h
    | some t =>
      simp only []
      have hb := unqL_back _ _ t (Nat.le_refl _) hu
      rw [get0 (by omega)] at h2 h3
      have e1 : s = s.take (s.length - 1) ++ [s[s.length - 1]] := by
        have := List.take_append_drop (s.length - 1) s
        rw [List.drop_eq_getElem_cons (by omega), List.drop_of_length_le (by omega)] at this
        exact this.symm
      have e2 : s.take (s.length - 1) = s[0] :: (s.take (s.length - 1)).drop 1 := by
        have hl : 0 < (s.take (s.length - 1)).length := by simp; omega
        have := List.getElem_cons_drop hl
        rw [List.drop_zero, List.getElem_take] at this
        exact this.symm
      rw [h3] at e1
      rw [h2, hb] at e2
      rw [e2] at e1
      rw [quoteL, e1]
theorem unq_bad (s : List UInt8) : (unqS s).2 = 0 ∨ unqS s = ([], 10) := by
  unfold unqS
  split
  · exact .inr rfl
  · split
    · exact .inr rfl
    · exact .inl rfl

/-! ### a symbol's text, behind its first sign -/
def symR : List UInt8 → Option (List UInt8 × List UInt8)
  | [] => none
  | c :: r => if c.toNat = 34 then some ([], r) else match h : dec1 (c :: r) with
    | none => none
    | some (d, r') => (symR r').map fun q => (d :: q.1, q.2)
termination_by l => l.length
decreasing_by exact dec1_len h
theorem symR_end (r : List UInt8) : symR (34 :: r) = some ([], r) := by rw [symR, if_pos (by decide)]
theorem symR_some {c d : UInt8} {r r' : List UInt8} (hc : ¬ c.toNat = 34) (h : dec1 (c :: r) = some (d, r')) : symR (c :: r) = (symR r').map fun q => (d :: q.1, q.2) := by
  rw [symR, if_neg hc]
  split
  · rename_i h'; rw [h] at h'; cases h'
  · rename_i h'; rw [h] at h'; cases h'; rfl
theorem symR_none {c : UInt8} {r : List UInt8} (hc : ¬ c.toNat = 34) (h : dec1 (c :: r) = none) : symR (c :: r) = none := by
  rw [symR, if_neg hc]
  split
  · rfl
  · rename_i h'; rw [h] at h'; cases h'
theorem oneL_head (c : UInt8) : ∃ d r, oneL c = d :: r ∧ ¬ d.toNat = 34 := by
  unfold oneL
  split
  · exact ⟨92, [c], rfl, by decide⟩
  · split
    · exact ⟨92, _, rfl, by decide⟩
    · split
      · exact ⟨92, _, rfl, by decide⟩
      · exact ⟨c, [], rfl, by omega⟩
theorem symR_flat (t r : List UInt8) : symR (t.flatMap oneL ++ 34 :: r) = some (t, r) := by
  induction t with
  | nil => exact symR_end r
  | cons c t ih =>
    obtain ⟨d, x, hx, hd⟩ := oneL_head c
    have h1 := dec1_one c (t.flatMap oneL ++ 34 :: r)
    rw [List.flatMap_cons, List.append_assoc]
    rw [hx, List.cons_append] at h1 ⊢
    rw [symR_some hd h1, ih]; rfl
theorem symR_back : ∀ (n : Nat) (l t r : List UInt8), l.length ≤ n → symR l = some (t, r) → l = t.flatMap oneL ++ 34 :: r
  | n, [], t, r, _, h => by rw [symR] at h; cases h
  | 0, c :: l, t, r, hn, h => by simp at hn
  | n + 1, c :: l, t, r, hn, h => by
    by_cases hc : c.toNat = 34
    · obtain rfl : c = 34 := UInt8.toNat_inj.1 hc
      rw [symR_end] at h
      cases h; rfl
    · cases hd : dec1 (c :: l) with
      | none => rw [symR_none hc hd] at h; cases h
      | some q =>
        obtain ⟨d, r'⟩ := q
        rw [symR_some hc hd] at h
        obtain ⟨⟨t', r2⟩, h1, h2⟩ := Option.map_eq_some_iff.1 h
        cases h2
        have := dec1_len hd
        have ih := symR_back n r' t' r2 (by simp at this hn; omega) h1
        rw [dec1_some hd, ih, List.flatMap_cons, List.append_assoc]
theorem symR_iff {l t r : List UInt8} : symR l = some (t, r) ↔ l = t.flatMap oneL ++ 34 :: r :=
  ⟨symR_back _ l t r (Nat.le_refl _), fun h => h ▸ symR_flat t r⟩
/-- how many bytes there are to the sign that may close it -/
def quoR : List UInt8 → Option Nat
  | [] => none
  | [c] => if c.toNat = 34 then some 1 else none
  | c :: d :: r => if c.toNat = 10 then none else if c.toNat = 34 then some 1 else if c.toNat = 92 then (quoR r).map (· + 2) else (quoR (d :: r)).map (· + 1)
theorem quoR_nl (r : List UInt8) : quoR (10 :: r) = none := by cases r <;> rfl
theorem quoR_end (r : List UInt8) : quoR (34 :: r) = some 1 := by cases r <;> rfl
theorem quoR_esc (d : UInt8) (r : List UInt8) : quoR (92 :: d :: r) = (quoR r).map (· + 2) := rfl
theorem quoR_esc1 : quoR [92] = none := rfl
theorem quoR_one {c : UInt8} (r : List UInt8) (h1 : ¬ c.toNat = 10) (h2 : ¬ c.toNat = 34) (h3 : ¬ c.toNat = 92) : quoR (c :: r) = (quoR r).map (· + 1) := by
  cases r with
  | nil => exact if_neg h2
  | cons d r => rw [quoR, if_neg h1, if_neg h2, if_neg h3]
theorem quoR_hex (i : Nat) (hi : i < 16) : ¬ (hexd i).toNat = 10 ∧ ¬ (hexd i).toNat = 34 ∧ ¬ (hexd i).toNat = 92 := by
  revert hi; revert i; decide
theorem quoR_oneL (c : UInt8) (r : List UInt8) : quoR (oneL c ++ r) = (quoR r).map (· + (oneL c).length) := by
  have hlt := c.toNat_lt
  unfold oneL
  split
  · exact quoR_esc _ _
  · split
    · exact quoR_esc _ _
    · split
      · obtain ⟨a1, a2, a3⟩ := quoR_hex (c.toNat / 16) (by omega)
        obtain ⟨b1, b2, b3⟩ := quoR_hex (c.toNat % 16) (by omega)
        show quoR (92 :: 120 :: hexd (c.toNat / 16) :: hexd (c.toNat % 16) :: r) = _
        rw [quoR_esc, quoR_one _ a1 a2 a3, quoR_one _ b1 b2 b3]
        cases quoR r <;> simp
      · exact quoR_one _ (by omega) (by omega) (by omega)
theorem quoR_flat (t r : List UInt8) : quoR (t.flatMap oneL ++ 34 :: r) = some ((t.flatMap oneL).length + 1) := by
  induction t with
  | nil => exact quoR_end r
  | cons c t ih =>
    rw [List.flatMap_cons, List.append_assoc, quoR_oneL, ih]
    simp; omega
theorem quoR_le : ∀ (l : List UInt8) (n : Nat), quoR l = some n → 1 ≤ n ∧ n ≤ l.length := by
  intro l
  fun_induction quoR l with
  | case1 => intro n h; cases h
  | case2 c h => intro n h'; cases h'; simp
  | case3 c h => intro n h'; cases h'
  | case4 => intro n h'; cases h'
  | case5 => intro n h'; cases h'; simp
  | case6 c d r h1 h2 h3 ih =>
    intro n h'
    obtain ⟨m, hm, rfl⟩ := Option.map_eq_some_iff.1 h'
    have := ih m hm
    simp; omega
  | case7 c d r h1 h2 h3 ih =>
    intro n h'
    obtain ⟨m, hm, rfl⟩ := Option.map_eq_some_iff.1 h'
    have := ih m hm
    simp at this ⊢; omega
/-- the program's way: the place of the closing sign, and what lies ahead of it is read -/
theorem sym_some {l t r : List UInt8} (h : symR l = some (t, r)) : quoR l = some ((quoteL t).length - 1) ∧ (34 :: l).take (quoteL t).length = quoteL t ∧ l = (quoteL t).drop 1 ++ r ∧ 34 :: l = quoteL t ++ r := by
  have e := symR_iff.1 h
  subst e
  have e2 : 34 :: (t.flatMap oneL ++ 34 :: r) = quoteL t ++ r := by simp [quoteL]
  refine ⟨by rw [quoR_flat]; simp [quoteL], ?_, by simp [quoteL], e2⟩
  rw [e2, List.take_left']
  rfl
theorem sym_none {l : List UInt8} {n : Nat} (h : symR l = none) (hn : quoR l = some n) : unqS ((34 :: l).take (n + 1)) = ([], 10) := by
  rcases unq_bad ((34 :: l).take (n + 1)) with hb | hb
  · have hq := unq_ok hb
    generalize (unqS ((34 :: l).take (n + 1))).1 = t at hq
    rw [List.take_succ_cons] at hq
    have h1 : l.take n = t.flatMap oneL ++ [34] := by simpa [quoteL] using hq.symm
    have h2 : l = t.flatMap oneL ++ 34 :: l.drop n := by
      have := List.take_append_drop n l
      rw [h1] at this
      simpa using this.symm
    rw [symR_iff.2 h2] at h; cases h
  · exact hb

/-! ### the token that stands next -/
def smallB (c : UInt8) : Bool := decide (97 ≤ c.toNat) && decide (c.toNat ≤ 122)
def wordB (c : UInt8) : Bool := letterB c || digitB c
def blankB (c : UInt8) : Bool := decide (c.toNat = 32) || decide (c.toNat = 9) || decide (c.toNat = 10)
def noNl (c : UInt8) : Bool := !decide (c.toNat = 10)
def signs : List UInt8 := [40, 41, 123, 125, 44, 46, 58, 33, 61, 60, 62, 43, 45, 42]
def wDecl : List UInt8 := [46, 100, 101, 99, 108]
def wIn : List UInt8 := [46, 105, 110, 112, 117, 116]
def wOut : List UInt8 := [46, 111, 117, 116, 112, 117, 116]
def twoS (c : UInt8) (r : List UInt8) : Bool := (decide (c.toNat = 58) && decide (r.head? = some 45)) || ((decide (c.toNat = 33) || decide (c.toNat = 60) || decide (c.toNat = 62)) && decide (r.head? = some 61))
def signN (c : UInt8) (r : List UInt8) : Nat := if twoS c r = true then 2 else if c ∈ signs then 1 else 0
def oneT : List UInt8 → Option (Nat × List UInt8 × List UInt8)
  | [] => none
  | c :: r =>
    if letterB c = true then (if ((c :: r).takeWhile wordB).length ≤ 40 then some (1, (c :: r).takeWhile wordB, (c :: r).dropWhile wordB) else none)
    else if digitB c = true then (if (pnL ((c :: r).takeWhile wordB)).2 = 0 then some (2, (c :: r).takeWhile wordB, (c :: r).dropWhile wordB) else none)
    else if c.toNat = 34 then (symR r).map fun q => (3, q.1, q.2)
    else if c.toNat = 46 ∧ 0 < (r.takeWhile smallB).length then
      (if c :: r.takeWhile smallB = wDecl ∨ c :: r.takeWhile smallB = wIn ∨ c :: r.takeWhile smallB = wOut then some (5, c :: r.takeWhile smallB, r.dropWhile smallB) else none)
    else if signN c r = 0 then none else some (4, (c :: r).take (signN c r), (c :: r).drop (signN c r))
/-- a token's text -/
def txt (k : Nat) (w : List UInt8) : List UInt8 := if k = 3 then quoteL w else w
theorem twoS_ne {c : UInt8} {r : List UInt8} (h : twoS c r = true) : ∃ d r', r = d :: r' := by
  cases r with
  | nil => simp [twoS] at h
  | cons d r => exact ⟨d, r, rfl⟩
theorem oneT_cases {s : List UInt8} {k : Nat} {w r : List UInt8} (h : oneT s = some (k, w, r)) : ∃ c l, s = c :: l ∧ s = txt k w ++ r ∧ 1 ≤ k ∧ k ≤ 5 ∧
    ((letterB c = true ∧ k = 1 ∧ w = s.takeWhile wordB ∧ r = s.dropWhile wordB ∧ w.length ≤ 40) ∨
     (letterB c = false ∧ digitB c = true ∧ k = 2 ∧ w = s.takeWhile wordB ∧ r = s.dropWhile wordB ∧ (pnL w).2 = 0) ∨
     (c = 34 ∧ k = 3 ∧ symR l = some (w, r)) ∨
     (c = 46 ∧ k = 5 ∧ w = 46 :: l.takeWhile smallB ∧ r = l.dropWhile smallB ∧ 0 < (l.takeWhile smallB).length ∧ (w = wDecl ∨ w = wIn ∨ w = wOut)) ∨
     (letterB c = false ∧ digitB c = false ∧ ¬ c.toNat = 34 ∧ ¬ (c.toNat = 46 ∧ 0 < (l.takeWhile smallB).length) ∧ k = 4 ∧ ¬ signN c l = 0 ∧ w = s.take (signN c l) ∧ r = s.drop (signN c l))) := by
  cases s with
  | nil => simp [oneT] at h
  | cons c l =>
    refine ⟨c, l, rfl, ?_⟩
    unfold oneT at h
    simp only [] at h
    split at h
    · rename_i h1
      split at h
      · rename_i h2
        cases h
        exact ⟨(List.takeWhile_append_dropWhile).symm, by omega, by omega, .inl ⟨h1, rfl, rfl, rfl, h2⟩⟩
      · cases h
    · rename_i h1
      have h1' : letterB c = false := by simpa using h1
      split at h
      · rename_i h2
        split at h
        · rename_i h3
          cases h
          exact ⟨(List.takeWhile_append_dropWhile).symm, by omega, by omega, .inr (.inl ⟨h1', h2, rfl, rfl, rfl, h3⟩)⟩
        · cases h
      · rename_i h2
        have h2' : digitB c = false := by simpa using h2
        split at h
        · rename_i h3
          obtain ⟨⟨t, r'⟩, h4, h5⟩ := Option.map_eq_some_iff.1 h
          cases h5
          obtain rfl : c = 34 := UInt8.toNat_inj.1 h3
          exact ⟨(sym_some h4).2.2.2, by omega, by omega, .inr (.inr (.inl ⟨rfl, rfl, h4⟩))⟩
        · rename_i h3
          split at h
          · rename_i h4
            split at h
            · rename_i h5
              cases h
              obtain rfl : c = 46 := UInt8.toNat_inj.1 h4.1
              refine ⟨?_, by omega, by omega, .inr (.inr (.inr (.inl ⟨rfl, rfl, rfl, rfl, h4.2, h5⟩)))⟩
              show _ = 46 :: (l.takeWhile smallB ++ l.dropWhile smallB)
              rw [List.takeWhile_append_dropWhile]
            · cases h
          · rename_i h4
            split at h
            · cases h
            · rename_i h5
              cases h
              exact ⟨(List.take_append_drop _ _).symm, by omega, by omega, .inr (.inr (.inr (.inr ⟨h1', h2', h3, h4, rfl, h5, rfl, rfl⟩)))⟩
theorem signN_le (c : UInt8) (l : List UInt8) : signN c l ≤ (c :: l).length := by
  unfold signN
  split
  · rename_i h; obtain ⟨d, r, rfl⟩ := twoS_ne h; simp
  · split <;> simp
theorem oneT_txt {s : List UInt8} {k : Nat} {w r : List UInt8} (h : oneT s = some (k, w, r)) : s = txt k w ++ r := by
  obtain ⟨c, l, _, h2, _⟩ := oneT_cases h
  exact h2
theorem wordB_letter {c : UInt8} (h : letterB c = true) : wordB c = true := by simp [wordB, h]
theorem wordB_digit {c : UInt8} (h : digitB c = true) : wordB c = true := by simp [wordB, h]
theorem oneT_pos {s : List UInt8} {k : Nat} {w r : List UInt8} (h : oneT s = some (k, w, r)) : 1 ≤ (txt k w).length := by
  obtain ⟨c, l, rfl, _, _, _, h3⟩ := oneT_cases h
  rcases h3 with ⟨h1, rfl, rfl, _⟩ | ⟨_, h1, rfl, rfl, _⟩ | ⟨_, rfl, _⟩ | ⟨_, rfl, rfl, _⟩ | ⟨_, _, _, _, rfl, h1, rfl, _⟩
  · simp [txt, List.takeWhile_cons, wordB_letter h1]
  · simp [txt, List.takeWhile_cons, wordB_digit h1]
  · have := (quoteL_len w).1
    rw [txt, if_pos rfl]; omega
  · simp [txt]
  · have := signN_le c l
    rw [txt, if_neg (by decide), List.length_take]; omega
theorem oneT_len {s : List UInt8} {k : Nat} {w r : List UInt8} (h : oneT s = some (k, w, r)) : r.length < s.length := by
  have h1 := congrArg List.length (oneT_txt h)
  have h2 := oneT_pos h
  rw [List.length_append] at h1; omega
end Go.Proofs.YtgcoomicgdbmbaaGreatDoor
/-
  A text's tokens: plain laws. Own work.
-/
namespace Go.Proofs.YtgcoomicgdbmbaaGreatDoor
open Go.Aw

/-! ### runs of bytes -/
theorem tw_ext {p : UInt8 → Bool} {x : List UInt8} (h : ∀ c ∈ x.head?, p c = false) : ∀ l : List UInt8, (l.takeWhile p ++ x).takeWhile p = l.takeWhile p ∧ (l.takeWhile p ++ x).dropWhile p = x
  | [] => by
    cases x with
    | nil => simp
    | cons c x => have := h c rfl; simp [List.takeWhile_cons, List.dropWhile_cons, this]
  | c :: l => by
    have ih := tw_ext h l
    cases hc : p c with
    | true => simp only [List.takeWhile_cons, hc, if_true, List.cons_append, List.dropWhile_cons]; exact ⟨by rw [ih.1], ih.2⟩
    | false =>
      simp only [List.takeWhile_cons, hc, Bool.false_eq_true, if_false, List.nil_append]
      have := tw_ext h []
      simpa using this
theorem tw_nl {p : UInt8 → Bool} (h : p 10 = false) (x : List UInt8) : ∀ l : List UInt8, (l ++ 10 :: x).takeWhile p = l.takeWhile p ∧ (l ++ 10 :: x).dropWhile p = l.dropWhile p ++ 10 :: x
  | [] => by simp [List.takeWhile_cons, List.dropWhile_cons, h]
  | c :: l => by
    have ih := tw_nl h x l
    cases hc : p c with
    | true => simp only [List.takeWhile_cons, hc, if_true, List.cons_append, List.dropWhile_cons]; exact ⟨by rw [ih.1], ih.2⟩
    | false => simp only [List.takeWhile_cons, hc, Bool.false_eq_true, if_false, List.cons_append, List.dropWhile_cons]; simp
theorem oneL_nl (c : UInt8) : (10 : UInt8) ∉ oneL c := by
  have hlt := c.toNat_lt
  unfold oneL
  split
  · rename_i h
    intro hm
    simp at hm
    subst hm; revert h; decide
  · split
    · decide
    · split
      · intro hm
        obtain ⟨a1, _⟩ := quoR_hex (c.toNat / 16) (by omega)
        obtain ⟨b1, _⟩ := quoR_hex (c.toNat % 16) (by omega)
        simp at hm
        rcases hm with hm | hm
        · rw [← hm] at a1; exact a1 rfl
        · rw [← hm] at b1; exact b1 rfl
      · rename_i h
        intro hm
        simp at hm
        subst hm; revert h; decide
theorem flat_nl (t : List UInt8) : (10 : UInt8) ∉ t.flatMap oneL ++ [34] := by
  intro h
  rcases List.mem_append.1 h with h | h
  · obtain ⟨c, _, hc⟩ := List.mem_flatMap.1 h
    exact oneL_nl c hc
  · revert h; decide
theorem symR_nl (l x : List UInt8) : symR (l ++ 10 :: x) = (symR l).map fun q => (q.1, q.2 ++ 10 :: x) := by
  cases h : symR l with
  | some q =>
    obtain ⟨t, r⟩ := q
    have := symR_iff.1 h
    subst this
    rw [List.append_assoc, List.cons_append, symR_flat]; rfl
  | none =>
    cases h2 : symR (l ++ 10 :: x) with
    | none => rfl
    | some q =>
      obtain ⟨t, r⟩ := q
      have e := symR_iff.1 h2
      have e2 : l ++ 10 :: x = (t.flatMap oneL ++ [34]) ++ r := by rw [e]; simp
      rcases List.append_eq_append_iff.1 e2 with ⟨a, ha, hb⟩ | ⟨a, ha, hb⟩
      · cases a with
        | nil =>
          rw [List.append_nil] at ha
          have : l = t.flatMap oneL ++ 34 :: [] := ha.symm
          rw [symR_iff.2 this] at h; cases h
        | cons b a =>
          rw [List.cons_append] at hb
          have := (List.cons.inj hb).1
          subst this
          exact absurd (by rw [ha]; simp) (flat_nl t)
      · have : l = t.flatMap oneL ++ 34 :: a := by rw [ha]; simp
        rw [symR_iff.2 this] at h; cases h

/-! ### the next token, with something behind it -/
theorem twoS_nl (c : UInt8) (l x : List UInt8) : twoS c (l ++ 10 :: x) = twoS c l := by
  cases l with
  | nil => simp [twoS]
  | cons d l => simp [twoS]
theorem oneT_nl {s : List UInt8} (hs : s ≠ []) (x : List UInt8) : oneT (s ++ 10 :: x) = (oneT s).map fun q => (q.1, q.2.1, q.2.2 ++ 10 :: x) := by
  cases s with
  | nil => exact absurd rfl hs
  | cons c l =>
    have e1 := tw_nl (p := wordB) (by decide) x (c :: l)
    have e2 := tw_nl (p := smallB) (by decide) x l
    rw [List.cons_append] at e1
    rw [List.cons_append]
    unfold oneT
    simp only []
    rw [e1.1, e1.2, e2.1, e2.2]
    have e3 : signN c (l ++ 10 :: x) = signN c l := by rw [signN, signN, twoS_nl]
    split
    · split <;> rfl
    · split
      · split <;> rfl
      · split
        · rw [symR_nl]
          cases symR l <;> rfl
        · split
          · split <;> rfl
          · rw [e3]
            have hle := signN_le c l
            split
            · rfl
            · have h1 : (c :: (l ++ 10 :: x)).take (signN c l) = (c :: l).take (signN c l) := by
                rw [← List.cons_append, List.take_append_of_le_length hle]
              have h2 : (c :: (l ++ 10 :: x)).drop (signN c l) = (c :: l).drop (signN c l) ++ 10 :: x := by
                rw [← List.cons_append, List.drop_append_of_le_length hle]
              rw [h1, h2]; rfl
theorem twoS_ext {c d : UInt8} {l x : List UInt8} : twoS c (d :: l) = twoS c (d :: x) := by simp [twoS]
theorem oneT_ext {s w r : List UInt8} {k : Nat} (h : oneT s = some (k, w, r)) (x : List UInt8) : oneT (txt k w ++ 32 :: x) = some (k, w, 32 :: x) := by
  obtain ⟨c, l, rfl, h0, h1, h2, h3⟩ := oneT_cases h
  rcases h3 with ⟨g1, rfl, rfl, rfl, g2⟩ | ⟨g0, g1, rfl, rfl, rfl, g2⟩ | ⟨rfl, rfl, g1⟩ | ⟨rfl, rfl, rfl, rfl, g1, g2⟩ | ⟨g1, g2, g3, g4, rfl, g5, rfl, rfl⟩
  · have e := tw_ext (p := wordB) (x := 32 :: x) (by simp; decide) (c :: l)
    have hw : (c :: l).takeWhile wordB = c :: l.takeWhile wordB := by rw [List.takeWhile_cons, if_pos (wordB_letter g1)]
    rw [hw] at e g2
    rw [txt, if_neg (by decide), hw]
    rw [List.cons_append] at e ⊢
    unfold oneT
    simp only []
    rw [if_pos g1, e.1, e.2, if_pos g2]
  · have e := tw_ext (p := wordB) (x := 32 :: x) (by simp; decide) (c :: l)
    have hw : (c :: l).takeWhile wordB = c :: l.takeWhile wordB := by rw [List.takeWhile_cons, if_pos (wordB_digit g1)]
    rw [hw] at e g2
    rw [txt, if_neg (by decide), hw]
    rw [List.cons_append] at e ⊢
    unfold oneT
    simp only []
    rw [if_neg (by rw [g0]; decide), if_pos g1, e.1, e.2, if_pos g2]
  · have e : quoteL w ++ 32 :: x = 34 :: (w.flatMap oneL ++ 34 :: 32 :: x) := by simp [quoteL]
    rw [txt, if_pos rfl, e]
    unfold oneT
    simp only []
    rw [if_neg (by decide), if_neg (by decide), if_pos (by decide), symR_flat]; rfl
  · have e := tw_ext (p := smallB) (x := 32 :: x) (by simp; decide) l
    rw [txt, if_neg (by decide), List.cons_append]
    unfold oneT
    simp only []
    rw [if_neg (by decide), if_neg (by decide), if_neg (by decide), e.1, e.2, if_pos ⟨by decide, g1⟩, if_pos g2]
  · have hk : txt 4 ((c :: l).take (signN c l)) = (c :: l).take (signN c l) := by rw [txt, if_neg (by decide)]
    rw [hk]
    cases h2 : twoS c l with
    | true =>
      obtain ⟨d, l, rfl⟩ := twoS_ne h2
      have hn : signN c (d :: l) = 2 := by rw [signN, if_pos h2]
      have hn2 : signN c (d :: 32 :: x) = 2 := by rw [signN, if_pos (twoS_ext (l := l) ▸ h2)]
      have hd : smallB d = false := by
        simp only [twoS, List.head?_cons, Option.some.injEq, Bool.or_eq_true, Bool.and_eq_true, decide_eq_true_eq] at h2
        rcases h2 with ⟨_, rfl⟩ | ⟨_, rfl⟩ <;> decide
      rw [hn]
      show oneT (c :: d :: 32 :: x) = _
      unfold oneT
      simp only []
      rw [if_neg (by rw [g1]; decide), if_neg (by rw [g2]; decide), if_neg g3, if_neg (by rw [List.takeWhile_cons, hd]; simp), hn2]
      rfl
    | false =>
      have hs : c ∈ signs := by
        rw [signN, if_neg (by rw [h2]; decide)] at g5
        by_cases hc : c ∈ signs
        · exact hc
        · rw [if_neg hc] at g5; exact absurd rfl g5
      have hn : signN c l = 1 := by rw [signN, if_neg (by rw [h2]; decide), if_pos hs]
      have hn2 : signN c (32 :: x) = 1 := by rw [signN, if_neg (by simp [twoS]), if_pos hs]
      rw [hn]
      show oneT (c :: 32 :: x) = _
      unfold oneT
      simp only []
      rw [if_neg (by rw [g1]; decide), if_neg (by rw [g2]; decide), if_neg g3, if_neg (by rw [List.takeWhile_cons, if_neg (by decide)]; simp), hn2]
      rfl

/-! ### blanks and comments -/
def skipL : List UInt8 → List UInt8
  | [] => []
  | c :: r => if blankB c = true then skipL r else if c.toNat = 47 ∧ r.head? = some 47 then skipL (r.dropWhile noNl) else c :: r
termination_by l => l.length
decreasing_by
  · simp
  · have := (List.dropWhile_sublist noNl (l := r)).length_le
    simp; omega
theorem skipL_nil : skipL [] = [] := by rw [skipL]
theorem skipL_blank {c : UInt8} (h : blankB c = true) (r : List UInt8) : skipL (c :: r) = skipL r := by rw [skipL, if_pos h]
theorem skipL_comm (r : List UInt8) : skipL (47 :: 47 :: r) = skipL (r.dropWhile noNl) := by
  rw [skipL, if_neg (by decide), if_pos ⟨by decide, rfl⟩, List.dropWhile_cons, if_pos (by decide)]
theorem skipL_stop {c : UInt8} {r : List UInt8} (h : blankB c = false) (h2 : ¬ (c.toNat = 47 ∧ r.head? = some 47)) : skipL (c :: r) = c :: r := by
  rw [skipL, if_neg (by rw [h]; decide), if_neg h2]
theorem skipL_suf (s : List UInt8) : skipL s <:+ s := by
  fun_induction skipL s with
  | case1 => exact List.suffix_refl _
  | case2 c r h ih => exact ih.trans (List.suffix_cons _ _)
  | case3 c r h h2 ih => exact ih.trans ((List.dropWhile_suffix _).trans (List.suffix_cons _ _))
  | case4 c r h h2 => exact List.suffix_refl _
theorem skipL_len (s : List UInt8) : (skipL s).length ≤ s.length := (skipL_suf s).length_le
theorem skipL_fix (s : List UInt8) : skipL (skipL s) = skipL s := by
  fun_induction skipL s with
  | case1 => exact skipL_nil
  | case2 c r h ih => exact ih
  | case3 c r h h2 ih => exact ih
  | case4 c r h h2 => exact skipL_stop (by simpa using h) h2
theorem skipL_nl (s x : List UInt8) : skipL (s ++ 10 :: x) = if skipL s = [] then skipL x else skipL s ++ 10 :: x := by
  fun_induction skipL s with
  | case1 => rw [if_pos rfl]; exact skipL_blank (by decide) x
  | case2 c r h ih => rw [List.cons_append, skipL_blank h]; exact ih
  | case3 c r h h2 ih =>
    obtain ⟨r', rfl⟩ : ∃ r', r = 47 :: r' := by
      cases r with
      | nil => simp at h2
      | cons d r => have := h2.2; simp at this; exact ⟨r, by rw [this]⟩
    obtain rfl : c = 47 := UInt8.toNat_inj.1 h2.1
    rw [List.dropWhile_cons, if_pos (show noNl 47 = true from by decide)] at ih ⊢
    rw [List.cons_append, List.cons_append, skipL_comm, (tw_nl (p := noNl) (by decide) x r').2]
    exact ih
  | case4 c r h h2 =>
    rw [if_neg (by simp), List.cons_append]
    refine skipL_stop (by simpa using h) ?_
    rintro ⟨a, b⟩
    cases r with
    | nil => simp at b
    | cons d r => exact h2 ⟨a, b⟩

/-! ### the tokens of a text -/
def cnt (s : List UInt8) : Nat := s.countP fun c => decide (c.toNat = 10)
theorem cnt_app (a b : List UInt8) : cnt (a ++ b) = cnt a + cnt b := List.countP_append
theorem cnt_suf {a b : List UInt8} (h : a <:+ b) : cnt a ≤ cnt b := by
  obtain ⟨x, rfl⟩ := h
  rw [cnt_app]; omega
def rawL : List UInt8 → List (Nat × List UInt8 × Nat) × Option Nat
  | [] => ([], none)
  | c :: l => match h : oneT (c :: l) with
    | none => ([], some (cnt (c :: l)))
    | some (k, w, r) => ((k, w, cnt (c :: l)) :: (rawL (skipL r)).1, (rawL (skipL r)).2)
termination_by l => l.length
decreasing_by all_goals
  have h1 := oneT_len h
  have h2 := skipL_len r
  omega
theorem rawL_nil : rawL [] = ([], none) := by rw [rawL]
theorem rawL_none {s : List UInt8} (hs : s ≠ []) (h : oneT s = none) : rawL s = ([], some (cnt s)) := by
  cases s with
  | nil => exact absurd rfl hs
  | cons c l =>
    rw [rawL]
    split
    · rfl
    · rename_i h'; rw [h] at h'; cases h'
theorem oneT_ne {s : List UInt8} {q : Nat × List UInt8 × List UInt8} (h : oneT s = some q) : s ≠ [] := by
  rintro rfl; simp [oneT] at h
theorem rawL_some {s w r : List UInt8} {k : Nat} (h : oneT s = some (k, w, r)) : rawL s = ((k, w, cnt s) :: (rawL (skipL r)).1, (rawL (skipL r)).2) := by
  cases s with
  | nil => simp [oneT] at h
  | cons c l =>
    rw [rawL]
    split
    · rename_i h'; rw [h] at h'; cases h'
    · rename_i h'; rw [h] at h'; cases h'; rfl
/-- what holds of the tokens, from the end on -/
theorem rawL_ind {Q : List UInt8 → Prop} (h0 : Q []) (h1 : ∀ s, s ≠ [] → oneT s = none → Q s) (h2 : ∀ s k w r, oneT s = some (k, w, r) → Q (skipL r) → Q s) : ∀ s, Q s := by
  intro s
  generalize hn : s.length = n
  induction n using Nat.strongRecOn generalizing s with
  | ind n ih =>
    by_cases hs : s = []
    · subst hs; exact h0
    · cases h : oneT s with
      | none => exact h1 s hs h
      | some q =>
        obtain ⟨k, w, r⟩ := q
        have a := oneT_len h
        have b := skipL_len r
        exact h2 s k w r h (ih _ (by omega) _ rfl)
structure Tok where
  kind : Int
  s : List UInt8
  line : Int
  deriving DecidableEq
def tokL (N : Nat) (x : Nat × List UInt8 × Nat) : Tok := ⟨x.1, x.2.1, ((1 + N - x.2.2 : Nat) : Int)⟩
/-- a text's tokens, or the line and what is wrong -/
def lexS (s : List UInt8) : List Tok × Int × Int :=
  if 65536 < s.length then ([], 0, 21) else
    match (rawL (skipL s)).1[20000]? with
    | some x => ([], ((1 + cnt s - x.2.2 : Nat) : Int), 21)
    | none => match (rawL (skipL s)).2 with
      | some q => ([], ((1 + cnt s - q : Nat) : Int), 20)
      | none => ((rawL (skipL s)).1.map (tokL (cnt s)), 0, 0)
end Go.Proofs.YtgcoomicgdbmbaaGreatDoor
