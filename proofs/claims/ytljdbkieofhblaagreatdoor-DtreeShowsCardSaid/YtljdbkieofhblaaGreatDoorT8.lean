/-
  A symbol's text, read back: plain laws. Own work.
-/
import Derived.Test.YtljdbkieofhblaaGreatDoorT7
namespace Go.Proofs.YtljdbkieofhblaaGreatDoor
open Go.Aw

/-- a hex digit's number -/
def hexI (c : UInt8) : Option Nat := hexs.findIdx? (· == c)
/-- the byte whose text stands ahead, and what is behind it -/
def dec1 : List UInt8 → Option (UInt8 × List UInt8)
  | [] => none
  | c :: r => if c.toNat = 92 then
      match r with
      | [] => none
      | d :: r' => if d.toNat = 92 ∨ d.toNat = 34 then some (d, r') else if d.toNat = 110 then some (10, r') else if d.toNat = 120 then
          match r' with
          | x :: y :: r'' => match hexI x, hexI y with
            | some i, some j => if plainB (UInt8.ofNat (16 * i + j)) = true ∨ 16 * i + j = 10 ∨ 16 * i + j = 34 ∨ 16 * i + j = 92 then none else some (UInt8.ofNat (16 * i + j), r'')
            | _, _ => none
          | _ => none
        else none
    else if plainB c = true then some (c, r) else none

theorem hexI_hexd : ∀ i, i < 16 → hexI (hexd i) = some i := by decide
theorem hexI_some {c : UInt8} {i : Nat} (h : hexI c = some i) : i < 16 ∧ hexd i = c := by
  unfold hexI at h
  obtain ⟨h1, h2, _⟩ := List.findIdx?_eq_some_iff_getElem.1 h
  refine ⟨h1, ?_⟩
  have : hexs[i] = c := by simpa using h2
  rw [hexd, List.getD_eq_getElem?_getD, List.getElem?_eq_getElem h1]; exact this
theorem ofNat_toNat (c : UInt8) : UInt8.ofNat c.toNat = c := UInt8.ofNat_toNat
theorem plainB_iff {c : UInt8} : plainB c = true ↔ 32 ≤ c.toNat ∧ c.toNat ≤ 126 ∧ c.toNat ≠ 34 ∧ c.toNat ≠ 92 := by
  simp [plainB, and_assoc]
theorem dec1_one (c : UInt8) (r : List UInt8) : dec1 (oneL c ++ r) = some (c, r) := by
  have hc := c.toNat_lt
  unfold oneL
  split
  · rename_i h
    show dec1 (92 :: c :: r) = _
    unfold dec1
    simp only []
    rw [if_pos (by decide)]
    try simp only []
    rw [if_pos (by omega)]
  · split
    · rename_i h1 h2
      show dec1 (92 :: 110 :: r) = _
      unfold dec1
      simp only []
      rw [if_pos (by decide)]
      try simp only []
      rw [if_neg (by decide), if_pos (by decide)]
      have : c = 10 := UInt8.toNat_inj.1 h2
      rw [this]
    · split
      · rename_i h1 h2 h3
        show dec1 (92 :: 120 :: hexd (c.toNat / 16) :: hexd (c.toNat % 16) :: r) = _
        unfold dec1
        simp only []
        rw [if_pos (by decide)]
        try simp only []
        rw [if_neg (by decide), if_neg (by decide), if_pos (by decide), hexI_hexd _ (by omega), hexI_hexd _ (Nat.mod_lt _ (by decide))]
        simp only []
        have e : 16 * (c.toNat / 16) + c.toNat % 16 = c.toNat := Nat.div_add_mod _ _
        rw [e, ofNat_toNat, if_neg]
        rw [plainB_iff]; omega
      · rename_i h1 h2 h3
        show dec1 (c :: r) = _
        unfold dec1
        simp only []
        rw [if_neg (by omega), if_pos (plainB_iff.2 (by omega))]
theorem dec1_some {l r : List UInt8} {c : UInt8} (h : dec1 l = some (c, r)) : l = oneL c ++ r := by
  cases l with
  | nil => simp [dec1] at h
  | cons a l =>
    unfold dec1 at h
    simp only [] at h
    split at h
    · rename_i ha
      have ha' : a = 92 := UInt8.toNat_inj.1 ha
      subst ha'
      cases l with
      | nil => simp at h
      | cons d l =>
        simp only [] at h
        split at h
        · rename_i hd
          simp only [Option.some.injEq, Prod.mk.injEq] at h
          obtain ⟨rfl, rfl⟩ := h
          rw [oneL, if_pos (by omega)]; rfl
        · split at h
          · rename_i hd1 hd2
            simp only [Option.some.injEq, Prod.mk.injEq] at h
            obtain ⟨rfl, rfl⟩ := h
            have : d = 110 := UInt8.toNat_inj.1 hd2
            subst this; rfl
          · split at h
            · rename_i hd1 hd2 hd3
              have : d = 120 := UInt8.toNat_inj.1 hd3
              subst this
              match l, h with
              | [], h => simp at h
              | [_], h => simp at h
              | x :: y :: l, h =>
                simp only [] at h
                cases hx : hexI x with
                | none => rw [hx] at h; simp at h
                | some i =>
                  cases hy : hexI y with
                  | none => rw [hx, hy] at h; simp at h
                  | some j =>
                    rw [hx, hy] at h
                    simp only [] at h
                    obtain ⟨hi, hi'⟩ := hexI_some hx
                    obtain ⟨hj, hj'⟩ := hexI_some hy
                    split at h
                    · cases h
                    · rename_i hn
                      simp only [Option.some.injEq, Prod.mk.injEq] at h
                      obtain ⟨rfl, rfl⟩ := h
                      have ht : (UInt8.ofNat (16 * i + j)).toNat = 16 * i + j := by rw [UInt8.toNat_ofNat']; omega
                      rw [plainB_iff, ht] at hn
                      rw [oneL, ht, if_neg (by omega), if_neg (by omega), if_pos (by omega)]
                      have e1 : (16 * i + j) / 16 = i := by omega
                      have e2 : (16 * i + j) % 16 = j := by omega
                      rw [e1, e2, hi', hj']; rfl
            · cases h
    · split at h
      · rename_i h1 h2
        simp only [Option.some.injEq, Prod.mk.injEq] at h
        obtain ⟨rfl, rfl⟩ := h
        have h2' := plainB_iff.1 h2
        rw [oneL, if_neg (by omega), if_neg (by omega), if_neg (by omega)]; rfl
      · cases h
theorem oneL_cut {a b : UInt8} {x y : List UInt8} (h : oneL a ++ x = oneL b ++ y) : a = b ∧ x = y := by
  have h1 := dec1_one a x
  rw [h, dec1_one b y] at h1
  simp only [Option.some.injEq, Prod.mk.injEq] at h1
  exact ⟨h1.1.symm, h1.2.symm⟩
theorem oneL_ne (a : UInt8) : oneL a ≠ [] := by intro e; have := (oneL_len a).1; rw [e] at this; simp at this
theorem flat_inj : ∀ {s t : List UInt8}, s.flatMap oneL = t.flatMap oneL → s = t
  | [], [], _ => rfl
  | [], b :: t, h => by
    simp only [List.flatMap_nil, List.flatMap_cons] at h
    exact absurd (List.append_eq_nil_iff.1 h.symm).1 (oneL_ne b)
  | a :: s, [], h => by
    simp only [List.flatMap_nil, List.flatMap_cons] at h
    exact absurd (List.append_eq_nil_iff.1 h).1 (oneL_ne a)
  | a :: s, b :: t, h => by
    simp only [List.flatMap_cons] at h
    obtain ⟨h1, h2⟩ := oneL_cut h
    rw [h1, flat_inj h2]
theorem quoteL_inj {s t : List UInt8} (h : quoteL s = quoteL t) : s = t := by
  unfold quoteL at h
  have h1 := List.append_cancel_right h
  exact flat_inj (List.cons.inj h1).2
/-- a number's text is no symbol's -/
theorem num_quote (n : Int) (s : List UInt8) : Lib.itoa n ≠ quoteL s := by
  intro h
  have h34 : (quoteL s).head? = some 34 := rfl
  rw [← h, Lib.itoa] at h34
  split at h34
  · simp at h34
  · obtain ⟨c, r, hc, h1, h2⟩ := dd_cons n.toNat
    rw [hc] at h34
    simp only [List.head?_cons, Option.some.injEq] at h34
    subst h34
    exact absurd h1 (by decide)
theorem quoteL_len (s : List UInt8) : 2 ≤ (quoteL s).length ∧ (quoteL s).length ≤ 4 * s.length + 2 := by
  have := flat_len s
  simp only [quoteL, List.length_append, List.length_cons, List.length_nil]
  omega
theorem quoteL_join (s t : List UInt8) : quoteL (s ++ t) = (quoteL s).take ((quoteL s).length - 1) ++ (quoteL t).drop 1 := by
  have h1 : (quoteL s).take ((quoteL s).length - 1) = 34 :: s.flatMap oneL := by
    simp [quoteL]
  have h2 : (quoteL t).drop 1 = t.flatMap oneL ++ [34] := rfl
  rw [h1, h2]
  simp [quoteL]
end Go.Proofs.YtljdbkieofhblaaGreatDoor

