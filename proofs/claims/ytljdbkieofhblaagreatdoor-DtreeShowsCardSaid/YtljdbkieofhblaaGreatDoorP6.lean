/-
  Texts of terms and atoms: nothing else reads so. Own work.
-/
import Derived.Test.YtljdbkieofhblaaGreatDoorP5
import Derived.Test.YtljdbkieofhblaaGreatDoorT8
namespace Go.Proofs.YtljdbkieofhblaaGreatDoor
open Go.Aw Go.RowKit

/-- bytes of names and numbers -/
def wordB (c : UInt8) : Bool := letterB c || (digitB c || decide (c.toNat = 45))
/-- what stands behind a word -/
def stopB (l : List UInt8) : Prop := ∀ c, l.head? = some c → wordB c = false
theorem stop_cons {c : UInt8} {l : List UInt8} (h : wordB c = false) : stopB (c :: l) := fun d hd => by
  obtain rfl : c = d := by simpa using hd
  exact h
theorem word_cut : ∀ {s t X Y : List UInt8}, (∀ c ∈ s, wordB c = true) → (∀ c ∈ t, wordB c = true) → stopB X → stopB Y → s ++ X = t ++ Y → s = t ∧ X = Y
  | [], [], _, _, _, _, _, _, h => ⟨rfl, h⟩
  | [], b :: t, X, Y, _, h2, h3, _, h => by
    rw [List.nil_append] at h
    subst h
    have := h3 b rfl
    rw [h2 b (.head _)] at this; cases this
  | a :: s, [], X, Y, h1, _, _, h4, h => by
    rw [List.nil_append] at h
    subst h
    have := h4 a rfl
    rw [h1 a (.head _)] at this; cases this
  | a :: s, b :: t, X, Y, h1, h2, h3, h4, h => by
    obtain ⟨h5, h6⟩ := List.cons.inj h
    obtain ⟨h7, h8⟩ := word_cut (fun c hc => h1 c (.tail _ hc)) (fun c hc => h2 c (.tail _ hc)) h3 h4 h6
    exact ⟨by rw [h5, h7], h8⟩
theorem name_at {s : List UInt8} (h : nameB s = true) : s ≠ [95] ∧ 1 ≤ s.length ∧ ∀ (j : Nat) (hj : j < s.length), okAt j s[j] = true := by
  rw [nameB] at h
  simp only [Bool.and_eq_true, decide_eq_true_eq, Bool.not_eq_true', decide_eq_false_iff_not, List.all_eq_true, List.mem_range] at h
  refine ⟨h.1.2, h.1.1.1, fun j hj => ?_⟩
  have := h.2 j hj
  rwa [List.getD_eq_getElem?_getD, List.getElem?_eq_getElem hj] at this
theorem name_words {s : List UInt8} (h : nameB s = true) : ∀ c ∈ s, wordB c = true := fun c hc => by
  obtain ⟨i, hi, rfl⟩ := List.mem_iff_getElem.1 hc
  have := (name_at h).2.2 i hi
  simp only [okAt, wordB, Bool.or_eq_true, Bool.and_eq_true] at this ⊢
  rcases this with h | h
  · exact .inl h
  · exact .inr (.inl h.2)
theorem name_first {s : List UInt8} (h : nameB s = true) : ∃ c r, s = c :: r ∧ letterB c = true := by
  obtain ⟨_, h2, h3⟩ := name_at h
  cases s with
  | nil => simp at h2
  | cons c r =>
    have := h3 0 (by simp)
    exact ⟨c, r, rfl, by simpa [okAt] using this⟩
theorem itoa_words (n : Int) : ∀ c ∈ Lib.itoa n, wordB c = true := fun c hc => by
  have dig : ∀ u, ∀ c ∈ Lib.decDigits u, wordB c = true := fun u c hc => by
    have := dd_dig u c hc
    simp [wordB, digitB, this.1, this.2]
  rw [Lib.itoa] at hc
  split at hc
  · rcases List.mem_cons.1 hc with rfl | hc
    · decide
    · exact dig _ c hc
  · exact dig _ c hc
theorem itoa_first (n : Int) : ∃ c r, Lib.itoa n = c :: r ∧ letterB c = false := by
  rw [Lib.itoa]
  split
  · exact ⟨45, _, rfl, by decide⟩
  · obtain ⟨c, r, hc, h1, h2⟩ := dd_cons n.toNat
    refine ⟨c, r, hc, ?_⟩
    simp only [letterB, Bool.or_eq_false_iff, Bool.and_eq_false_iff, decide_eq_false_iff_not]
    omega
theorem dec1_34 (X : List UInt8) : dec1 (34 :: X) = none := rfl
theorem quote_cut : ∀ {s t X Y : List UInt8}, s.flatMap oneL ++ (34 :: X) = t.flatMap oneL ++ (34 :: Y) → s = t ∧ X = Y
  | [], [], X, Y, h => ⟨rfl, (List.cons.inj h).2⟩
  | [], b :: t, X, Y, h => by
    simp only [List.flatMap_nil, List.nil_append, List.flatMap_cons, List.append_assoc] at h
    have h1 := dec1_34 X
    rw [h, dec1_one] at h1; cases h1
  | a :: s, [], X, Y, h => by
    simp only [List.flatMap_nil, List.nil_append, List.flatMap_cons, List.append_assoc] at h
    have h1 := dec1_34 Y
    rw [← h, dec1_one] at h1; cases h1
  | a :: s, b :: t, X, Y, h => by
    simp only [List.flatMap_cons, List.append_assoc] at h
    obtain ⟨h1, h2⟩ := oneL_cut h
    obtain ⟨h3, h4⟩ := quote_cut h2
    exact ⟨by rw [h1, h3], h4⟩
theorem sym_cut {s t X Y : List UInt8} (h : quoteL s ++ X = quoteL t ++ Y) : s = t ∧ X = Y := by
  unfold quoteL at h
  rw [List.cons_append, List.cons_append, List.cons_append, List.cons_append] at h
  have h1 := (List.cons.inj h).2
  rw [List.append_assoc, List.append_assoc] at h1
  exact quote_cut h1

/-! ### terms -/
theorem rightT_cases {t : T} {h : Nat} (hr : rightT t h = true) : (∃ s, t = .mk 1 s 0 [] ∧ nameB s = true) ∨ (∃ n, t = .mk 2 [] n []) ∨ (∃ s, t = .mk 3 s 0 []) ∨ t = .mk 4 [] 0 [] ∨ (∃ op x y m, (op = 5 ∨ op = 6 ∨ op = 7) ∧ t = .mk op [] 0 [x, y] ∧ h = m + 1 ∧ rightT x m = true ∧ rightT y m = true) := by
  obtain ⟨op, s, n, l⟩ := t
  cases h with
  | zero => rw [rightT] at hr; cases hr
  | succ m =>
    by_cases hb : twoB op = false
    · have e0 : rightT (.mk op s n l) (m + 1) = leafB (.mk op s n l) := by rw [rightT]; exact if_pos hb
      rw [e0, leafB, bareB] at hr
      replace hr : (!decide (op = 0) && ((if op = 1 then nameB s && decide (n = 0) else if op = 2 then decide (s = []) else if op = 3 then decide (n = 0) else if op = 4 ∨ op = 0 then decide (s = []) && decide (n = 0) else false) && decide (l.length = 0))) = true := hr
      simp only [Bool.and_eq_true, Bool.not_eq_true', decide_eq_false_iff_not, decide_eq_true_eq, List.length_eq_zero_iff] at hr
      obtain ⟨h0, h1, rfl⟩ := hr
      by_cases a1 : op = 1
      · subst a1
        rw [if_pos rfl] at h1
        simp only [Bool.and_eq_true, decide_eq_true_eq] at h1
        obtain ⟨h1, rfl⟩ := h1
        exact .inl ⟨s, rfl, h1⟩
      rw [if_neg a1] at h1
      by_cases a2 : op = 2
      · subst a2
        rw [if_pos rfl] at h1
        simp only [decide_eq_true_eq] at h1
        subst h1
        exact .inr (.inl ⟨n, rfl⟩)
      rw [if_neg a2] at h1
      by_cases a3 : op = 3
      · subst a3
        rw [if_pos rfl] at h1
        simp only [decide_eq_true_eq] at h1
        subst h1
        exact .inr (.inr (.inl ⟨s, rfl⟩))
      rw [if_neg a3] at h1
      by_cases a4 : op = 4 ∨ op = 0
      · rw [if_pos a4] at h1
        have h0' : ¬ op = 0 := by simpa using h0
        obtain rfl : op = 4 := by omega
        simp only [Bool.and_eq_true, decide_eq_true_eq] at h1
        obtain ⟨rfl, rfl⟩ := h1
        exact .inr (.inr (.inr (.inl rfl)))
      rw [if_neg a4] at h1
      cases h1
    · have e0 : rightT (.mk op s n l) (m + 1) = (decide (s = []) && (decide (n = 0) && (decide (l.length = 2) && l.all fun x => !decide (x.op = 3) && (!decide (x.op = 4) && rightT x m)))) := by rw [rightT]; exact if_neg hb
      rw [e0] at hr
      simp only [Bool.and_eq_true, decide_eq_true_eq] at hr
      obtain ⟨rfl, rfl, hl, ha⟩ := hr
      match l, hl with
      | [x, y], _ =>
        simp only [List.all_cons, List.all_nil, Bool.and_eq_true] at ha
        exact .inr (.inr (.inr (.inr ⟨op, x, y, m, by simp [twoB] at hb; omega, rfl, rfl, ha.1.2.2, ha.2.1.2.2⟩)))
theorem show1 (s : List UInt8) (n : Int) (l : List T) : showT (.mk 1 s n l) = s := by rw [showT]; rfl
theorem show2 (s : List UInt8) (n : Int) (l : List T) : showT (.mk 2 s n l) = Lib.itoa n := by rw [showT]; rfl
theorem show3 (s : List UInt8) (n : Int) (l : List T) : showT (.mk 3 s n l) = quoteL s := by rw [showT]; rfl
theorem show4 (s : List UInt8) (n : Int) (l : List T) : showT (.mk 4 s n l) = [95] := by rw [showT]; rfl
theorem show5 {op : Int} (h : op = 5 ∨ op = 6 ∨ op = 7) (s : List UInt8) (n : Int) (x y : T) : showT (.mk op s n [x, y]) = 40 :: (showT x ++ (signL op ++ (showT y ++ [41]))) := by
  rw [showT, if_neg (by omega), if_neg (by omega), if_neg (by omega), if_neg (by omega)]
  rw [showTs_map]; rfl
/-- texts that are words -/
def wordT (t : T) : Prop := (∃ s, t = .mk 1 s 0 [] ∧ nameB s = true) ∨ (∃ n, t = .mk 2 [] n []) ∨ t = .mk 4 [] 0 []
theorem wordT_all {t : T} (h : wordT t) : (∀ c ∈ showT t, wordB c = true) ∧ ∃ c r, showT t = c :: r := by
  rcases h with ⟨s, rfl, h⟩ | ⟨n, rfl⟩ | rfl
  · rw [show1]
    obtain ⟨c, r, e, _⟩ := name_first h
    exact ⟨name_words h, c, r, e⟩
  · rw [show2]
    obtain ⟨c, r, e, _⟩ := itoa_first n
    exact ⟨itoa_words n, c, r, e⟩
  · rw [show4]
    exact ⟨by decide, 95, [], rfl⟩
theorem wordT_inj {t u : T} (h : wordT t) (k : wordT u) (ht : nT t) (hu : nT u) (e : showT t = showT u) : t = u := by
  rcases h with ⟨s, rfl, h⟩ | ⟨n, rfl⟩ | rfl <;> rcases k with ⟨s', rfl, k⟩ | ⟨n', rfl⟩ | rfl
  · rw [show1, show1] at e; rw [e]
  · rw [show1, show2] at e
    obtain ⟨c, r, e1, h1⟩ := name_first h
    obtain ⟨d, q, e2, h2⟩ := itoa_first n'
    rw [e1, e2] at e
    obtain ⟨rfl, _⟩ := List.cons.inj e
    rw [h1] at h2; cases h2
  · rw [show1, show4] at e; exact absurd e (name_at h).1
  · rw [show2, show1] at e
    obtain ⟨c, r, e1, h1⟩ := name_first k
    obtain ⟨d, q, e2, h2⟩ := itoa_first n
    rw [e1, e2] at e
    obtain ⟨rfl, _⟩ := List.cons.inj e
    rw [h1] at h2; cases h2
  · rw [show2, show2] at e
    rw [nT] at ht hu
    rw [itoa_inj ht.1 hu.1 e]
  · rw [show2, show4] at e
    obtain ⟨d, q, e2, h2⟩ := itoa_first n
    rw [e2] at e
    obtain ⟨rfl, _⟩ := List.cons.inj e
    exact absurd h2 (by decide)
  · rw [show4, show1] at e; exact absurd e.symm (name_at k).1
  · rw [show4, show2] at e
    obtain ⟨d, q, e2, h2⟩ := itoa_first n'
    rw [e2] at e
    obtain ⟨rfl, _⟩ := List.cons.inj e
    exact absurd h2 (by decide)
  · rfl
theorem wordT_ne {t : T} (h : wordT t) {X Y : List UInt8} {d : UInt8} (hd : wordB d = false) (e : showT t ++ X = d :: Y) : False := by
  obtain ⟨h1, c, r, h2⟩ := wordT_all h
  rw [h2, List.cons_append] at e
  obtain ⟨rfl, _⟩ := List.cons.inj e
  have := h1 c (by rw [h2]; exact .head _)
  rw [hd] at this; cases this
theorem wordT_cut {t u : T} {X Y : List UInt8} (h : wordT t) (k : wordT u) (ht : nT t) (hu : nT u) (hX : stopB X) (hY : stopB Y) (e : showT t ++ X = showT u ++ Y) : t = u ∧ X = Y := by
  obtain ⟨h1, h2⟩ := word_cut (wordT_all h).1 (wordT_all k).1 hX hY e
  exact ⟨wordT_inj h k ht hu h1, h2⟩
theorem rightT_split {t : T} {h : Nat} (hr : rightT t h = true) : wordT t ∨ (∃ s, t = .mk 3 s 0 []) ∨ (∃ op x y m, (op = 5 ∨ op = 6 ∨ op = 7) ∧ t = .mk op [] 0 [x, y] ∧ h = m + 1 ∧ rightT x m = true ∧ rightT y m = true) := by
  rcases rightT_cases hr with h | h | h | h | h
  · exact .inl (.inl h)
  · exact .inl (.inr (.inl h))
  · exact .inr (.inl h)
  · exact .inl (.inr (.inr h))
  · exact .inr (.inr h)
theorem sign_cons {op : Int} : ∃ r, signL op = 32 :: r := by
  unfold signL; split
  · exact ⟨_, rfl⟩
  · split <;> exact ⟨_, rfl⟩
theorem sign_inj {o p : Int} (h : o = 5 ∨ o = 6 ∨ o = 7) (k : p = 5 ∨ p = 6 ∨ p = 7) (e : signL o = signL p) : o = p := by
  rcases h with rfl | rfl | rfl <;> rcases k with rfl | rfl | rfl <;> first | rfl | exact absurd e (by decide)
theorem stop_sign {op : Int} {X : List UInt8} : stopB (signL op ++ X) := by
  obtain ⟨r, h⟩ := sign_cons (op := op)
  rw [h]; exact stop_cons (by decide)
theorem showT_cut : ∀ (h : Nat) (t u : T) (k : Nat) (X Y : List UInt8), rightT t h = true → rightT u k = true → nT t → nT u → stopB X → stopB Y → showT t ++ X = showT u ++ Y → t = u ∧ X = Y := by
  intro h
  induction h with
  | zero => intro t u k X Y hr; cases t; rw [rightT] at hr; cases hr
  | succ h ih =>
    intro t u k X Y hr hk ht hu hX hY e
    rcases rightT_split hr with h1 | ⟨s, rfl⟩ | ⟨op, x, y, m, ho, rfl, hm, rx, ry⟩ <;> rcases rightT_split hk with k1 | ⟨s', rfl⟩ | ⟨op', x', y', m', ho', rfl, hm', rx', ry'⟩
    · exact wordT_cut h1 k1 ht hu hX hY e
    · rw [show3] at e; exact (wordT_ne h1 (by decide) e).elim
    · rw [show5 ho'] at e; exact (wordT_ne h1 (by decide) e).elim
    · rw [show3] at e; exact (wordT_ne k1 (by decide) e.symm).elim
    · rw [show3, show3] at e
      obtain ⟨h1, h2⟩ := sym_cut e
      exact ⟨by rw [h1], h2⟩
    · rw [show3, show5 ho'] at e
      exact absurd (List.cons.inj e).1 (by decide)
    · rw [show5 ho] at e; exact (wordT_ne k1 (by decide) e.symm).elim
    · rw [show3, show5 ho] at e
      exact absurd (List.cons.inj e).1 (by decide)
    · rw [show5 ho, show5 ho', List.cons_append, List.cons_append] at e
      obtain ⟨_, e⟩ := List.cons.inj e
      simp only [List.append_assoc] at e
      obtain rfl : m = h := by omega
      simp only [nT, nTs] at ht hu
      obtain ⟨x1, e2⟩ := ih x x' m' _ _ rx rx' ht.2.1 hu.2.1 stop_sign stop_sign e
      obtain ⟨e1, e3⟩ := List.append_inj e2 (by rw [sign_len, sign_len])
      have o1 := sign_inj ho ho' e1
      obtain ⟨y1, e4⟩ := ih y y' m' (41 :: X) (41 :: Y) ry ry' ht.2.2.1 hu.2.2.1 (stop_cons (by decide)) (stop_cons (by decide)) e3
      exact ⟨by rw [x1, y1, o1], (List.cons.inj e4).2⟩

/-! ### lists with signs between -/
theorem joinTail_cons (sep x : List UInt8) (r : List (List UInt8)) : Lib.joinTail sep (x :: r) = sep ++ (x ++ Lib.joinTail sep r) := by
  rw [Lib.joinTail, Lib.joinTail, List.map_cons, List.flatten_cons, List.append_assoc]
theorem joinTail_nil (sep : List UInt8) : Lib.joinTail sep [] = [] := rfl
theorem join_cut {α : Type} (f : α → List UInt8) (Q : α → Prop) (S : List UInt8 → Prop) (e : UInt8) (he : e ≠ 44)
    (hcut : ∀ a b X Y, Q a → Q b → S X → S Y → f a ++ X = f b ++ Y → a = b ∧ X = Y) (hs1 : ∀ X, S (44 :: X)) (hs2 : ∀ X, S (e :: X)) :
    ∀ (l l' : List α) (a b : α) (X Y : List UInt8), Q a → Q b → (∀ x ∈ l, Q x) → (∀ x ∈ l', Q x) → f a ++ (Lib.joinTail [44, 32] (l.map f) ++ (e :: X)) = f b ++ (Lib.joinTail [44, 32] (l'.map f) ++ (e :: Y)) → a = b ∧ l = l' ∧ X = Y
  | [], [], a, b, X, Y, ha, hb, _, _, h => by
    rw [List.map_nil, joinTail_nil, List.nil_append, List.nil_append] at h
    obtain ⟨h1, h2⟩ := hcut _ _ _ _ ha hb (hs2 _) (hs2 _) h
    exact ⟨h1, rfl, (List.cons.inj h2).2⟩
  | [], y :: l', a, b, X, Y, ha, hb, _, _, h => by
    rw [List.map_nil, joinTail_nil, List.map_cons, joinTail_cons] at h
    simp only [List.append_assoc, List.cons_append, List.nil_append] at h
    obtain ⟨_, h2⟩ := hcut _ _ _ _ ha hb (hs2 _) (hs1 _) h
    exact absurd (List.cons.inj h2).1 he
  | x :: l, [], a, b, X, Y, ha, hb, _, _, h => by
    rw [List.map_nil, joinTail_nil, List.map_cons, joinTail_cons] at h
    simp only [List.append_assoc, List.cons_append, List.nil_append] at h
    obtain ⟨_, h2⟩ := hcut _ _ _ _ ha hb (hs1 _) (hs2 _) h
    exact absurd (List.cons.inj h2).1.symm he
  | x :: l, y :: l', a, b, X, Y, ha, hb, hl, hl', h => by
    rw [List.map_cons, joinTail_cons, List.map_cons, joinTail_cons] at h
    simp only [List.append_assoc, List.cons_append, List.nil_append] at h
    obtain ⟨h1, h2⟩ := hcut _ _ _ _ ha hb (hs1 _) (hs1 _) h
    replace h2 := (List.cons.inj (List.cons.inj h2).2).2
    obtain ⟨h3, h4, h5⟩ := join_cut f Q S e he hcut hs1 hs2 l l' x y X Y (hl x (.head _)) (hl' y (.head _)) (fun z hz => hl z (.tail _ hz)) (fun z hz => hl' z (.tail _ hz)) h2
    exact ⟨h1, by rw [h3, h4], h5⟩
theorem joins_cut {α : Type} (f : α → List UInt8) (Q : α → Prop) (S : List UInt8 → Prop) (e : UInt8) (he : e ≠ 44)
    (hcut : ∀ a b X Y, Q a → Q b → S X → S Y → f a ++ X = f b ++ Y → a = b ∧ X = Y) (hs1 : ∀ X, S (44 :: X)) (hs2 : ∀ X, S (e :: X))
    (l l' : List α) (X Y : List UInt8) (h0 : l ≠ []) (h0' : l' ≠ []) (hl : ∀ x ∈ l, Q x) (hl' : ∀ x ∈ l', Q x) (h : Lib.join (l.map f) [44, 32] ++ (e :: X) = Lib.join (l'.map f) [44, 32] ++ (e :: Y)) : l = l' ∧ X = Y := by
  cases l with
  | nil => exact absurd rfl h0
  | cons a l =>
    cases l' with
    | nil => exact absurd rfl h0'
    | cons b l' =>
      rw [List.map_cons, List.map_cons, Lib.join_cons, Lib.join_cons, List.append_assoc, List.append_assoc] at h
      obtain ⟨h3, h4, h5⟩ := join_cut f Q S e he hcut hs1 hs2 l l' a b X Y (hl a (.head _)) (hl' b (.head _)) (fun z hz => hl z (.tail _ hz)) (fun z hz => hl' z (.tail _ hz)) h
      exact ⟨by rw [h3, h4], h5⟩

/-! ### atoms -/
theorem rightA_all {a : At} (hr : rightA a = true) : nameB a.rel = true ∧ a.l ≠ [] ∧ ∀ x ∈ a.l, rightT x 20 = true := by
  rw [rightA] at hr
  simp only [Bool.and_eq_true, Bool.not_eq_true', decide_eq_false_iff_not, List.all_eq_true] at hr
  exact ⟨hr.1, fun e => hr.2.1 (by rw [e]; rfl), hr.2.2.2⟩
theorem nTs_at : ∀ {l : List T} {x : T}, nTs l → x ∈ l → nT x
  | t :: r, x, h, hx => by
    rw [nTs] at h
    rcases List.mem_cons.1 hx with rfl | hx
    · exact h.1
    · exact nTs_at h.2 hx
theorem showA_cut {a b : At} {X Y : List UInt8} (ha : rightA a = true) (hb : rightA b = true) (na : nTs a.l) (nb : nTs b.l) (e : showA a ++ X = showA b ++ Y) : a = b ∧ X = Y := by
  obtain ⟨a1, a2, a3⟩ := rightA_all ha
  obtain ⟨b1, b2, b3⟩ := rightA_all hb
  unfold showA at e
  simp only [List.append_assoc, List.cons_append, List.nil_append] at e
  obtain ⟨e1, e2⟩ := word_cut (name_words a1) (name_words b1) (stop_cons (by decide)) (stop_cons (by decide)) e
  obtain ⟨e3, e4⟩ := joins_cut showT (fun t => rightT t 20 = true ∧ nT t) stopB 41 (by decide) (fun t u X Y h k hX hY e => showT_cut 20 t u 20 X Y h.1 k.1 h.2 k.2 hX hY e) (fun X => stop_cons (by decide)) (fun X => stop_cons (by decide)) a.l b.l X Y a2 b2 (fun x hx => ⟨a3 x hx, nTs_at na hx⟩) (fun x hx => ⟨b3 x hx, nTs_at nb hx⟩) (List.cons.inj e2).2
  obtain ⟨ar, al⟩ := a
  obtain ⟨br, bl⟩ := b
  exact ⟨by rw [show ar = br from e1, show al = bl from e3], e4⟩
end Go.Proofs.YtljdbkieofhblaaGreatDoor
/-
  Texts of parts, rules, relations and programs: nothing else reads so. Own work.
-/
namespace Go.Proofs.YtljdbkieofhblaaGreatDoor
open Go.Aw Go.RowKit

theorem noT_eq {t : T} (h : noT t = true) : t = .mk 0 [] 0 [] := by
  obtain ⟨op, s, n, l⟩ := t
  rw [noT, bareB] at h
  replace h : (decide (op = 0) && ((if op = 1 then nameB s && decide (n = 0) else if op = 2 then decide (s = []) else if op = 3 then decide (n = 0) else if op = 4 ∨ op = 0 then decide (s = []) && decide (n = 0) else false) && decide (l.length = 0))) = true := h
  simp only [Bool.and_eq_true, decide_eq_true_eq, List.length_eq_zero_iff] at h
  obtain ⟨rfl, h, rfl⟩ := h
  rw [if_neg (by decide), if_neg (by decide), if_neg (by decide), if_pos (.inr rfl)] at h
  simp only [Bool.and_eq_true, decide_eq_true_eq] at h
  obtain ⟨rfl, rfl⟩ := h
  rfl
theorem noA_eq {a : At} (h : noA a = true) : a = ⟨[], []⟩ := by
  obtain ⟨r, l⟩ := a
  rw [noA] at h
  simp only [Bool.and_eq_true, decide_eq_true_eq, List.length_eq_zero_iff] at h
  obtain ⟨rfl, rfl⟩ := h
  rfl
theorem rightL_cases {l : Li} (h : rightL l = true) :
    ((l.op = 1 ∨ l.op = 2) ∧ rightA l.a = true ∧ l.x = .mk 0 [] 0 [] ∧ l.y = .mk 0 [] 0 []) ∨
    ((l.op = 3 ∨ l.op = 4 ∨ l.op = 5 ∨ l.op = 6) ∧ l.a = ⟨[], []⟩ ∧ rightT l.x 20 = true ∧ rightT l.y 20 = true) ∨
    (l.op = 7 ∧ rightA l.a = true ∧ rightT l.x 20 = true ∧ l.y = .mk 0 [] 0 []) ∨
    ((l.op = 8 ∨ l.op = 9 ∨ l.op = 10) ∧ rightA l.a = true ∧ rightT l.x 20 = true ∧ rightT l.y 20 = true) := by
  rw [rightL] at h
  split at h
  · rename_i ho
    simp only [Bool.and_eq_true] at h
    exact .inl ⟨ho, h.1, noT_eq h.2.1, noT_eq h.2.2⟩
  · split at h
    · rename_i ho
      simp only [Bool.and_eq_true] at h
      exact .inr (.inl ⟨by omega, noA_eq h.1.1, h.2.1, h.2.2⟩)
    · split at h
      · rename_i ho
        simp only [Bool.and_eq_true] at h
        exact .inr (.inr (.inl ⟨ho, h.1, h.2.2, noT_eq h.2.1.2⟩))
      · split at h
        · rename_i ho
          simp only [Bool.and_eq_true] at h
          exact .inr (.inr (.inr ⟨by omega, h.1, h.2.2.1, h.2.2.2⟩))
        · cases h
theorem li_eq {l m : Li} (h1 : l.op = m.op) (h2 : l.a = m.a) (h3 : l.x = m.x) (h4 : l.y = m.y) : l = m := by
  obtain ⟨a, b, c, d⟩ := l; obtain ⟨e, f, g, h⟩ := m
  rw [show a = e from h1, show b = f from h2, show c = g from h3, show d = h from h4]
theorem show_at {t : T} {h : Nat} (hr : rightT t h = true) : ∃ c r, showT t = c :: r ∧ c ≠ 33 := by
  rcases rightT_split hr with h1 | ⟨s, rfl⟩ | ⟨op, x, y, m, ho, rfl, hm, rx, ry⟩
  · obtain ⟨h2, c, r, e⟩ := wordT_all h1
    refine ⟨c, r, e, fun hc => ?_⟩
    have := h2 c (by rw [e]; exact .head _)
    rw [hc] at this
    exact absurd this (by decide)
  · rw [show3]; exact ⟨34, _, rfl, by decide⟩
  · rw [show5 ho]; exact ⟨40, _, rfl, by decide⟩
/-- behind a part of a body -/
def litS (X : List UInt8) : Prop := ∃ r, X = 44 :: r ∨ X = 46 :: r
theorem litS_stop {X : List UInt8} (h : litS X) : stopB X := by
  obtain ⟨r, rfl | rfl⟩ := h <;> exact stop_cons (by decide)
theorem litS_32 {X Y : List UInt8} (h : litS X) (e : X = 32 :: Y) : False := by
  obtain ⟨r, rfl | rfl⟩ := h <;> exact absurd (List.cons.inj e).1 (by decide)
theorem sL1 {l : Li} (h : l.op = 1) : showL l = showA l.a := by rw [showL, if_pos h]
theorem sL2 {l : Li} (h : l.op = 2) : showL l = 33 :: showA l.a := by rw [showL, if_neg (by omega), if_pos h]; rfl
theorem sL3 {l : Li} (h : l.op = 3 ∨ l.op = 4 ∨ l.op = 5 ∨ l.op = 6) : showL l = showT l.x ++ (eqL l.op ++ showT l.y) := by rw [showL, if_neg (by omega), if_neg (by omega), if_pos (by omega)]
theorem sL7 {l : Li} (h : 7 ≤ l.op) : showL l = showT l.x ++ ([32, 61, 32] ++ (howL l ++ ([32, 58, 32, 123, 32] ++ (showA l.a ++ [32, 125])))) := by rw [showL, if_neg (by omega), if_neg (by omega), if_neg (by omega)]
theorem how7 {l : Li} (h : l.op = 7) : howL l = [99, 111, 117, 110, 116] := by rw [howL, if_pos h]
theorem how8 {l : Li} (h : l.op = 8) : howL l = [115, 117, 109, 32] ++ showT l.y := by rw [howL, if_neg (by omega), if_pos h]
theorem how9 {l : Li} (h : l.op = 9) : howL l = [109, 105, 110, 32] ++ showT l.y := by rw [howL, if_neg (by omega), if_neg (by omega), if_pos h]
theorem how10 {l : Li} (h : l.op = 10) : howL l = [109, 97, 120, 32] ++ showT l.y := by rw [howL, if_neg (by omega), if_neg (by omega), if_neg (by omega)]
theorem eq3 : eqL 3 = [32, 61, 32] := rfl
theorem eq4 : eqL 4 = [32, 33, 61, 32] := rfl
theorem eq5 : eqL 5 = [32, 60, 32] := rfl
theorem eq6 : eqL 6 = [32, 60, 61, 32] := rfl
theorem name_term {s : List UInt8} (h : nameB s = true) : rightT (.mk 1 s 0 []) 20 = true := by
  rw [rightT]
  show leafB _ = true
  rw [leafB, bareB]
  simp [T.op, T.s, T.n, T.l, h]
theorem nT_name (s : List UInt8) : nT (.mk 1 s 0 []) := by rw [nT, nTs]; exact ⟨⟨by decide, by decide⟩, trivial⟩
theorem stop_eq {op : Int} {X : List UInt8} : stopB (eqL op ++ X) := by
  unfold eqL; split
  · exact stop_cons (by decide)
  · split
    · exact stop_cons (by decide)
    · split <;> exact stop_cons (by decide)
/-- a term that stands where a fold's word stands -/
theorem not_word {y : T} {s X Y : List UInt8} (hy : rightT y 20 = true) (ny : nT y) (hs : nameB s = true) (hX : litS X) (e : showT y ++ X = s ++ (32 :: Y)) : False := by
  have e' : showT y ++ X = showT (.mk 1 s 0 []) ++ (32 :: Y) := by rw [show1]; exact e
  exact litS_32 hX (showT_cut 20 y _ 20 _ _ hy (name_term hs) ny (nT_name s) (litS_stop hX) (stop_cons (by decide)) e').2
theorem atom_term {a : At} {y : T} {X Y : List UInt8} (ha : rightA a = true) (hy : rightT y 20 = true) (ny : nT y) (e : showA a ++ X = showT y ++ (32 :: Y)) : False := by
  have hs := (rightA_all ha).1
  have e' : showT (.mk 1 a.rel 0 []) ++ (40 :: (Lib.join (a.l.map showT) [44, 32] ++ (41 :: X))) = showT y ++ (32 :: Y) := by
    rw [show1, ← e, showA]; simp
  exact absurd (List.cons.inj (showT_cut 20 _ y 20 _ _ (name_term hs) hy (nT_name _) ny (stop_cons (by decide)) (stop_cons (by decide)) e').2).1 (by decide)
theorem fold_cut {l m : Li} {X Y : List UInt8} (hl : l.op = 8 ∨ l.op = 9 ∨ l.op = 10) (hm : m.op = 8 ∨ m.op = 9 ∨ m.op = 10) (e : howL l ++ X = howL m ++ Y) : l.op = m.op ∧ showT l.y ++ X = showT m.y ++ Y := by
  rcases hl with h | h | h <;> rcases hm with k | k | k
  · rw [how8 h, how8 k] at e; refine ⟨by omega, ?_⟩; simpa using e
  · rw [how8 h, how9 k] at e; exact absurd (List.cons.inj e).1 (by decide)
  · rw [how8 h, how10 k] at e; exact absurd (List.cons.inj e).1 (by decide)
  · rw [how9 h, how8 k] at e; exact absurd (List.cons.inj e).1 (by decide)
  · rw [how9 h, how9 k] at e; refine ⟨by omega, ?_⟩; simpa using e
  · rw [how9 h, how10 k] at e; exact absurd (List.cons.inj (List.cons.inj e).2).1 (by decide)
  · rw [how10 h, how8 k] at e; exact absurd (List.cons.inj e).1 (by decide)
  · rw [how10 h, how9 k] at e; exact absurd (List.cons.inj (List.cons.inj e).2).1 (by decide)
  · rw [how10 h, how10 k] at e; refine ⟨by omega, ?_⟩; simpa using e
theorem count_fold {l m : Li} {X Y : List UInt8} (hl : l.op = 7) (hm : m.op = 8 ∨ m.op = 9 ∨ m.op = 10) (e : howL l ++ X = howL m ++ Y) : False := by
  rcases hm with k | k | k
  · rw [how7 hl, how8 k] at e; exact absurd (List.cons.inj e).1 (by decide)
  · rw [how7 hl, how9 k] at e; exact absurd (List.cons.inj e).1 (by decide)
  · rw [how7 hl, how10 k] at e; exact absurd (List.cons.inj e).1 (by decide)
/-- an equation's text is no fold's -/
theorem eq_fold {l m : Li} {X Y : List UInt8} (ho : l.op = 3 ∨ l.op = 4 ∨ l.op = 5 ∨ l.op = 6) (hy : rightT l.y 20 = true) (ny : nT l.y) (hm : 7 ≤ m.op ∧ m.op ≤ 10) (hX : litS X) (e : eqL l.op ++ (showT l.y ++ X) = [32, 61, 32] ++ (howL m ++ (32 :: Y))) : False := by
  rcases ho with h | h | h | h
  · rw [h, eq3] at e
    have e := List.append_cancel_left e
    have hc : m.op = 7 ∨ m.op = 8 ∨ m.op = 9 ∨ m.op = 10 := by omega
    rcases hc with k | k | k | k
    · rw [how7 k] at e
      exact not_word hy ny (by decide) hX e
    · rw [how8 k] at e
      exact not_word (s := [115, 117, 109]) (Y := showT m.y ++ (32 :: Y)) hy ny (by decide) hX (by simpa using e)
    · rw [how9 k] at e
      exact not_word (s := [109, 105, 110]) (Y := showT m.y ++ (32 :: Y)) hy ny (by decide) hX (by simpa using e)
    · rw [how10 k] at e
      exact not_word (s := [109, 97, 120]) (Y := showT m.y ++ (32 :: Y)) hy ny (by decide) hX (by simpa using e)
  · rw [h, eq4] at e; exact absurd (List.cons.inj (List.cons.inj e).2).1 (by decide)
  · rw [h, eq5] at e; exact absurd (List.cons.inj (List.cons.inj e).2).1 (by decide)
  · rw [h, eq6] at e; exact absurd (List.cons.inj (List.cons.inj e).2).1 (by decide)
theorem eq_cut {o p : Int} {X Y : List UInt8} (ho : o = 3 ∨ o = 4 ∨ o = 5 ∨ o = 6) (hp : p = 3 ∨ p = 4 ∨ p = 5 ∨ p = 6) (e : eqL o ++ X = eqL p ++ Y) : o = p ∧ X = Y := by
  rcases ho with rfl | rfl | rfl | rfl <;> rcases hp with rfl | rfl | rfl | rfl <;> simp only [eq3, eq4, eq5, eq6] at e <;> first | exact ⟨rfl, List.append_cancel_left e⟩ | (exfalso; simp at e; done)
theorem fold_split {l : Li} {X : List UInt8} : (showT l.x ++ ([32, 61, 32] ++ (howL l ++ ([32, 58, 32, 123, 32] ++ (showA l.a ++ [32, 125]))))) ++ X = showT l.x ++ ([32, 61, 32] ++ (howL l ++ (32 :: ([58, 32, 123, 32] ++ (showA l.a ++ ([32, 125] ++ X)))))) := by simp
theorem showL_cut (l m : Li) (X Y : List UInt8) (hl : rightL l = true ∧ nL l) (hm : rightL m = true ∧ nL m) (hX : litS X) (hY : litS Y) (e : showL l ++ X = showL m ++ Y) : l = m ∧ X = Y := by
  obtain ⟨hl, na, nx, ny⟩ := hl
  obtain ⟨hm, ma, mx, my⟩ := hm
  have c32 : wordB 32 = false := by decide
  rcases rightL_cases hl with ⟨o, a1, x1, y1⟩ | ⟨o, a1, x1, y1⟩ | ⟨o, a1, x1, y1⟩ | ⟨o, a1, x1, y1⟩ <;> rcases rightL_cases hm with ⟨p, a2, x2, y2⟩ | ⟨p, a2, x2, y2⟩ | ⟨p, a2, x2, y2⟩ | ⟨p, a2, x2, y2⟩
  · have h33 : ∀ {a : At} {X Y : List UInt8}, rightA a = true → showA a ++ X = 33 :: Y → False := fun {a X Y} ha e => by
      obtain ⟨c, r, h1, h2⟩ := name_first (rightA_all ha).1
      rw [showA, h1] at e
      obtain ⟨rfl, _⟩ := List.cons.inj e
      exact absurd h2 (by decide)
    rcases o with o | o <;> rcases p with p | p
    · rw [sL1 o, sL1 p] at e
      obtain ⟨h1, h2⟩ := showA_cut a1 a2 na ma e
      exact ⟨li_eq (by omega) h1 (by rw [x1, x2]) (by rw [y1, y2]), h2⟩
    · rw [sL1 o, sL2 p] at e
      exact (h33 a1 e).elim
    · rw [sL2 o, sL1 p] at e
      exact (h33 a2 e.symm).elim
    · rw [sL2 o, sL2 p] at e
      obtain ⟨h1, h2⟩ := showA_cut a1 a2 na ma (List.cons.inj e).2
      exact ⟨li_eq (by omega) h1 (by rw [x1, x2]) (by rw [y1, y2]), h2⟩
  · have e0 : showL m ++ Y = showT m.x ++ (32 :: ((eqL m.op).tail ++ (showT m.y ++ Y))) := by
      rw [sL3 p]; rcases p with p | p | p | p <;> rw [p] <;> simp [eq3, eq4, eq5, eq6]
    rw [e0] at e
    rcases o with o | o
    · rw [sL1 o] at e; exact (atom_term a1 x2 mx e).elim
    · rw [sL2 o] at e
      obtain ⟨c, r, h1, h2⟩ := show_at x2
      rw [h1] at e
      exact absurd (List.cons.inj e).1.symm h2
  · rw [sL7 (l := m) (by omega), fold_split] at e
    rcases o with o | o
    · rw [sL1 o] at e; exact (atom_term a1 x2 mx e).elim
    · rw [sL2 o] at e
      obtain ⟨c, r, h1, h2⟩ := show_at x2
      rw [h1] at e
      exact absurd (List.cons.inj e).1.symm h2
  · rw [sL7 (l := m) (by omega), fold_split] at e
    rcases o with o | o
    · rw [sL1 o] at e; exact (atom_term a1 x2 mx e).elim
    · rw [sL2 o] at e
      obtain ⟨c, r, h1, h2⟩ := show_at x2
      rw [h1] at e
      exact absurd (List.cons.inj e).1.symm h2
  · have e0 : showL l ++ X = showT l.x ++ (32 :: ((eqL l.op).tail ++ (showT l.y ++ X))) := by
      rw [sL3 o]; rcases o with o | o | o | o <;> rw [o] <;> simp [eq3, eq4, eq5, eq6]
    rw [e0] at e
    rcases p with p | p
    · rw [sL1 p] at e; exact (atom_term a2 x1 nx e.symm).elim
    · rw [sL2 p] at e
      obtain ⟨c, r, h1, h2⟩ := show_at x1
      rw [h1] at e
      exact absurd (List.cons.inj e).1 h2
  · rw [sL3 o, sL3 p] at e
    simp only [List.append_assoc] at e
    obtain ⟨h1, e⟩ := showT_cut 20 _ _ 20 _ _ x1 x2 nx mx stop_eq stop_eq e
    obtain ⟨h2, e⟩ := eq_cut o p e
    obtain ⟨h3, e⟩ := showT_cut 20 _ _ 20 _ _ y1 y2 ny my (litS_stop hX) (litS_stop hY) e
    exact ⟨li_eq h2 (by rw [a1, a2]) h1 h3, e⟩
  · rw [sL3 o, sL7 (l := m) (by omega), fold_split] at e
    simp only [List.append_assoc] at e
    obtain ⟨h1, e⟩ := showT_cut 20 _ _ 20 _ _ x1 x2 nx mx stop_eq (stop_cons c32) e
    exact (eq_fold o y1 ny (by omega) hX e).elim
  · rw [sL3 o, sL7 (l := m) (by omega), fold_split] at e
    simp only [List.append_assoc] at e
    obtain ⟨h1, e⟩ := showT_cut 20 _ _ 20 _ _ x1 x2 nx mx stop_eq (stop_cons c32) e
    exact (eq_fold o y1 ny (by omega) hX e).elim
  · rw [sL7 (l := l) (by omega), fold_split] at e
    rcases p with p | p
    · rw [sL1 p] at e; exact (atom_term a2 x1 nx e.symm).elim
    · rw [sL2 p] at e
      obtain ⟨c, r, h1, h2⟩ := show_at x1
      rw [h1] at e
      exact absurd (List.cons.inj e).1 h2
  · rw [sL3 p, sL7 (l := l) (by omega), fold_split] at e
    simp only [List.append_assoc] at e
    obtain ⟨h1, e⟩ := showT_cut 20 _ _ 20 _ _ x1 x2 nx mx (stop_cons c32) stop_eq e
    exact (eq_fold p y2 my (by omega) hY e.symm).elim
  · rw [sL7 (l := l) (by omega), sL7 (l := m) (by omega), fold_split, fold_split] at e
    obtain ⟨h1, e⟩ := showT_cut 20 _ _ 20 _ _ x1 x2 nx mx (stop_cons c32) (stop_cons c32) e
    replace e := (List.cons.inj (List.cons.inj (List.cons.inj e).2).2).2
    rw [how7 o, how7 p] at e
    have e5 : showA l.a ++ ([32, 125] ++ X) = showA m.a ++ ([32, 125] ++ Y) := by simpa using e
    obtain ⟨h2, e2⟩ := showA_cut a1 a2 na ma e5
    exact ⟨li_eq (by omega) h2 h1 (by rw [y1, y2]), List.append_cancel_left e2⟩
  · rw [sL7 (l := l) (by omega), sL7 (l := m) (by omega), fold_split, fold_split] at e
    obtain ⟨h1, e⟩ := showT_cut 20 _ _ 20 _ _ x1 x2 nx mx (stop_cons c32) (stop_cons c32) e
    exact (count_fold o p (List.cons.inj (List.cons.inj (List.cons.inj e).2).2).2).elim
  · rw [sL7 (l := l) (by omega), fold_split] at e
    rcases p with p | p
    · rw [sL1 p] at e; exact (atom_term a2 x1 nx e.symm).elim
    · rw [sL2 p] at e
      obtain ⟨c, r, h1, h2⟩ := show_at x1
      rw [h1] at e
      exact absurd (List.cons.inj e).1 h2
  · rw [sL3 p, sL7 (l := l) (by omega), fold_split] at e
    simp only [List.append_assoc] at e
    obtain ⟨h1, e⟩ := showT_cut 20 _ _ 20 _ _ x1 x2 nx mx (stop_cons c32) stop_eq e
    exact (eq_fold p y2 my (by omega) hY e.symm).elim
  · rw [sL7 (l := l) (by omega), sL7 (l := m) (by omega), fold_split, fold_split] at e
    obtain ⟨h1, e⟩ := showT_cut 20 _ _ 20 _ _ x1 x2 nx mx (stop_cons c32) (stop_cons c32) e
    exact (count_fold p o (List.cons.inj (List.cons.inj (List.cons.inj e).2).2).2.symm).elim
  · rw [sL7 (l := l) (by omega), sL7 (l := m) (by omega), fold_split, fold_split] at e
    obtain ⟨h1, e⟩ := showT_cut 20 _ _ 20 _ _ x1 x2 nx mx (stop_cons c32) (stop_cons c32) e
    obtain ⟨h2, e⟩ := fold_cut o p (List.cons.inj (List.cons.inj (List.cons.inj e).2).2).2
    obtain ⟨h3, e⟩ := showT_cut 20 _ _ 20 _ _ y1 y2 ny my (stop_cons c32) (stop_cons c32) e
    have e := List.append_cancel_left (List.cons.inj e).2
    obtain ⟨h4, e⟩ := showA_cut a1 a2 na ma e
    exact ⟨li_eq h2 h4 h1 h3, List.append_cancel_left e⟩

/-! ### rules -/
theorem rightR_all {r : Ru} (h : rightR r = true) : rightA r.head = true ∧ r.body.length ≤ 20 ∧ ∀ l ∈ r.body, rightL l = true := by
  rw [rightR, partsL] at h
  simp only [List.all_cons, List.all_append, Bool.and_eq_true, List.all_map, List.all_eq_true, id, decide_eq_true_eq, Function.comp] at h
  exact ⟨h.1, h.2.1, h.2.2.2⟩
theorem showR_cut {r q : Ru} {X Y : List UInt8} (hr : rightR r = true) (hq : rightR q = true) (nr : nR r) (nq : nR q) (e : showR r ++ X = showR q ++ Y) : r.head = q.head ∧ r.body = q.body ∧ X = Y := by
  obtain ⟨r1, _, r2⟩ := rightR_all hr
  obtain ⟨q1, _, q2⟩ := rightR_all hq
  unfold showR at e
  simp only [List.append_assoc] at e
  obtain ⟨h1, e⟩ := showA_cut r1 q1 nr.1 nq.1 e
  refine ⟨h1, ?_⟩
  by_cases c : r.body.length = 0 <;> by_cases d : q.body.length = 0
  · rw [bodyL, if_pos c, bodyL, if_pos d] at e
    exact ⟨by rw [List.length_eq_zero_iff.1 c, List.length_eq_zero_iff.1 d], (List.cons.inj e).2⟩
  · rw [bodyL, if_pos c, bodyL, if_neg d] at e
    exact absurd (List.cons.inj e).1 (by decide)
  · rw [bodyL, if_neg c, bodyL, if_pos d] at e
    exact absurd (List.cons.inj e).1 (by decide)
  · rw [bodyL, if_neg c, bodyL, if_neg d, List.append_assoc, List.append_assoc] at e
    have e := List.append_cancel_left e
    exact joins_cut showL (fun l => rightL l = true ∧ nL l) litS 46 (by decide) showL_cut (fun X => ⟨X, .inl rfl⟩) (fun X => ⟨X, .inr rfl⟩) r.body q.body X Y (fun h => c (by rw [h]; rfl)) (fun h => d (by rw [h]; rfl)) (fun l hl => ⟨r2 l hl, nr.2 l hl⟩) (fun l hl => ⟨q2 l hl, nq.2 l hl⟩) e
theorem showR_first {r : Ru} (hr : rightR r = true) : ∃ c t, showR r = c :: t ∧ letterB c = true := by
  obtain ⟨c, t, h1, h2⟩ := name_first (rightA_all (rightR_all hr).1).1
  exact ⟨c, _, by rw [showR, showA, h1]; rfl, h2⟩
/-- alike but for lines -/
def likeR (r q : Ru) : Prop := r.head = q.head ∧ r.body = q.body
def likeRs : List Ru → List Ru → Prop
  | [], [] => True
  | r :: l, q :: m => likeR r q ∧ likeRs l m
  | _, _ => False
theorem showRs_inj : ∀ {l m : List Ru}, (∀ r ∈ l, rightR r = true ∧ nR r) → (∀ r ∈ m, rightR r = true ∧ nR r) → showRs l = showRs m → likeRs l m
  | [], [], _, _, _ => trivial
  | [], q :: m, _, hm, e => by
    obtain ⟨c, t, h, _⟩ := showR_first (hm q (.head _)).1
    simp [showRs, h] at e
  | r :: l, [], hl, _, e => by
    obtain ⟨c, t, h, _⟩ := showR_first (hl r (.head _)).1
    simp [showRs, h] at e
  | r :: l, q :: m, hl, hm, e => by
    have e1 : showR r ++ (10 :: showRs l) = showR q ++ (10 :: showRs m) := by
      simpa [showRs] using e
    obtain ⟨h1, h2, h3⟩ := showR_cut (hl r (.head _)).1 (hm q (.head _)).1 (hl r (.head _)).2 (hm q (.head _)).2 e1
    exact ⟨⟨h1, h2⟩, showRs_inj (fun x hx => hl x (.tail _ hx)) (fun x hx => hm x (.tail _ hx)) (List.cons.inj h3).2⟩

/-! ### relations -/
def colOk (x : List UInt8 × Int) : Prop := nameB x.1 = true ∧ (x.2 = 1 ∨ x.2 = 2)
theorem rightD_all {d : De} (h : rightD d = true) : nameB d.rel = true ∧ d.names ≠ [] ∧ d.names.length ≤ 8 ∧ d.types.length = d.names.length ∧ ∀ x ∈ d.names.zip d.types, colOk x := by
  rw [rightD] at h
  simp only [Bool.and_eq_true, Bool.not_eq_true', decide_eq_false_iff_not, decide_eq_true_eq, List.all_eq_true, typeB, Bool.or_eq_true] at h
  exact ⟨h.1, fun e => h.2.1 (by rw [e]; rfl), by omega, h.2.2.2.1, h.2.2.2.2⟩
theorem colD_cut (x y : List UInt8 × Int) (X Y : List UInt8) (hx : colOk x) (hy : colOk y) (_ : True) (_ : True) (e : colD x ++ X = colD y ++ Y) : x = y ∧ X = Y := by
  obtain ⟨xs, xn⟩ := x
  obtain ⟨ys, yn⟩ := y
  obtain ⟨hx1, hx2⟩ := hx
  obtain ⟨hy1, hy2⟩ := hy
  simp only [] at hx1 hx2 hy1 hy2
  have e1 : ∀ (n : Int) (Z : List UInt8), stopB ((if n = 1 then [58, 32, 110, 117, 109, 98, 101, 114] else [58, 32, 115, 121, 109, 98, 111, 108]) ++ Z) := fun n Z => by
    split <;> exact stop_cons (by decide)
  simp only [colD, List.append_assoc] at e
  obtain ⟨e2, e3⟩ := word_cut (name_words hx1) (name_words hy1) (e1 _ _) (e1 _ _) e
  clear e
  rcases hx2 with rfl | rfl <;> rcases hy2 with rfl | rfl
  · exact ⟨by rw [e2], List.append_cancel_left e3⟩
  · exfalso; simp at e3
  · exfalso; simp at e3
  · exact ⟨by rw [e2], List.append_cancel_left e3⟩
/-- behind a relation's text: no more of it -/
def declS (X : List UInt8) : Prop := ∀ r, X ≠ 46 :: 105 :: r ∧ X ≠ 46 :: 111 :: r
def likeD (d e : De) : Prop := d.rel = e.rel ∧ d.names = e.names ∧ d.types = e.types ∧ d.inp = e.inp ∧ d.out = e.out
theorem zip_eq {α β : Type} {a c : List α} {b d : List β} (h1 : b.length = a.length) (h2 : d.length = c.length) (e : a.zip b = c.zip d) : a = c ∧ b = d := by
  have ha : (a.zip b).map Prod.fst = a := List.map_fst_zip (by omega)
  have hb : (a.zip b).map Prod.snd = b := List.map_snd_zip (by omega)
  have hc : (c.zip d).map Prod.fst = c := List.map_fst_zip (by omega)
  have hd : (c.zip d).map Prod.snd = d := List.map_snd_zip (by omega)
  exact ⟨by rw [← ha, e, hc], by rw [← hb, e, hd]⟩
theorem showD_cut {d q : De} {X Y : List UInt8} (hd : rightD d = true) (hq : rightD q = true) (hX : declS X) (hY : declS Y) (e : showD d ++ X = showD q ++ Y) : likeD d q ∧ X = Y := by
  obtain ⟨d1, d2, _, d3, d4⟩ := rightD_all hd
  obtain ⟨q1, q2, _, q3, q4⟩ := rightD_all hq
  unfold showD at e
  simp only [List.append_assoc] at e
  have e := List.append_cancel_left e
  obtain ⟨h1, e⟩ := word_cut (name_words d1) (name_words q1) (stop_cons (by decide)) (stop_cons (by decide)) e
  replace e := (List.cons.inj e).2
  have z0 : ∀ {a : List (List UInt8)} {b : List Int}, a ≠ [] → b.length = a.length → a.zip b ≠ [] := fun {a b} h1 h2 h => by
    have h3 : (a.zip b).length = 0 := by rw [h]; rfl
    rw [List.length_zip] at h3
    exact h1 (List.length_eq_zero_iff.1 (by omega))
  obtain ⟨h2, e⟩ := joins_cut colD colOk (fun _ => True) 41 (by decide) colD_cut (fun _ => trivial) (fun _ => trivial) _ _ _ _ (z0 d2 d3) (z0 q2 q3) d4 q4 e
  obtain ⟨h3, h4⟩ := zip_eq d3 q3 h2
  have e := (List.cons.inj e).2
  have hin : inD d ++ (outD d ++ X) = inD q ++ (outD q ++ Y) := e
  unfold inD outD at hin
  rw [h1] at hin
  cases hdi : d.inp <;> cases hqi : q.inp <;> cases hdo : d.out <;> cases hqo : q.out <;> simp [hdi, hqi, hdo, hqo] at hin <;> first
    | exact ⟨⟨h1, h3, h4, by rw [hdi, hqi], by rw [hdo, hqo]⟩, hin⟩
    | (exfalso; exact (hX _).1 hin)
    | (exfalso; exact (hX _).2 hin)
    | (exfalso; exact (hY _).1 hin.symm)
    | (exfalso; exact (hY _).2 hin.symm)
def likeDs : List De → List De → Prop
  | [], [] => True
  | r :: l, q :: m => likeD r q ∧ likeDs l m
  | _, _ => False
theorem declS_rules {m : List Ru} (hm : ∀ r ∈ m, rightR r = true) : declS (showRs m) ∧ ∀ X, showRs m ≠ 46 :: X := by
  have : ∀ X, showRs m ≠ 46 :: X := fun X e => by
    cases m with
    | nil => cases e
    | cons q m =>
      obtain ⟨c, t, h, h2⟩ := showR_first (hm q (.head _))
      simp [showRs, h] at e
      rw [e.1] at h2
      exact absurd h2 (by decide)
  exact ⟨fun r => ⟨this _, this _⟩, this⟩
theorem showD_46 (d : De) : ∃ r, showD d = 46 :: 100 :: r := ⟨_, rfl⟩
theorem declS_decls {l : List De} {m : List Ru} (hm : ∀ r ∈ m, rightR r = true) : declS (showDs l ++ showRs m) := by
  cases l with
  | nil => exact (declS_rules hm).1
  | cons d l =>
    obtain ⟨r, h⟩ := showD_46 d
    intro X
    constructor <;> (intro e; simp [showDs, h] at e)
theorem showP_inj' : ∀ {l l' : List De} {m m' : List Ru}, (∀ d ∈ l, rightD d = true) → (∀ d ∈ l', rightD d = true) → (∀ r ∈ m, rightR r = true ∧ nR r) → (∀ r ∈ m', rightR r = true ∧ nR r) → showDs l ++ showRs m = showDs l' ++ showRs m' → likeDs l l' ∧ likeRs m m'
  | [], [], m, m', _, _, hm, hm', e => ⟨trivial, showRs_inj hm hm' e⟩
  | [], q :: l', m, m', _, _, hm, hm', e => by
    obtain ⟨r, h⟩ := showD_46 q
    have e' : showRs m = 46 :: (100 :: r ++ (showDs l' ++ showRs m')) := by simpa [showDs, h] using e
    exact absurd e' ((declS_rules fun r hr => (hm r hr).1).2 _)
  | d :: l, [], m, m', _, _, hm, hm', e => by
    obtain ⟨r, h⟩ := showD_46 d
    have e' : showRs m' = 46 :: (100 :: r ++ (showDs l ++ showRs m)) := by simpa [showDs, h] using e.symm
    exact absurd e' ((declS_rules fun r hr => (hm' r hr).1).2 _)
  | d :: l, q :: l', m, m', hl, hl', hm, hm', e => by
    have e' : showD d ++ (showDs l ++ showRs m) = showD q ++ (showDs l' ++ showRs m') := by simpa [showDs] using e
    obtain ⟨h1, h2⟩ := showD_cut (hl d (.head _)) (hl' q (.head _)) (declS_decls fun r hr => (hm r hr).1) (declS_decls fun r hr => (hm' r hr).1) e'
    obtain ⟨h3, h4⟩ := showP_inj' (fun x hx => hl x (.tail _ hx)) (fun x hx => hl' x (.tail _ hx)) hm hm' h2
    exact ⟨⟨h1, h3⟩, h4⟩
/-- alike but for lines -/
def likeP (p q : Pr) : Prop := likeDs p.decls q.decls ∧ likeRs p.rules q.rules
theorem showP_inj {p q : Pr} (hp : rightP p = true) (hq : rightP q = true) (np : nP p) (nq : nP q) (e : showP p = showP q) : likeP p q := by
  unfold rightP at hp hq
  simp only [Bool.and_eq_true, List.all_eq_true] at hp hq
  exact showP_inj' hp.2.2.1 hq.2.2.1 (fun r hr => ⟨hp.2.2.2 r hr, np r hr⟩) (fun r hr => ⟨hq.2.2.2 r hr, nq r hr⟩) e
/-- and the other way -/
theorem like_showRs : ∀ {l m : List Ru}, likeRs l m → showRs l = showRs m
  | [], [], _ => rfl
  | r :: l, q :: m, h => by
    have h1 : showR r = showR q := by rw [showR, showR, h.1.1, h.1.2]
    have h2 := like_showRs h.2
    simp only [showRs, List.map_cons, List.flatten_cons] at h2 ⊢
    rw [h1, h2]
  | [], _ :: _, h => h.elim
  | _ :: _, [], h => h.elim
theorem like_showDs : ∀ {l m : List De}, likeDs l m → showDs l = showDs m
  | [], [], _ => rfl
  | r :: l, q :: m, h => by
    obtain ⟨a, b, c, d, e⟩ := h.1
    have h1 : showD r = showD q := by rw [showD, showD, inD, inD, outD, outD, a, b, c, d, e]
    have h2 := like_showDs h.2
    simp only [showDs, List.map_cons, List.flatten_cons] at h2 ⊢
    rw [h1, h2]
  | [], _ :: _, h => h.elim
  | _ :: _, [], h => h.elim
theorem like_showP {p q : Pr} (h : likeP p q) : showP p = showP q := by rw [showP, showP, like_showDs h.1, like_showRs h.2]
end Go.Proofs.YtljdbkieofhblaaGreatDoor
/-
  The text of a part of a body. Own work.
-/
namespace Go.Proofs.YtljdbkieofhblaaGreatDoor
open Go.Aw Go.RowKit
set_option maxHeartbeats 4000000

theorem showLit_ok (l : Li) (R : List En) (hr : rightL l = true) (ho : okL l) (hc : cntL l ≤ 3000) (hG : NumG R) : ACall Tryz.prog 21 [encL l] R (fun r S => r = .str (showL l) ∧ S = R) := by
  have hcs := rightL_cases hr
  obtain ⟨op, a, x, y⟩ := l
  obtain ⟨oa, ox, oy⟩ := ho
  simp only [cntL] at hc
  have la := showA_len a oa
  have lx := showT_len x ox
  have ly := showT_len y oy
  simp only [] at hcs oa ox oy hc la lx ly
  have ka : rightA a = true → ∀ R, NumG R → ACall Tryz.prog 20 [encA a] R (fun r S => r = .str (showA a) ∧ S = R) := fun h R hG => showAtom_ok a R h oa (by omega) hG
  have kx : rightT x 20 = true → ∀ R, NumG R → ACall Tryz.prog 37 [encU x] R (fun r S => r = .str (showT x) ∧ S = R) := fun h R hG => showTerm_ok 20 x R h ox (by omega) hG
  have ky : rightT y 20 = true → ∀ R, NumG R → ACall Tryz.prog 37 [encU y] R (fun r S => r = .str (showT y) ∧ S = R) := fun h R hG => showTerm_ok 20 y R h oy (by omega) hG
  refine ACall_body tab_ok Tryz.func21 rfl rfl rfl (by kernel_rfl) (Nat.le_of_ble_eq_true rfl) ?_
  rcases hcs with ⟨o, ra, ex, ey⟩ | ⟨o, ea, rx, ry⟩ | ⟨o, ra, rx, ey⟩ | ⟨o, ra, rx, ry⟩
  · replace ka := ka ra
    rcases o with o | o
    · subst o
      repeat (first | refine ga_ ?_ | intro _)
      refine Or.inl ⟨⟨_, Tryz.func20, rfl, rfl⟩, ACall.mono ?_ (ka _ hG.cons)⟩
      rintro _ S1 ⟨rfl, hS1⟩
      subst S1
      repeat (first | refine go_ ?_ | intro _)
      refine AW_ret ?_
      repeat (first | refine ⟨0, rfl, ?_⟩ | refine ⟨1, rfl, ?_⟩ | refine ⟨2, rfl, ?_⟩ | refine ⟨3, rfl, ?_⟩ | refine ⟨4, rfl, ?_⟩ | refine ⟨5, rfl, ?_⟩ | refine ⟨6, rfl, ?_⟩)
      refine ⟨_, R, AVle.eq ?_, (by repeat (first | exact SLe.rfl | refine SLe.tail ?_)), rfl, rfl⟩
      rfl
    · subst o
      repeat (first | refine ga_ ?_ | intro _)
      refine Or.inl ⟨⟨_, Tryz.func20, rfl, rfl⟩, ACall.mono ?_ (ka _ hG.cons)⟩
      rintro _ S1 ⟨rfl, hS1⟩
      subst S1
      repeat (first | refine go_ ?_ | intro _)
      refine cat_ ?_
      repeat (first | refine go_ ?_ | intro _)
      refine AW_ret ?_
      repeat (first | refine ⟨0, rfl, ?_⟩ | refine ⟨1, rfl, ?_⟩ | refine ⟨2, rfl, ?_⟩ | refine ⟨3, rfl, ?_⟩ | refine ⟨4, rfl, ?_⟩ | refine ⟨5, rfl, ?_⟩ | refine ⟨6, rfl, ?_⟩)
      refine ⟨_, R, AVle.eq ?_, (by repeat (first | exact SLe.rfl | refine SLe.tail ?_)), rfl, rfl⟩
      rfl
  · replace kx := kx rx
    replace ky := ky ry
    rcases o with o | o | o | o
    · subst o
      have e : showL ⟨3, a, x, y⟩ = showT x ++ ([32, 61, 32] ++ showT y) := sL3 (l := ⟨3, a, x, y⟩) (by simp)
      repeat (first | refine ga_ ?_ | intro _)
      refine AW_draw tab_ok mixed 9 (by first | rfl | kernel_rfl) ?_
      repeat (first | refine go_ ?_ | intro _)
      apply call_step
      · rfl
      · exact Or.inl ⟨⟨_, Tryz.func37, rfl, rfl⟩, kx _ hG.cons⟩
      repeat (first | refine go_ ?_ | intro _)
      refine cat_ ?_
      repeat (first | refine go_ ?_ | intro _)
      apply call_step
      · rfl
      · exact Or.inl ⟨⟨_, Tryz.func37, rfl, rfl⟩, ky _ hG.cons⟩
      repeat (first | refine go_ ?_ | intro _)
      refine cat_ ?_
      repeat (first | refine go_ ?_ | intro _)
      refine AW_ret ?_
      repeat (first | refine ⟨0, rfl, ?_⟩ | refine ⟨1, rfl, ?_⟩ | refine ⟨2, rfl, ?_⟩ | refine ⟨3, rfl, ?_⟩ | refine ⟨4, rfl, ?_⟩ | refine ⟨5, rfl, ?_⟩ | refine ⟨6, rfl, ?_⟩)
      refine ⟨_, R, AVle.eq ?_, (by repeat (first | exact SLe.rfl | refine SLe.tail ?_)), rfl, rfl⟩
      exact congrArg AV.str (show (showT x ++ [32, 61, 32]) ++ showT y = _ by rw [e]; simp)
    · subst o
      have e : showL ⟨4, a, x, y⟩ = showT x ++ ([32, 33, 61, 32] ++ showT y) := sL3 (l := ⟨4, a, x, y⟩) (by simp)
      repeat (first | refine ga_ ?_ | intro _)
      refine AW_draw tab_ok mixed 9 (by first | rfl | kernel_rfl) ?_
      repeat (first | refine go_ ?_ | intro _)
      apply call_step
      · rfl
      · exact Or.inl ⟨⟨_, Tryz.func37, rfl, rfl⟩, kx _ hG.cons⟩
      repeat (first | refine go_ ?_ | intro _)
      refine cat_ ?_
      repeat (first | refine go_ ?_ | intro _)
      apply call_step
      · rfl
      · exact Or.inl ⟨⟨_, Tryz.func37, rfl, rfl⟩, ky _ hG.cons⟩
      repeat (first | refine go_ ?_ | intro _)
      refine cat_ ?_
      repeat (first | refine go_ ?_ | intro _)
      refine AW_ret ?_
      repeat (first | refine ⟨0, rfl, ?_⟩ | refine ⟨1, rfl, ?_⟩ | refine ⟨2, rfl, ?_⟩ | refine ⟨3, rfl, ?_⟩ | refine ⟨4, rfl, ?_⟩ | refine ⟨5, rfl, ?_⟩ | refine ⟨6, rfl, ?_⟩)
      refine ⟨_, R, AVle.eq ?_, (by repeat (first | exact SLe.rfl | refine SLe.tail ?_)), rfl, rfl⟩
      exact congrArg AV.str (show (showT x ++ [32, 33, 61, 32]) ++ showT y = _ by rw [e]; simp)
    · subst o
      have e : showL ⟨5, a, x, y⟩ = showT x ++ ([32, 60, 32] ++ showT y) := sL3 (l := ⟨5, a, x, y⟩) (by simp)
      repeat (first | refine ga_ ?_ | intro _)
      refine AW_draw tab_ok mixed 9 (by first | rfl | kernel_rfl) ?_
      repeat (first | refine go_ ?_ | intro _)
      apply call_step
      · rfl
      · exact Or.inl ⟨⟨_, Tryz.func37, rfl, rfl⟩, kx _ hG.cons⟩
      repeat (first | refine go_ ?_ | intro _)
      refine cat_ ?_
      repeat (first | refine go_ ?_ | intro _)
      apply call_step
      · rfl
      · exact Or.inl ⟨⟨_, Tryz.func37, rfl, rfl⟩, ky _ hG.cons⟩
      repeat (first | refine go_ ?_ | intro _)
      refine cat_ ?_
      repeat (first | refine go_ ?_ | intro _)
      refine AW_ret ?_
      repeat (first | refine ⟨0, rfl, ?_⟩ | refine ⟨1, rfl, ?_⟩ | refine ⟨2, rfl, ?_⟩ | refine ⟨3, rfl, ?_⟩ | refine ⟨4, rfl, ?_⟩ | refine ⟨5, rfl, ?_⟩ | refine ⟨6, rfl, ?_⟩)
      refine ⟨_, R, AVle.eq ?_, (by repeat (first | exact SLe.rfl | refine SLe.tail ?_)), rfl, rfl⟩
      exact congrArg AV.str (show (showT x ++ [32, 60, 32]) ++ showT y = _ by rw [e]; simp)
    · subst o
      have e : showL ⟨6, a, x, y⟩ = showT x ++ ([32, 60, 61, 32] ++ showT y) := sL3 (l := ⟨6, a, x, y⟩) (by simp)
      repeat (first | refine ga_ ?_ | intro _)
      refine AW_draw tab_ok mixed 9 (by first | rfl | kernel_rfl) ?_
      repeat (first | refine go_ ?_ | intro _)
      apply call_step
      · rfl
      · exact Or.inl ⟨⟨_, Tryz.func37, rfl, rfl⟩, kx _ hG.cons⟩
      repeat (first | refine go_ ?_ | intro _)
      refine cat_ ?_
      repeat (first | refine go_ ?_ | intro _)
      apply call_step
      · rfl
      · exact Or.inl ⟨⟨_, Tryz.func37, rfl, rfl⟩, ky _ hG.cons⟩
      repeat (first | refine go_ ?_ | intro _)
      refine cat_ ?_
      repeat (first | refine go_ ?_ | intro _)
      refine AW_ret ?_
      repeat (first | refine ⟨0, rfl, ?_⟩ | refine ⟨1, rfl, ?_⟩ | refine ⟨2, rfl, ?_⟩ | refine ⟨3, rfl, ?_⟩ | refine ⟨4, rfl, ?_⟩ | refine ⟨5, rfl, ?_⟩ | refine ⟨6, rfl, ?_⟩)
      refine ⟨_, R, AVle.eq ?_, (by repeat (first | exact SLe.rfl | refine SLe.tail ?_)), rfl, rfl⟩
      exact congrArg AV.str (show (showT x ++ [32, 60, 61, 32]) ++ showT y = _ by rw [e]; simp)
  · replace kx := kx rx
    replace ka := ka ra
    subst o
    have e : showL ⟨7, a, x, y⟩ = showT x ++ ([32, 61, 32] ++ ([99, 111, 117, 110, 116] ++ ([32, 58, 32, 123, 32] ++ (showA a ++ [32, 125])))) := by
      rw [sL7 (l := ⟨7, a, x, y⟩) (by simp), how7 (l := ⟨7, a, x, y⟩) rfl]
    repeat (first | refine ga_ ?_ | intro _)
    refine AW_draw tab_ok mixed 13 (by first | rfl | kernel_rfl) ?_
    repeat (first | refine go_ ?_ | intro _)
    apply call_step
    · rfl
    · exact Or.inl ⟨⟨_, Tryz.func37, rfl, rfl⟩, kx _ hG.cons⟩
    repeat (first | refine go_ ?_ | intro _)
    refine cat_ ?_
    repeat (first | refine go_ ?_ | intro _)
    refine cat_ ?_
    repeat (first | refine go_ ?_ | intro _)
    refine cat_ ?_
    repeat (first | refine go_ ?_ | intro _)
    apply call_step
    · rfl
    · exact Or.inl ⟨⟨_, Tryz.func20, rfl, rfl⟩, ka _ hG.cons⟩
    repeat (first | refine go_ ?_ | intro _)
    refine cat_ ?_
    repeat (first | refine go_ ?_ | intro _)
    refine cat_ ?_
    repeat (first | refine go_ ?_ | intro _)
    refine AW_ret ?_
    repeat (first | refine ⟨0, rfl, ?_⟩ | refine ⟨1, rfl, ?_⟩ | refine ⟨2, rfl, ?_⟩ | refine ⟨3, rfl, ?_⟩ | refine ⟨4, rfl, ?_⟩ | refine ⟨5, rfl, ?_⟩ | refine ⟨6, rfl, ?_⟩)
    refine ⟨_, R, AVle.eq ?_, (by repeat (first | exact SLe.rfl | refine SLe.tail ?_)), rfl, rfl⟩
    exact congrArg AV.str (show (((((showT x ++ [32, 61, 32]) ++ ([99, 111, 117, 110, 116])) ++ [32, 58, 32, 123, 32]) ++ showA a) ++ [32, 125]) = _ by rw [e]; simp)
  · replace kx := kx rx
    replace ky := ky ry
    replace ka := ka ra
    rcases o with o | o | o
    · subst o
      have e : showL ⟨8, a, x, y⟩ = showT x ++ ([32, 61, 32] ++ (([115, 117, 109, 32] ++ showT y) ++ ([32, 58, 32, 123, 32] ++ (showA a ++ [32, 125])))) := by
        rw [sL7 (l := ⟨8, a, x, y⟩) (by simp), how8 (l := ⟨8, a, x, y⟩) rfl]
      repeat (first | refine ga_ ?_ | intro _)
      refine Or.inl ⟨⟨_, Tryz.func37, rfl, rfl⟩, ACall.mono ?_ (ky _ hG.cons)⟩
      rintro _ S1 ⟨rfl, hS1⟩
      subst S1
      repeat (first | refine go_ ?_ | intro _)
      refine cat_ ?_
      repeat (first | refine go_ ?_ | intro _)
      refine AW_draw tab_ok mixed 13 (by first | rfl | kernel_rfl) ?_
      repeat (first | refine go_ ?_ | intro _)
      apply call_step
      · rfl
      · exact Or.inl ⟨⟨_, Tryz.func37, rfl, rfl⟩, kx _ hG.cons⟩
      repeat (first | refine go_ ?_ | intro _)
      refine cat_ ?_
      repeat (first | refine go_ ?_ | intro _)
      refine cat_ ?_
      repeat (first | refine go_ ?_ | intro _)
      refine cat_ ?_
      repeat (first | refine go_ ?_ | intro _)
      apply call_step
      · rfl
      · exact Or.inl ⟨⟨_, Tryz.func20, rfl, rfl⟩, ka _ hG.cons⟩
      repeat (first | refine go_ ?_ | intro _)
      refine cat_ ?_
      repeat (first | refine go_ ?_ | intro _)
      refine cat_ ?_
      repeat (first | refine go_ ?_ | intro _)
      refine AW_ret ?_
      repeat (first | refine ⟨0, rfl, ?_⟩ | refine ⟨1, rfl, ?_⟩ | refine ⟨2, rfl, ?_⟩ | refine ⟨3, rfl, ?_⟩ | refine ⟨4, rfl, ?_⟩ | refine ⟨5, rfl, ?_⟩ | refine ⟨6, rfl, ?_⟩)
      refine ⟨_, R, AVle.eq ?_, (by repeat (first | exact SLe.rfl | refine SLe.tail ?_)), rfl, rfl⟩
      exact congrArg AV.str (show (((((showT x ++ [32, 61, 32]) ++ ([115, 117, 109, 32] ++ showT y)) ++ [32, 58, 32, 123, 32]) ++ showA a) ++ [32, 125]) = _ by rw [e]; simp)
    · subst o
      have e : showL ⟨9, a, x, y⟩ = showT x ++ ([32, 61, 32] ++ (([109, 105, 110, 32] ++ showT y) ++ ([32, 58, 32, 123, 32] ++ (showA a ++ [32, 125])))) := by
        rw [sL7 (l := ⟨9, a, x, y⟩) (by simp), how9 (l := ⟨9, a, x, y⟩) rfl]
      repeat (first | refine ga_ ?_ | intro _)
      refine Or.inl ⟨⟨_, Tryz.func37, rfl, rfl⟩, ACall.mono ?_ (ky _ hG.cons)⟩
      rintro _ S1 ⟨rfl, hS1⟩
      subst S1
      repeat (first | refine go_ ?_ | intro _)
      refine cat_ ?_
      repeat (first | refine go_ ?_ | intro _)
      refine AW_draw tab_ok mixed 13 (by first | rfl | kernel_rfl) ?_
      repeat (first | refine go_ ?_ | intro _)
      apply call_step
      · rfl
      · exact Or.inl ⟨⟨_, Tryz.func37, rfl, rfl⟩, kx _ hG.cons⟩
      repeat (first | refine go_ ?_ | intro _)
      refine cat_ ?_
      repeat (first | refine go_ ?_ | intro _)
      refine cat_ ?_
      repeat (first | refine go_ ?_ | intro _)
      refine cat_ ?_
      repeat (first | refine go_ ?_ | intro _)
      apply call_step
      · rfl
      · exact Or.inl ⟨⟨_, Tryz.func20, rfl, rfl⟩, ka _ hG.cons⟩
      repeat (first | refine go_ ?_ | intro _)
      refine cat_ ?_
      repeat (first | refine go_ ?_ | intro _)
      refine cat_ ?_
      repeat (first | refine go_ ?_ | intro _)
      refine AW_ret ?_
      repeat (first | refine ⟨0, rfl, ?_⟩ | refine ⟨1, rfl, ?_⟩ | refine ⟨2, rfl, ?_⟩ | refine ⟨3, rfl, ?_⟩ | refine ⟨4, rfl, ?_⟩ | refine ⟨5, rfl, ?_⟩ | refine ⟨6, rfl, ?_⟩)
      refine ⟨_, R, AVle.eq ?_, (by repeat (first | exact SLe.rfl | refine SLe.tail ?_)), rfl, rfl⟩
      exact congrArg AV.str (show (((((showT x ++ [32, 61, 32]) ++ ([109, 105, 110, 32] ++ showT y)) ++ [32, 58, 32, 123, 32]) ++ showA a) ++ [32, 125]) = _ by rw [e]; simp)
    · subst o
      have e : showL ⟨10, a, x, y⟩ = showT x ++ ([32, 61, 32] ++ (([109, 97, 120, 32] ++ showT y) ++ ([32, 58, 32, 123, 32] ++ (showA a ++ [32, 125])))) := by
        rw [sL7 (l := ⟨10, a, x, y⟩) (by simp), how10 (l := ⟨10, a, x, y⟩) rfl]
      repeat (first | refine ga_ ?_ | intro _)
      refine Or.inl ⟨⟨_, Tryz.func37, rfl, rfl⟩, ACall.mono ?_ (ky _ hG.cons)⟩
      rintro _ S1 ⟨rfl, hS1⟩
      subst S1
      repeat (first | refine go_ ?_ | intro _)
      refine cat_ ?_
      repeat (first | refine go_ ?_ | intro _)
      refine AW_draw tab_ok mixed 13 (by first | rfl | kernel_rfl) ?_
      repeat (first | refine go_ ?_ | intro _)
      apply call_step
      · rfl
      · exact Or.inl ⟨⟨_, Tryz.func37, rfl, rfl⟩, kx _ hG.cons⟩
      repeat (first | refine go_ ?_ | intro _)
      refine cat_ ?_
      repeat (first | refine go_ ?_ | intro _)
      refine cat_ ?_
      repeat (first | refine go_ ?_ | intro _)
      refine cat_ ?_
      repeat (first | refine go_ ?_ | intro _)
      apply call_step
      · rfl
      · exact Or.inl ⟨⟨_, Tryz.func20, rfl, rfl⟩, ka _ hG.cons⟩
      repeat (first | refine go_ ?_ | intro _)
      refine cat_ ?_
      repeat (first | refine go_ ?_ | intro _)
      refine cat_ ?_
      repeat (first | refine go_ ?_ | intro _)
      refine AW_ret ?_
      repeat (first | refine ⟨0, rfl, ?_⟩ | refine ⟨1, rfl, ?_⟩ | refine ⟨2, rfl, ?_⟩ | refine ⟨3, rfl, ?_⟩ | refine ⟨4, rfl, ?_⟩ | refine ⟨5, rfl, ?_⟩ | refine ⟨6, rfl, ?_⟩)
      refine ⟨_, R, AVle.eq ?_, (by repeat (first | exact SLe.rfl | refine SLe.tail ?_)), rfl, rfl⟩
      exact congrArg AV.str (show (((((showT x ++ [32, 61, 32]) ++ ([109, 97, 120, 32] ++ showT y)) ++ [32, 58, 32, 123, 32]) ++ showA a) ++ [32, 125]) = _ by rw [e]; simp)
end Go.Proofs.YtljdbkieofhblaaGreatDoor
/-
  The text of a part of a body, the book's. Own work.
-/
namespace Go.Proofs.YtljdbkieofhblaaGreatDoor
open Go.Aw Go.RowKit
set_option maxHeartbeats 4000000

theorem refShowLit_ok (l : Li) (R : List En) (hr : rightL l = true) (ho : okL l) (hc : cntL l ≤ 3000) : ACall Tryz.prog 34 [encL l] R (fun r S => r = .str (showL l) ∧ S = R) := by
  have hcs := rightL_cases hr
  obtain ⟨op, a, x, y⟩ := l
  obtain ⟨oa, ox, oy⟩ := ho
  simp only [cntL] at hc
  have la := showA_len a oa
  have lx := showT_len x ox
  have ly := showT_len y oy
  simp only [] at hcs oa ox oy hc la lx ly
  have ka : rightA a = true → ∀ R, ACall Tryz.prog 33 [encA a] R (fun r S => r = .str (showA a) ∧ S = R) := fun h R => refShowA_ok a R h oa (by omega)
  have kx : rightT x 20 = true → ∀ R, ACall Tryz.prog 47 [encU x] R (fun r S => r = .str (showT x) ∧ S = R) := fun h R => refShow_ok 20 x R h ox (by omega)
  have ky : rightT y 20 = true → ∀ R, ACall Tryz.prog 47 [encU y] R (fun r S => r = .str (showT y) ∧ S = R) := fun h R => refShow_ok 20 y R h oy (by omega)
  refine ACall_body tab_ok Tryz.func34 rfl rfl rfl (by kernel_rfl) (Nat.le_of_ble_eq_true rfl) ?_
  repeat (first | refine go_ ?_ | intro _)
  rename_i p q w
  refine AW_weak (weak_of (l := [(1, .ptr p 0), (3, .ptr q 0), (4, .ptr w 0), (9, .int .i64 op), (10, .bool (decide (op = 1)))]) (m := []) (S' := .cells w [.str [99, 111, 117, 110, 116], .str [115, 117, 109, 32], .str [109, 105, 110, 32], .str [109, 97, 120, 32]] :: .cells q [.str [], .str [], .str [], .str [32, 61, 32], .str [32, 33, 61, 32], .str [32, 60, 32], .str [32, 60, 61, 32]] :: .cells p (cL ⟨op, a, x, y⟩) :: R) ?_ rfl ?_) ?_
  · repeat (first | exact trivial | refine ⟨AVle.refl _, ?_⟩ | refine ⟨AVle.tk, ?_⟩ | refine ⟨AVle.nil, ?_⟩ | refine ⟨AVle.nilFull, ?_⟩ | refine ⟨AVle.eq (congrArg (AV.int .i64) (by first | (simp; done) | (simp; omega) | (rw [wrap_i64 (by first | omega | (simp; omega))]; first | rfl | omega | (simp; done) | (simp; omega)))), ?_⟩)
  · refine SW.le ?_
    repeat (first | exact SW.nil | refine SW.cons ?_ | refine SW.cells (by repeat (first | exact trivial | refine ⟨AVle.refl _, ?_⟩ | refine ⟨AVle.nilFull, ?_⟩ | refine ⟨AVle.tk, ?_⟩ | refine ⟨AVle.nil, ?_⟩)) rfl ?_ | refine SW.full ?_ | refine SW.drop ?_)
  rcases hcs with ⟨o, ra, ex, ey⟩ | ⟨o, ea, rx, ry⟩ | ⟨o, ra, rx, ey⟩ | ⟨o, ra, rx, ry⟩
  · replace ka := ka ra
    rcases o with o | o
    · subst o
      repeat (first | refine ga_ ?_ | intro _)
      refine Or.inl ⟨⟨_, Tryz.func33, rfl, rfl⟩, ACall.mono ?_ (ka _)⟩
      rintro _ S1 ⟨rfl, hS1⟩
      subst S1
      repeat (first | refine go_ ?_ | intro _)
      refine AW_ret ?_
      repeat (first | refine ⟨0, rfl, ?_⟩ | refine ⟨1, rfl, ?_⟩ | refine ⟨2, rfl, ?_⟩ | refine ⟨3, rfl, ?_⟩ | refine ⟨4, rfl, ?_⟩ | refine ⟨5, rfl, ?_⟩ | refine ⟨6, rfl, ?_⟩)
      refine ⟨_, R, AVle.eq ?_, (by repeat (first | exact SLe.rfl | refine SLe.tail ?_)), rfl, rfl⟩
      rfl
    · subst o
      repeat (first | refine ga_ ?_ | intro _)
      refine Or.inl ⟨⟨_, Tryz.func33, rfl, rfl⟩, ACall.mono ?_ (ka _)⟩
      rintro _ S1 ⟨rfl, hS1⟩
      subst S1
      repeat (first | refine go_ ?_ | intro _)
      refine cat_ ?_
      repeat (first | refine go_ ?_ | intro _)
      refine AW_ret ?_
      repeat (first | refine ⟨0, rfl, ?_⟩ | refine ⟨1, rfl, ?_⟩ | refine ⟨2, rfl, ?_⟩ | refine ⟨3, rfl, ?_⟩ | refine ⟨4, rfl, ?_⟩ | refine ⟨5, rfl, ?_⟩ | refine ⟨6, rfl, ?_⟩)
      refine ⟨_, R, AVle.eq ?_, (by repeat (first | exact SLe.rfl | refine SLe.tail ?_)), rfl, rfl⟩
      rfl
  · replace kx := kx rx
    replace ky := ky ry
    rcases o with o | o | o | o
    · subst o
      have e : showL ⟨3, a, x, y⟩ = showT x ++ ([32, 61, 32] ++ showT y) := sL3 (l := ⟨3, a, x, y⟩) (by simp)
      repeat (first | refine ga_ ?_ | intro _)
      refine AW_draw tab_ok mixed 13 (by first | rfl | kernel_rfl) ?_
      repeat (first | refine go_ ?_ | intro _)
      apply call_step
      · rfl
      · exact Or.inl ⟨⟨_, Tryz.func47, rfl, rfl⟩, kx _⟩
      repeat (first | refine ga_ ?_ | intro _)
      refine ⟨(show (0 : Int) ≤ 3 by decide), (show (3 : Int) < 7 by decide), 3, rfl, ?_⟩
      repeat (first | refine ga_ ?_ | intro _)
      refine ⟨le_maxLen.2 (by first | omega | (simp; done) | (simp; omega) | (simp only [List.length_append, List.length_cons, List.length_nil]; omega) | (show (showT x ++ [32, 61, 32]).length ≤ _; simp only [List.length_append, List.length_cons, List.length_nil]; omega)), ?_⟩
      repeat (first | refine go_ ?_ | intro _)
      apply call_step
      · rfl
      · exact Or.inl ⟨⟨_, Tryz.func47, rfl, rfl⟩, ky _⟩
      repeat (first | refine go_ ?_ | intro _)
      refine cat_ ?_
      repeat (first | refine go_ ?_ | intro _)
      refine AW_ret ?_
      repeat (first | refine ⟨0, rfl, ?_⟩ | refine ⟨1, rfl, ?_⟩ | refine ⟨2, rfl, ?_⟩ | refine ⟨3, rfl, ?_⟩ | refine ⟨4, rfl, ?_⟩ | refine ⟨5, rfl, ?_⟩ | refine ⟨6, rfl, ?_⟩)
      refine ⟨_, R, AVle.eq ?_, (by repeat (first | exact SLe.rfl | refine SLe.tail ?_)), rfl, rfl⟩
      exact congrArg AV.str (show (showT x ++ [32, 61, 32]) ++ showT y = _ by rw [e]; simp)
    · subst o
      have e : showL ⟨4, a, x, y⟩ = showT x ++ ([32, 33, 61, 32] ++ showT y) := sL3 (l := ⟨4, a, x, y⟩) (by simp)
      repeat (first | refine ga_ ?_ | intro _)
      refine AW_draw tab_ok mixed 13 (by first | rfl | kernel_rfl) ?_
      repeat (first | refine go_ ?_ | intro _)
      apply call_step
      · rfl
      · exact Or.inl ⟨⟨_, Tryz.func47, rfl, rfl⟩, kx _⟩
      repeat (first | refine ga_ ?_ | intro _)
      refine ⟨(show (0 : Int) ≤ 4 by decide), (show (4 : Int) < 7 by decide), 4, rfl, ?_⟩
      repeat (first | refine ga_ ?_ | intro _)
      refine ⟨le_maxLen.2 (by first | omega | (simp; done) | (simp; omega) | (simp only [List.length_append, List.length_cons, List.length_nil]; omega) | (show (showT x ++ [32, 33, 61, 32]).length ≤ _; simp only [List.length_append, List.length_cons, List.length_nil]; omega)), ?_⟩
      repeat (first | refine go_ ?_ | intro _)
      apply call_step
      · rfl
      · exact Or.inl ⟨⟨_, Tryz.func47, rfl, rfl⟩, ky _⟩
      repeat (first | refine go_ ?_ | intro _)
      refine cat_ ?_
      repeat (first | refine go_ ?_ | intro _)
      refine AW_ret ?_
      repeat (first | refine ⟨0, rfl, ?_⟩ | refine ⟨1, rfl, ?_⟩ | refine ⟨2, rfl, ?_⟩ | refine ⟨3, rfl, ?_⟩ | refine ⟨4, rfl, ?_⟩ | refine ⟨5, rfl, ?_⟩ | refine ⟨6, rfl, ?_⟩)
      refine ⟨_, R, AVle.eq ?_, (by repeat (first | exact SLe.rfl | refine SLe.tail ?_)), rfl, rfl⟩
      exact congrArg AV.str (show (showT x ++ [32, 33, 61, 32]) ++ showT y = _ by rw [e]; simp)
    · subst o
      have e : showL ⟨5, a, x, y⟩ = showT x ++ ([32, 60, 32] ++ showT y) := sL3 (l := ⟨5, a, x, y⟩) (by simp)
      repeat (first | refine ga_ ?_ | intro _)
      refine AW_draw tab_ok mixed 13 (by first | rfl | kernel_rfl) ?_
      repeat (first | refine go_ ?_ | intro _)
      apply call_step
      · rfl
      · exact Or.inl ⟨⟨_, Tryz.func47, rfl, rfl⟩, kx _⟩
      repeat (first | refine ga_ ?_ | intro _)
      refine ⟨(show (0 : Int) ≤ 5 by decide), (show (5 : Int) < 7 by decide), 5, rfl, ?_⟩
      repeat (first | refine ga_ ?_ | intro _)
      refine ⟨le_maxLen.2 (by first | omega | (simp; done) | (simp; omega) | (simp only [List.length_append, List.length_cons, List.length_nil]; omega) | (show (showT x ++ [32, 60, 32]).length ≤ _; simp only [List.length_append, List.length_cons, List.length_nil]; omega)), ?_⟩
      repeat (first | refine go_ ?_ | intro _)
      apply call_step
      · rfl
      · exact Or.inl ⟨⟨_, Tryz.func47, rfl, rfl⟩, ky _⟩
      repeat (first | refine go_ ?_ | intro _)
      refine cat_ ?_
      repeat (first | refine go_ ?_ | intro _)
      refine AW_ret ?_
      repeat (first | refine ⟨0, rfl, ?_⟩ | refine ⟨1, rfl, ?_⟩ | refine ⟨2, rfl, ?_⟩ | refine ⟨3, rfl, ?_⟩ | refine ⟨4, rfl, ?_⟩ | refine ⟨5, rfl, ?_⟩ | refine ⟨6, rfl, ?_⟩)
      refine ⟨_, R, AVle.eq ?_, (by repeat (first | exact SLe.rfl | refine SLe.tail ?_)), rfl, rfl⟩
      exact congrArg AV.str (show (showT x ++ [32, 60, 32]) ++ showT y = _ by rw [e]; simp)
    · subst o
      have e : showL ⟨6, a, x, y⟩ = showT x ++ ([32, 60, 61, 32] ++ showT y) := sL3 (l := ⟨6, a, x, y⟩) (by simp)
      repeat (first | refine ga_ ?_ | intro _)
      refine AW_draw tab_ok mixed 13 (by first | rfl | kernel_rfl) ?_
      repeat (first | refine go_ ?_ | intro _)
      apply call_step
      · rfl
      · exact Or.inl ⟨⟨_, Tryz.func47, rfl, rfl⟩, kx _⟩
      repeat (first | refine ga_ ?_ | intro _)
      refine ⟨(show (0 : Int) ≤ 6 by decide), (show (6 : Int) < 7 by decide), 6, rfl, ?_⟩
      repeat (first | refine ga_ ?_ | intro _)
      refine ⟨le_maxLen.2 (by first | omega | (simp; done) | (simp; omega) | (simp only [List.length_append, List.length_cons, List.length_nil]; omega) | (show (showT x ++ [32, 60, 61, 32]).length ≤ _; simp only [List.length_append, List.length_cons, List.length_nil]; omega)), ?_⟩
      repeat (first | refine go_ ?_ | intro _)
      apply call_step
      · rfl
      · exact Or.inl ⟨⟨_, Tryz.func47, rfl, rfl⟩, ky _⟩
      repeat (first | refine go_ ?_ | intro _)
      refine cat_ ?_
      repeat (first | refine go_ ?_ | intro _)
      refine AW_ret ?_
      repeat (first | refine ⟨0, rfl, ?_⟩ | refine ⟨1, rfl, ?_⟩ | refine ⟨2, rfl, ?_⟩ | refine ⟨3, rfl, ?_⟩ | refine ⟨4, rfl, ?_⟩ | refine ⟨5, rfl, ?_⟩ | refine ⟨6, rfl, ?_⟩)
      refine ⟨_, R, AVle.eq ?_, (by repeat (first | exact SLe.rfl | refine SLe.tail ?_)), rfl, rfl⟩
      exact congrArg AV.str (show (showT x ++ [32, 60, 61, 32]) ++ showT y = _ by rw [e]; simp)
  · replace kx := kx rx
    replace ka := ka ra
    subst o
    have e : showL ⟨7, a, x, y⟩ = showT x ++ ([32, 61, 32] ++ ([99, 111, 117, 110, 116] ++ ([32, 58, 32, 123, 32] ++ (showA a ++ [32, 125])))) := by
      rw [sL7 (l := ⟨7, a, x, y⟩) (by simp), how7 (l := ⟨7, a, x, y⟩) rfl]
    repeat (first | refine ga_ ?_ | intro _)
    refine AW_draw tab_ok mixed 11 (by first | rfl | kernel_rfl) ?_
    repeat (first | refine go_ ?_ | intro _)
    apply call_step
    · rfl
    · exact Or.inl ⟨⟨_, Tryz.func47, rfl, rfl⟩, kx _⟩
    repeat (first | refine go_ ?_ | intro _)
    refine cat_ ?_
    repeat (first | refine ga_ ?_ | intro _)
    refine ⟨(show (0 : Int) ≤ 0 by decide), (show (0 : Int) < 4 by decide), 0, rfl, ?_⟩
    repeat (first | refine ga_ ?_ | intro _)
    refine ⟨le_maxLen.2 (by first | omega | (simp; done) | (simp; omega) | (simp only [List.length_append, List.length_cons, List.length_nil]; omega) | (show ((showT x ++ [32, 61, 32]) ++ [99, 111, 117, 110, 116]).length ≤ _; simp only [List.length_append, List.length_cons, List.length_nil]; omega)), ?_⟩
    repeat (first | refine ga_ ?_ | intro _)
    refine cat_ ?_
    repeat (first | refine go_ ?_ | intro _)
    refine Or.inl ⟨⟨_, Tryz.func33, rfl, rfl⟩, ACall.mono ?_ (ka _)⟩
    rintro _ S1 ⟨rfl, hS1⟩
    subst S1
    repeat (first | refine go_ ?_ | intro _)
    refine cat_ ?_
    repeat (first | refine go_ ?_ | intro _)
    refine cat_ ?_
    repeat (first | refine go_ ?_ | intro _)
    refine AW_ret ?_
    repeat (first | refine ⟨0, rfl, ?_⟩ | refine ⟨1, rfl, ?_⟩ | refine ⟨2, rfl, ?_⟩ | refine ⟨3, rfl, ?_⟩ | refine ⟨4, rfl, ?_⟩ | refine ⟨5, rfl, ?_⟩ | refine ⟨6, rfl, ?_⟩)
    refine ⟨_, R, AVle.eq ?_, (by repeat (first | exact SLe.rfl | refine SLe.tail ?_)), rfl, rfl⟩
    exact congrArg AV.str (show (((((showT x ++ [32, 61, 32]) ++ [99, 111, 117, 110, 116]) ++ [32, 58, 32, 123, 32]) ++ showA a) ++ [32, 125]) = _ by rw [e]; simp)
  · replace kx := kx rx
    replace ky := ky ry
    replace ka := ka ra
    rcases o with o | o | o
    · subst o
      have e : showL ⟨8, a, x, y⟩ = showT x ++ ([32, 61, 32] ++ (([115, 117, 109, 32] ++ showT y) ++ ([32, 58, 32, 123, 32] ++ (showA a ++ [32, 125])))) := by
        rw [sL7 (l := ⟨8, a, x, y⟩) (by simp), how8 (l := ⟨8, a, x, y⟩) rfl]
      repeat (first | refine ga_ ?_ | intro _)
      refine AW_draw tab_ok mixed 11 (by first | rfl | kernel_rfl) ?_
      repeat (first | refine go_ ?_ | intro _)
      apply call_step
      · rfl
      · exact Or.inl ⟨⟨_, Tryz.func47, rfl, rfl⟩, kx _⟩
      repeat (first | refine go_ ?_ | intro _)
      refine cat_ ?_
      repeat (first | refine ga_ ?_ | intro _)
      refine ⟨(show (0 : Int) ≤ 1 by decide), (show (1 : Int) < 4 by decide), 1, rfl, ?_⟩
      repeat (first | refine ga_ ?_ | intro _)
      refine ⟨le_maxLen.2 (by first | omega | (simp; done) | (simp; omega) | (simp only [List.length_append, List.length_cons, List.length_nil]; omega) | (show ((showT x ++ [32, 61, 32]) ++ [115, 117, 109, 32]).length ≤ _; simp only [List.length_append, List.length_cons, List.length_nil]; omega)), ?_⟩
      repeat (first | refine ga_ ?_ | intro _)
      refine Or.inl ⟨⟨_, Tryz.func47, rfl, rfl⟩, ACall.mono ?_ (ky _)⟩
      rintro _ S1 ⟨rfl, hS1⟩
      subst S1
      repeat (first | refine go_ ?_ | intro _)
      refine cat_ ?_
      repeat (first | refine go_ ?_ | intro _)
      refine cat_ ?_
      repeat (first | refine go_ ?_ | intro _)
      refine Or.inl ⟨⟨_, Tryz.func33, rfl, rfl⟩, ACall.mono ?_ (ka _)⟩
      rintro _ S1 ⟨rfl, hS1⟩
      subst S1
      repeat (first | refine go_ ?_ | intro _)
      refine cat_ ?_
      repeat (first | refine go_ ?_ | intro _)
      refine cat_ ?_
      repeat (first | refine go_ ?_ | intro _)
      refine AW_ret ?_
      repeat (first | refine ⟨0, rfl, ?_⟩ | refine ⟨1, rfl, ?_⟩ | refine ⟨2, rfl, ?_⟩ | refine ⟨3, rfl, ?_⟩ | refine ⟨4, rfl, ?_⟩ | refine ⟨5, rfl, ?_⟩ | refine ⟨6, rfl, ?_⟩)
      refine ⟨_, R, AVle.eq ?_, (by repeat (first | exact SLe.rfl | refine SLe.tail ?_)), rfl, rfl⟩
      exact congrArg AV.str (show ((((((showT x ++ [32, 61, 32]) ++ [115, 117, 109, 32]) ++ showT y) ++ [32, 58, 32, 123, 32]) ++ showA a) ++ [32, 125]) = _ by rw [e]; simp)
    · subst o
      have e : showL ⟨9, a, x, y⟩ = showT x ++ ([32, 61, 32] ++ (([109, 105, 110, 32] ++ showT y) ++ ([32, 58, 32, 123, 32] ++ (showA a ++ [32, 125])))) := by
        rw [sL7 (l := ⟨9, a, x, y⟩) (by simp), how9 (l := ⟨9, a, x, y⟩) rfl]
      repeat (first | refine ga_ ?_ | intro _)
      refine AW_draw tab_ok mixed 11 (by first | rfl | kernel_rfl) ?_
      repeat (first | refine go_ ?_ | intro _)
      apply call_step
      · rfl
      · exact Or.inl ⟨⟨_, Tryz.func47, rfl, rfl⟩, kx _⟩
      repeat (first | refine go_ ?_ | intro _)
      refine cat_ ?_
      repeat (first | refine ga_ ?_ | intro _)
      refine ⟨(show (0 : Int) ≤ 2 by decide), (show (2 : Int) < 4 by decide), 2, rfl, ?_⟩
      repeat (first | refine ga_ ?_ | intro _)
      refine ⟨le_maxLen.2 (by first | omega | (simp; done) | (simp; omega) | (simp only [List.length_append, List.length_cons, List.length_nil]; omega) | (show ((showT x ++ [32, 61, 32]) ++ [109, 105, 110, 32]).length ≤ _; simp only [List.length_append, List.length_cons, List.length_nil]; omega)), ?_⟩
      repeat (first | refine ga_ ?_ | intro _)
      refine Or.inl ⟨⟨_, Tryz.func47, rfl, rfl⟩, ACall.mono ?_ (ky _)⟩
      rintro _ S1 ⟨rfl, hS1⟩
      subst S1
      repeat (first | refine go_ ?_ | intro _)
      refine cat_ ?_
      repeat (first | refine go_ ?_ | intro _)
      refine cat_ ?_
      repeat (first | refine go_ ?_ | intro _)
      refine Or.inl ⟨⟨_, Tryz.func33, rfl, rfl⟩, ACall.mono ?_ (ka _)⟩
      rintro _ S1 ⟨rfl, hS1⟩
      subst S1
      repeat (first | refine go_ ?_ | intro _)
      refine cat_ ?_
      repeat (first | refine go_ ?_ | intro _)
      refine cat_ ?_
      repeat (first | refine go_ ?_ | intro _)
      refine AW_ret ?_
      repeat (first | refine ⟨0, rfl, ?_⟩ | refine ⟨1, rfl, ?_⟩ | refine ⟨2, rfl, ?_⟩ | refine ⟨3, rfl, ?_⟩ | refine ⟨4, rfl, ?_⟩ | refine ⟨5, rfl, ?_⟩ | refine ⟨6, rfl, ?_⟩)
      refine ⟨_, R, AVle.eq ?_, (by repeat (first | exact SLe.rfl | refine SLe.tail ?_)), rfl, rfl⟩
      exact congrArg AV.str (show ((((((showT x ++ [32, 61, 32]) ++ [109, 105, 110, 32]) ++ showT y) ++ [32, 58, 32, 123, 32]) ++ showA a) ++ [32, 125]) = _ by rw [e]; simp)
    · subst o
      have e : showL ⟨10, a, x, y⟩ = showT x ++ ([32, 61, 32] ++ (([109, 97, 120, 32] ++ showT y) ++ ([32, 58, 32, 123, 32] ++ (showA a ++ [32, 125])))) := by
        rw [sL7 (l := ⟨10, a, x, y⟩) (by simp), how10 (l := ⟨10, a, x, y⟩) rfl]
      repeat (first | refine ga_ ?_ | intro _)
      refine AW_draw tab_ok mixed 11 (by first | rfl | kernel_rfl) ?_
      repeat (first | refine go_ ?_ | intro _)
      apply call_step
      · rfl
      · exact Or.inl ⟨⟨_, Tryz.func47, rfl, rfl⟩, kx _⟩
      repeat (first | refine go_ ?_ | intro _)
      refine cat_ ?_
      repeat (first | refine ga_ ?_ | intro _)
      refine ⟨(show (0 : Int) ≤ 3 by decide), (show (3 : Int) < 4 by decide), 3, rfl, ?_⟩
      repeat (first | refine ga_ ?_ | intro _)
      refine ⟨le_maxLen.2 (by first | omega | (simp; done) | (simp; omega) | (simp only [List.length_append, List.length_cons, List.length_nil]; omega) | (show ((showT x ++ [32, 61, 32]) ++ [109, 97, 120, 32]).length ≤ _; simp only [List.length_append, List.length_cons, List.length_nil]; omega)), ?_⟩
      repeat (first | refine ga_ ?_ | intro _)
      refine Or.inl ⟨⟨_, Tryz.func47, rfl, rfl⟩, ACall.mono ?_ (ky _)⟩
      rintro _ S1 ⟨rfl, hS1⟩
      subst S1
      repeat (first | refine go_ ?_ | intro _)
      refine cat_ ?_
      repeat (first | refine go_ ?_ | intro _)
      refine cat_ ?_
      repeat (first | refine go_ ?_ | intro _)
      refine Or.inl ⟨⟨_, Tryz.func33, rfl, rfl⟩, ACall.mono ?_ (ka _)⟩
      rintro _ S1 ⟨rfl, hS1⟩
      subst S1
      repeat (first | refine go_ ?_ | intro _)
      refine cat_ ?_
      repeat (first | refine go_ ?_ | intro _)
      refine cat_ ?_
      repeat (first | refine go_ ?_ | intro _)
      refine AW_ret ?_
      repeat (first | refine ⟨0, rfl, ?_⟩ | refine ⟨1, rfl, ?_⟩ | refine ⟨2, rfl, ?_⟩ | refine ⟨3, rfl, ?_⟩ | refine ⟨4, rfl, ?_⟩ | refine ⟨5, rfl, ?_⟩ | refine ⟨6, rfl, ?_⟩)
      refine ⟨_, R, AVle.eq ?_, (by repeat (first | exact SLe.rfl | refine SLe.tail ?_)), rfl, rfl⟩
      exact congrArg AV.str (show ((((((showT x ++ [32, 61, 32]) ++ [109, 97, 120, 32]) ++ showT y) ++ [32, 58, 32, 123, 32]) ++ showA a) ++ [32, 125]) = _ by rw [e]; simp)
end Go.Proofs.YtljdbkieofhblaaGreatDoor
