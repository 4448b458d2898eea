/-
  Streams behind each other, and the rows that are read: plain. Own work.
-/
import Derived.Test.YtgkjbpnmeeibbaaGreatDoorQ11
set_option linter.all false
namespace Go.Proofs.YtgkjbpnmeeibbaaGreatDoor
open Go.Aw Go.RowKit Tree
open Rel (V encV encR foldPut Cl cleanV cleanR riseB)

theorem linesL_app (t : List UInt8) : ∀ (n : Nat) (s : List UInt8), s.length ≤ n → linesL (s ++ 10 :: t) = linesL (s ++ [10]) ++ linesL t := by
  intro n
  induction n with
  | zero =>
    intro s h
    obtain rfl : s = [] := List.length_eq_zero_iff.1 (by omega)
    rw [linesL_at (by simp), linesL_at (by simp), linesL_nil]; rfl
  | succ n ih =>
    intro s h
    rcases byte_at 10 s with hc | ⟨w, r, rfl, hc⟩
    · rw [linesL_at hc, linesL_at hc, linesL_nil]; rfl
    · simp only [List.length_append, List.length_cons] at h
      rw [List.append_assoc, List.cons_append, linesL_at hc, List.append_assoc, List.cons_append, linesL_at hc, ih r (by omega)]; rfl
/-- a text that is empty, or at whose end a line ends -/
def EndsL (u : List UInt8) : Prop := u = [] ∨ ∃ w, u = w ++ [10]
theorem linesL_ends {u : List UInt8} (h : EndsL u) (t : List UInt8) : linesL (u ++ t) = linesL u ++ linesL t := by
  rcases h with rfl | ⟨w, rfl⟩
  · rw [linesL_nil]; rfl
  · rw [List.append_assoc]; exact linesL_app t _ w (Nat.le_refl _)
theorem linesL_split : ∀ (n : Nat) (s : List UInt8), s.length ≤ n → ∃ u v, s = u ++ v ∧ (10 : UInt8) ∉ v ∧ EndsL u := by
  intro n
  induction n with
  | zero =>
    intro s h
    obtain rfl : s = [] := List.length_eq_zero_iff.1 (by omega)
    exact ⟨[], [], rfl, by simp, .inl rfl⟩
  | succ n ih =>
    intro s h
    rcases byte_at 10 s with hc | ⟨w, r, rfl, hc⟩
    · exact ⟨[], s, rfl, hc, .inl rfl⟩
    · simp only [List.length_append, List.length_cons] at h
      obtain ⟨u, v, rfl, h1, h2⟩ := ih r (by omega)
      refine ⟨w ++ 10 :: u, v, by simp, h1, .inr ?_⟩
      rcases h2 with rfl | ⟨x, rfl⟩
      · exact ⟨w, rfl⟩
      · exact ⟨w ++ 10 :: x, by simp⟩
theorem ends_all : ∀ (n : Nat) (w : List UInt8), w.length ≤ n → (∀ x ∈ linesL (w ++ [10]), x.2 = true) ∧ (linesL (w ++ [10])).length = w.count 10 + 1 := by
  intro n
  induction n with
  | zero =>
    intro s h
    obtain rfl : s = [] := List.length_eq_zero_iff.1 (by omega)
    rw [linesL_at (by simp), linesL_nil]
    exact ⟨fun x hx => by rw [List.mem_singleton.1 hx], rfl⟩
  | succ n ih =>
    intro s h
    rcases byte_at 10 s with hc | ⟨w, r, rfl, hc⟩
    · rw [linesL_at hc, linesL_nil, List.count_eq_zero.2 hc]
      exact ⟨fun x hx => by rw [List.mem_singleton.1 hx], rfl⟩
    · simp only [List.length_append, List.length_cons] at h
      rw [List.append_assoc, List.cons_append, linesL_at hc]
      obtain ⟨h1, h2⟩ := ih r (by omega)
      refine ⟨fun x hx => ?_, ?_⟩
      · rcases List.mem_cons.1 hx with rfl | hx
        · rfl
        · exact h1 x hx
      · rw [List.length_cons, h2, List.count_append, List.count_cons, List.count_eq_zero.2 hc]; simp
theorem linesL_tail {u v : List UInt8} (h : EndsL u) (hv : (10 : UInt8) ∉ v) : linesL (u ++ v) = linesL u ++ if v = [] then [] else [(v, false)] := by
  rw [linesL_ends h]
  by_cases hn : v = []
  · subst hn; rw [if_pos rfl, linesL_nil]
  · rw [if_neg hn, linesL_no hv hn]
theorem all_ends {s : List UInt8} (h : ∀ x ∈ linesL s, x.2 = true) : EndsL s := by
  obtain ⟨u, v, rfl, hv, hu⟩ := linesL_split _ s (Nat.le_refl _)
  rw [linesL_tail hu hv] at h
  by_cases hn : v = []
  · subst hn; rw [List.append_nil]; exact hu
  · rw [if_neg hn] at h
    have := h (v, false) (List.mem_append_right _ (.head _))
    cases this
theorem EndsL.app {s t : List UInt8} (h : EndsL s) (k : EndsL t) : EndsL (s ++ t) := by
  rcases k with rfl | ⟨w, rfl⟩
  · rw [List.append_nil]; exact h
  · exact .inr ⟨s ++ w, by simp⟩
theorem EndsL.last {s t : List UInt8} (ht : t ≠ []) (h : EndsL (s ++ t)) : EndsL t := by
  rcases h with h | ⟨w, h⟩
  · exact absurd (List.append_eq_nil_iff.1 h).2 ht
  · refine .inr ⟨t.dropLast, ?_⟩
    have h1 : (s ++ t).getLast? = some 10 := by rw [h]; simp
    have h2 := List.getLast?_eq_some_getLast ht
    rw [List.getLast?_append, h2] at h1
    have h3 := Option.some.inj h1
    conv => lhs; rw [← List.dropLast_concat_getLast ht, h3]

/-! ### the first line that is none -/
def firstX (p : Pr) : List (List UInt8 × Bool) → Option (Nat × Int)
  | [] => none
  | x :: L => if codeX p x = 0 then (firstX p L).map (fun y => (y.1 + 1, y.2)) else some (0, codeX p x)
theorem firstX_find (p : Pr) : ∀ L : List (List UInt8 × Bool), firstX p L = (L.findIdx? (fun x => !decide (codeX p x = 0))).map (fun i => (i, codeX p (L[i]?.getD ([], false))))
  | [] => rfl
  | x :: L => by
    rw [firstX, List.findIdx?_cons, firstX_find p L]
    by_cases h : codeX p x = 0
    · rw [if_pos h, decide_eq_true h]
      cases List.findIdx? (fun x => !decide (codeX p x = 0)) L with
      | none => rfl
      | some i => rfl
    · rw [if_neg h, decide_eq_false h]; rfl
theorem readX_first (p : Pr) (s : List UInt8) : readX p s = match firstX p (linesL s) with
  | some y => ([], ((y.1 + 1 : Nat) : Int), y.2)
  | none => (outX p (linesL s), 0, 0) := by
  rw [readX, firstX_find]
  cases List.findIdx? (fun x => !decide (codeX p x = 0)) (linesL s) with
  | none => rfl
  | some i => rfl
theorem firstX_app (p : Pr) (B : List (List UInt8 × Bool)) : ∀ A : List (List UInt8 × Bool), firstX p (A ++ B) = (match firstX p A with | some y => some y | none => (firstX p B).map (fun y => (y.1 + A.length, y.2)))
  | [] => by
    show firstX p B = (firstX p B).map _
    cases firstX p B with
    | none => rfl
    | some y => rfl
  | x :: A => by
    rw [List.cons_append, firstX, firstX, firstX_app p B A]
    by_cases h : codeX p x = 0
    · rw [if_pos h, if_pos h]
      cases firstX p A with
      | some y => rfl
      | none =>
        cases firstX p B with
        | none => rfl
        | some y => simp [Nat.add_assoc]
    · rw [if_neg h, if_neg h]
theorem firstX_some {p : Pr} : ∀ {L : List (List UInt8 × Bool)} {y : Nat × Int}, firstX p L = some y → y.2 ≠ 0 ∧ y.1 < L.length ∧ ∃ x ∈ L, codeX p x = y.2
  | [], y, h => by cases h
  | x :: L, y, h => by
    rw [firstX] at h
    by_cases h0 : codeX p x = 0
    · rw [if_pos h0] at h
      cases hf : firstX p L with
      | none => rw [hf] at h; cases h
      | some z =>
        rw [hf] at h
        obtain ⟨h1, h2, x', h3, h4⟩ := firstX_some hf
        obtain rfl := Option.some.inj h
        exact ⟨h1, by simp only [List.length_cons]; omega, x', .tail _ h3, h4⟩
    · rw [if_neg h0] at h
      obtain rfl := Option.some.inj h
      exact ⟨h0, by simp, x, .head _, rfl⟩
theorem firstX_none {p : Pr} : ∀ {L : List (List UInt8 × Bool)}, firstX p L = none → ∀ x ∈ L, codeX p x = 0
  | [], _, x, hx => by cases hx
  | y :: L, h, x, hx => by
    rw [firstX] at h
    by_cases h0 : codeX p y = 0
    · rw [if_pos h0] at h
      cases hf : firstX p L with
      | some z => rw [hf] at h; cases h
      | none =>
        rcases List.mem_cons.1 hx with rfl | hx
        · exact h0
        · exact firstX_none hf x hx
    · rw [if_neg h0] at h; cases h
theorem codeX_open (p : Pr) (v : List UInt8) : codeX p (v, false) = 92 := by simp [codeX]
theorem codeX_ended {p : Pr} {x : List UInt8 × Bool} (h : codeX p x = 0) : x.2 = true := by
  cases hx : x.2 with
  | true => rfl
  | false => rw [codeX, hx] at h; simp at h
/-- a stream's fault: none, or which line and what -/
def faultX (p : Pr) (s : List UInt8) : Option (Nat × Int) := firstX p (linesL s)
theorem fault_ends {p : Pr} {s : List UInt8} (h : faultX p s = none) : EndsL s := all_ends fun x hx => codeX_ended (firstX_none h x hx)
theorem fault_app {p : Pr} {s : List UInt8} (h : EndsL s) (t : List UInt8) : faultX p (s ++ t) = match faultX p s with
  | some y => some y
  | none => (faultX p t).map (fun y => (y.1 + (linesL s).length, y.2)) := by
  rw [faultX, linesL_ends h, firstX_app]; rfl
/-- a row's fault is one whatever stands behind the stream -/
theorem fault_row {p : Pr} {s : List UInt8} {y : Nat × Int} (h : faultX p s = some y) (h2 : y.2 ≠ 92) (t : List UInt8) : faultX p (s ++ t) = some y := by
  obtain ⟨u, v, rfl, hv, hu⟩ := linesL_split _ s (Nat.le_refl _)
  rw [fault_app hu] at h
  rw [List.append_assoc, fault_app hu]
  cases hf : faultX p u with
  | some z => rw [hf] at h; exact h
  | none =>
    rw [hf] at h
    exfalso
    by_cases hn : v = []
    · subst hn; rw [faultX, linesL_nil] at h; cases h
    · rw [faultX, linesL_no hv hn, firstX, codeX_open, if_neg (by decide)] at h
      obtain rfl := Option.some.inj h
      exact h2 rfl
/-- .. and ahead of it, if it is told that there is none -/
theorem fault_in {p : Pr} {s : List UInt8} {y : Nat × Int} (h : faultX p s = some y) (h2 : y.2 ≠ 92) (t : List UInt8) : faultX p (t ++ (s ++ t)) ≠ none := by
  intro hn
  by_cases ht : t = []
  · subst ht
    rw [List.nil_append, fault_row h h2] at hn; cases hn
  have he : EndsL t := by
    have := fault_ends hn
    rw [← List.append_assoc] at this
    exact EndsL.last ht this
  rw [fault_app he] at hn
  cases hf : faultX p t with
  | some z => rw [hf] at hn; cases hn
  | none =>
    rw [hf, fault_row h h2] at hn; cases hn

/-! ### the rows -/
def rowIn (p : Pr) (xs : List (List UInt8 × Bool)) (k : Nat) (r : List V) : Prop := ∃ x ∈ xs, (rowL p x.1).1 = k ∧ (rowL p x.1).2.1 = r
theorem fold_mem (p : Pr) (k : Nat) (r : List V) : ∀ (xs : List (List UInt8 × Bool)) (o : Rows), (∀ x ∈ xs, (rowL p x.1).1 < o.length) → (r ∈ (xs.foldl (addX p) o)[k]?.getD [] ↔ r ∈ o[k]?.getD [] ∨ rowIn p xs k r)
  | [], o, _ => by simp [rowIn]
  | x :: xs, o, h => by
    have hx := h x (.head _)
    rw [List.foldl_cons, fold_mem p k r xs (addX p o x) (fun y hy => by rw [addX, putX_len]; exact h y (.tail _ hy))]
    have e : r ∈ (addX p o x)[k]?.getD [] ↔ r ∈ o[k]?.getD [] ∨ ((rowL p x.1).1 = k ∧ (rowL p x.1).2.1 = r) := by
      rw [addX, putX, List.getElem?_set]
      by_cases hk : (rowL p x.1).1 = k
      · rw [if_pos hk, if_pos hx]
        simp only [Option.getD_some, List.mem_append, List.mem_singleton, hk, true_and]
        constructor
        · rintro (h | h)
          · exact .inl h
          · exact .inr h.symm
        · rintro (h | h)
          · exact .inl h
          · exact .inr h.symm
      · rw [if_neg hk]
        constructor
        · exact .inl
        · rintro (h | ⟨h, _⟩)
          · exact h
          · exact absurd h hk
    rw [e]
    simp only [rowIn, List.mem_cons, exists_eq_or_imp]
    constructor
    · rintro ((h | h) | h)
      · exact .inl h
      · exact .inr (.inl h)
      · exact .inr (.inr h)
    · rintro (h | h | h)
      · exact .inl (.inl h)
      · exact .inl (.inr h)
      · exact .inr h
theorem outX_mem {p : Pr} {xs : List (List UInt8 × Bool)} (h : ∀ x ∈ xs, codeX p x = 0) (k : Nat) (r : List V) : r ∈ (outX p xs)[k]?.getD [] ↔ rowIn p xs k r := by
  rw [outX, fold_mem p k r xs _ (fun x hx => by
    have h0 := h x hx
    rw [List.length_replicate]
    refine rowL_at ?_
    rw [codeX, if_pos (codeX_ended h0)] at h0
    exact h0)]
  have : ¬ r ∈ (List.replicate p.decls.length ([] : List (List V)))[k]?.getD [] := by
    rw [List.getElem?_replicate]
    split <;> simp
  constructor
  · rintro (h | h)
    · exact absurd h this
    · exact h
  · exact .inr
theorem valL_clean (s : List UInt8) (k : Int) : cleanV (valL s k).1 = true := by
  rw [valL]
  split
  · split <;> rfl
  · split <;> rfl
theorem valsL_clean : ∀ (ss : List (List UInt8)) (ks : List Int), cleanR (valsL ss ks).1 = true
  | [], _ => rfl
  | _ :: _, [] => rfl
  | s :: ss, k :: ks => by
    rw [valsL]
    split
    · split
      · show ((valL s k).1 :: (valsL ss ks).1).all cleanV = true
        rw [List.all_cons, valL_clean, Bool.true_and]; exact valsL_clean ss ks
      · rfl
    · rfl
theorem rowL_clean (p : Pr) (s : List UInt8) : cleanR (rowL p s).2.1 = true := by
  cases hf : p.decls.findIdx? (namedB ((splitC 9 s).headD [])) with
  | none => rw [rowL_none hf]; rfl
  | some n =>
    obtain ⟨hn, _, _⟩ := List.findIdx?_eq_some_iff_getElem.1 hf
    rw [rowL_some hf (List.getElem?_eq_getElem hn)]
    split
    · split
      · split
        · exact valsL_clean _ _
        · rfl
      · rfl
    · rfl
theorem outX_clean {p : Pr} {xs : List (List UInt8 × Bool)} (h : ∀ x ∈ xs, codeX p x = 0) {l : List (List V)} (hl : l ∈ outX p xs) : Cl l := by
  intro r hr
  obtain ⟨k, hk, rfl⟩ := List.mem_iff_getElem.1 hl
  have : r ∈ (outX p xs)[k]?.getD [] := by rw [List.getElem?_eq_getElem hk]; exact hr
  obtain ⟨x, _, _, rfl⟩ := (outX_mem h k r).1 this
  exact rowL_clean p x.1
/-- what is read, sorted -/
def sortX (o : Rows) : Rows := o.map (foldPut [])
theorem foldPut_same {a b : List (List V)} (ha : Cl a) (hb : Cl b) (h : ∀ x, x ∈ a ↔ x ∈ b) : foldPut [] a = foldPut [] b := by
  have h0 : Cl [] := fun r hr => by cases hr
  obtain ⟨_, r1, m1⟩ := Rel.foldPut_all a [] h0 ha rfl
  obtain ⟨_, r2, m2⟩ := Rel.foldPut_all b [] h0 hb rfl
  exact Rel.rise_ext r1 r2 fun x => by rw [m1, m2]; simp [h x]
theorem foldPut_rise {a : List (List V)} (ha : Cl a) (h : riseB a = true) : foldPut [] a = a := by
  have h0 : Cl [] := fun r hr => by cases hr
  obtain ⟨_, r1, m1⟩ := Rel.foldPut_all a [] h0 ha rfl
  exact Rel.rise_ext r1 h fun x => by rw [m1]; simp
theorem sortX_same {p : Pr} {xs ys : List (List UInt8 × Bool)} (hx : ∀ x ∈ xs, codeX p x = 0) (hy : ∀ x ∈ ys, codeX p x = 0) (h : ∀ x, x ∈ xs ↔ x ∈ ys) : sortX (outX p xs) = sortX (outX p ys) := by
  apply List.ext_getElem
  · rw [sortX, sortX, List.length_map, List.length_map, outX_len, outX_len]
  · intro k h1 h2
    rw [sortX, List.length_map] at h1 h2
    simp only [sortX, List.getElem_map]
    refine foldPut_same (outX_clean hx (List.getElem_mem h1)) (outX_clean hy (List.getElem_mem h2)) fun r => ?_
    have e1 := outX_mem hx k r
    have e2 := outX_mem hy k r
    rw [List.getElem?_eq_getElem h1] at e1
    rw [List.getElem?_eq_getElem h2] at e2
    rw [Option.getD_some] at e1 e2
    rw [e1, e2]
    constructor
    · rintro ⟨x, hx, h3⟩; exact ⟨x, (h x).1 hx, h3⟩
    · rintro ⟨x, hx, h3⟩; exact ⟨x, (h x).2 hx, h3⟩
/-- what Read answers -/
def resX (p : Pr) (s : List UInt8) : Rows × Int × Int := if rightP p = true then (if (readX p s).2.2 = 0 then (sortX (readX p s).1, 0, 0) else ([], (readX p s).2.1, (readX p s).2.2)) else ([], 0, 30)
end Go.Proofs.YtgkjbpnmeeibbaaGreatDoor
/-
  Lines of rows, and what is told: plain. Own work.
-/
namespace Go.Proofs.YtgkjbpnmeeibbaaGreatDoor
open Go.Aw Go.RowKit Tree
open Rel (V encV encR foldPut Cl cleanV cleanR riseB)

/-- is a value of a type? -/
def fitV (v : V) (k : Int) : Bool := if k = 1 then !v.sym && decide (v.s = []) else v.sym && decide (v.n = 0)
def fitR : List V → List Int → Bool
  | [], [] => true
  | v :: vs, k :: ks => fitV v k && fitR vs ks
  | _, _ => false
theorem fitR_len : ∀ {vs : List V} {ks : List Int}, fitR vs ks = true → vs.length = ks.length
  | [], [], _ => rfl
  | [], _ :: _, h => by cases h
  | _ :: _, [], h => by cases h
  | v :: vs, k :: ks, h => by
    rw [fitR, Bool.and_eq_true] at h
    rw [List.length_cons, List.length_cons, fitR_len h.2]
/-- a value's text -/
def wordL (v : V) : List UInt8 := if v.sym = true then quoteL v.s else Lib.itoa v.n
def fieldL (v : V) : List UInt8 := 9 :: wordL v
def textL (d : De) (t : List V) : List UInt8 := d.rel ++ t.flatMap fieldL
def lineL (d : De) (t : List V) : List UInt8 × Int := if fitR t d.types = true then (textL d t ++ [10], 0) else ([], 90)
def fitOne (d : De) (l : List (List V)) : Bool := riseB l && l.all fun t => fitR t d.types
def fitAll : Rows → List De → Bool
  | [], [] => true
  | l :: ls, d :: ds => fitOne d l && fitAll ls ds
  | _, _ => false
def tellAll : Rows → List De → List UInt8
  | l :: ls, d :: ds => (if d.out = true then l.flatMap (fun t => textL d t ++ [10]) else []) ++ tellAll ls ds
  | _, _ => []
def tellL (p : Pr) (all : Rows) : List UInt8 × Int := if rightP p = true then (if fitAll all p.decls = true then (tellAll all p.decls, 0) else ([], 90)) else ([], 30)

/-! ### bytes of texts -/
theorem oneL_ge (c : UInt8) : ∀ b ∈ oneL c, 32 ≤ b.toNat := by
  intro b hb
  have hx : ∀ i, i < 16 → 32 ≤ (hexd i).toNat := by decide
  unfold oneL at hb
  have hc := c.toNat_lt
  split at hb
  · simp only [List.mem_cons, List.not_mem_nil, or_false] at hb
    rcases hb with rfl | rfl
    · decide
    · omega
  · split at hb
    · simp only [List.mem_cons, List.not_mem_nil, or_false] at hb
      rcases hb with rfl | rfl <;> decide
    · split at hb
      · simp only [List.mem_cons, List.not_mem_nil, or_false] at hb
        rcases hb with rfl | rfl | rfl | rfl
        · decide
        · decide
        · exact hx _ (by omega)
        · exact hx _ (by omega)
      · simp only [List.mem_cons, List.not_mem_nil, or_false] at hb
        subst hb; omega
theorem wordL_ge (v : V) : ∀ b ∈ wordL v, 32 ≤ b.toNat := by
  intro b hb
  rw [wordL] at hb
  split at hb
  · rw [quoteL] at hb
    simp only [List.cons_append, List.mem_cons, List.mem_append, List.mem_flatMap, List.not_mem_nil, or_false] at hb
    rcases hb with rfl | ⟨c, _, hc⟩ | rfl
    · decide
    · exact oneL_ge c b hc
    · decide
  · rw [Lib.itoa] at hb
    have dig : ∀ u, ∀ c ∈ Lib.decDigits u, 32 ≤ c.toNat := fun u c hc => by
      have := dd_dig u c hc; omega
    split at hb
    · rcases List.mem_cons.1 hb with rfl | hb
      · decide
      · exact dig _ b hb
    · exact dig _ b hb
theorem nameB_ge {s : List UInt8} (h : nameB s = true) : ∀ b ∈ s, 32 ≤ b.toNat := fun b hb => by
  obtain ⟨i, hi, rfl⟩ := List.mem_iff_getElem.1 hb
  rw [nameB] at h
  simp only [Bool.and_eq_true, decide_eq_true_eq, Bool.not_eq_true', decide_eq_false_iff_not, List.all_eq_true, List.mem_range] at h
  have := h.2 i hi
  rw [List.getD_eq_getElem?_getD, List.getElem?_eq_getElem hi, Option.getD_some] at this
  simp only [okAt, letterB, digitB, Bool.or_eq_true, Bool.and_eq_true, decide_eq_true_eq] at this
  omega
theorem ge_not {l : List UInt8} (h : ∀ b ∈ l, 32 ≤ b.toNat) {c : UInt8} (hc : c.toNat < 32) : c ∉ l := fun hm => by have := h c hm; omega
theorem split_fields : ∀ (t : List V) (w : List UInt8), (9 : UInt8) ∉ w → splitC 9 (w ++ t.flatMap fieldL) = w :: t.map wordL
  | [], w, h => by rw [List.flatMap_nil, List.append_nil, splitC_no h]; rfl
  | v :: t, w, h => by
    rw [List.flatMap_cons, fieldL, List.cons_append, splitC_at _ h, split_fields t (wordL v) (ge_not (wordL_ge v) (by decide))]; rfl
theorem textL_line {d : De} {t : List V} (h : ∀ b ∈ d.rel, 32 ≤ b.toNat) : (10 : UInt8) ∉ textL d t := by
  rw [textL, List.mem_append]
  rintro (h1 | h1)
  · exact ge_not h (by decide) h1
  · obtain ⟨v, _, hv⟩ := List.mem_flatMap.1 h1
    rw [fieldL] at hv
    rcases List.mem_cons.1 hv with h2 | h2
    · exact absurd h2 (by decide)
    · exact ge_not (wordL_ge v) (by decide) h2

/-! ### a value is read back -/
theorem unqL_flat (t : List UInt8) : unqL (t.flatMap oneL) = some t := by
  induction t with
  | nil => exact unqL_nil
  | cons c t ih =>
    rw [List.flatMap_cons, unqL_some (dec1_one c _), ih]; rfl
theorem unq_quote (t : List UInt8) : unqS (quoteL t) = (t, 0) := by
  have hl := (quoteL_len t).1
  have hq : quoteL t = 34 :: (t.flatMap oneL ++ [34]) := by simp [quoteL]
  have h1 : (quoteL t).getD 0 0 = 34 := by rw [hq]; rfl
  have hm : (quoteL t).take ((quoteL t).length - 1) = 34 :: t.flatMap oneL := by rw [hq]; simp
  have h2 : (quoteL t).getD ((quoteL t).length - 1) 0 = 34 := by
    rw [hq]
    simp [List.getD_eq_getElem?_getD]
  rw [unqS, if_neg (by rintro (x | x | x) <;> first | omega | exact x h1 | exact x h2), hm]
  rw [List.drop_one, List.tail_cons, unqL_flat]
/-- values in their range -/
def inV (v : V) : Prop := inR64 v.n
theorem val_back {v : V} {k : Int} (h : fitV v k = true) (hn : inV v) : valL (wordL v) k = (v, 0) := by
  obtain ⟨b, n, s⟩ := v
  rw [fitV] at h
  rw [valL, wordL]
  by_cases hk : k = 1
  · rw [if_pos hk] at h ⊢
    simp only [Bool.and_eq_true, Bool.not_eq_true', decide_eq_true_eq] at h
    obtain ⟨rfl, rfl⟩ := h
    have hp : pnL (Lib.itoa n) = (n, 0) := pn_itoa hn
    simp only [Bool.false_eq_true, if_false]
    rw [hp]; rfl
  · rw [if_neg hk] at h ⊢
    simp only [Bool.and_eq_true, decide_eq_true_eq] at h
    obtain ⟨rfl, rfl⟩ := h
    simp only [if_true]
    rw [unq_quote]; rfl
theorem vals_back : ∀ {t : List V} {ks : List Int}, fitR t ks = true → (∀ v ∈ t, inV v) → valsL (t.map wordL) ks = (t, 0)
  | [], [], _, _ => rfl
  | [], _ :: _, h, _ => by cases h
  | _ :: _, [], h, _ => by cases h
  | v :: t, k :: ks, h, hn => by
    rw [fitR, Bool.and_eq_true] at h
    rw [List.map_cons, valsL, val_back h.1 (hn v (.head _)), vals_back h.2 fun u hu => hn u (.tail _ hu)]; rfl
theorem fitV_clean {v : V} {k : Int} (h : fitV v k = true) : cleanV v = true := by
  obtain ⟨b, n, s⟩ := v
  rw [fitV] at h
  split at h
  · simp only [Bool.and_eq_true, Bool.not_eq_true', decide_eq_true_eq] at h
    obtain ⟨rfl, rfl⟩ := h; rfl
  · simp only [Bool.and_eq_true, decide_eq_true_eq] at h
    obtain ⟨rfl, rfl⟩ := h; rfl
theorem fitR_clean : ∀ {t : List V} {ks : List Int}, fitR t ks = true → cleanR t = true
  | [], _, _ => rfl
  | _ :: _, [], h => by cases h
  | v :: t, k :: ks, h => by
    rw [fitR, Bool.and_eq_true] at h
    have := fitR_clean h.2
    rw [cleanR] at this ⊢
    rw [List.all_cons, fitV_clean h.1, this]; rfl
/-- values of one type with one text are one -/
theorem word_inj {u v : V} {k : Int} (hu : fitV u k = true) (hv : fitV v k = true) (nu : inV u) (nv : inV v) (h : wordL u = wordL v) : u = v := by
  have h1 := val_back hu nu
  have h2 := val_back hv nv
  rw [h, h2] at h1
  exact (Prod.mk.inj h1).1.symm
theorem words_inj : ∀ {s t : List V} {ks : List Int}, fitR s ks = true → fitR t ks = true → (∀ v ∈ s, inV v) → (∀ v ∈ t, inV v) → s.map wordL = t.map wordL → s = t
  | [], [], _, _, _, _, _, _ => rfl
  | [], _ :: _, _, _, _, _, _, h => by simp at h
  | _ :: _, [], _, _, _, _, _, h => by simp at h
  | u :: s, v :: t, [], h1, _, _, _, _ => by cases h1
  | u :: s, v :: t, k :: ks, h1, h2, h3, h4, h => by
    rw [fitR, Bool.and_eq_true] at h1 h2
    rw [List.map_cons, List.map_cons] at h
    obtain ⟨e1, e2⟩ := List.cons.inj h
    rw [word_inj h1.1 h2.1 (h3 u (.head _)) (h4 v (.head _)) e1, words_inj h1.2 h2.2 (fun x hx => h3 x (.tail _ hx)) (fun x hx => h4 x (.tail _ hx)) e2]
theorem fields_inj {s t : List V} (h : s.flatMap fieldL = t.flatMap fieldL) : s.map wordL = t.map wordL := by
  have h1 := split_fields s [] (by simp)
  rw [List.nil_append, h] at h1
  have h2 := split_fields t [] (by simp)
  rw [List.nil_append, h1] at h2
  exact (List.cons.inj h2).2
/-- FactsApart, plain -/
theorem line_apart {d : De} {s t : List V} (h1 : (lineL d s).2 = 0) (h2 : (lineL d t).2 = 0) (h3 : ∀ v ∈ s, inV v) (h4 : ∀ v ∈ t, inV v) : (lineL d s).1 = (lineL d t).1 ↔ s = t := by
  constructor
  · intro h
    rw [lineL] at h1 h
    split at h1
    · rename_i f1
      rw [if_pos f1, lineL] at h
      rw [lineL] at h2
      split at h2
      · rename_i f2
        rw [if_pos f2] at h
        have := List.append_cancel_right h
        rw [textL, textL] at this
        exact words_inj f1 f2 h3 h4 (fields_inj (List.append_cancel_left this))
      · cases h2
    · cases h1
  · rintro rfl; rfl
theorem rel_apart {c d : De} {s : List V} (h1 : (lineL d s).2 = 0) (h2 : (lineL c s).2 = 0) (hl : c.rel.length = d.rel.length) : (lineL c s).1 = (lineL d s).1 ↔ c.rel = d.rel := by
  rw [lineL] at h1 h2
  split at h1
  · split at h2
    · rename_i f1 f2
      rw [lineL, if_pos f2, lineL, if_pos f1]
      constructor
      · intro h
        have := List.append_cancel_right h
        rw [textL, textL] at this
        exact (List.append_inj this hl).1
      · intro h
        show textL c s ++ [10] = textL d s ++ [10]
        rw [textL, textL, h]
    · cases h2
  · cases h1

/-! ### what is told is read back -/
def bothD (d : De) : De := { d with inp := true, out := true }
def bothP (p : Pr) : Pr := ⟨p.decls.map bothD, []⟩
/-- the lines that are told, one by one -/
def toldL : Rows → List De → List (List UInt8)
  | l :: ls, d :: ds => l.map (textL d) ++ toldL ls ds
  | _, _ => []
theorem tell_lines : ∀ (all : Rows) (ds : List De), (∀ d ∈ ds, d.out = true) → (∀ d ∈ ds, ∀ b ∈ d.rel, 32 ≤ b.toNat) → tellAll all ds = (toldL all ds).flatMap (fun w => w ++ [10]) ∧ ∀ w ∈ toldL all ds, (10 : UInt8) ∉ w
  | [], _, _, _ => ⟨rfl, fun w hw => by cases hw⟩
  | _ :: _, [], _, _ => ⟨rfl, fun w hw => by cases hw⟩
  | l :: ls, d :: ds, h1, h2 => by
    obtain ⟨i1, i2⟩ := tell_lines ls ds (fun x hx => h1 x (.tail _ hx)) (fun x hx => h2 x (.tail _ hx))
    rw [tellAll, if_pos (h1 d (.head _)), toldL, i1]
    refine ⟨?_, fun w hw => ?_⟩
    · rw [List.flatMap_append, List.flatMap_map]
    · rcases List.mem_append.1 hw with hw | hw
      · obtain ⟨t, _, rfl⟩ := List.mem_map.1 hw
        exact textL_line (h2 d (.head _))
      · exact i2 w hw
theorem lines_flat : ∀ {ws : List (List UInt8)}, (∀ w ∈ ws, (10 : UInt8) ∉ w) → linesL (ws.flatMap (fun w => w ++ [10])) = ws.map fun w => (w, true)
  | [], _ => linesL_nil
  | w :: ws, h => by
    rw [List.flatMap_cons, List.append_assoc]
    show linesL (w ++ 10 :: ws.flatMap (fun w => w ++ [10])) = _
    rw [linesL_at (h w (.head _)), lines_flat fun x hx => h x (.tail _ hx)]; rfl
/-- no two relations have one name -/
def apartD (ds : List De) : Prop := ∀ (i j : Nat) (hi : i < ds.length) (hj : j < ds.length), ds[i].rel = ds[j].rel → i = j
theorem find_at {ds : List De} (h : apartD ds) {i : Nat} (hi : i < ds.length) : ds.findIdx? (namedB ds[i].rel) = some i := by
  refine List.findIdx?_eq_some_iff_getElem.2 ⟨hi, by simp [namedB], fun j hj => ?_⟩
  simp only [namedB, decide_eq_true_eq]
  intro e
  have := h j i (by omega) hi e
  omega
theorem row_back {p : Pr} (ha : apartD p.decls) {i : Nat} (hi : i < p.decls.length) (hin : p.decls[i].inp = true) (hr : ∀ b ∈ p.decls[i].rel, 32 ≤ b.toNat) {t : List V} (hf : fitR t p.decls[i].types = true) (hn : ∀ v ∈ t, inV v) : rowL p (textL p.decls[i] t) = (i, t, 0) := by
  have hs : splitC 9 (textL p.decls[i] t) = p.decls[i].rel :: t.map wordL := split_fields t _ (ge_not hr (by decide))
  have hl := fitR_len hf
  rw [rowL_some (n := i) (d := p.decls[i]) (by rw [hs]; exact find_at ha hi) (List.getElem?_eq_getElem hi), if_pos hin, hs]
  rw [if_pos (by simp [hl])]
  rw [List.drop_one, List.tail_cons, vals_back hf hn]; rfl
theorem fitAll_at : ∀ {all : Rows} {ds : List De}, fitAll all ds = true → all.length = ds.length ∧ ∀ (i : Nat) (h : i < all.length) (h' : i < ds.length), fitOne ds[i] all[i] = true
  | [], [], _ => ⟨rfl, fun i h => absurd h (Nat.not_lt_zero _)⟩
  | [], _ :: _, h => by cases h
  | _ :: _, [], h => by cases h
  | l :: ls, d :: ds, h => by
    rw [fitAll, Bool.and_eq_true] at h
    obtain ⟨i1, i2⟩ := fitAll_at h.2
    refine ⟨by rw [List.length_cons, List.length_cons, i1], fun i h1 h2 => ?_⟩
    cases i with
    | zero => exact h.1
    | succ i => exact i2 i (by simpa using h1) (by simpa using h2)
theorem toldL_mem : ∀ (all : Rows) (ds : List De) (w : List UInt8), w ∈ toldL all ds ↔ ∃ (i : Nat) (h : i < all.length) (h' : i < ds.length) (t : List V), t ∈ all[i] ∧ w = textL ds[i] t
  | [], _, w => by
    constructor
    · intro h; cases h
    · rintro ⟨i, h, _⟩; exact absurd h (Nat.not_lt_zero _)
  | _ :: _, [], w => by
    constructor
    · intro h; cases h
    · rintro ⟨i, _, h, _⟩; exact absurd h (Nat.not_lt_zero _)
  | l :: ls, d :: ds, w => by
    rw [toldL, List.mem_append, toldL_mem ls ds w]
    constructor
    · rintro (h | ⟨i, h1, h2, t, h3, h4⟩)
      · obtain ⟨t, ht, rfl⟩ := List.mem_map.1 h
        exact ⟨0, by simp, by simp, t, ht, rfl⟩
      · exact ⟨i + 1, by simpa using h1, by simpa using h2, t, h3, h4⟩
    · rintro ⟨i, h1, h2, t, h3, h4⟩
      cases i with
      | zero => exact .inl (List.mem_map.2 ⟨t, h3, h4.symm⟩)
      | succ i => exact .inr ⟨i, by simpa using h1, by simpa using h2, t, h3, h4⟩
/-- FactsBack, plain -/
theorem tell_back {p : Pr} (ha : apartD p.decls) (hin : ∀ d ∈ p.decls, d.inp = true) (hout : ∀ d ∈ p.decls, d.out = true) (hr : ∀ d ∈ p.decls, ∀ b ∈ d.rel, 32 ≤ b.toNat) {all : Rows} (hf : fitAll all p.decls = true) (hn : ∀ l ∈ all, ∀ t ∈ l, ∀ v ∈ t, inV v) :
    faultX p (tellAll all p.decls) = none ∧ sortX (outX p (linesL (tellAll all p.decls))) = all := by
  obtain ⟨e1, e2⟩ := tell_lines all p.decls hout hr
  obtain ⟨hl, hfi⟩ := fitAll_at hf
  have hL : linesL (tellAll all p.decls) = (toldL all p.decls).map fun w => (w, true) := by rw [e1]; exact lines_flat e2
  have hrow : ∀ (i : Nat) (h : i < all.length) (h' : i < p.decls.length) (t : List V), t ∈ all[i] → rowL p (textL p.decls[i] t) = (i, t, 0) := fun i h h' t ht => by
    have hd := List.getElem_mem h'
    have h1 := hfi i h h'
    rw [fitOne, Bool.and_eq_true, List.all_eq_true] at h1
    exact row_back ha h' (hin _ hd) (hr _ hd) (h1.2 t ht) (hn _ (List.getElem_mem h) t ht)
  have h0 : ∀ x ∈ linesL (tellAll all p.decls), codeX p x = 0 := fun x hx => by
    rw [hL] at hx
    obtain ⟨w, hw, rfl⟩ := List.mem_map.1 hx
    obtain ⟨i, h1, h2, t, h3, rfl⟩ := (toldL_mem all p.decls w).1 hw
    rw [codeX, if_pos rfl, hrow i h1 h2 t h3]
  refine ⟨?_, ?_⟩
  · rw [faultX, firstX_find, List.findIdx?_eq_none_iff.2 fun x hx => by rw [h0 x hx]; rfl]; rfl
  · apply List.ext_getElem
    · rw [sortX, List.length_map, outX_len, hl]
    · intro k h1 h2
      rw [sortX, List.length_map, outX_len] at h1
      have h1' : k < (outX p (linesL (tellAll all p.decls))).length := by rw [outX_len]; exact h1
      simp only [sortX, List.getElem_map]
      have hfk := hfi k h2 h1
      rw [fitOne, Bool.and_eq_true, List.all_eq_true] at hfk
      have hck : Cl all[k] := fun r hr => fitR_clean (hfk.2 r hr)
      rw [← foldPut_rise hck hfk.1]
      refine foldPut_same (outX_clean h0 (List.getElem_mem h1')) hck fun r => ?_
      have e3 := outX_mem h0 k r
      rw [List.getElem?_eq_getElem h1', Option.getD_some] at e3
      rw [e3]
      constructor
      · rintro ⟨x, hx, h3, h4⟩
        rw [hL] at hx
        obtain ⟨w, hw, rfl⟩ := List.mem_map.1 hx
        obtain ⟨i, h5, h6, t, h7, rfl⟩ := (toldL_mem all p.decls w).1 hw
        rw [hrow i h5 h6 t h7] at h3 h4
        simp only [] at h3 h4
        subst h3 h4
        exact h7
      · intro hr'
        refine ⟨(textL p.decls[k] r, true), ?_, ?_, ?_⟩
        · rw [hL]; exact List.mem_map.2 ⟨_, (toldL_mem all p.decls _).2 ⟨k, h2, h1, r, hr', rfl⟩, rfl⟩
        · rw [hrow k h2 h1 r hr']
        · rw [hrow k h2 h1 r hr']
end Go.Proofs.YtgkjbpnmeeibbaaGreatDoor
