/-
  Expressions' texts: nothing else reads so. Own work.
-/
import Derived.Test.YtnkmjbjpmocnbaaDoorP16
import Derived.Test.YtnkmjbjpmocnbaaDoorP2
set_option linter.all false
namespace Go.Proofs.YtnkmjbjpmocnbaaDoor
open Go.Aw Go.RowKit

/-- bytes of names and numbers -/
def wordB (c : UInt8) : Bool := letterB c || digitB c
/-- what stands behind a word -/
def stopB (l : List UInt8) : Prop := ∀ c, l.head? = some c → wordB c = false
theorem stop_cons {c : UInt8} {l : List UInt8} (h : wordB c = false) : stopB (c :: l) := fun d hd => by
  obtain rfl : c = d := by simpa using hd
  exact h
theorem word_cut : ∀ {s t X Y : List UInt8}, (∀ c ∈ s, wordB c = true) → (∀ c ∈ t, wordB c = true) → stopB X → stopB Y → s ++ X = t ++ Y → s = t ∧ X = Y
  | [], [], _, _, _, _, _, _, h => ⟨rfl, h⟩
  | [], b :: t, X, Y, _, h2, h3, _, h => by
    rw [List.nil_append] at h
    subst h
    have := h3 b rfl
    rw [h2 b (.head _)] at this; cases this
  | a :: s, [], X, Y, h1, _, _, h4, h => by
    rw [List.nil_append] at h
    subst h
    have := h4 a rfl
    rw [h1 a (.head _)] at this; cases this
  | a :: s, b :: t, X, Y, h1, h2, h3, h4, h => by
    obtain ⟨h5, h6⟩ := List.cons.inj h
    obtain ⟨h7, h8⟩ := word_cut (fun c hc => h1 c (.tail _ hc)) (fun c hc => h2 c (.tail _ hc)) h3 h4 h6
    exact ⟨by rw [h5, h7], h8⟩
theorem name_at {s : List UInt8} (h : nameB s = true) : s ≠ [95] ∧ 1 ≤ s.length ∧ ∀ (j : Nat) (hj : j < s.length), okAt j s[j] = true := by
  rw [nameB] at h
  simp only [Bool.and_eq_true, decide_eq_true_eq, Bool.not_eq_true', decide_eq_false_iff_not, List.all_eq_true, List.mem_range] at h
  refine ⟨h.1.2, h.1.1.1, fun j hj => ?_⟩
  have := h.2 j hj
  rwa [List.getD_eq_getElem?_getD, List.getElem?_eq_getElem hj] at this
theorem name_words {s : List UInt8} (h : nameB s = true) : ∀ c ∈ s, wordB c = true := fun c hc => by
  obtain ⟨i, hi, rfl⟩ := List.mem_iff_getElem.1 hc
  have := (name_at h).2.2 i hi
  simp only [okAt, wordB, Bool.or_eq_true, Bool.and_eq_true] at this ⊢
  rcases this with h | h
  · exact .inl h
  · exact .inr h.2
theorem name_first {s : List UInt8} (h : nameB s = true) : ∃ c r, s = c :: r ∧ letterB c = true := by
  obtain ⟨_, h2, h3⟩ := name_at h
  cases s with
  | nil => simp at h2
  | cons c r =>
    have := h3 0 (by simp)
    exact ⟨c, r, rfl, by simpa [okAt] using this⟩
theorem dig_word {u : Nat} : ∀ c ∈ Lib.decDigits u, wordB c = true := fun c hc => by
  have := dd_dig u c hc
  simp [wordB, digitB, this.1, this.2]
theorem itoa_pos {n : Int} (h : 0 ≤ n) : Lib.itoa n = Lib.decDigits n.toNat := by rw [Lib.itoa, if_neg (by omega)]
theorem itoa_words {n : Int} (h : 0 ≤ n) : ∀ c ∈ Lib.itoa n, wordB c = true := by rw [itoa_pos h]; exact dig_word
theorem itoa_first {n : Int} (h : 0 ≤ n) : ∃ c r, Lib.itoa n = c :: r ∧ digitB c = true := by
  rw [itoa_pos h]
  obtain ⟨c, r, hc, h1, h2⟩ := dd_cons n.toNat
  exact ⟨c, r, hc, by simp [digitB, h1, h2]⟩
theorem dec1_34 (X : List UInt8) : dec1 (34 :: X) = none := rfl
theorem quote_cut : ∀ {s t X Y : List UInt8}, s.flatMap oneL ++ (34 :: X) = t.flatMap oneL ++ (34 :: Y) → s = t ∧ X = Y
  | [], [], X, Y, h => ⟨rfl, (List.cons.inj h).2⟩
  | [], b :: t, X, Y, h => by
    simp only [List.flatMap_nil, List.nil_append, List.flatMap_cons, List.append_assoc] at h
    have h1 := dec1_34 X
    rw [h, dec1_one] at h1; cases h1
  | a :: s, [], X, Y, h => by
    simp only [List.flatMap_nil, List.nil_append, List.flatMap_cons, List.append_assoc] at h
    have h1 := dec1_34 Y
    rw [← h, dec1_one] at h1; cases h1
  | a :: s, b :: t, X, Y, h => by
    simp only [List.flatMap_cons, List.append_assoc] at h
    obtain ⟨h1, h2⟩ := oneL_cut h
    obtain ⟨h3, h4⟩ := quote_cut h2
    exact ⟨by rw [h1, h3], h4⟩
theorem sym_cut {s t X Y : List UInt8} (h : quoteL s ++ X = quoteL t ++ Y) : s = t ∧ X = Y := by
  unfold quoteL at h
  rw [List.cons_append, List.cons_append, List.cons_append, List.cons_append] at h
  have h1 := (List.cons.inj h).2
  rw [List.append_assoc, List.append_assoc] at h1
  exact quote_cut h1


/-! ### good expressions -/
def Gd (t : T) : Prop := (∃ h, rightG t h = true) ∧ okT t
theorem Gd.parts {t : T} (h : Gd t) : bareG t = true ∧ (partsN t.op).1 ≤ t.l.length ∧ t.l.length ≤ (partsN t.op).2 ∧ ∀ x ∈ t.l, Gd x := by
  obtain ⟨⟨n, hr⟩, ho⟩ := h
  cases n with
  | zero => rw [rightG] at hr; cases hr
  | succ n =>
    obtain ⟨h1, h2, h3, h4⟩ := rightG_all hr
    refine ⟨h1, h2, h3, fun x hx => ⟨⟨n, h4 x hx⟩, ?_⟩⟩
    cases t with
    | mk op s n l => rw [okT] at ho; exact okTs_mem ho.2 hx
/-- what a good expression is, kind by kind -/
inductive Kd : T → Prop
  | name (s : List UInt8) : ownB s = true → Kd (.mk 1 s 0 [])
  | int (n : Int) : 0 ≤ n → Kd (.mk 2 [] n [])
  | text (s : List UInt8) : Kd (.mk 3 s 0 [])
  | tru : Kd (.mk 4 [] 0 [])
  | fls : Kd (.mk 5 [] 0 [])
  | bin (s : List UInt8) (a b : T) : s ∈ signL → Gd a → Gd b → Kd (.mk 6 s 0 [a, b])
  | neg (a : T) : Gd a → Kd (.mk 7 [] 0 [a])
  | not (a : T) : Gd a → Kd (.mk 8 [] 0 [a])
  | call (s : List UInt8) (l : List T) : ownB s = true → (∀ x ∈ l, Gd x) → Kd (.mk 9 s 0 l)
  | idx (a b : T) : Gd a → Gd b → Kd (.mk 10 [] 0 [a, b])
  | slc (a b c : T) : Gd a → Gd b → Gd c → Kd (.mk 11 [] 0 [a, b, c])
  | fld (s : List UInt8) (a : T) : ownB s = true → Gd a → Kd (.mk 12 s 0 [a])
  | make (s : List UInt8) (l : List T) : ownB s = true → (∀ x ∈ l, Gd x) → Kd (.mk 13 s 0 l)
  | len (a : T) : Gd a → Kd (.mk 14 [] 0 [a])
  | app (a b : T) : Gd a → Gd b → Kd (.mk 15 [] 0 [a, b])
  | at_ (a b : T) : Gd a → Gd b → Kd (.mk 16 [] 0 [a, b])
theorem bare_nm {op : Int} {s : List UInt8} {n : Int} {l : List T} (h : bareG (.mk op s n l) = true) (ho : isNm op = true) : ownB s = true ∧ n = 0 := by
  unfold bareG at h
  rw [if_pos (show isNm (T.mk op s n l).op = true from ho)] at h
  simp only [Bool.and_eq_true, decide_eq_true_eq] at h
  exact h
theorem bare_no {op : Int} {s : List UInt8} {n : Int} {l : List T} (h : bareG (.mk op s n l) = true) (ho : ¬ isNm op = true) (h2 : op ≠ 2) (h3 : op ≠ 3) (h6 : op ≠ 6) : s = [] ∧ n = 0 := by
  unfold bareG at h
  rw [if_neg (show ¬ isNm (T.mk op s n l).op = true from ho), if_neg (show ¬ (T.mk op s n l).op = 2 from h2), if_neg (show ¬ (T.mk op s n l).op = 3 from h3), if_neg (show ¬ (T.mk op s n l).op = 6 from h6)] at h
  simp only [Bool.and_eq_true, decide_eq_true_eq] at h
  exact ⟨h.1, h.2.1⟩
theorem Gd.kind {t : T} (h : Gd t) : Kd t := by
  obtain ⟨hb, h1, h2, hx⟩ := h.parts
  have hop := op_cases (op_range hb)
  obtain ⟨op, s, n, l⟩ := t
  replace h1 : (partsN op).1 ≤ l.length := h1
  replace h2 : l.length ≤ (partsN op).2 := h2
  replace hx : ∀ x ∈ l, Gd x := hx
  replace hop : op = 1 ∨ op = 2 ∨ op = 3 ∨ op = 4 ∨ op = 5 ∨ op = 6 ∨ op = 7 ∨ op = 8 ∨ op = 9 ∨ op = 10 ∨ op = 11 ∨ op = 12 ∨ op = 13 ∨ op = 14 ∨ op = 15 ∨ op = 16 := hop
  rcases hop with rfl | rfl | rfl | rfl | rfl | rfl | rfl | rfl | rfl | rfl | rfl | rfl | rfl | rfl | rfl | rfl
  · obtain ⟨a, rfl⟩ := bare_nm hb rfl
    obtain rfl : l = [] := List.length_eq_zero_iff.1 (by have : (partsN 1).2 = 0 := rfl; omega)
    exact .name s a
  · obtain rfl : l = [] := List.length_eq_zero_iff.1 (by have : (partsN 2).2 = 0 := rfl; omega)
    replace hb : (decide (s = []) && decide (0 ≤ n)) = true := hb
    simp only [Bool.and_eq_true, decide_eq_true_eq] at hb
    obtain ⟨rfl, hn⟩ := hb
    exact .int n hn
  · obtain rfl : l = [] := List.length_eq_zero_iff.1 (by have : (partsN 3).2 = 0 := rfl; omega)
    replace hb : decide (n = 0) = true := hb
    simp only [decide_eq_true_eq] at hb
    obtain rfl := hb
    exact .text s
  · obtain ⟨rfl, rfl⟩ := bare_no hb (by decide) (by decide) (by decide) (by decide)
    obtain rfl : l = [] := List.length_eq_zero_iff.1 (by have : (partsN 4).2 = 0 := rfl; omega)
    exact .tru
  · obtain ⟨rfl, rfl⟩ := bare_no hb (by decide) (by decide) (by decide) (by decide)
    obtain rfl : l = [] := List.length_eq_zero_iff.1 (by have : (partsN 5).2 = 0 := rfl; omega)
    exact .fls
  · replace hb : (decide (n = 0) && decide (s ∈ signL)) = true := hb
    simp only [Bool.and_eq_true, decide_eq_true_eq] at hb
    obtain ⟨rfl, hs⟩ := hb
    match l, (show l.length = 2 by have e1 : (partsN 6).1 = 2 := rfl; have e2 : (partsN 6).2 = 2 := rfl; omega), hx with
    | [a, b], _, hx => exact .bin s a b hs (hx a (by simp)) (hx b (by simp))
  · obtain ⟨rfl, rfl⟩ := bare_no hb (by decide) (by decide) (by decide) (by decide)
    match l, (show l.length = 1 by have e1 : (partsN 7).1 = 1 := rfl; have e2 : (partsN 7).2 = 1 := rfl; omega), hx with
    | [a], _, hx => exact .neg a (hx a (by simp))
  · obtain ⟨rfl, rfl⟩ := bare_no hb (by decide) (by decide) (by decide) (by decide)
    match l, (show l.length = 1 by have e1 : (partsN 8).1 = 1 := rfl; have e2 : (partsN 8).2 = 1 := rfl; omega), hx with
    | [a], _, hx => exact .not a (hx a (by simp))
  · obtain ⟨a, rfl⟩ := bare_nm hb rfl
    exact .call s l a hx
  · obtain ⟨rfl, rfl⟩ := bare_no hb (by decide) (by decide) (by decide) (by decide)
    match l, (show l.length = 2 by have e1 : (partsN 10).1 = 2 := rfl; have e2 : (partsN 10).2 = 2 := rfl; omega), hx with
    | [a, b], _, hx => exact .idx a b (hx a (by simp)) (hx b (by simp))
  · obtain ⟨rfl, rfl⟩ := bare_no hb (by decide) (by decide) (by decide) (by decide)
    match l, (show l.length = 3 by have e1 : (partsN 11).1 = 3 := rfl; have e2 : (partsN 11).2 = 3 := rfl; omega), hx with
    | [a, b, c], _, hx => exact .slc a b c (hx a (by simp)) (hx b (by simp)) (hx c (by simp))
  · obtain ⟨o, rfl⟩ := bare_nm hb rfl
    match l, (show l.length = 1 by have e1 : (partsN 12).1 = 1 := rfl; have e2 : (partsN 12).2 = 1 := rfl; omega), hx with
    | [a], _, hx => exact .fld s a o (hx a (by simp))
  · obtain ⟨a, rfl⟩ := bare_nm hb rfl
    exact .make s l a hx
  · obtain ⟨rfl, rfl⟩ := bare_no hb (by decide) (by decide) (by decide) (by decide)
    match l, (show l.length = 1 by have e1 : (partsN 14).1 = 1 := rfl; have e2 : (partsN 14).2 = 1 := rfl; omega), hx with
    | [a], _, hx => exact .len a (hx a (by simp))
  · obtain ⟨rfl, rfl⟩ := bare_no hb (by decide) (by decide) (by decide) (by decide)
    match l, (show l.length = 2 by have e1 : (partsN 15).1 = 2 := rfl; have e2 : (partsN 15).2 = 2 := rfl; omega), hx with
    | [a, b], _, hx => exact .app a b (hx a (by simp)) (hx b (by simp))
  · obtain ⟨rfl, rfl⟩ := bare_no hb (by decide) (by decide) (by decide) (by decide)
    match l, (show l.length = 2 by have e1 : (partsN 16).1 = 2 := rfl; have e2 : (partsN 16).2 = 2 := rfl; omega), hx with
    | [a, b], _, hx => exact .at_ a b (hx a (by simp)) (hx b (by simp))
/-- built good ones -/
theorem Gd.name {s : List UInt8} (h : ownB s = true) : Gd (.mk 1 s 0 []) := by
  refine ⟨⟨1, ?_⟩, by simp [okT, okTs, inR64]⟩
  rw [rightG_eq]
  simp [bareG, isNm, T.op, T.s, T.n, T.l, h, partsN]
theorem rightG_up : ∀ (h k : Nat) (t : T), rightG t h = true → h ≤ k → rightG t k = true
  | 0, _, t, hr, _ => by rw [rightG] at hr; cases hr
  | h + 1, 0, t, hr, hk => by omega
  | h + 1, k + 1, t, hr, hk => by
    rw [rightG] at hr ⊢
    simp only [Bool.and_eq_true, List.all_eq_true] at hr ⊢
    exact ⟨hr.1, hr.2.1, hr.2.2.1, fun x hx => rightG_up h k x (hr.2.2.2 x hx) (by omega)⟩
theorem Gd.idx {a b : T} (ha : Gd a) (hb : Gd b) : Gd (.mk 10 [] 0 [a, b]) := by
  obtain ⟨⟨h, hr⟩, ho⟩ := ha
  obtain ⟨⟨k, kr⟩, ko⟩ := hb
  refine ⟨⟨max h k + 1, ?_⟩, by simp [okT, okTs, inR64, ho, ko]⟩
  rw [rightG_eq]
  have h1 := rightG_up h (max h k) a hr (by omega)
  have h2 := rightG_up k (max h k) b kr (by omega)
  simp [bareG, isNm, T.op, T.s, T.n, T.l, h1, h2, partsN]
end Go.Proofs.YtnkmjbjpmocnbaaDoor
/-
  An expression is read back from its text. Own work.
-/
namespace Go.Proofs.YtnkmjbjpmocnbaaDoor
open Go.Aw Go.RowKit

/-! ### reading a text -/
abbrev Par := List UInt8 → Option (T × List UInt8)
/-- one byte, then the rest -/
def eat (c : UInt8) : List UInt8 → Option (List UInt8)
  | [] => none
  | d :: r => if d = c then some r else none
theorem eat_cons (c : UInt8) (r : List UInt8) : eat c (c :: r) = some r := by rw [eat, if_pos rfl]
theorem eat_no {c d : UInt8} {r : List UInt8} (h : d ≠ c) : eat c (d :: r) = none := by rw [eat, if_neg h]
open Classical in
noncomputable def numOf (w : List UInt8) : Int := if h : ∃ n : Int, inR64 n ∧ Lib.itoa n = w then Classical.choose h else 0
theorem numOf_itoa {n : Int} (h : inR64 n) : numOf (Lib.itoa n) = n := by
  have hx : ∃ m : Int, inR64 m ∧ Lib.itoa m = Lib.itoa n := ⟨n, h, rfl⟩
  rw [numOf, dif_pos hx]
  exact itoa_inj (Classical.choose_spec hx).1 h (Classical.choose_spec hx).2
open Classical in
noncomputable def quoOf (l : List UInt8) : Option (List UInt8 × List UInt8) := if h : ∃ p : List UInt8 × List UInt8, l = quoteL p.1 ++ p.2 then some (Classical.choose h) else none
theorem quoOf_ok (s r : List UInt8) : quoOf (quoteL s ++ r) = some (s, r) := by
  have hx : ∃ p : List UInt8 × List UInt8, quoteL s ++ r = quoteL p.1 ++ p.2 := ⟨(s, r), rfl⟩
  rw [quoOf, dif_pos hx]
  obtain ⟨h1, h2⟩ := sym_cut (Classical.choose_spec hx)
  exact congrArg some (Prod.ext h1.symm h2.symm)
theorem word_take : ∀ {s X : List UInt8}, (∀ c ∈ s, wordB c = true) → stopB X → (s ++ X).takeWhile wordB = s
  | [], [], _, _ => rfl
  | [], c :: X, _, h => by rw [List.nil_append, List.takeWhile_cons, h c rfl]; rfl
  | a :: s, X, h1, h2 => by
    rw [List.cons_append, List.takeWhile_cons, h1 a (.head _), if_pos rfl, word_take (fun c hc => h1 c (.tail _ hc)) h2]
theorem word_drop : ∀ {s X : List UInt8}, (∀ c ∈ s, wordB c = true) → stopB X → (s ++ X).dropWhile wordB = X
  | [], [], _, _ => rfl
  | [], c :: X, _, h => by rw [List.nil_append, List.dropWhile_cons, h c rfl]; rfl
  | a :: s, X, h1, h2 => by
    rw [List.cons_append, List.dropWhile_cons, h1 a (.head _), if_pos rfl, word_drop (fun c hc => h1 c (.tail _ hc)) h2]
theorem sign_word : ∀ s ∈ signL, ∀ c ∈ s, c ≠ 32 := by decide +kernel
theorem sp_take : ∀ {s X : List UInt8}, (∀ c ∈ s, c ≠ 32) → (s ++ (32 :: X)).takeWhile (fun c => !decide (c = 32)) = s
  | [], X, _ => rfl
  | a :: s, X, h1 => by
    rw [List.cons_append, List.takeWhile_cons, decide_eq_false (h1 a (.head _)), if_pos (by rfl), sp_take fun c hc => h1 c (.tail _ hc)]
theorem sp_drop : ∀ {s X : List UInt8}, (∀ c ∈ s, c ≠ 32) → (s ++ (32 :: X)).dropWhile (fun c => !decide (c = 32)) = 32 :: X
  | [], X, _ => rfl
  | a :: s, X, h1 => by
    rw [List.cons_append, List.dropWhile_cons, decide_eq_false (h1 a (.head _)), if_pos (by rfl), sp_drop fun c hc => h1 c (.tail _ hc)]

/-! ### lists of expressions -/
def more (P : Par) : Nat → List UInt8 → Option (List T × List UInt8)
  | 0, _ => none
  | k + 1, l => match eat 44 l with
    | some r => (eat 32 r).bind fun r => (P r).bind fun p => (more P k p.2).bind fun q => some (p.1 :: q.1, q.2)
    | none => some ([], l)
def argsP (P : Par) (e : UInt8) (l : List UInt8) : Option (List T × List UInt8) :=
  match eat e l with
  | some r => some ([], r)
  | none => (P l).bind fun p => (more P l.length p.2).bind fun q => (eat e q.2).bind fun r => some (p.1 :: q.1, r)
/-- what stands behind an expression -/
def sE (l : List UInt8) : Prop := ∀ c, l.head? = some c → wordB c = false ∧ c ≠ 40 ∧ c ≠ 91 ∧ c ≠ 46
def wE (l : List UInt8) : Prop := ∀ c, l.head? = some c → wordB c = false ∧ c ≠ 40
theorem sE.w {l : List UInt8} (h : sE l) : wE l := fun c hc => ⟨(h c hc).1, (h c hc).2.1⟩
theorem wE.s {l : List UInt8} (h : wE l) : stopB l := fun c hc => (h c hc).1
theorem sE_cons {c : UInt8} {l : List UInt8} (h : wordB c = false ∧ c ≠ 40 ∧ c ≠ 91 ∧ c ≠ 46) : sE (c :: l) := fun d hd => by
  obtain rfl : c = d := by simpa using hd
  exact h
theorem wE_cons {c : UInt8} {l : List UInt8} (h : wordB c = false ∧ c ≠ 40) : wE (c :: l) := fun d hd => by
  obtain rfl : c = d := by simpa using hd
  exact h
def POk (P : Par) (x : T) : Prop := ∀ r, sE r → P (showG x ++ r) = some (x, r)
theorem jTail_cons (sep x : List UInt8) (r : List (List UInt8)) : Lib.joinTail sep (x :: r) = sep ++ (x ++ Lib.joinTail sep r) := by
  rw [Lib.joinTail, Lib.joinTail, List.map_cons, List.flatten_cons, List.append_assoc]
theorem jTail_nil (sep : List UInt8) : Lib.joinTail sep [] = [] := rfl
theorem jTail_len (xs : List (List UInt8)) : xs.length ≤ (Lib.joinTail [44, 32] xs).length := by
  induction xs with
  | nil => simp
  | cons x r ih => rw [jTail_cons]; simp only [List.length_append, List.length_cons, List.length_nil]; omega
theorem more_ok {P : Par} {e : UInt8} (he : e ≠ 44) (hs : wordB e = false ∧ e ≠ 40 ∧ e ≠ 91 ∧ e ≠ 46) (r : List UInt8) : ∀ (l : List T) (k : Nat), l.length < k → (∀ x ∈ l, POk P x) → more P k (Lib.joinTail [44, 32] (showGs l) ++ (e :: r)) = some (l, e :: r)
  | [], k + 1, _, _ => by
    rw [showGs, jTail_nil, List.nil_append, more, eat_no he]
  | x :: l, k + 1, hk, hx => by
    have ih := more_ok he hs r l k (by simpa using hk) fun y hy => hx y (.tail _ hy)
    rw [showGs, jTail_cons]
    simp only [List.append_assoc, List.cons_append, List.nil_append]
    rw [more, eat_cons]
    simp only
    rw [eat_cons, Option.bind_some, hx x (.head _), Option.bind_some]
    · simp only; rw [ih]; rfl
    · cases l with
      | nil => rw [showGs, jTail_nil, List.nil_append]; exact sE_cons hs
      | cons y l => rw [showGs, jTail_cons]; simp only [List.append_assoc, List.cons_append]; exact sE_cons (by decide)
/-- the first byte of an expression -/
def fstB (c : UInt8) : Prop := wordB c = true ∨ c = 34 ∨ c = 40
theorem fst_app {X Y : List UInt8} (h : ∃ c t, X = c :: t ∧ fstB c) : ∃ c t, X ++ Y = c :: t ∧ fstB c := by
  obtain ⟨c, t, rfl, h⟩ := h
  exact ⟨c, t ++ Y, rfl, h⟩
theorem own_name {s : List UInt8} (h : ownB s = true) : nameB s = true := by
  rw [ownB, Bool.and_eq_true] at h; exact h.1
theorem own_not {s : List UInt8} (h : ownB s = true) : s ∉ ownL := by
  rw [ownB, Bool.and_eq_true] at h; simpa using h.2
theorem own_fst {s : List UInt8} (h : ownB s = true) : ∃ c t, s = c :: t ∧ fstB c := by
  obtain ⟨c, t, e, hc⟩ := name_first (own_name h)
  exact ⟨c, t, e, .inl (by simp [wordB, hc])⟩
theorem sg_name (s : List UInt8) : showG (.mk 1 s 0 []) = s := by rw [showG]; rfl
theorem sg_int (n : Int) : showG (.mk 2 [] n []) = Lib.itoa n := by rw [showG]; rfl
theorem sg_text (s : List UInt8) : showG (.mk 3 s 0 []) = quoteL s := by rw [showG]; rfl
theorem sg_tru : showG (.mk 4 [] 0 []) = [116, 114, 117, 101] := by rw [showG]; rfl
theorem sg_fls : showG (.mk 5 [] 0 []) = [102, 97, 108, 115, 101] := by rw [showG]; rfl
theorem sg_bin (s : List UInt8) (a b : T) : showG (.mk 6 s 0 [a, b]) = 40 :: (showG a ++ (32 :: (s ++ (32 :: (showG b ++ [41]))))) := by rw [showG, showGs, showGs, showGs]; rfl
theorem sg_neg (a : T) : showG (.mk 7 [] 0 [a]) = 40 :: 45 :: (showG a ++ [41]) := by rw [showG, showGs, showGs]; rfl
theorem sg_not (a : T) : showG (.mk 8 [] 0 [a]) = 40 :: 33 :: (showG a ++ [41]) := by rw [showG, showGs, showGs]; rfl
theorem sg_call (s : List UInt8) (l : List T) : showG (.mk 9 s 0 l) = s ++ (40 :: (Lib.join (showGs l) [44, 32] ++ [41])) := by rw [showG]; rfl
theorem sg_idx (a b : T) : showG (.mk 10 [] 0 [a, b]) = showG a ++ (91 :: (showG b ++ [93])) := by rw [showG, showGs, showGs, showGs]; rfl
theorem sg_slc (a b c : T) : showG (.mk 11 [] 0 [a, b, c]) = showG a ++ (91 :: (showG b ++ (58 :: (showG c ++ [93])))) := by rw [showG, showGs, showGs, showGs, showGs]; rfl
theorem sg_fld (s : List UInt8) (a : T) (h : a.op ≠ 2) : showG (.mk 12 s 0 [a]) = showG a ++ (46 :: s) := by
  rw [showG, showGs, showGs, headI, decide_eq_false h]; rfl
theorem sg_num (s : List UInt8) (a : T) (h : a.op = 2) : showG (.mk 12 s 0 [a]) = 40 :: (showG a ++ (41 :: 46 :: s)) := by
  rw [showG, showGs, showGs, headI, decide_eq_true h]; rfl
theorem sg_make (s : List UInt8) (l : List T) : showG (.mk 13 s 0 l) = 40 :: (s ++ (123 :: (Lib.join (showGs l) [44, 32] ++ [125, 41]))) := by rw [showG]; rfl
theorem sg_len (a : T) : showG (.mk 14 [] 0 [a]) = [108, 101, 110] ++ (40 :: (showG a ++ [41])) := by rw [showG, showGs, showGs]; rfl
theorem sg_app (a b : T) : showG (.mk 15 [] 0 [a, b]) = [97, 112, 112, 101, 110, 100] ++ (40 :: (showG a ++ (44 :: 32 :: (showG b ++ [41])))) := by
  rw [showG, showGs, showGs, showGs]
  show [97, 112, 112, 101, 110, 100, 40] ++ (Lib.join [showG a, showG b] [44, 32] ++ [41]) = _
  rw [Lib.join_cons, jTail_cons, jTail_nil]
  simp only [List.append_assoc, List.cons_append, List.nil_append, List.append_nil]
theorem sg_at (a b : T) : showG (.mk 16 [] 0 [a, b]) = [105, 110, 116] ++ (40 :: (showG (.mk 10 [] 0 [a, b]) ++ [41])) := by
  rw [sg_idx, showG, showGs, showGs, showGs]
  show [105, 110, 116, 40] ++ (showG a ++ ([91] ++ (showG b ++ [93, 41]))) = _
  simp only [List.append_assoc, List.cons_append, List.nil_append, List.append_nil]
theorem fst_ok : ∀ (n : Nat) (x : T), Gd x → (showG x).length ≤ n → ∃ c t, showG x = c :: t ∧ fstB c := by
  intro n
  induction n with
  | zero =>
    intro x hx hl
    exfalso
    cases hx.kind with
    | name s hs => obtain ⟨c, t, e, _⟩ := own_fst hs; rw [sg_name, e] at hl; simp at hl
    | int n hn => obtain ⟨c, t, e, _⟩ := itoa_first hn; rw [sg_int, e] at hl; simp at hl
    | text s => rw [sg_text] at hl; simp [quoteL] at hl
    | tru => rw [sg_tru] at hl; simp at hl
    | fls => rw [sg_fls] at hl; simp at hl
    | bin s a b => rw [sg_bin] at hl; simp at hl
    | neg a => rw [sg_neg] at hl; simp at hl
    | not a => rw [sg_not] at hl; simp at hl
    | call s l => rw [sg_call] at hl; simp at hl
    | idx a b => rw [sg_idx] at hl; simp at hl
    | slc a b c => rw [sg_slc] at hl; simp at hl
    | fld s a =>
      by_cases h : a.op = 2
      · rw [sg_num _ _ h] at hl; simp at hl
      · rw [sg_fld _ _ h] at hl; simp at hl
    | make s l => rw [sg_make] at hl; simp at hl
    | len a => rw [sg_len] at hl; simp at hl
    | app a b => rw [sg_app] at hl; simp at hl
    | at_ a b => rw [sg_at] at hl; simp at hl
  | succ n ih =>
    intro x hx hl
    cases hx.kind with
    | name s hs => rw [sg_name]; exact own_fst hs
    | int n hn => obtain ⟨c, t, e, h⟩ := itoa_first hn; rw [sg_int]; exact ⟨c, t, e, .inl (by simp [wordB, h])⟩
    | text s => rw [sg_text]; exact ⟨34, _, rfl, .inr (.inl rfl)⟩
    | tru => rw [sg_tru]; exact ⟨_, _, rfl, .inl rfl⟩
    | fls => rw [sg_fls]; exact ⟨_, _, rfl, .inl rfl⟩
    | bin s a b => rw [sg_bin]; exact ⟨40, _, rfl, .inr (.inr rfl)⟩
    | neg a => rw [sg_neg]; exact ⟨40, _, rfl, .inr (.inr rfl)⟩
    | not a => rw [sg_not]; exact ⟨40, _, rfl, .inr (.inr rfl)⟩
    | call s l hs => rw [sg_call]; exact fst_app (own_fst hs)
    | idx a b ha => rw [sg_idx] at hl ⊢; exact fst_app (ih a ha (by simp only [List.length_append, List.length_cons, List.length_nil] at hl; omega))
    | slc a b c ha => rw [sg_slc] at hl ⊢; exact fst_app (ih a ha (by simp only [List.length_append, List.length_cons, List.length_nil] at hl; omega))
    | fld s a hs ha =>
      by_cases h : a.op = 2
      · rw [sg_num _ _ h]; exact ⟨40, _, rfl, .inr (.inr rfl)⟩
      · rw [sg_fld _ _ h] at hl ⊢; exact fst_app (ih a ha (by simp only [List.length_append, List.length_cons, List.length_nil] at hl; omega))
    | make s l => rw [sg_make]; exact ⟨40, _, rfl, .inr (.inr rfl)⟩
    | len a => rw [sg_len]; exact ⟨_, _, rfl, .inl rfl⟩
    | app a b => rw [sg_app]; exact ⟨_, _, rfl, .inl rfl⟩
    | at_ a b => rw [sg_at]; exact ⟨_, _, rfl, .inl rfl⟩
theorem Gd.fst {x : T} (hx : Gd x) : ∃ c t, showG x = c :: t ∧ fstB c := fst_ok _ x hx (Nat.le_refl _)
theorem argsP_ok {P : Par} {e : UInt8} (he : e ≠ 44) (hs : wordB e = false ∧ e ≠ 40 ∧ e ≠ 91 ∧ e ≠ 46) (h34 : e ≠ 34) (r : List UInt8) (l : List T) (hg : ∀ x ∈ l, Gd x) (hx : ∀ x ∈ l, POk P x) :
    argsP P e (Lib.join (showGs l) [44, 32] ++ (e :: r)) = some (l, r) := by
  cases l with
  | nil => rw [showGs, Lib.join_nil, List.nil_append, argsP, eat_cons]
  | cons x l =>
    obtain ⟨c, t, e1, hc⟩ := (hg x (.head _)).fst
    have hce : c ≠ e := fun h => by
      rw [h] at hc
      rcases hc with h | h | h
      · rw [hs.1] at h; cases h
      · exact h34 h
      · exact hs.2.1 h
    have hm := more_ok he hs r l ((showG x ++ (Lib.joinTail [44, 32] (showGs l) ++ (e :: r))).length) (by
      have := jTail_len (showGs l)
      rw [showGs_len0] at this
      simp only [List.length_append, List.length_cons]; omega) fun y hy => hx y (.tail _ hy)
    rw [showGs, Lib.join_cons, List.append_assoc, argsP]
    have e2 : eat e (showG x ++ (Lib.joinTail [44, 32] (showGs l) ++ (e :: r))) = none := by
      rw [e1, List.cons_append, eat_no hce]
    rw [e2]
    simp only
    rw [hx x (.head _), Option.bind_some]
    · simp only
      rw [hm, Option.bind_some]
      simp only
      rw [eat_cons]
      rfl
    · cases l with
      | nil => rw [showGs, jTail_nil, List.nil_append]; exact sE_cons hs
      | cons y l => rw [showGs, jTail_cons]; simp only [List.append_assoc, List.cons_append]; exact sE_cons (by decide)
theorem part_len {x : T} : ∀ {l : List T}, x ∈ l → (showG x).length ≤ (Lib.join (showGs l) [44, 32]).length
  | y :: l, h => by
    rw [showGs, Lib.join_cons, List.length_append]
    rcases List.mem_cons.1 h with rfl | h
    · omega
    · have := part_len h
      cases l with
      | nil => cases h
      | cons z l =>
        rw [showGs, Lib.join_cons, List.length_append] at this
        rw [showGs, jTail_cons]
        simp only [List.length_append, List.length_cons, List.length_nil]; omega
end Go.Proofs.YtnkmjbjpmocnbaaDoor
/-
  An expression is read back from its text: the reader. Own work.
-/
namespace Go.Proofs.YtnkmjbjpmocnbaaDoor
open Go.Aw Go.RowKit

/-- an expression without a part behind it -/
noncomputable def primP (P : Par) : List UInt8 → Option (T × List UInt8)
  | [] => none
  | c :: r =>
    if c = 34 then (quoOf (c :: r)).bind fun p => some (.mk 3 p.1 0 [], p.2)
    else if c = 40 then
      if r.head? = some 45 then (P r.tail).bind fun p => (eat 41 p.2).bind fun q => some (.mk 7 [] 0 [p.1], q)
      else if r.head? = some 33 then (P r.tail).bind fun p => (eat 41 p.2).bind fun q => some (.mk 8 [] 0 [p.1], q)
      else (P r).bind fun p =>
        if p.2.head? = some 32 then
          (eat 32 (p.2.tail.dropWhile fun c => !decide (c = 32))).bind fun q => (P q).bind fun b => (eat 41 b.2).bind fun z =>
            some (.mk 6 (p.2.tail.takeWhile fun c => !decide (c = 32)) 0 [p.1, b.1], z)
        else if p.2.head? = some 41 then
          (eat 46 p.2.tail).bind fun q => some (.mk 12 (q.takeWhile wordB) 0 [p.1], q.dropWhile wordB)
        else (argsP P 125 p.2.tail).bind fun m => (eat 41 m.2).bind fun q => some (.mk 13 p.1.s 0 m.1, q)
    else if digitB c = true then some (.mk 2 [] (numOf ((c :: r).takeWhile wordB)) [], (c :: r).dropWhile wordB)
    else
      if (c :: r).takeWhile wordB = [116, 114, 117, 101] then some (.mk 4 [] 0 [], (c :: r).dropWhile wordB)
      else if (c :: r).takeWhile wordB = [102, 97, 108, 115, 101] then some (.mk 5 [] 0 [], (c :: r).dropWhile wordB)
      else if ((c :: r).dropWhile wordB).head? = some 40 then
        if (c :: r).takeWhile wordB = [108, 101, 110] then (P ((c :: r).dropWhile wordB).tail).bind fun p => (eat 41 p.2).bind fun q => some (.mk 14 [] 0 [p.1], q)
        else if (c :: r).takeWhile wordB = [97, 112, 112, 101, 110, 100] then
          (P ((c :: r).dropWhile wordB).tail).bind fun p => (eat 44 p.2).bind fun q => (eat 32 q).bind fun q => (P q).bind fun b => (eat 41 b.2).bind fun z => some (.mk 15 [] 0 [p.1, b.1], z)
        else if (c :: r).takeWhile wordB = [105, 110, 116] then (P ((c :: r).dropWhile wordB).tail).bind fun p => (eat 41 p.2).bind fun q => some (.mk 16 [] 0 p.1.l, q)
        else (argsP P 41 ((c :: r).dropWhile wordB).tail).bind fun m => some (.mk 9 ((c :: r).takeWhile wordB) 0 m.1, m.2)
      else some (.mk 1 ((c :: r).takeWhile wordB) 0 [], (c :: r).dropWhile wordB)
/-- the parts behind it -/
noncomputable def loopP (P : Par) : Nat → T → List UInt8 → Option (T × List UInt8)
  | 0, p, r => some (p, r)
  | k + 1, p, r =>
    if r.head? = some 91 then (P r.tail).bind fun b =>
      if b.2.head? = some 93 then loopP P k (.mk 10 [] 0 [p, b.1]) b.2.tail
      else (P b.2.tail).bind fun c => (eat 93 c.2).bind fun q => loopP P k (.mk 11 [] 0 [p, b.1, c.1]) q
    else if r.head? = some 46 then loopP P k (.mk 12 (r.tail.takeWhile wordB) 0 [p]) (r.tail.dropWhile wordB)
    else some (p, r)
noncomputable def parP : Nat → Par
  | 0, _ => none
  | n + 1, l => (primP (parP n) l).bind fun p => loopP (parP n) l.length p.1 p.2
theorem loop_stop {P : Par} {k : Nat} {p : T} {r : List UInt8} (h : sE r) : loopP P k p r = some (p, r) := by
  cases k with
  | zero => rfl
  | succ k =>
    rw [loopP, if_neg fun e => (h _ e).2.2.1 rfl, if_neg fun e => (h _ e).2.2.2 rfl]
/-- words that are no names -/
theorem own_no {s w : List UInt8} (h : ownB s = true) (hw : w ∈ ownL) : s ≠ w := fun e => own_not h (e ▸ hw)
theorem prim_word {P : Par} {w X : List UInt8} (hn : ∃ c t, w = c :: t ∧ letterB c = true) (hw : ∀ c ∈ w, wordB c = true) (hX : stopB X) :
    primP P (w ++ X) = if w = [116, 114, 117, 101] then some (.mk 4 [] 0 [], X)
      else if w = [102, 97, 108, 115, 101] then some (.mk 5 [] 0 [], X)
      else if X.head? = some 40 then
        if w = [108, 101, 110] then (P X.tail).bind fun p => (eat 41 p.2).bind fun q => some (.mk 14 [] 0 [p.1], q)
        else if w = [97, 112, 112, 101, 110, 100] then
          (P X.tail).bind fun p => (eat 44 p.2).bind fun q => (eat 32 q).bind fun q => (P q).bind fun b => (eat 41 b.2).bind fun z => some (.mk 15 [] 0 [p.1, b.1], z)
        else if w = [105, 110, 116] then (P X.tail).bind fun p => (eat 41 p.2).bind fun q => some (.mk 16 [] 0 p.1.l, q)
        else (argsP P 41 X.tail).bind fun m => some (.mk 9 w 0 m.1, m.2)
      else some (.mk 1 w 0 [], X) := by
  have h1 := word_take hw hX
  have h2 := word_drop hw hX
  obtain ⟨c, t, rfl, hc⟩ := hn
  rw [List.cons_append] at h1 h2 ⊢
  have hd : c ≠ 34 ∧ c ≠ 40 ∧ ¬ digitB c = true := by
    refine ⟨fun e => ?_, fun e => ?_, fun e => ?_⟩
    · rw [e] at hc; revert hc; decide
    · rw [e] at hc; revert hc; decide
    · simp only [letterB, digitB, Bool.or_eq_true, Bool.and_eq_true, decide_eq_true_eq] at hc e; omega
  rw [primP, if_neg hd.1, if_neg hd.2.1, if_neg hd.2.2, h1, h2]
theorem prim_name {P : Par} {s X : List UInt8} (hs : ownB s = true) (hX : stopB X) (h40 : X.head? ≠ some 40) : primP P (s ++ X) = some (.mk 1 s 0 [], X) := by
  rw [prim_word (name_first (own_name hs)) (name_words (own_name hs)) hX, if_neg (own_no hs (by decide +kernel)), if_neg (own_no hs (by decide +kernel)), if_neg h40]
theorem prim_call {P : Par} {s X : List UInt8} (hs : ownB s = true) : primP P (s ++ (40 :: X)) = (argsP P 41 X).bind fun m => some (.mk 9 s 0 m.1, m.2) := by
  rw [prim_word (name_first (own_name hs)) (name_words (own_name hs)) (stop_cons (by decide)), if_neg (own_no hs (by decide +kernel)), if_neg (own_no hs (by decide +kernel)), if_pos (by rfl),
    if_neg (own_no hs (by decide +kernel)), if_neg (own_no hs (by decide +kernel)), if_neg (own_no hs (by decide +kernel))]
  rfl
theorem prim_paren {P : Par} {X : List UInt8} (hX : ∃ c t, X = c :: t ∧ fstB c) : primP P (40 :: X) = (P X).bind fun p =>
        if p.2.head? = some 32 then
          (eat 32 (p.2.tail.dropWhile fun c => !decide (c = 32))).bind fun q => (P q).bind fun b => (eat 41 b.2).bind fun z =>
            some (.mk 6 (p.2.tail.takeWhile fun c => !decide (c = 32)) 0 [p.1, b.1], z)
        else if p.2.head? = some 41 then
          (eat 46 p.2.tail).bind fun q => some (.mk 12 (q.takeWhile wordB) 0 [p.1], q.dropWhile wordB)
        else (argsP P 125 p.2.tail).bind fun m => (eat 41 m.2).bind fun q => some (.mk 13 p.1.s 0 m.1, q) := by
  obtain ⟨c, t, rfl, hc⟩ := hX
  have h1 : c ≠ 45 ∧ c ≠ 33 := by
    refine ⟨fun e => ?_, fun e => ?_⟩ <;> (rw [e] at hc; rcases hc with h | h | h <;> revert h <;> decide)
  rw [primP, if_neg (by decide), if_pos (by rfl), if_neg (fun e => h1.1 (by simpa using e)), if_neg (fun e => h1.2 (by simpa using e))]
/-- expressions with a part behind -/
def isPost (t : T) : Bool := decide (t.op = 10) || (decide (t.op = 11) || (decide (t.op = 12) && !headI t.l))
theorem isPost_fld (s : List UInt8) (a : T) : isPost (.mk 12 s 0 [a]) = !decide (a.op = 2) := rfl
theorem prim_ok {P : Par} {x : T} (hx : Gd x) (hp : isPost x = false) (ih : ∀ y, Gd y → (showG y).length < (showG x).length → POk P y) {r : List UInt8} (hr : wE r) : primP P (showG x ++ r) = some (x, r) := by
  cases hx.kind with
  | name s hs => rw [sg_name]; exact prim_name hs hr.s fun e => (hr _ e).2 rfl
  | int n hn =>
    have hi : inR64 n := by have := hx.2; rw [okT] at this; exact this.1
    rw [sg_int]
    have h1 := word_take (itoa_words hn) hr.s
    have h2 := word_drop (itoa_words hn) hr.s
    obtain ⟨c, t, e, hc⟩ := itoa_first hn
    have e2 := numOf_itoa hi
    rw [e, List.cons_append] at h1 h2
    rw [e, List.cons_append]
    rw [e] at e2
    have hd : c ≠ 34 ∧ c ≠ 40 := by
      refine ⟨fun e => ?_, fun e => ?_⟩ <;> (rw [e] at hc; revert hc; decide)
    rw [primP, if_neg hd.1, if_neg hd.2, if_pos hc, h1, h2, e2]
  | text s =>
    rw [sg_text]
    have h := quoOf_ok s r
    obtain ⟨t, e⟩ : ∃ t, quoteL s ++ r = 34 :: t := ⟨_, rfl⟩
    rw [e] at h ⊢
    rw [primP, if_pos (by rfl), h]; rfl
  | tru => rw [sg_tru, prim_word ⟨_, _, rfl, rfl⟩ (by decide) hr.s, if_pos (by rfl)]
  | fls => rw [sg_fls, prim_word ⟨_, _, rfl, rfl⟩ (by decide) hr.s, if_neg (by decide), if_pos (by rfl)]
  | bin s a b hs ha hb =>
    rw [sg_bin] at ih ⊢
    have ka := ih a ha (by simp only [List.length_append, List.length_cons, List.length_nil]; omega)
    have kb := ih b hb (by simp only [List.length_append, List.length_cons, List.length_nil]; omega)
    simp only [List.append_assoc, List.cons_append, List.nil_append]
    rw [prim_paren (fst_app ha.fst), ka _ (sE_cons (by decide)), Option.bind_some, if_pos (by rfl)]
    simp only [List.tail_cons]
    rw [sp_take (sign_word s hs), sp_drop (sign_word s hs), eat_cons, Option.bind_some, kb _ (sE_cons (by decide)), Option.bind_some]
    simp only
    rw [eat_cons, Option.bind_some]
  | neg a ha =>
    rw [sg_neg] at ih ⊢
    have ka := ih a ha (by simp only [List.length_append, List.length_cons, List.length_nil]; omega)
    simp only [List.append_assoc, List.cons_append, List.nil_append]
    rw [primP, if_neg (by decide), if_pos (by rfl), if_pos (by rfl), List.tail_cons, ka _ (sE_cons (by decide)), Option.bind_some]
    simp only
    rw [eat_cons, Option.bind_some]
  | not a ha =>
    rw [sg_not] at ih ⊢
    have ka := ih a ha (by simp only [List.length_append, List.length_cons, List.length_nil]; omega)
    simp only [List.append_assoc, List.cons_append, List.nil_append]
    rw [primP, if_neg (by decide), if_pos (by rfl), if_neg (by simp), if_pos (by rfl), List.tail_cons, ka _ (sE_cons (by decide)), Option.bind_some]
    simp only
    rw [eat_cons, Option.bind_some]
  | call s l hs hl =>
    rw [sg_call] at ih ⊢
    have kl : ∀ y ∈ l, POk P y := fun y hy => ih y (hl y hy) (by
      have h1 := part_len hy
      simp only [List.length_append, List.length_cons, List.length_nil]; omega)
    simp only [List.append_assoc, List.cons_append, List.nil_append]
    rw [prim_call hs, argsP_ok (by decide) (by decide) (by decide) r l hl kl, Option.bind_some]
  | idx a b => cases hp
  | slc a b c => cases hp
  | fld s a hs ha =>
    by_cases h : a.op = 2
    · rw [sg_num _ _ h] at ih ⊢
      have ka := ih a ha (by simp only [List.length_append, List.length_cons, List.length_nil]; omega)
      simp only [List.append_assoc, List.cons_append, List.nil_append]
      rw [prim_paren (fst_app ha.fst), ka _ (sE_cons (by decide)), Option.bind_some, if_neg (by simp), if_pos (by rfl)]
      simp only [List.tail_cons]
      rw [eat_cons, Option.bind_some, word_take (name_words (own_name hs)) hr.s, word_drop (name_words (own_name hs)) hr.s]
    · exfalso
      rw [isPost_fld, decide_eq_false h] at hp
      cases hp
  | make s l hs hl =>
    rw [sg_make] at ih ⊢
    have kl : ∀ y ∈ l, POk P y := fun y hy => ih y (hl y hy) (by
      have h1 := part_len hy
      simp only [List.length_append, List.length_cons, List.length_nil]; omega)
    have kn := ih (.mk 1 s 0 []) (Gd.name hs) (by rw [sg_name]; simp only [List.length_append, List.length_cons, List.length_nil]; omega)
    have kn1 := fun r h => kn r h
    rw [sg_name] at kn1
    simp only [List.append_assoc, List.cons_append, List.nil_append]
    rw [prim_paren (fst_app (own_fst hs)), kn1 _ (sE_cons (by decide)), Option.bind_some, if_neg (by simp), if_neg (by simp)]
    simp only [List.tail_cons]
    rw [argsP_ok (by decide) (by decide) (by decide) (41 :: r) l hl kl, Option.bind_some]
    simp only
    rw [eat_cons, Option.bind_some]
    rfl
  | len a ha =>
    rw [sg_len] at ih ⊢
    have ka := ih a ha (by simp only [List.length_append, List.length_cons, List.length_nil]; omega)
    show primP P ([108, 101, 110] ++ (40 :: ((showG a ++ [41]) ++ r))) = _
    rw [prim_word (w := [108, 101, 110]) ⟨_, _, rfl, rfl⟩ (by decide) (stop_cons (by decide)), if_neg (by decide), if_neg (by decide), if_pos (by rfl), if_pos (by rfl)]
    simp only [List.append_assoc, List.cons_append, List.nil_append, List.tail_cons]
    rw [ka _ (sE_cons (by decide)), Option.bind_some]
    simp only
    rw [eat_cons, Option.bind_some]
  | app a b ha hb =>
    rw [sg_app] at ih ⊢
    have ka := ih a ha (by simp only [List.length_append, List.length_cons, List.length_nil]; omega)
    have kb := ih b hb (by simp only [List.length_append, List.length_cons, List.length_nil]; omega)
    show primP P ([97, 112, 112, 101, 110, 100] ++ (40 :: ((showG a ++ (44 :: 32 :: (showG b ++ [41]))) ++ r))) = _
    rw [prim_word (w := [97, 112, 112, 101, 110, 100]) ⟨_, _, rfl, rfl⟩ (by decide) (stop_cons (by decide)), if_neg (by decide), if_neg (by decide), if_pos (by rfl), if_neg (by decide), if_pos (by rfl)]
    simp only [List.append_assoc, List.cons_append, List.nil_append, List.tail_cons]
    rw [ka _ (sE_cons (by decide)), Option.bind_some]
    simp only
    rw [eat_cons, Option.bind_some, eat_cons, Option.bind_some, kb _ (sE_cons (by decide)), Option.bind_some]
    simp only
    rw [eat_cons, Option.bind_some]
  | at_ a b ha hb =>
    rw [sg_at] at ih ⊢
    have ka := ih _ (ha.idx hb) (by simp only [List.length_append, List.length_cons, List.length_nil]; omega)
    show primP P ([105, 110, 116] ++ (40 :: ((showG (.mk 10 [] 0 [a, b]) ++ [41]) ++ r))) = _
    rw [prim_word (w := [105, 110, 116]) ⟨_, _, rfl, rfl⟩ (by decide) (stop_cons (by decide)), if_neg (by decide), if_neg (by decide), if_pos (by rfl), if_neg (by decide), if_neg (by decide), if_pos (by rfl)]
    rw [List.tail_cons, List.append_assoc, show ([41] : List UInt8) ++ r = 41 :: r from rfl, ka _ (sE_cons (by decide)), Option.bind_some]
    simp only [List.cons_append, List.nil_append]
    rw [eat_cons, Option.bind_some]
    rfl
theorem par_ok : ∀ (L : Nat) (x : T) (r : List UInt8) (m : Nat), Gd x → (showG x).length ≤ L → L < m + 1 → wE r →
    ∃ j, j ≤ (showG x).length ∧ parP (m + 1) (showG x ++ r) = loopP (parP m) ((showG x ++ r).length - j) x r := by
  intro L
  induction L with
  | zero =>
    intro x r m hx hl
    obtain ⟨c, t, e, _⟩ := hx.fst
    rw [e] at hl; simp at hl
  | succ L ih =>
    intro x r m hx hl hm hr
    have low : ∀ y, Gd y → (showG y).length < (showG x).length → POk (parP m) y := fun y hy hly r' hr' => by
      obtain ⟨m, rfl⟩ : ∃ m', m = m' + 1 := ⟨m - 1, by omega⟩
      obtain ⟨j, _, e⟩ := ih y r' m hy (by omega) (by omega) hr'.w
      rw [e, loop_stop hr']
    by_cases hp : isPost x = false
    · exact ⟨0, Nat.zero_le _, by rw [parP, prim_ok hx hp low hr, Option.bind_some]; rfl⟩
    · cases hx.kind with
      | idx a b ha hb =>
        rw [sg_idx] at low hl ⊢
        simp only [List.length_append, List.length_cons, List.length_nil] at low hl
        obtain ⟨j, hj, e⟩ := ih a (91 :: (showG b ++ (93 :: r))) m ha (by omega) (by omega) (wE_cons (by decide))
        refine ⟨j + 1, by simp only [List.length_append, List.length_cons, List.length_nil]; omega, ?_⟩
        simp only [List.append_assoc, List.cons_append, List.nil_append]
        rw [e]
        obtain ⟨k, hk⟩ : ∃ k, (showG a ++ (91 :: (showG b ++ (93 :: r)))).length - j = k + 1 := ⟨(showG a ++ (91 :: (showG b ++ (93 :: r)))).length - j - 1, by simp only [List.length_append, List.length_cons]; omega⟩
        rw [show (showG a ++ (91 :: (showG b ++ (93 :: r)))).length - (j + 1) = k by omega, hk, loopP, if_pos (by rfl), List.tail_cons, low b hb (by omega) _ (sE_cons (by decide)), Option.bind_some]
        simp only
        rw [if_pos (by rfl), List.tail_cons]
      | slc a b c ha hb hc =>
        rw [sg_slc] at low hl ⊢
        simp only [List.length_append, List.length_cons, List.length_nil] at low hl
        obtain ⟨j, hj, e⟩ := ih a (91 :: (showG b ++ (58 :: (showG c ++ (93 :: r))))) m ha (by omega) (by omega) (wE_cons (by decide))
        refine ⟨j + 1, by simp only [List.length_append, List.length_cons, List.length_nil]; omega, ?_⟩
        simp only [List.append_assoc, List.cons_append, List.nil_append]
        rw [e]
        obtain ⟨k, hk⟩ : ∃ k, (showG a ++ (91 :: (showG b ++ (58 :: (showG c ++ (93 :: r)))))).length - j = k + 1 := ⟨(showG a ++ (91 :: (showG b ++ (58 :: (showG c ++ (93 :: r)))))).length - j - 1, by simp only [List.length_append, List.length_cons]; omega⟩
        rw [show (showG a ++ (91 :: (showG b ++ (58 :: (showG c ++ (93 :: r)))))).length - (j + 1) = k by omega, hk, loopP, if_pos (by rfl), List.tail_cons, low b hb (by omega) _ (sE_cons (by decide)), Option.bind_some]
        simp only
        rw [if_neg (by simp), List.tail_cons, low c hc (by omega) _ (sE_cons (by decide)), Option.bind_some]
        simp only
        rw [eat_cons, Option.bind_some]
      | fld s a hs ha =>
        by_cases h : a.op = 2
        · exfalso
          exact hp (by rw [isPost_fld, decide_eq_true h]; rfl)
        · rw [sg_fld _ _ h] at low hl ⊢
          simp only [List.length_append, List.length_cons, List.length_nil] at low hl
          obtain ⟨j, hj, e⟩ := ih a (46 :: (s ++ r)) m ha (by omega) (by omega) (wE_cons (by decide))
          refine ⟨j + 1, by simp only [List.length_append, List.length_cons, List.length_nil]; omega, ?_⟩
          simp only [List.append_assoc, List.cons_append, List.nil_append]
          rw [e]
          obtain ⟨k, hk⟩ : ∃ k, (showG a ++ (46 :: (s ++ r))).length - j = k + 1 := ⟨(showG a ++ (46 :: (s ++ r))).length - j - 1, by simp only [List.length_append, List.length_cons]; omega⟩
          rw [show (showG a ++ (46 :: (s ++ r))).length - (j + 1) = k by omega, hk, loopP, if_neg (by simp), if_pos (by rfl), List.tail_cons,
            word_take (name_words (own_name hs)) hr.s, word_drop (name_words (own_name hs)) hr.s]
      | _ => exact absurd rfl hp
/-- an expression, and what stands behind it -/
noncomputable def exprP (l : List UInt8) : Option (T × List UInt8) := parP (l.length + 1) l
theorem exprP_ok {x : T} {r : List UInt8} (hx : Gd x) (hr : sE r) : exprP (showG x ++ r) = some (x, r) := by
  obtain ⟨j, _, e⟩ := par_ok (showG x).length x r (showG x ++ r).length hx (Nat.le_refl _) (by simp only [List.length_append]; omega) hr.w
  rw [exprP, e, loop_stop hr]
theorem showG_inj {x y : T} (hx : Gd x) (hy : Gd y) (h : showG x = showG y) : x = y := by
  have e1 := exprP_ok hx (r := []) (fun c hc => by cases hc)
  have e2 := exprP_ok hy (r := []) (fun c hc => by cases hc)
  rw [h, e2] at e1
  exact (Prod.mk.inj (Option.some.inj e1)).1.symm
end Go.Proofs.YtnkmjbjpmocnbaaDoor
