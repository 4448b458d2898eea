/-
  Types and statements are read back from their texts. Own work.
-/
import Derived.Test.YtnkmjbjpmocnbaaDoorP17
import Derived.Test.YtnkmjbjpmocnbaaDoorP16
set_option linter.all false
namespace Go.Proofs.YtnkmjbjpmocnbaaDoor
open Go.Aw Go.RowKit

/-- a fixed text, then the rest -/
def lit (w l : List UInt8) : Option (List UInt8) := if l.take w.length = w then some (l.drop w.length) else none
theorem lit_ok (w r : List UInt8) : lit w (w ++ r) = some r := by rw [lit, List.take_left, if_pos rfl, List.drop_left]
/-! ### types -/
noncomputable def typeP : Nat → List UInt8 → Option (Y × List UInt8)
  | 0, _ => none
  | n + 1, l =>
    if l.head? = some 91 then (typeP n (l.drop 2)).bind fun p => some (.mk 5 [] [p.1], p.2)
    else if l.takeWhile wordB = [105, 110, 116] then some (.mk 1 [] [], l.dropWhile wordB)
    else if l.takeWhile wordB = [115, 116, 114, 105, 110, 103] then some (.mk 2 [] [], l.dropWhile wordB)
    else if l.takeWhile wordB = [98, 111, 111, 108] then some (.mk 3 [] [], l.dropWhile wordB)
    else some (.mk 4 (l.takeWhile wordB) [], l.dropWhile wordB)
theorem type_word {w X : List UInt8} {n : Nat} (hn : ∃ c t, w = c :: t ∧ letterB c = true) (hw : ∀ c ∈ w, wordB c = true) (hX : stopB X) :
    typeP (n + 1) (w ++ X) = if w = [105, 110, 116] then some (.mk 1 [] [], X) else if w = [115, 116, 114, 105, 110, 103] then some (.mk 2 [] [], X) else if w = [98, 111, 111, 108] then some (.mk 3 [] [], X) else some (.mk 4 w [], X) := by
  have h1 := word_take hw hX
  have h2 := word_drop hw hX
  obtain ⟨c, t, rfl, hc⟩ := hn
  have hd : ¬ (c :: t ++ X).head? = some 91 := fun e => by
    obtain rfl : c = 91 := by simpa using e
    revert hc; decide
  rw [typeP, if_neg hd, h1, h2]
theorem type_ok : ∀ (h : Nat) (t : Y) (n : Nat) (r : List UInt8), rightY t h = true → h ≤ n → stopB r → typeP n (showY t ++ r) = some (t, r)
  | 0, t, n, r, hr, _, _ => by cases t; rw [rightY] at hr; cases hr
  | h + 1, .mk op s l, 0, r, hr, hn, hs => by omega
  | h + 1, .mk op s l, n + 1, r, hr, hn, hs => by
    rw [rightY_eq] at hr
    by_cases q : op = 1 ∨ op = 2 ∨ op = 3
    · rw [if_pos (show (Y.mk op s l).op = 1 ∨ (Y.mk op s l).op = 2 ∨ (Y.mk op s l).op = 3 from q)] at hr
      simp only [Bool.and_eq_true, decide_eq_true_eq] at hr
      obtain ⟨h1, h2⟩ := hr
      replace h1 : s = [] := h1
      replace h2 : l = [] := List.length_eq_zero_iff.1 h2
      subst h1; subst h2
      rcases q with rfl | rfl | rfl
      · rw [show showY (.mk 1 [] []) = [105, 110, 116] by rw [showY]; rfl, type_word (w := [105, 110, 116]) ⟨_, _, rfl, rfl⟩ (by decide) hs, if_pos (by rfl)]
      · rw [show showY (.mk 2 [] []) = [115, 116, 114, 105, 110, 103] by rw [showY]; rfl, type_word (w := [115, 116, 114, 105, 110, 103]) ⟨_, _, rfl, rfl⟩ (by decide) hs, if_neg (by decide), if_pos (by rfl)]
      · rw [show showY (.mk 3 [] []) = [98, 111, 111, 108] by rw [showY]; rfl, type_word (w := [98, 111, 111, 108]) ⟨_, _, rfl, rfl⟩ (by decide) hs, if_neg (by decide), if_neg (by decide), if_pos (by rfl)]
    · rw [if_neg (show ¬ ((Y.mk op s l).op = 1 ∨ (Y.mk op s l).op = 2 ∨ (Y.mk op s l).op = 3) from q)] at hr
      by_cases q4 : op = 4
      · subst q4
        rw [if_pos (show (Y.mk 4 s l).op = 4 from rfl)] at hr
        simp only [Bool.and_eq_true, decide_eq_true_eq] at hr
        obtain ⟨h1, h2⟩ := hr
        replace h1 : ownB s = true := h1
        replace h2 : l = [] := List.length_eq_zero_iff.1 h2
        subst h2
        rw [show showY (.mk 4 s []) = s by rw [showY]; rfl, type_word (name_first (own_name h1)) (name_words (own_name h1)) hs, if_neg (own_no h1 (by decide +kernel)), if_neg (own_no h1 (by decide +kernel)), if_neg (own_no h1 (by decide +kernel))]
      · rw [if_neg (show ¬ (Y.mk op s l).op = 4 from q4)] at hr
        by_cases q5 : op = 5
        · subst q5
          rw [if_pos (show (Y.mk 5 s l).op = 5 from rfl)] at hr
          simp only [Bool.and_eq_true, decide_eq_true_eq] at hr
          obtain ⟨h1, h2, h3⟩ := hr
          replace h1 : s = [] := h1
          replace h2 : l.length = 1 := h2
          replace h3 : rightYs l h = true := h3
          subst h1
          match l, h2 with
          | [y], _ =>
            rw [rightYs, Bool.and_eq_true] at h3
            have ih := type_ok h y n r h3.1 (by omega) hs
            rw [show showY (.mk 5 [] [y]) = 91 :: 93 :: showY y by rw [showY, showYs, showYs]; rfl, List.cons_append, List.cons_append, typeP, if_pos (by rfl)]
            show ((typeP n (showY y ++ r)).bind _) = _
            rw [ih, Option.bind_some]
        · rw [if_neg (show ¬ (Y.mk op s l).op = 5 from q5)] at hr
          cases hr
/-! ### statements -/
def Zg (z : Z) : Prop := (∃ h, rightZ z h = true) ∧ okZ z
inductive Kz : Z → Prop
  | var_ (s : List UInt8) (t : Y) : ownB s = true → rightY t 60 = true → Kz (.mk 1 s t T0 T0 [] [])
  | let_ (s : List UInt8) (x : T) : ownB s = true → Gd x → Kz (.mk 2 s Y0 x T0 [] [])
  | set_ (x y : T) : Gd x → Gd y → Kz (.mk 3 [] Y0 x y [] [])
  | if_ (x : T) (l m : List Z) : Gd x → (∀ z ∈ l, Zg z) → (∀ z ∈ m, Zg z) → Kz (.mk 4 [] Y0 x T0 l m)
  | for_ (x : T) (l : List Z) : Gd x → (∀ z ∈ l, Zg z) → Kz (.mk 5 [] Y0 x T0 l [])
  | ret0 : Kz (.mk 6 [] Y0 T0 T0 [] [])
  | ret_ (x : T) : Gd x → Kz (.mk 6 [] Y0 x T0 [] [])
  | do_ (x : T) : Gd x → Kz (.mk 7 [] Y0 x T0 [] [])
  | brk : Kz (.mk 8 [] Y0 T0 T0 [] [])
theorem noX_eq {x : T} (h : noX x = true) : x = T0 := by
  obtain ⟨op, s, n, l⟩ := x
  replace h : (decide (op = 0) && (decide (s = []) && (decide (n = 0) && decide (l.length = 0)))) = true := h
  simp only [Bool.and_eq_true, decide_eq_true_eq] at h
  obtain ⟨rfl, rfl, rfl, h⟩ := h
  obtain rfl := List.length_eq_zero_iff.1 h
  rfl
theorem noY_eq {x : Y} (h : noY x = true) : x = Y0 := by
  obtain ⟨op, s, l⟩ := x
  replace h : (decide (op = 0) && (decide (s = []) && decide (l.length = 0))) = true := h
  simp only [Bool.and_eq_true, decide_eq_true_eq] at h
  obtain ⟨rfl, rfl, h⟩ := h
  obtain rfl := List.length_eq_zero_iff.1 h
  rfl
theorem rightZs_zg {l : List Z} {h : Nat} (hr : rightZs l h = true) (ho : okZs l) : ∀ z ∈ l, Zg z := fun z hz => by
  cases h with
  | zero =>
    rw [rightZs_0, List.all_eq_true] at hr
    exact absurd (hr z hz) (by decide)
  | succ h =>
    rw [rightZs_all, List.all_eq_true] at hr
    exact ⟨⟨h, hr z hz⟩, okZs_mem ho hz⟩
theorem len_nil {α : Type} {l : List α} (h : l.length = 0) : l = [] := List.length_eq_zero_iff.1 h
theorem Zg.kind {z : Z} (hz : Zg z) : Kz z := by
  obtain ⟨⟨h, hr⟩, ho⟩ := hz
  have hop := rightZ_op hr
  rw [okZ_eq] at ho
  rw [rightZ_eq] at hr
  obtain ⟨op, s, t, x, y, l, m⟩ := z
  unfold stmtB at hr
  replace hop : 1 ≤ op ∧ op ≤ 8 := hop
  replace ho : okT x ∧ okT y ∧ okZs l ∧ okZs m := ho
  replace hr : (if op = 1 then ownB s && (rightY t 60 && (noX x && (noX y && (decide (l.length = 0) && decide (m.length = 0)))))
    else if op = 2 then ownB s && (rightG x 60 && (noY t && (noX y && (decide (l.length = 0) && decide (m.length = 0)))))
    else if op = 3 then rightG x 60 && (rightG y 60 && (decide (s = []) && (noY t && (decide (l.length = 0) && decide (m.length = 0)))))
    else if op = 4 then rightG x 60 && (rightZs l h && (rightZs m h && (decide (s = []) && (noY t && noX y))))
    else if op = 5 then rightG x 60 && (rightZs l h && (decide (s = []) && (noY t && (noX y && decide (m.length = 0)))))
    else if op = 6 then (rightG x 60 || noX x) && (decide (s = []) && (noY t && (noX y && (decide (l.length = 0) && decide (m.length = 0)))))
    else if op = 7 then rightG x 60 && (decide (x.op = 9) && (decide (s = []) && (noY t && (noX y && (decide (l.length = 0) && decide (m.length = 0))))))
    else if op = 8 then decide (s = []) && (noY t && (noX x && (noX y && (decide (l.length = 0) && decide (m.length = 0)))))
    else false) = true := hr
  obtain rfl | rfl | rfl | rfl | rfl | rfl | rfl | rfl : op = 1 ∨ op = 2 ∨ op = 3 ∨ op = 4 ∨ op = 5 ∨ op = 6 ∨ op = 7 ∨ op = 8 := by omega
  · rw [if_pos rfl] at hr
    simp only [Bool.and_eq_true, decide_eq_true_eq] at hr
    obtain ⟨h1, h2, h3, h4, h5, h6⟩ := hr
    obtain rfl := noX_eq h3; obtain rfl := noX_eq h4; obtain rfl := len_nil h5; obtain rfl := len_nil h6
    exact .var_ s t h1 h2
  · rw [if_neg (by decide), if_pos rfl] at hr
    simp only [Bool.and_eq_true, decide_eq_true_eq] at hr
    obtain ⟨h1, h2, h3, h4, h5, h6⟩ := hr
    obtain rfl := noY_eq h3; obtain rfl := noX_eq h4; obtain rfl := len_nil h5; obtain rfl := len_nil h6
    exact .let_ s x h1 ⟨⟨_, h2⟩, ho.1⟩
  · rw [if_neg (by decide), if_neg (by decide), if_pos rfl] at hr
    simp only [Bool.and_eq_true, decide_eq_true_eq] at hr
    obtain ⟨h1, h2, h3, h4, h5, h6⟩ := hr
    obtain rfl := h3; obtain rfl := noY_eq h4; obtain rfl := len_nil h5; obtain rfl := len_nil h6
    exact .set_ x y ⟨⟨_, h1⟩, ho.1⟩ ⟨⟨_, h2⟩, ho.2.1⟩
  · rw [if_neg (by decide), if_neg (by decide), if_neg (by decide), if_pos rfl] at hr
    simp only [Bool.and_eq_true, decide_eq_true_eq] at hr
    obtain ⟨h1, h2, h3, h4, h5, h6⟩ := hr
    obtain rfl := h4; obtain rfl := noY_eq h5; obtain rfl := noX_eq h6
    exact .if_ x l m ⟨⟨_, h1⟩, ho.1⟩ (rightZs_zg h2 ho.2.2.1) (rightZs_zg h3 ho.2.2.2)
  · rw [if_neg (by decide), if_neg (by decide), if_neg (by decide), if_neg (by decide), if_pos rfl] at hr
    simp only [Bool.and_eq_true, decide_eq_true_eq] at hr
    obtain ⟨h1, h2, h3, h4, h5, h6⟩ := hr
    obtain rfl := h3; obtain rfl := noY_eq h4; obtain rfl := noX_eq h5; obtain rfl := len_nil h6
    exact .for_ x l ⟨⟨_, h1⟩, ho.1⟩ (rightZs_zg h2 ho.2.2.1)
  · rw [if_neg (by decide), if_neg (by decide), if_neg (by decide), if_neg (by decide), if_neg (by decide), if_pos rfl] at hr
    simp only [Bool.and_eq_true, decide_eq_true_eq, Bool.or_eq_true] at hr
    obtain ⟨h1, h2, h3, h4, h5, h6⟩ := hr
    obtain rfl := h2; obtain rfl := noY_eq h3; obtain rfl := noX_eq h4; obtain rfl := len_nil h5; obtain rfl := len_nil h6
    rcases h1 with h1 | h1
    · exact .ret_ x ⟨⟨_, h1⟩, ho.1⟩
    · obtain rfl := noX_eq h1
      exact .ret0
  · rw [if_neg (by decide), if_neg (by decide), if_neg (by decide), if_neg (by decide), if_neg (by decide), if_neg (by decide), if_pos rfl] at hr
    simp only [Bool.and_eq_true, decide_eq_true_eq] at hr
    obtain ⟨h1, h2, h3, h4, h5, h6, h7⟩ := hr
    obtain rfl := h3; obtain rfl := noY_eq h4; obtain rfl := noX_eq h5; obtain rfl := len_nil h6; obtain rfl := len_nil h7
    exact .do_ x ⟨⟨_, h1⟩, ho.1⟩
  · rw [if_neg (by decide), if_neg (by decide), if_neg (by decide), if_neg (by decide), if_neg (by decide), if_neg (by decide), if_neg (by decide), if_pos rfl] at hr
    simp only [Bool.and_eq_true, decide_eq_true_eq] at hr
    obtain ⟨h2, h3, h4, h5, h6, h7⟩ := hr
    obtain rfl := h2; obtain rfl := noY_eq h3; obtain rfl := noX_eq h4; obtain rfl := noX_eq h5; obtain rfl := len_nil h6; obtain rfl := len_nil h7
    exact .brk
theorem op_pos {x : T} (hx : Gd x) : 0 < x.op := by
  cases hx.kind <;> simp [T.op]
/-! ### no expression begins with a statement's word -/
def kwL : List (List UInt8) := [[118, 97, 114], [102, 111, 114], [105, 102], [114, 101, 116, 117, 114, 110], [98, 114, 101, 97, 107]]
theorem kw_own : ∀ w ∈ kwL, w ∈ ownL := by decide +kernel
theorem kw_fst : ∀ w ∈ kwL, ∀ c, w.head? = some c → digitB c = false := by decide +kernel
theorem lead_ok : ∀ (n : Nat) (x : T) (r : List UInt8), Gd x → (showG x).length ≤ n → stopB r → (showG x ++ r).takeWhile wordB ∉ kwL := by
  intro n
  induction n with
  | zero =>
    intro x r hx hl
    obtain ⟨c, t, e, _⟩ := hx.fst
    rw [e] at hl; simp at hl
  | succ n ih =>
    intro x r hx hl hr
    cases hx.kind with
    | name s hs => rw [sg_name, word_take (name_words (own_name hs)) hr]; exact fun h => own_not hs (kw_own s h)
    | int n hn =>
      rw [sg_int, word_take (itoa_words hn) hr]
      obtain ⟨c, t, e, hc⟩ := itoa_first hn
      intro h
      have := kw_fst _ h c (by rw [e]; rfl)
      rw [hc] at this; cases this
    | text s => rw [sg_text]; show ([] : List UInt8) ∉ kwL; decide
    | tru => rw [sg_tru, word_take (by decide) hr]; decide
    | fls => rw [sg_fls, word_take (by decide) hr]; decide
    | bin s a b => rw [sg_bin]; show ([] : List UInt8) ∉ kwL; decide
    | neg a => rw [sg_neg]; show ([] : List UInt8) ∉ kwL; decide
    | not a => rw [sg_not]; show ([] : List UInt8) ∉ kwL; decide
    | call s l hs => rw [sg_call, List.append_assoc, List.cons_append, word_take (name_words (own_name hs)) (stop_cons (by decide))]; exact fun h => own_not hs (kw_own s h)
    | idx a b ha => rw [sg_idx] at hl ⊢; rw [List.append_assoc, List.cons_append]; exact ih a _ ha (by simp only [List.length_append, List.length_cons, List.length_nil] at hl; omega) (stop_cons (by decide))
    | slc a b c ha => rw [sg_slc] at hl ⊢; rw [List.append_assoc, List.cons_append]; exact ih a _ ha (by simp only [List.length_append, List.length_cons, List.length_nil] at hl; omega) (stop_cons (by decide))
    | fld s a hs ha =>
      by_cases h : a.op = 2
      · rw [sg_num _ _ h]; show ([] : List UInt8) ∉ kwL; decide
      · rw [sg_fld _ _ h] at hl ⊢; rw [List.append_assoc, List.cons_append]; exact ih a _ ha (by simp only [List.length_append, List.length_cons, List.length_nil] at hl; omega) (stop_cons (by decide))
    | make s l => rw [sg_make]; show ([] : List UInt8) ∉ kwL; decide
    | len a =>
      rw [sg_len]
      show ([108, 101, 110] ++ (40 :: ((showG a ++ [41]) ++ r))).takeWhile wordB ∉ kwL
      rw [word_take (s := [108, 101, 110]) (by decide) (stop_cons (by decide))]; decide
    | app a b =>
      rw [sg_app]
      show ([97, 112, 112, 101, 110, 100] ++ (40 :: ((showG a ++ (44 :: 32 :: (showG b ++ [41]))) ++ r))).takeWhile wordB ∉ kwL
      rw [word_take (s := [97, 112, 112, 101, 110, 100]) (by decide) (stop_cons (by decide))]; decide
    | at_ a b =>
      rw [sg_at]
      show ([105, 110, 116] ++ (40 :: ((showG (.mk 10 [] 0 [a, b]) ++ [41]) ++ r))).takeWhile wordB ∉ kwL
      rw [word_take (s := [105, 110, 116]) (by decide) (stop_cons (by decide))]; decide
theorem Gd.lead {x : T} {r : List UInt8} (hx : Gd x) (hr : stopB r) : (showG x ++ r).takeWhile wordB ∉ kwL := lead_ok _ x r hx (Nat.le_refl _) hr
end Go.Proofs.YtnkmjbjpmocnbaaDoor
/-
  Statements are read back from their lines. Own work.
-/
namespace Go.Proofs.YtnkmjbjpmocnbaaDoor
open Go.Aw Go.RowKit

abbrev ParZ := Nat → List UInt8 → Option (List Z × List UInt8)
def tabsL (k : Nat) : List UInt8 := List.replicate k 9
/-- how many tabs lead -/
def tabN : List UInt8 → Nat
  | [] => 0
  | c :: r => if c = 9 then tabN r + 1 else 0
theorem tabN_tabs (X : List UInt8) : ∀ k, tabN (tabsL k ++ X) = k + tabN X
  | 0 => by simp [tabsL]
  | k + 1 => by
    show tabN (9 :: (tabsL k ++ X)) = _
    rw [tabN, if_pos rfl, tabN_tabs X k]; omega
theorem tabs_drop (X : List UInt8) (k : Nat) : (tabsL k ++ X).drop k = X := by
  have := List.drop_left (l₁ := tabsL k) (l₂ := X)
  rwa [show (tabsL k).length = k from List.length_replicate] at this
noncomputable def stmtQ (B : ParZ) (k : Nat) (r : List UInt8) : Option (Z × List UInt8) :=
  if r.takeWhile wordB = [118, 97, 114] then (lit [118, 97, 114, 32] r).bind fun q => (lit [32] (q.dropWhile wordB)).bind fun u => (typeP 60 u).bind fun t => (lit [10] t.2).bind fun v =>
    some (.mk 1 (q.takeWhile wordB) t.1 T0 T0 [] [], v)
  else if r.takeWhile wordB = [102, 111, 114] then (lit [102, 111, 114, 32] r).bind fun q => (exprP q).bind fun x => (lit [32, 123, 10] x.2).bind fun q => (B (k + 1) q).bind fun b => (lit (tabsL k ++ [125, 10]) b.2).bind fun v =>
    some (.mk 5 [] Y0 x.1 T0 b.1 [], v)
  else if r.takeWhile wordB = [105, 102] then (lit [105, 102, 32] r).bind fun q => (exprP q).bind fun x => (lit [32, 123, 10] x.2).bind fun q => (B (k + 1) q).bind fun b => (lit (tabsL k ++ [125]) b.2).bind fun v =>
    if v.head? = some 10 then some (.mk 4 [] Y0 x.1 T0 b.1 [], v.tail)
    else (lit [32, 101, 108, 115, 101, 32, 123, 10] v).bind fun v => (B (k + 1) v).bind fun c => (lit (tabsL k ++ [125, 10]) c.2).bind fun v => some (.mk 4 [] Y0 x.1 T0 b.1 c.1, v)
  else if r.takeWhile wordB = [114, 101, 116, 117, 114, 110] then (lit [114, 101, 116, 117, 114, 110] r).bind fun q =>
    if q.head? = some 10 then some (.mk 6 [] Y0 T0 T0 [] [], q.tail)
    else (lit [32] q).bind fun q => (exprP q).bind fun x => (lit [10] x.2).bind fun v => some (.mk 6 [] Y0 x.1 T0 [] [], v)
  else if r.takeWhile wordB = [98, 114, 101, 97, 107] then (lit [98, 114, 101, 97, 107, 10] r).bind fun v => some (.mk 8 [] Y0 T0 T0 [] [], v)
  else (exprP r).bind fun x =>
    if x.2.head? = some 10 then some (.mk 7 [] Y0 x.1 T0 [] [], x.2.tail)
    else if (x.2.drop 1).head? = some 58 then (lit [32, 58, 61, 32] x.2).bind fun q => (exprP q).bind fun y => (lit [10] y.2).bind fun v => some (.mk 2 x.1.s Y0 y.1 T0 [] [], v)
    else (lit [32, 61, 32] x.2).bind fun q => (exprP q).bind fun y => (lit [10] y.2).bind fun v => some (.mk 3 [] Y0 x.1 y.1 [] [], v)
noncomputable def linesP : Nat → ParZ
  | 0, _, _ => none
  | n + 1, k, l => if k ≤ tabN l then (stmtQ (linesP n) k (l.drop k)).bind fun z => (linesP n k z.2).bind fun q => some (z.1 :: q.1, q.2) else some ([], l)
def BOk (B : ParZ) (k : Nat) (l : List Z) : Prop := ∀ r, tabN r < k → B k (textL (linesG l k) ++ r) = some (l, r)
theorem tl_one (k : Nat) (w r : List UInt8) : textL [(k, w)] ++ r = tabsL k ++ (w ++ (10 :: r)) := by simp [textL, tabsL]
theorem tl_cons (k : Nat) (w : List UInt8) (b : List Ln) (r : List UInt8) : textL ((k, w) :: b) ++ r = tabsL k ++ (w ++ (10 :: (textL b ++ r))) := by simp [textL_cons, tabsL]
theorem tl_app (a b : List Ln) (r : List UInt8) : textL (a ++ b) ++ r = textL a ++ (textL b ++ r) := by rw [textL_app, List.append_assoc]
theorem tabs_edge (k : Nat) {c : UInt8} (h : c ≠ 9) (X : List UInt8) : tabN (tabsL k ++ (c :: X)) < k + 1 := by
  rw [tabN_tabs, tabN, if_neg h]; omega
theorem not_kw {l : List UInt8} (h : l ∉ kwL) : l ≠ [118, 97, 114] ∧ l ≠ [102, 111, 114] ∧ l ≠ [105, 102] ∧ l ≠ [114, 101, 116, 117, 114, 110] ∧ l ≠ [98, 114, 101, 97, 107] := by
  refine ⟨?_, ?_, ?_, ?_, ?_⟩ <;> (intro e; rw [e] at h; exact h (by decide))
theorem kw_take (w X : List UInt8) (h : ∀ c ∈ w, wordB c = true) (hX : stopB X) : (w ++ X).takeWhile wordB = w := word_take h hX
theorem head_ne {d : UInt8} {X : List UInt8} (h : d ≠ 9) : ∀ c, (d :: X).head? = some c → c ≠ 9 := fun c hc => by
  obtain rfl : d = c := by simpa using hc
  exact h
/-- one statement's lines are read back -/
theorem stmtQ_ok {B : ParZ} {k : Nat} {z : Z} (hz : Zg z) (bl : BOk B (k + 1) z.l) (bm : BOk B (k + 1) z.m) (r : List UInt8) : ∃ X, textL (stmtG z k) ++ r = tabsL k ++ X ∧ stmtQ B k X = some (z, r) ∧ (∀ c, X.head? = some c → c ≠ 9) := by
  have tab_w : ∀ {X : List UInt8}, (∃ c t, X = c :: t ∧ fstB c) → ∀ c, X.head? = some c → c ≠ 9 := fun h c hc e => by
    obtain ⟨d, t, rfl, hd⟩ := h
    obtain rfl : d = c := by simpa using hc
    rw [e] at hd
    rcases hd with h | h | h <;> revert h <;> decide
  cases hz.kind with
  | var_ s t hs ht =>
    refine ⟨[118, 97, 114] ++ (32 :: (s ++ (32 :: (showY t ++ (10 :: r))))), ?_, ?_, head_ne (by decide)⟩
    · rw [show stmtG (.mk 1 s t T0 T0 [] []) k = [(k, [118, 97, 114, 32] ++ (s ++ ([32] ++ showY t)))] by rw [stmtG]; rfl, tl_one]
      simp only [List.append_assoc, List.cons_append, List.nil_append]
    · rw [stmtQ, kw_take _ _ (by decide) (stop_cons (by decide)), if_pos rfl]
      have e1 : lit [118, 97, 114, 32] ([118, 97, 114] ++ (32 :: (s ++ (32 :: (showY t ++ (10 :: r)))))) = some (s ++ (32 :: (showY t ++ (10 :: r)))) := lit_ok [118, 97, 114, 32] _
      have e2 : lit [32] (32 :: (showY t ++ (10 :: r))) = some (showY t ++ (10 :: r)) := lit_ok [32] _
      have e3 : lit [10] (10 :: r) = some r := lit_ok [10] _
      rw [e1, Option.bind_some, word_take (name_words (own_name hs)) (stop_cons (by decide)), word_drop (name_words (own_name hs)) (stop_cons (by decide)), e2, Option.bind_some, type_ok 60 t 60 _ ht (Nat.le_refl _) (stop_cons (by decide)), Option.bind_some]
      simp only
      rw [e3, Option.bind_some]
  | let_ s x hs hx =>
    have hn := Gd.name hs
    have en : showG (.mk 1 s 0 []) = s := sg_name s
    refine ⟨s ++ (32 :: 58 :: 61 :: 32 :: (showG x ++ (10 :: r))), ?_, ?_, tab_w (fst_app (own_fst hs))⟩
    · rw [show stmtG (.mk 2 s Y0 x T0 [] []) k = [(k, s ++ ([32, 58, 61, 32] ++ showG x))] by rw [stmtG]; rfl, tl_one]
      simp only [List.append_assoc, List.cons_append, List.nil_append]
    · have hk := hn.lead (r := 32 :: 58 :: 61 :: 32 :: (showG x ++ (10 :: r))) (stop_cons (by decide))
      rw [en] at hk
      obtain ⟨h1, h2, h3, h4, h5⟩ := not_kw hk
      have e0 := exprP_ok hn (r := 32 :: 58 :: 61 :: 32 :: (showG x ++ (10 :: r))) (sE_cons (by decide))
      rw [en] at e0
      have e1 : lit [32, 58, 61, 32] (32 :: 58 :: 61 :: 32 :: (showG x ++ (10 :: r))) = some (showG x ++ (10 :: r)) := lit_ok [32, 58, 61, 32] _
      have e3 : lit [10] (10 :: r) = some r := lit_ok [10] _
      rw [stmtQ, if_neg h1, if_neg h2, if_neg h3, if_neg h4, if_neg h5, e0, Option.bind_some]
      simp only
      rw [if_neg (by simp), if_pos (by rfl), e1, Option.bind_some, exprP_ok hx (sE_cons (by decide)), Option.bind_some]
      simp only
      rw [e3, Option.bind_some]
      rfl
  | set_ x y hx hy =>
    refine ⟨showG x ++ (32 :: 61 :: 32 :: (showG y ++ (10 :: r))), ?_, ?_, tab_w (fst_app hx.fst)⟩
    · rw [show stmtG (.mk 3 [] Y0 x y [] []) k = [(k, showG x ++ ([32, 61, 32] ++ showG y))] by rw [stmtG]; rfl, tl_one]
      simp only [List.append_assoc, List.cons_append, List.nil_append]
    · obtain ⟨h1, h2, h3, h4, h5⟩ := not_kw (hx.lead (r := 32 :: 61 :: 32 :: (showG y ++ (10 :: r))) (stop_cons (by decide)))
      have e1 : lit [32, 61, 32] (32 :: 61 :: 32 :: (showG y ++ (10 :: r))) = some (showG y ++ (10 :: r)) := lit_ok [32, 61, 32] _
      have e3 : lit [10] (10 :: r) = some r := lit_ok [10] _
      rw [stmtQ, if_neg h1, if_neg h2, if_neg h3, if_neg h4, if_neg h5, exprP_ok hx (sE_cons (by decide)), Option.bind_some]
      simp only
      rw [if_neg (by simp), if_neg (by simp), e1, Option.bind_some, exprP_ok hy (sE_cons (by decide)), Option.bind_some]
      simp only
      rw [e3, Option.bind_some]
  | if_ x l m hx hl hm =>
    replace bl : BOk B (k + 1) l := bl
    replace bm : BOk B (k + 1) m := bm
    by_cases q : m = []
    · subst q
      refine ⟨[105, 102] ++ (32 :: (showG x ++ (32 :: 123 :: 10 :: (textL (linesG l (k + 1)) ++ (tabsL k ++ (125 :: 10 :: r)))))), ?_, ?_, head_ne (by decide)⟩
      · rw [show stmtG (.mk 4 [] Y0 x T0 l []) k = (k, [105, 102, 32] ++ (showG x ++ [32, 123])) :: (linesG l (k + 1) ++ ([] ++ [(k, [125])])) by rw [stmtG]; rfl, tl_cons, List.nil_append, tl_app, tl_one]
        simp only [List.append_assoc, List.cons_append, List.nil_append]
      · have e1 : lit [105, 102, 32] ([105, 102] ++ (32 :: (showG x ++ (32 :: 123 :: 10 :: (textL (linesG l (k + 1)) ++ (tabsL k ++ (125 :: 10 :: r))))))) = some (showG x ++ (32 :: 123 :: 10 :: (textL (linesG l (k + 1)) ++ (tabsL k ++ (125 :: 10 :: r))))) := lit_ok [105, 102, 32] _
        have e2 : lit [32, 123, 10] (32 :: 123 :: 10 :: (textL (linesG l (k + 1)) ++ (tabsL k ++ (125 :: 10 :: r)))) = some (textL (linesG l (k + 1)) ++ (tabsL k ++ (125 :: 10 :: r))) := lit_ok [32, 123, 10] _
        have e3 : lit (tabsL k ++ [125]) (tabsL k ++ (125 :: 10 :: r)) = some (10 :: r) := by
          have := lit_ok (tabsL k ++ [125]) (10 :: r)
          rwa [List.append_assoc] at this
        rw [stmtQ, kw_take _ _ (by decide) (stop_cons (by decide)), if_neg (by decide), if_neg (by decide), if_pos rfl, e1, Option.bind_some, exprP_ok hx (sE_cons (by decide)), Option.bind_some]
        simp only
        rw [e2, Option.bind_some, bl _ (tabs_edge k (by decide) _), Option.bind_some]
        simp only
        rw [e3, Option.bind_some, if_pos (by rfl)]
        rfl
    · refine ⟨[105, 102] ++ (32 :: (showG x ++ (32 :: 123 :: 10 :: (textL (linesG l (k + 1)) ++ (tabsL k ++ (125 :: 32 :: 101 :: 108 :: 115 :: 101 :: 32 :: 123 :: 10 :: (textL (linesG m (k + 1)) ++ (tabsL k ++ (125 :: 10 :: r))))))))), ?_, ?_, head_ne (by decide)⟩
      · rw [show stmtG (.mk 4 [] Y0 x T0 l m) k = (k, [105, 102, 32] ++ (showG x ++ [32, 123])) :: (linesG l (k + 1) ++ ((if m.length = 0 then [] else (k, [125, 32, 101, 108, 115, 101, 32, 123]) :: linesG m (k + 1)) ++ [(k, [125])])) by rw [stmtG]; rfl,
          if_neg (fun e => q (len_nil e))]
        show textL ((k, [105, 102, 32] ++ (showG x ++ [32, 123])) :: (linesG l (k + 1) ++ ((k, [125, 32, 101, 108, 115, 101, 32, 123]) :: (linesG m (k + 1) ++ [(k, [125])])))) ++ r = _
        rw [tl_cons, tl_app, tl_cons, tl_app, tl_one]
        simp only [List.append_assoc, List.cons_append, List.nil_append]
      · have e1 : lit [105, 102, 32] ([105, 102] ++ (32 :: (showG x ++ (32 :: 123 :: 10 :: (textL (linesG l (k + 1)) ++ (tabsL k ++ (125 :: 32 :: 101 :: 108 :: 115 :: 101 :: 32 :: 123 :: 10 :: (textL (linesG m (k + 1)) ++ (tabsL k ++ (125 :: 10 :: r)))))))))) = some (showG x ++ (32 :: 123 :: 10 :: (textL (linesG l (k + 1)) ++ (tabsL k ++ (125 :: 32 :: 101 :: 108 :: 115 :: 101 :: 32 :: 123 :: 10 :: (textL (linesG m (k + 1)) ++ (tabsL k ++ (125 :: 10 :: r)))))))) := lit_ok [105, 102, 32] _
        have e2 : lit [32, 123, 10] (32 :: 123 :: 10 :: (textL (linesG l (k + 1)) ++ (tabsL k ++ (125 :: 32 :: 101 :: 108 :: 115 :: 101 :: 32 :: 123 :: 10 :: (textL (linesG m (k + 1)) ++ (tabsL k ++ (125 :: 10 :: r))))))) = some (textL (linesG l (k + 1)) ++ (tabsL k ++ (125 :: 32 :: 101 :: 108 :: 115 :: 101 :: 32 :: 123 :: 10 :: (textL (linesG m (k + 1)) ++ (tabsL k ++ (125 :: 10 :: r)))))) := lit_ok [32, 123, 10] _
        have e3 : lit (tabsL k ++ [125]) (tabsL k ++ (125 :: 32 :: 101 :: 108 :: 115 :: 101 :: 32 :: 123 :: 10 :: (textL (linesG m (k + 1)) ++ (tabsL k ++ (125 :: 10 :: r))))) = some (32 :: 101 :: 108 :: 115 :: 101 :: 32 :: 123 :: 10 :: (textL (linesG m (k + 1)) ++ (tabsL k ++ (125 :: 10 :: r)))) := by
          have := lit_ok (tabsL k ++ [125]) (32 :: 101 :: 108 :: 115 :: 101 :: 32 :: 123 :: 10 :: (textL (linesG m (k + 1)) ++ (tabsL k ++ (125 :: 10 :: r))))
          rwa [List.append_assoc] at this
        have e4 : lit [32, 101, 108, 115, 101, 32, 123, 10] (32 :: 101 :: 108 :: 115 :: 101 :: 32 :: 123 :: 10 :: (textL (linesG m (k + 1)) ++ (tabsL k ++ (125 :: 10 :: r)))) = some (textL (linesG m (k + 1)) ++ (tabsL k ++ (125 :: 10 :: r))) := lit_ok [32, 101, 108, 115, 101, 32, 123, 10] _
        have e5 : lit (tabsL k ++ [125, 10]) (tabsL k ++ (125 :: 10 :: r)) = some r := by
          have := lit_ok (tabsL k ++ [125, 10]) r
          rwa [List.append_assoc] at this
        rw [stmtQ, kw_take _ _ (by decide) (stop_cons (by decide)), if_neg (by decide), if_neg (by decide), if_pos rfl, e1, Option.bind_some, exprP_ok hx (sE_cons (by decide)), Option.bind_some]
        simp only
        rw [e2, Option.bind_some, bl _ (tabs_edge k (by decide) _), Option.bind_some]
        simp only
        rw [e3, Option.bind_some, if_neg (by simp), e4, Option.bind_some, bm _ (tabs_edge k (by decide) _), Option.bind_some]
        simp only
        rw [e5, Option.bind_some]
  | for_ x l hx hl =>
    replace bl : BOk B (k + 1) l := bl
    refine ⟨[102, 111, 114] ++ (32 :: (showG x ++ (32 :: 123 :: 10 :: (textL (linesG l (k + 1)) ++ (tabsL k ++ (125 :: 10 :: r)))))), ?_, ?_, head_ne (by decide)⟩
    · rw [show stmtG (.mk 5 [] Y0 x T0 l []) k = (k, [102, 111, 114, 32] ++ (showG x ++ [32, 123])) :: (linesG l (k + 1) ++ [(k, [125])]) by rw [stmtG]; rfl, tl_cons, tl_app, tl_one]
      simp only [List.append_assoc, List.cons_append, List.nil_append]
    · have e1 : lit [102, 111, 114, 32] ([102, 111, 114] ++ (32 :: (showG x ++ (32 :: 123 :: 10 :: (textL (linesG l (k + 1)) ++ (tabsL k ++ (125 :: 10 :: r))))))) = some (showG x ++ (32 :: 123 :: 10 :: (textL (linesG l (k + 1)) ++ (tabsL k ++ (125 :: 10 :: r))))) := lit_ok [102, 111, 114, 32] _
      have e2 : lit [32, 123, 10] (32 :: 123 :: 10 :: (textL (linesG l (k + 1)) ++ (tabsL k ++ (125 :: 10 :: r)))) = some (textL (linesG l (k + 1)) ++ (tabsL k ++ (125 :: 10 :: r))) := lit_ok [32, 123, 10] _
      have e5 : lit (tabsL k ++ [125, 10]) (tabsL k ++ (125 :: 10 :: r)) = some r := by
        have := lit_ok (tabsL k ++ [125, 10]) r
        rwa [List.append_assoc] at this
      rw [stmtQ, kw_take _ _ (by decide) (stop_cons (by decide)), if_neg (by decide), if_pos rfl, e1, Option.bind_some, exprP_ok hx (sE_cons (by decide)), Option.bind_some]
      simp only
      rw [e2, Option.bind_some, bl _ (tabs_edge k (by decide) _), Option.bind_some]
      simp only
      rw [e5, Option.bind_some]
  | ret0 =>
    refine ⟨[114, 101, 116, 117, 114, 110] ++ (10 :: r), ?_, ?_, head_ne (by decide)⟩
    · rw [show stmtG (.mk 6 [] Y0 T0 T0 [] []) k = [(k, [114, 101, 116, 117, 114, 110])] by rw [stmtG]; rfl, tl_one]
    · rw [stmtQ, kw_take _ _ (by decide) (stop_cons (by decide)), if_neg (by decide), if_neg (by decide), if_neg (by decide), if_pos rfl, lit_ok, Option.bind_some, if_pos (by rfl)]
      rfl
  | ret_ x hx =>
    refine ⟨[114, 101, 116, 117, 114, 110] ++ (32 :: (showG x ++ (10 :: r))), ?_, ?_, head_ne (by decide)⟩
    · rw [show stmtG (.mk 6 [] Y0 x T0 [] []) k = [(k, bodyX x)] by rw [stmtG]; rfl, tl_one, bodyX, if_pos (op_pos hx)]
      simp only [List.append_assoc, List.cons_append, List.nil_append]
    · have e2 : lit [32] (32 :: (showG x ++ (10 :: r))) = some (showG x ++ (10 :: r)) := lit_ok [32] _
      have e3 : lit [10] (10 :: r) = some r := lit_ok [10] _
      rw [stmtQ, kw_take _ _ (by decide) (stop_cons (by decide)), if_neg (by decide), if_neg (by decide), if_neg (by decide), if_pos rfl, lit_ok, Option.bind_some, if_neg (by simp), e2, Option.bind_some, exprP_ok hx (sE_cons (by decide)), Option.bind_some]
      simp only
      rw [e3, Option.bind_some]
  | do_ x hx =>
    refine ⟨showG x ++ (10 :: r), ?_, ?_, tab_w (fst_app hx.fst)⟩
    · rw [show stmtG (.mk 7 [] Y0 x T0 [] []) k = [(k, showG x)] by rw [stmtG]; rfl, tl_one]
    · obtain ⟨h1, h2, h3, h4, h5⟩ := not_kw (hx.lead (r := 10 :: r) (stop_cons (by decide)))
      rw [stmtQ, if_neg h1, if_neg h2, if_neg h3, if_neg h4, if_neg h5, exprP_ok hx (sE_cons (by decide)), Option.bind_some]
      simp only
      rw [if_pos (by rfl)]
      rfl
  | brk =>
    refine ⟨[98, 114, 101, 97, 107] ++ (10 :: r), ?_, ?_, head_ne (by decide)⟩
    · rw [show stmtG (.mk 8 [] Y0 T0 T0 [] []) k = [(k, [98, 114, 101, 97, 107])] by rw [stmtG]; rfl, tl_one]
    · have e1 : lit [98, 114, 101, 97, 107, 10] ([98, 114, 101, 97, 107] ++ (10 :: r)) = some r := lit_ok [98, 114, 101, 97, 107, 10] _
      rw [stmtQ, kw_take _ _ (by decide) (stop_cons (by decide)), if_neg (by decide), if_neg (by decide), if_neg (by decide), if_neg (by decide), if_pos rfl, e1, Option.bind_some]
theorem linesP_ok : ∀ (n : Nat) (l : List Z) (k : Nat), cntZs l < n → (∀ z ∈ l, Zg z) → BOk (linesP n) k l := by
  intro n
  induction n with
  | zero => intro l k h; omega
  | succ n ih =>
    intro l k hn hg r hr
    cases l with
    | nil =>
      rw [linesG, show textL [] ++ r = r from rfl, linesP, if_neg (by omega)]
    | cons z l =>
      rw [cntZs] at hn
      have hz := hg z (.head _)
      have hc : cntZs z.l + cntZs z.m < cntZ z := by cases z; rw [cntZ]; simp only [Z.l, Z.m]; omega
      have kl : ∀ y ∈ z.l, Zg y := by
        cases hz.kind with
        | if_ x l m hx hl hm => exact hl
        | for_ x l hx hl => exact hl
        | _ => exact fun y hy => absurd hy (List.not_mem_nil)
      have km : ∀ y ∈ z.m, Zg y := by
        cases hz.kind with
        | if_ x l m hx hl hm => exact hm
        | _ => exact fun y hy => absurd hy (List.not_mem_nil)
      obtain ⟨X, e, eq, hX⟩ := stmtQ_ok (B := linesP n) (k := k) hz (ih z.l (k + 1) (by omega) kl) (ih z.m (k + 1) (by omega) km) (textL (linesG l k) ++ r)
      rw [linesG, textL_app, List.append_assoc, e, linesP, if_pos (by rw [tabN_tabs]; omega), tabs_drop, eq, Option.bind_some]
      simp only
      rw [ih l k (by omega) (fun y hy => hg y (.tail _ hy)) r hr, Option.bind_some]
end Go.Proofs.YtnkmjbjpmocnbaaDoor
/-
  Files are read back from their texts. Own work.
-/
namespace Go.Proofs.YtnkmjbjpmocnbaaDoor
open Go.Aw Go.RowKit

abbrev Pr := List UInt8 × Y
/-- lines of fields -/
noncomputable def fieldsP : Nat → List UInt8 → Option (List Pr × List UInt8)
  | 0, _ => none
  | n + 1, l => if l.head? = some 9 then (lit [32] (l.tail.dropWhile wordB)).bind fun u => (typeP 60 u).bind fun t => (lit [10] t.2).bind fun v => (fieldsP n v).bind fun q => some ((l.tail.takeWhile wordB, t.1) :: q.1, q.2)
    else some ([], l)
theorem fieldsP_ok (r : List UInt8) (hr : r.head? ≠ some 9) : ∀ (l : List Pr) (n : Nat), l.length < n → (∀ x ∈ l, ownB x.1 = true ∧ rightY x.2 60 = true) → fieldsP n (fieldsT l ++ r) = some (l, r)
  | [], n + 1, _, _ => by rw [show fieldsT [] ++ r = r from rfl, fieldsP, if_neg hr]
  | x :: l, n + 1, hn, hx => by
    obtain ⟨h1, h2⟩ := hx x (.head _)
    have ih := fieldsP_ok r hr l n (by simpa using hn) fun y hy => hx y (.tail _ hy)
    have e0 : fieldsT (x :: l) ++ r = 9 :: (x.1 ++ (32 :: (showY x.2 ++ (10 :: (fieldsT l ++ r))))) := by
      show (fieldT x ++ fieldsT l) ++ r = _
      simp only [fieldT, List.append_assoc, List.cons_append, List.nil_append]
    have e2 : lit [32] (32 :: (showY x.2 ++ (10 :: (fieldsT l ++ r)))) = some (showY x.2 ++ (10 :: (fieldsT l ++ r))) := lit_ok [32] _
    have e3 : lit [10] (10 :: (fieldsT l ++ r)) = some (fieldsT l ++ r) := lit_ok [10] _
    rw [e0, fieldsP, if_pos (by rfl), List.tail_cons, word_take (name_words (own_name h1)) (stop_cons (by decide)), word_drop (name_words (own_name h1)) (stop_cons (by decide)), e2, Option.bind_some, type_ok 60 x.2 60 _ h2 (Nat.le_refl _) (stop_cons (by decide)), Option.bind_some]
    simp only
    rw [e3, Option.bind_some, ih, Option.bind_some]
/-! ### parameters -/
noncomputable def paramP (l : List UInt8) : Option (Pr × List UInt8) :=
  (lit [32] (l.dropWhile wordB)).bind fun u => (typeP 60 u).bind fun t => some ((l.takeWhile wordB, t.1), t.2)
theorem paramP_ok {x : Pr} (h1 : ownB x.1 = true) (h2 : rightY x.2 60 = true) {r : List UInt8} (hr : stopB r) : paramP (paramT x ++ r) = some (x, r) := by
  have e0 : paramT x ++ r = x.1 ++ (32 :: (showY x.2 ++ r)) := by simp only [paramT, List.append_assoc, List.cons_append, List.nil_append]
  have e2 : lit [32] (32 :: (showY x.2 ++ r)) = some (showY x.2 ++ r) := lit_ok [32] _
  rw [paramP, e0, word_take (name_words (own_name h1)) (stop_cons (by decide)), word_drop (name_words (own_name h1)) (stop_cons (by decide)), e2, Option.bind_some, type_ok 60 x.2 60 _ h2 (Nat.le_refl _) hr, Option.bind_some]
noncomputable def moreQ : Nat → List UInt8 → Option (List Pr × List UInt8)
  | 0, _ => none
  | k + 1, l => if l.head? = some 44 then (paramP (l.drop 2)).bind fun p => (moreQ k p.2).bind fun q => some (p.1 :: q.1, q.2) else some ([], l)
noncomputable def paramsP (l : List UInt8) : Option (List Pr × List UInt8) :=
  if l.head? = some 41 then some ([], l) else (paramP l).bind fun p => (moreQ 201 p.2).bind fun q => some (p.1 :: q.1, q.2)
theorem moreQ_ok (r : List UInt8) : ∀ (l : List Pr) (k : Nat), l.length < k → (∀ x ∈ l, ownB x.1 = true ∧ rightY x.2 60 = true) → moreQ k (Lib.joinTail [44, 32] (l.map paramT) ++ (41 :: r)) = some (l, 41 :: r)
  | [], k + 1, _, _ => by
    rw [List.map_nil, jTail_nil, List.nil_append, moreQ, if_neg (by simp)]
  | x :: l, k + 1, hk, hx => by
    have ih := moreQ_ok r l k (by simpa using hk) fun y hy => hx y (.tail _ hy)
    have hs : stopB (Lib.joinTail [44, 32] (l.map paramT) ++ (41 :: r)) := by
      cases l with
      | nil => rw [List.map_nil, jTail_nil, List.nil_append]; exact stop_cons (by decide)
      | cons y l => rw [List.map_cons, jTail_cons]; simp only [List.append_assoc, List.cons_append]; exact stop_cons (by decide)
    rw [List.map_cons, jTail_cons]
    simp only [List.append_assoc, List.cons_append, List.nil_append]
    rw [moreQ, if_pos (by rfl)]
    show ((paramP (paramT x ++ (Lib.joinTail [44, 32] (l.map paramT) ++ (41 :: r)))).bind _) = _
    rw [paramP_ok (hx x (.head _)).1 (hx x (.head _)).2 hs, Option.bind_some]
    simp only
    rw [ih, Option.bind_some]
theorem paramsP_ok (r : List UInt8) (l : List Pr) (hl : l.length ≤ 200) (hx : ∀ x ∈ l, ownB x.1 = true ∧ rightY x.2 60 = true) : paramsP (Lib.join (l.map paramT) [44, 32] ++ (41 :: r)) = some (l, 41 :: r) := by
  cases l with
  | nil => rw [List.map_nil, Lib.join_nil, List.nil_append, paramsP, if_pos (by rfl)]
  | cons x l =>
    have ih := moreQ_ok r l 201 (by simp only [List.length_cons] at hl; omega) fun y hy => hx y (.tail _ hy)
    have hs : stopB (Lib.joinTail [44, 32] (l.map paramT) ++ (41 :: r)) := by
      cases l with
      | nil => rw [List.map_nil, jTail_nil, List.nil_append]; exact stop_cons (by decide)
      | cons y l => rw [List.map_cons, jTail_cons]; simp only [List.append_assoc, List.cons_append]; exact stop_cons (by decide)
    obtain ⟨h1, h2⟩ := hx x (.head _)
    have hf : (paramT x ++ (Lib.joinTail [44, 32] (l.map paramT) ++ (41 :: r))).head? ≠ some 41 := by
      obtain ⟨c, t, e, hc⟩ := name_first (own_name h1)
      rw [paramT, e]
      simp only [List.cons_append, List.head?_cons]
      intro h
      obtain rfl : c = 41 := by simpa using h
      revert hc; decide
    rw [List.map_cons, Lib.join_cons, List.append_assoc, paramsP, if_neg hf, paramP_ok h1 h2 hs, Option.bind_some]
    simp only
    rw [ih, Option.bind_some]
/-! ### zipped lists -/
theorem unzip_ok : ∀ (a : List (List UInt8)) (t : List Y), t.length = a.length → (a.zip t).map Prod.fst = a ∧ (a.zip t).map Prod.snd = t
  | [], [], _ => ⟨rfl, rfl⟩
  | [], _ :: _, h => by simp at h
  | _ :: _, [], h => by simp at h
  | x :: a, y :: t, h => by
    obtain ⟨h1, h2⟩ := unzip_ok a t (by simpa using h)
    exact ⟨by rw [List.zip_cons_cons, List.map_cons, h1], by rw [List.zip_cons_cons, List.map_cons, h2]⟩
theorem zip_all {a : List (List UInt8)} {t : List Y} (h : partsB a t = true) : a.length ≤ 200 ∧ t.length = a.length ∧ (a.zip t).length ≤ 200 ∧ ∀ x ∈ a.zip t, ownB x.1 = true ∧ rightY x.2 60 = true := by
  rw [partsB] at h
  simp only [Bool.and_eq_true, decide_eq_true_eq, List.all_eq_true] at h
  exact ⟨h.1, h.2.1, by rw [List.length_zip]; omega, h.2.2⟩
/-! ### structs and functions -/
noncomputable def scP (l : List UInt8) : Option (Sc × List UInt8) :=
  (lit [10, 116, 121, 112, 101, 32] l).bind fun q => (lit [32, 115, 116, 114, 117, 99, 116, 32, 123, 10] (q.dropWhile wordB)).bind fun u => (fieldsP 201 u).bind fun f => (lit [125, 10] f.2).bind fun v =>
    some (⟨q.takeWhile wordB, f.1.map Prod.fst, f.1.map Prod.snd⟩, v)
theorem scP_ok {d : Sc} (hd : rightSc d = true) (r : List UInt8) : scP (scT d ++ r) = some (d, r) := by
  rw [rightSc, Bool.and_eq_true] at hd
  obtain ⟨h1, h2⟩ := hd
  obtain ⟨_, h4, h5, h6⟩ := zip_all h2
  obtain ⟨u1, u2⟩ := unzip_ok _ _ h4
  have e0 : scT d ++ r = [10, 116, 121, 112, 101, 32] ++ (d.s ++ ([32, 115, 116, 114, 117, 99, 116, 32, 123, 10] ++ (fieldsT (d.names.zip d.types) ++ ([125, 10] ++ r)))) := by
    simp only [scT, headSc, List.append_assoc]
  have hs : stopB ([32, 115, 116, 114, 117, 99, 116, 32, 123, 10] ++ (fieldsT (d.names.zip d.types) ++ ([125, 10] ++ r))) := stop_cons (by decide)
  rw [e0, scP, lit_ok, Option.bind_some, word_take (name_words (own_name h1)) hs, word_drop (name_words (own_name h1)) hs, lit_ok, Option.bind_some, fieldsP_ok ([125, 10] ++ r) (by simp) _ _ (by omega) h6, Option.bind_some]
  simp only
  rw [lit_ok, Option.bind_some, u1, u2]
noncomputable def fnP (l : List UInt8) : Option (Fn × List UInt8) :=
  (lit [10, 102, 117, 110, 99, 32] l).bind fun q => (lit [40] (q.dropWhile wordB)).bind fun u => (paramsP u).bind fun p => (lit [41, 32] p.2).bind fun u =>
    if u.head? = some 123 then (lit [123, 10] u).bind fun v => (linesP 3001 1 v).bind fun b => (lit [125, 10] b.2).bind fun w => some (⟨q.takeWhile wordB, p.1.map Prod.fst, p.1.map Prod.snd, Y0, b.1⟩, w)
    else (typeP 60 u).bind fun t => (lit [32, 123, 10] t.2).bind fun v => (linesP 3001 1 v).bind fun b => (lit [125, 10] b.2).bind fun w => some (⟨q.takeWhile wordB, p.1.map Prod.fst, p.1.map Prod.snd, t.1, b.1⟩, w)
theorem typ_fst : ∀ {t : Y}, rightY t 60 = true → ∃ c s, showY t = c :: s ∧ c ≠ 123 := fun {t} h => by
  obtain ⟨op, s, l⟩ := t
  rw [rightY_eq] at h
  have e := showY_eq (.mk op s l)
  unfold textY at e
  by_cases q : op = 1 ∨ op = 2 ∨ op = 3
  · rcases q with rfl | rfl | rfl
    · exact ⟨105, [110, 116], e, by decide⟩
    · exact ⟨115, _, e, by decide⟩
    · exact ⟨98, _, e, by decide⟩
  · rw [if_neg (show ¬ ((Y.mk op s l).op = 1 ∨ (Y.mk op s l).op = 2 ∨ (Y.mk op s l).op = 3) from q)] at h
    by_cases q4 : op = 4
    · subst q4
      rw [if_pos (show (Y.mk 4 s l).op = 4 from rfl)] at h
      simp only [Bool.and_eq_true, decide_eq_true_eq] at h
      obtain ⟨c, r, e2, hc⟩ := name_first (own_name (s := s) h.1)
      exact ⟨c, r, (show showY (.mk 4 s l) = s from e).trans e2, fun h => by rw [h] at hc; revert hc; decide⟩
    · have h1 : ¬ op = 1 := fun h => q (.inl h)
      have h2 : ¬ op = 2 := fun h => q (.inr (.inl h))
      have h3 : ¬ op = 3 := fun h => q (.inr (.inr h))
      rw [if_neg (show ¬ (Y.mk op s l).op = 1 from h1), if_neg (show ¬ (Y.mk op s l).op = 2 from h2), if_neg (show ¬ (Y.mk op s l).op = 3 from h3), if_neg (show ¬ (Y.mk op s l).op = 4 from q4)] at e
      exact ⟨91, _, e, by decide⟩
theorem fnP_ok {g : Fn} (hg : rightFn g = true) (ho : okZs g.l) (hc : cntZs g.l ≤ 3000) (r : List UInt8) : fnP (fnT g ++ r) = some (g, r) := by
  rw [rightFn] at hg
  simp only [Bool.and_eq_true, Bool.or_eq_true] at hg
  obtain ⟨h1, h2, h3, h7⟩ := hg
  obtain ⟨_, h4, h5, h6⟩ := zip_all h2
  obtain ⟨u1, u2⟩ := unzip_ok _ _ h4
  obtain ⟨s, a, t, ret, l⟩ := g
  simp only at h1 h2 h3 h7 h4 h5 h6 u1 u2 ho hc
  have kb := linesP_ok 3001 l 1 (by omega) (rightZs_zg h7 ho) ([125, 10] ++ r) (by simp [tabN])
  have kp := fun X => paramsP_ok X (a.zip t) h5 h6
  rcases h3 with h3 | h3
  · have hp : 0 < ret.op := by
      obtain ⟨op, s, l⟩ := ret
      rw [rightY_eq] at h3
      by_cases q : (Y.mk op s l).op = 1 ∨ (Y.mk op s l).op = 2 ∨ (Y.mk op s l).op = 3
      · omega
      · rw [if_neg q] at h3
        by_cases q4 : (Y.mk op s l).op = 4
        · omega
        · rw [if_neg q4] at h3
          by_cases q5 : (Y.mk op s l).op = 5
          · omega
          · rw [if_neg q5] at h3; cases h3
    have e0 : fnT ⟨s, a, t, ret, l⟩ ++ r = [10, 102, 117, 110, 99, 32] ++ (s ++ ([40] ++ (Lib.join ((a.zip t).map paramT) [44, 32] ++ (41 :: 32 :: (showY ret ++ ([32, 123, 10] ++ (textL (linesG l 1) ++ ([125, 10] ++ r)))))))) := by
      simp only [fnT, headFn, retT, if_pos hp, List.append_assoc, List.cons_append, List.nil_append]
    have hs : stopB ([40] ++ (Lib.join ((a.zip t).map paramT) [44, 32] ++ (41 :: 32 :: (showY ret ++ ([32, 123, 10] ++ (textL (linesG l 1) ++ ([125, 10] ++ r))))))) := stop_cons (by decide)
    have hs2 : stopB ([32, 123, 10] ++ (textL (linesG l 1) ++ ([125, 10] ++ r))) := stop_cons (by decide)
    have e1 : lit [41, 32] (41 :: 32 :: (showY ret ++ ([32, 123, 10] ++ (textL (linesG l 1) ++ ([125, 10] ++ r))))) = some (showY ret ++ ([32, 123, 10] ++ (textL (linesG l 1) ++ ([125, 10] ++ r)))) := lit_ok [41, 32] _
    have hh : (showY ret ++ ([32, 123, 10] ++ (textL (linesG l 1) ++ ([125, 10] ++ r)))).head? ≠ some 123 := by
      obtain ⟨c, s, e, hc⟩ := typ_fst h3
      rw [e]
      intro h
      exact hc (by simpa using h)
    rw [e0, fnP, lit_ok, Option.bind_some, word_take (name_words (own_name h1)) hs, word_drop (name_words (own_name h1)) hs, lit_ok, Option.bind_some, kp, Option.bind_some]
    simp only
    rw [e1, Option.bind_some, if_neg hh, type_ok 60 ret 60 _ h3 (Nat.le_refl _) hs2, Option.bind_some]
    simp only
    rw [lit_ok, Option.bind_some, kb, Option.bind_some]
    simp only
    rw [lit_ok, Option.bind_some, u1, u2]
  · obtain rfl := noY_eq h3
    have e0 : fnT ⟨s, a, t, Y0, l⟩ ++ r = [10, 102, 117, 110, 99, 32] ++ (s ++ ([40] ++ (Lib.join ((a.zip t).map paramT) [44, 32] ++ (41 :: ([32, 123, 10] ++ (textL (linesG l 1) ++ ([125, 10] ++ r))))))) := by
      simp only [fnT, headFn, retT, if_neg (show ¬ 0 < Y0.op by decide), List.append_assoc, List.cons_append, List.nil_append]
    have hs : stopB ([40] ++ (Lib.join ((a.zip t).map paramT) [44, 32] ++ (41 :: ([32, 123, 10] ++ (textL (linesG l 1) ++ ([125, 10] ++ r)))))) := stop_cons (by decide)
    have e1 : lit [41, 32] (41 :: ([32, 123, 10] ++ (textL (linesG l 1) ++ ([125, 10] ++ r)))) = some ([123, 10] ++ (textL (linesG l 1) ++ ([125, 10] ++ r))) := lit_ok [41, 32] _
    rw [e0, fnP, lit_ok, Option.bind_some, word_take (name_words (own_name h1)) hs, word_drop (name_words (own_name h1)) hs, lit_ok, Option.bind_some, kp, Option.bind_some]
    simp only
    rw [e1, Option.bind_some, if_pos (by rfl), lit_ok, Option.bind_some, kb, Option.bind_some]
    simp only
    rw [lit_ok, Option.bind_some, u1, u2]
/-! ### lists of them -/
noncomputable def scsP : Nat → List UInt8 → Option (List Sc × List UInt8)
  | 0, _ => none
  | n + 1, l => if l.take 2 = [10, 116] then (scP l).bind fun d => (scsP n d.2).bind fun q => some (d.1 :: q.1, q.2) else some ([], l)
noncomputable def fnsP : Nat → List UInt8 → Option (List Fn × List UInt8)
  | 0, _ => none
  | n + 1, l => if l.head? = some 10 then (fnP l).bind fun d => (fnsP n d.2).bind fun q => some (d.1 :: q.1, q.2) else some ([], l)
theorem scsP_ok (r : List UInt8) (hr : r.take 2 ≠ [10, 116]) : ∀ (l : List Sc) (n : Nat), l.length < n → (∀ d ∈ l, rightSc d = true) → scsP n (scsT l ++ r) = some (l, r)
  | [], n + 1, _, _ => by rw [show scsT [] ++ r = r from rfl, scsP, if_neg hr]
  | d :: l, n + 1, hn, hd => by
    have ih := scsP_ok r hr l n (by simpa using hn) fun y hy => hd y (.tail _ hy)
    rw [show scsT (d :: l) ++ r = scT d ++ (scsT l ++ r) by show (scT d ++ scsT l) ++ r = _; rw [List.append_assoc], scsP, if_pos (by rfl), scP_ok (hd d (.head _)), Option.bind_some]
    simp only
    rw [ih, Option.bind_some]
theorem fnsP_ok : ∀ (l : List Fn) (n : Nat), l.length < n → (∀ g ∈ l, rightFn g = true ∧ okZs g.l ∧ cntZs g.l ≤ 3000) → fnsP n (fnsT l) = some (l, [])
  | [], n + 1, _, _ => by rw [show fnsT [] = [] from rfl, fnsP, if_neg (by simp)]
  | d :: l, n + 1, hn, hd => by
    have ih := fnsP_ok l n (by simpa using hn) fun y hy => hd y (.tail _ hy)
    obtain ⟨h1, h2, h3⟩ := hd d (.head _)
    rw [show fnsT (d :: l) = fnT d ++ fnsT l from rfl, fnsP, if_pos (by rfl), fnP_ok h1 h2 h3, Option.bind_some]
    simp only
    rw [ih, Option.bind_some]
noncomputable def fileP (l : List UInt8) : Option Fi := (lit pkgL l).bind fun q => (scsP 3001 q).bind fun a => (fnsP 3001 a.2).bind fun b => some ⟨a.1, b.1⟩
theorem fileP_ok {f : Fi} (hf : rightF f = true) (h1 : f.structs.length ≤ 3000) (h2 : f.funcs.length ≤ 3000) (h3 : ∀ g ∈ f.funcs, okZs g.l ∧ cntZs g.l ≤ 3000) : fileP (showF f) = some f := by
  rw [rightF, Bool.and_eq_true, List.all_eq_true, List.all_eq_true] at hf
  have hr : (fnsT f.funcs).take 2 ≠ [10, 116] := by
    cases f.funcs with
    | nil => simp [fnsT]
    | cons g l => show [10, 102] ≠ _; decide
  rw [showF, fileP, lit_ok, Option.bind_some, scsP_ok _ hr f.structs 3001 (by omega) hf.1, Option.bind_some]
  simp only
  rw [fnsP_ok f.funcs 3001 (by omega) fun g hg => ⟨hf.2 g hg, h3 g hg⟩, Option.bind_some]
end Go.Proofs.YtnkmjbjpmocnbaaDoor
