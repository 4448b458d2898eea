/-
 Tokens: what stands next in a text. Own work.
-/
import Derived.Test.YtfeknkaioofljaaGreatDoorQ3
set_option linter.all false
set_option maxHeartbeats 4000000
set_option maxRecDepth 4000
namespace Go.Proofs.YtfeknkaioofljaaGreatDoor.Lx
open Go.Aw
theorem unqL_flat (t : List UInt8) : unqL (t.flatMap oneL) = some t := by
 induction t with
 | nil => exact unqL_nil
 | cons c t ih =>
  rw [List.flatMap_cons,unqL_some (dec1_one c _),ih]; rfl
theorem unqL_back : ∀ (n : Nat) (l t : List UInt8),l.length ≤ n → unqL l = some t → l = t.flatMap oneL
 | n,l,t,hn,h => by
  by_cases hl : l = []
  ·subst hl
   rw [unqL_nil] at h
   cases h; rfl
  cases hd : dec1 l with
  | none => rw [unqL_none hl hd] at h; cases h
  | some q =>
   obtain ⟨c,r⟩ := q
   rw [unqL_some hd] at h
   obtain ⟨t',h1,rfl⟩ := Option.map_eq_some_iff.1 h
   have hlt := dec1_len hd
   cases n with
   | zero => omega
   | succ n =>
    have := unqL_back n r t' (by omega) h1
    rw [dec1_some hd,this,List.flatMap_cons]
theorem unq_quote (t : List UInt8) : unqS (quoteL t) = (t,0) := by
 have hl := (quoteL_len t).1
 have hq : quoteL t = 34 :: (t.flatMap oneL ++ [34]) := by simp [quoteL]
 have h1 : (quoteL t).getD 0 0 = 34 := by rw [hq]; rfl
 have hm : (quoteL t).take ((quoteL t).length - 1) = 34 :: t.flatMap oneL := by rw [hq]; simp
 have h2 : (quoteL t).getD ((quoteL t).length - 1) 0 = 34 := by
  rw [hq]
  simp [List.getD_eq_getElem?_getD]
 rw [unqS,if_neg (by rintro (x | x | x) <;> first | omega | exact x h1 | exact x h2),hm]
 rw [List.drop_one,List.tail_cons,unqL_flat]
theorem unq_ok {s : List UInt8} (h : (unqS s).2 = 0) : quoteL (unqS s).1 = s := by
 unfold unqS at h ⊢
 split at h
 ·cases h
 ·rename_i hn
  rw [if_neg hn]
  have h1 : 2 ≤ s.length := by omega
  have h2 : s.getD 0 0 = 34 := Decidable.not_not.1 fun x => hn (.inr (.inl x))
  have h3 : s.getD (s.length - 1) 0 = 34 := Decidable.not_not.1 fun x => hn (.inr (.inr x))
  cases hu : unqL ((s.take (s.length - 1)).drop 1) with
  | none => rw [hu] at h; cases h
  | some t =>
   simp only []
   have hb := unqL_back _ _ t (Nat.le_refl _) hu
   rw [get0 (by omega)] at h2 h3
   have e1 : s = s.take (s.length - 1) ++ [s[s.length - 1]] := by
    have := List.take_append_drop (s.length - 1) s
    rw [List.drop_eq_getElem_cons (by omega),List.drop_of_length_le (by omega)] at this
    exact this.symm
   have e2 : s.take (s.length - 1) = s[0] :: (s.take (s.length - 1)).drop 1 := by
    have hl : 0 < (s.take (s.length - 1)).length := by simp; omega
    have := List.getElem_cons_drop hl
    rw [List.drop_zero,List.getElem_take] at this
    exact this.symm
   rw [h3] at e1
   rw [h2,hb] at e2
   rw [e2] at e1
   rw [quoteL,e1]
theorem unq_bad (s : List UInt8) : (unqS s).2 = 0 ∨ unqS s = ([],10) := by
 unfold unqS
 split
 ·exact .inr rfl
 ·split
  ·exact .inr rfl
  ·exact .inl rfl
def symR : List UInt8 → Option (List UInt8 × List UInt8)
 | [] => none
 | c :: r => if c.toNat = 34 then some ([],r) else match h : dec1 (c :: r) with
  | none => none
  | some (d,r') => (symR r').map fun q => (d :: q.1,q.2)
termination_by l => l.length
decreasing_by exact dec1_len h
theorem symR_end (r : List UInt8) : symR (34 :: r) = some ([],r) := by rw [symR,if_pos (by decide)]
theorem symR_some {c d : UInt8} {r r' : List UInt8} (hc : ¬ c.toNat = 34) (h : dec1 (c :: r) = some (d,r')) : symR (c :: r) = (symR r').map fun q => (d :: q.1,q.2) := by
 rw [symR,if_neg hc]
 split
 ·rename_i h'; rw [h] at h'; cases h'
 ·rename_i h'; rw [h] at h'; cases h'; rfl
theorem symR_none {c : UInt8} {r : List UInt8} (hc : ¬ c.toNat = 34) (h : dec1 (c :: r) = none) : symR (c :: r) = none := by
 rw [symR,if_neg hc]
 split
 ·rfl
 ·rename_i h'; rw [h] at h'; cases h'
theorem oneL_head (c : UInt8) : ∃ d r,oneL c = d :: r ∧ ¬ d.toNat = 34 := by
 unfold oneL
 split
 ·exact ⟨92, [c],rfl,by decide⟩
 ·split
  ·exact ⟨92,_,rfl,by decide⟩
  ·split
   ·exact ⟨92,_,rfl,by decide⟩
   ·exact ⟨c, [],rfl,by omega⟩
theorem symR_flat (t r : List UInt8) : symR (t.flatMap oneL ++ 34 :: r) = some (t,r) := by
 induction t with
 | nil => exact symR_end r
 | cons c t ih =>
  obtain ⟨d,x,hx,hd⟩ := oneL_head c
  have h1 := dec1_one c (t.flatMap oneL ++ 34 :: r)
  rw [List.flatMap_cons,List.append_assoc]
  rw [hx,List.cons_append] at h1 ⊢
  rw [symR_some hd h1,ih]; rfl
theorem symR_back : ∀ (n : Nat) (l t r : List UInt8),l.length ≤ n → symR l = some (t,r) → l = t.flatMap oneL ++ 34 :: r
 | n, [],t,r,_,h => by rw [symR] at h; cases h
 | 0,c :: l,t,r,hn,h => by simp at hn
 | n + 1,c :: l,t,r,hn,h => by
  by_cases hc : c.toNat = 34
  ·obtain rfl : c = 34 := UInt8.toNat_inj.1 hc
   rw [symR_end] at h
   cases h; rfl
  ·cases hd : dec1 (c :: l) with
   | none => rw [symR_none hc hd] at h; cases h
   | some q =>
    obtain ⟨d,r'⟩ := q
    rw [symR_some hc hd] at h
    obtain ⟨⟨t',r2⟩,h1,h2⟩ := Option.map_eq_some_iff.1 h
    cases h2
    have := dec1_len hd
    have ih := symR_back n r' t' r2 (by simp at this hn; omega) h1
    rw [dec1_some hd,ih,List.flatMap_cons,List.append_assoc]
theorem symR_iff {l t r : List UInt8} : symR l = some (t,r) ↔ l = t.flatMap oneL ++ 34 :: r :=
 ⟨symR_back _ l t r (Nat.le_refl _),fun h => h ▸ symR_flat t r⟩
def quoR : List UInt8 → Option Nat
 | [] => none
 | [c] => if c.toNat = 34 then some 1 else none
 | c :: d :: r => if c.toNat = 10 then none else if c.toNat = 34 then some 1 else if c.toNat = 92 then (quoR r).map (· + 2) else (quoR (d :: r)).map (· + 1)
theorem quoR_nl (r : List UInt8) : quoR (10 :: r) = none := by cases r <;> rfl
theorem quoR_end (r : List UInt8) : quoR (34 :: r) = some 1 := by cases r <;> rfl
theorem quoR_esc (d : UInt8) (r : List UInt8) : quoR (92 :: d :: r) = (quoR r).map (· + 2) := rfl
theorem quoR_esc1 : quoR [92] = none := rfl
theorem quoR_one {c : UInt8} (r : List UInt8) (h1 : ¬ c.toNat = 10) (h2 : ¬ c.toNat = 34) (h3 : ¬ c.toNat = 92) : quoR (c :: r) = (quoR r).map (· + 1) := by
 cases r with
 | nil => exact if_neg h2
 | cons d r => rw [quoR,if_neg h1,if_neg h2,if_neg h3]
theorem quoR_hex (i : Nat) (hi : i < 16) : ¬ (hexd i).toNat = 10 ∧ ¬ (hexd i).toNat = 34 ∧ ¬ (hexd i).toNat = 92 := by
 revert hi; revert i; decide
theorem quoR_oneL (c : UInt8) (r : List UInt8) : quoR (oneL c ++ r) = (quoR r).map (· + (oneL c).length) := by
 have hlt := c.toNat_lt
 unfold oneL
 split
 ·exact quoR_esc _ _
 ·split
  ·exact quoR_esc _ _
  ·split
   ·obtain ⟨a1,a2,a3⟩ := quoR_hex (c.toNat / 16) (by omega)
    obtain ⟨b1,b2,b3⟩ := quoR_hex (c.toNat % 16) (by omega)
    show quoR (92 :: 120 :: hexd (c.toNat / 16) :: hexd (c.toNat % 16) :: r) = _
    rw [quoR_esc,quoR_one _ a1 a2 a3,quoR_one _ b1 b2 b3]
    cases quoR r <;> simp
   ·exact quoR_one _ (by omega) (by omega) (by omega)
theorem quoR_flat (t r : List UInt8) : quoR (t.flatMap oneL ++ 34 :: r) = some ((t.flatMap oneL).length + 1) := by
 induction t with
 | nil => exact quoR_end r
 | cons c t ih =>
  rw [List.flatMap_cons,List.append_assoc,quoR_oneL,ih]
  simp; omega
theorem quoR_le : ∀ (l : List UInt8) (n : Nat),quoR l = some n → 1 ≤ n ∧ n ≤ l.length := by
 intro l
 fun_induction quoR l with
 | case1 => intro n h; cases h
 | case2 c h => intro n h'; cases h'; simp
 | case3 c h => intro n h'; cases h'
 | case4 => intro n h'; cases h'
 | case5 => intro n h'; cases h'; simp
 | case6 c d r h1 h2 h3 ih =>
  intro n h'
  obtain ⟨m,hm,rfl⟩ := Option.map_eq_some_iff.1 h'
  have := ih m hm
  simp; omega
 | case7 c d r h1 h2 h3 ih =>
  intro n h'
  obtain ⟨m,hm,rfl⟩ := Option.map_eq_some_iff.1 h'
  have := ih m hm
  simp at this ⊢; omega
theorem sym_some {l t r : List UInt8} (h : symR l = some (t,r)) : quoR l = some ((quoteL t).length - 1) ∧ (34 :: l).take (quoteL t).length = quoteL t ∧ l = (quoteL t).drop 1 ++ r ∧ 34 :: l = quoteL t ++ r := by
 have e := symR_iff.1 h
 subst e
 have e2 : 34 :: (t.flatMap oneL ++ 34 :: r) = quoteL t ++ r := by simp [quoteL]
 refine ⟨by rw [quoR_flat]; simp [quoteL],?_,by simp [quoteL],e2⟩
 rw [e2,List.take_left']
 rfl
theorem sym_none {l : List UInt8} {n : Nat} (h : symR l = none) (hn : quoR l = some n) : unqS ((34 :: l).take (n + 1)) = ([],10) := by
 rcases unq_bad ((34 :: l).take (n + 1)) with hb | hb
 ·have hq := unq_ok hb
  generalize (unqS ((34 :: l).take (n + 1))).1 = t at hq
  rw [List.take_succ_cons] at hq
  have h1 : l.take n = t.flatMap oneL ++ [34] := by simpa [quoteL] using hq.symm
  have h2 : l = t.flatMap oneL ++ 34 :: l.drop n := by
   have := List.take_append_drop n l
   rw [h1] at this
   simpa using this.symm
  rw [symR_iff.2 h2] at h; cases h
 ·exact hb
def smallB (c : UInt8) : Bool := decide (97 ≤ c.toNat) && decide (c.toNat ≤ 122)
def wordB (c : UInt8) : Bool := letterB c || digitB c
def blankB (c : UInt8) : Bool := decide (c.toNat = 32) || decide (c.toNat = 9) || decide (c.toNat = 10)
def noNl (c : UInt8) : Bool := !decide (c.toNat = 10)
def signs : List UInt8 := [40,41,123,125,44,46,58,33,61,60,62,43,45,42]
def wDecl : List UInt8 := [46,100,101,99,108]
def wIn : List UInt8 := [46,105,110,112,117,116]
def wOut : List UInt8 := [46,111,117,116,112,117,116]
def twoS (c : UInt8) (r : List UInt8) : Bool := (decide (c.toNat = 58) && decide (r.head? = some 45)) || ((decide (c.toNat = 33) || decide (c.toNat = 60) || decide (c.toNat = 62)) && decide (r.head? = some 61))
def signN (c : UInt8) (r : List UInt8) : Nat := if twoS c r = true then 2 else if c ∈ signs then 1 else 0
def oneT : List UInt8 → Option (Nat × List UInt8 × List UInt8)
 | [] => none
 | c :: r =>
  if letterB c = true then (if ((c :: r).takeWhile wordB).length ≤ 40 then some (1,(c :: r).takeWhile wordB,(c :: r).dropWhile wordB) else none)
  else if digitB c = true then (if (pnL ((c :: r).takeWhile wordB)).2 = 0 then some (2,(c :: r).takeWhile wordB,(c :: r).dropWhile wordB) else none)
  else if c.toNat = 34 then (symR r).map fun q => (3,q.1,q.2)
  else if c.toNat = 46 ∧ 0 < (r.takeWhile smallB).length then
   (if c :: r.takeWhile smallB = wDecl ∨ c :: r.takeWhile smallB = wIn ∨ c :: r.takeWhile smallB = wOut then some (5,c :: r.takeWhile smallB,r.dropWhile smallB) else none)
  else if signN c r = 0 then none else some (4,(c :: r).take (signN c r),(c :: r).drop (signN c r))
def txt (k : Nat) (w : List UInt8) : List UInt8 := if k = 3 then quoteL w else w
theorem twoS_ne {c : UInt8} {r : List UInt8} (h : twoS c r = true) : ∃ d r',r = d :: r' := by
 cases r with
 | nil => simp [twoS] at h
 | cons d r => exact ⟨d,r,rfl⟩
theorem oneT_cases {s : List UInt8} {k : Nat} {w r : List UInt8} (h : oneT s = some (k,w,r)) : ∃ c l,s = c :: l ∧ s = txt k w ++ r ∧ 1 ≤ k ∧ k ≤ 5 ∧
  ((letterB c = true ∧ k = 1 ∧ w = s.takeWhile wordB ∧ r = s.dropWhile wordB ∧ w.length ≤ 40) ∨
   (letterB c = false ∧ digitB c = true ∧ k = 2 ∧ w = s.takeWhile wordB ∧ r = s.dropWhile wordB ∧ (pnL w).2 = 0) ∨
   (c = 34 ∧ k = 3 ∧ symR l = some (w,r)) ∨
   (c = 46 ∧ k = 5 ∧ w = 46 :: l.takeWhile smallB ∧ r = l.dropWhile smallB ∧ 0 < (l.takeWhile smallB).length ∧ (w = wDecl ∨ w = wIn ∨ w = wOut)) ∨
   (letterB c = false ∧ digitB c = false ∧ ¬ c.toNat = 34 ∧ ¬ (c.toNat = 46 ∧ 0 < (l.takeWhile smallB).length) ∧ k = 4 ∧ ¬ signN c l = 0 ∧ w = s.take (signN c l) ∧ r = s.drop (signN c l))) := by
 cases s with
 | nil => simp [oneT] at h
 | cons c l =>
  refine ⟨c,l,rfl,?_⟩
  unfold oneT at h
  simp only [] at h
  split at h
  ·rename_i h1
   split at h
   ·rename_i h2
    cases h
    exact ⟨(List.takeWhile_append_dropWhile).symm,by omega,by omega, .inl ⟨h1,rfl,rfl,rfl,h2⟩⟩
   ·cases h
  ·rename_i h1
   have h1' : letterB c = false := by simpa using h1
   split at h
   ·rename_i h2
    split at h
    ·rename_i h3
     cases h
     exact ⟨(List.takeWhile_append_dropWhile).symm,by omega,by omega, .inr (.inl ⟨h1',h2,rfl,rfl,rfl,h3⟩)⟩
    ·cases h
   ·rename_i h2
    have h2' : digitB c = false := by simpa using h2
    split at h
    ·rename_i h3
     obtain ⟨⟨t,r'⟩,h4,h5⟩ := Option.map_eq_some_iff.1 h
     cases h5
     obtain rfl : c = 34 := UInt8.toNat_inj.1 h3
     exact ⟨(sym_some h4).2.2.2,by omega,by omega, .inr (.inr (.inl ⟨rfl,rfl,h4⟩))⟩
    ·rename_i h3
     split at h
     ·rename_i h4
      split at h
      ·rename_i h5
       cases h
       obtain rfl : c = 46 := UInt8.toNat_inj.1 h4.1
       refine ⟨?_,by omega,by omega, .inr (.inr (.inr (.inl ⟨rfl,rfl,rfl,rfl,h4.2,h5⟩)))⟩
       show _ = 46 :: (l.takeWhile smallB ++ l.dropWhile smallB)
       rw [List.takeWhile_append_dropWhile]
      ·cases h
     ·rename_i h4
      split at h
      ·cases h
      ·rename_i h5
       cases h
       exact ⟨(List.take_append_drop _ _).symm,by omega,by omega, .inr (.inr (.inr (.inr ⟨h1',h2',h3,h4,rfl,h5,rfl,rfl⟩)))⟩
theorem signN_le (c : UInt8) (l : List UInt8) : signN c l ≤ (c :: l).length := by
 unfold signN
 split
 ·rename_i h; obtain ⟨d,r,rfl⟩ := twoS_ne h; simp
 ·split <;> simp
theorem oneT_txt {s : List UInt8} {k : Nat} {w r : List UInt8} (h : oneT s = some (k,w,r)) : s = txt k w ++ r := by
 obtain ⟨c,l,_,h2,_⟩ := oneT_cases h
 exact h2
theorem wordB_letter {c : UInt8} (h : letterB c = true) : wordB c = true := by simp [wordB,h]
theorem wordB_digit {c : UInt8} (h : digitB c = true) : wordB c = true := by simp [wordB,h]
theorem oneT_pos {s : List UInt8} {k : Nat} {w r : List UInt8} (h : oneT s = some (k,w,r)) : 1 ≤ (txt k w).length := by
 obtain ⟨c,l,rfl,_,_,_,h3⟩ := oneT_cases h
 rcases h3 with ⟨h1,rfl,rfl,_⟩ | ⟨_,h1,rfl,rfl,_⟩ | ⟨_,rfl,_⟩ | ⟨_,rfl,rfl,_⟩ | ⟨_,_,_,_,rfl,h1,rfl,_⟩
 ·simp [txt,List.takeWhile_cons,wordB_letter h1]
 ·simp [txt,List.takeWhile_cons,wordB_digit h1]
 ·have := (quoteL_len w).1
  rw [txt,if_pos rfl]; omega
 ·simp [txt]
 ·have := signN_le c l
  rw [txt,if_neg (by decide),List.length_take]; omega
theorem oneT_len {s : List UInt8} {k : Nat} {w r : List UInt8} (h : oneT s = some (k,w,r)) : r.length < s.length := by
 have h1 := congrArg List.length (oneT_txt h)
 have h2 := oneT_pos h
 rw [List.length_append] at h1; omega
theorem tw_ext {p : UInt8 → Bool} {x : List UInt8} (h : ∀ c ∈ x.head?,p c = false) : ∀ l : List UInt8,(l.takeWhile p ++ x).takeWhile p = l.takeWhile p ∧ (l.takeWhile p ++ x).dropWhile p = x
 | [] => by
  cases x with
  | nil => simp
  | cons c x => have := h c rfl; simp [List.takeWhile_cons,List.dropWhile_cons,this]
 | c :: l => by
  have ih := tw_ext h l
  cases hc : p c with
  | true => simp only [List.takeWhile_cons,hc,if_true,List.cons_append,List.dropWhile_cons]; exact ⟨by rw [ih.1],ih.2⟩
  | false =>
   simp only [List.takeWhile_cons,hc,Bool.false_eq_true,if_false,List.nil_append]
   have := tw_ext h []
   simpa using this
def skipL : List UInt8 → List UInt8
 | [] => []
 | c :: r => if blankB c = true then skipL r else if c.toNat = 47 ∧ r.head? = some 47 then skipL (r.dropWhile noNl) else c :: r
termination_by l => l.length
decreasing_by
 ·simp
 ·have := (List.dropWhile_sublist noNl (l := r)).length_le
  simp; omega
theorem skipL_nil : skipL [] = [] := by rw [skipL]
theorem skipL_blank {c : UInt8} (h : blankB c = true) (r : List UInt8) : skipL (c :: r) = skipL r := by rw [skipL,if_pos h]
theorem skipL_comm (r : List UInt8) : skipL (47 :: 47 :: r) = skipL (r.dropWhile noNl) := by
 rw [skipL,if_neg (by decide),if_pos ⟨by decide,rfl⟩,List.dropWhile_cons,if_pos (by decide)]
theorem skipL_stop {c : UInt8} {r : List UInt8} (h : blankB c = false) (h2 : ¬ (c.toNat = 47 ∧ r.head? = some 47)) : skipL (c :: r) = c :: r := by
 rw [skipL,if_neg (by rw [h]; decide),if_neg h2]
theorem skipL_suf (s : List UInt8) : skipL s <:+ s := by
 fun_induction skipL s with
 | case1 => exact List.suffix_refl _
 | case2 c r h ih => exact ih.trans (List.suffix_cons _ _)
 | case3 c r h h2 ih => exact ih.trans ((List.dropWhile_suffix _).trans (List.suffix_cons _ _))
 | case4 c r h h2 => exact List.suffix_refl _
theorem skipL_len (s : List UInt8) : (skipL s).length ≤ s.length := (skipL_suf s).length_le
def cnt (s : List UInt8) : Nat := s.countP fun c => decide (c.toNat = 10)
theorem cnt_app (a b : List UInt8) : cnt (a ++ b) = cnt a + cnt b := List.countP_append
theorem cnt_suf {a b : List UInt8} (h : a <:+ b) : cnt a ≤ cnt b := by
 obtain ⟨x,rfl⟩ := h
 rw [cnt_app]; omega
def rawL : List UInt8 → List (Nat × List UInt8 × Nat) × Option Nat
 | [] => ([],none)
 | c :: l => match h : oneT (c :: l) with
  | none => ([],some (cnt (c :: l)))
  | some (k,w,r) => ((k,w,cnt (c :: l)) :: (rawL (skipL r)).1,(rawL (skipL r)).2)
termination_by l => l.length
decreasing_by all_goals
 have h1 := oneT_len h
 have h2 := skipL_len r
 omega
theorem rawL_nil : rawL [] = ([],none) := by rw [rawL]
theorem rawL_none {s : List UInt8} (hs : s ≠ []) (h : oneT s = none) : rawL s = ([],some (cnt s)) := by
 cases s with
 | nil => exact absurd rfl hs
 | cons c l =>
  rw [rawL]
  split
  ·rfl
  ·rename_i h'; rw [h] at h'; cases h'
theorem rawL_some {s w r : List UInt8} {k : Nat} (h : oneT s = some (k,w,r)) : rawL s = ((k,w,cnt s) :: (rawL (skipL r)).1,(rawL (skipL r)).2) := by
 cases s with
 | nil => simp [oneT] at h
 | cons c l =>
  rw [rawL]
  split
  ·rename_i h'; rw [h] at h'; cases h'
  ·rename_i h'; rw [h] at h'; cases h'; rfl
theorem rawL_ind {Q : List UInt8 → Prop} (h0 : Q []) (h1 : ∀ s,s ≠ [] → oneT s = none → Q s) (h2 : ∀ s k w r,oneT s = some (k,w,r) → Q (skipL r) → Q s) : ∀ s,Q s := by
 intro s
 generalize hn : s.length = n
 induction n using Nat.strongRecOn generalizing s with
 | ind n ih =>
  by_cases hs : s = []
  ·subst hs; exact h0
  ·cases h : oneT s with
   | none => exact h1 s hs h
   | some q =>
    obtain ⟨k,w,r⟩ := q
    have a := oneT_len h
    have b := skipL_len r
    exact h2 s k w r h (ih _ (by omega) _ rfl)
structure Tok where
 kind : Int
 s : List UInt8
 line : Int
 deriving DecidableEq
def tokL (N : Nat) (x : Nat × List UInt8 × Nat) : Tok := ⟨x.1,x.2.1,((1 + N - x.2.2 : Nat) : Int)⟩
def lexS (s : List UInt8) : List Tok × Int × Int :=
 if 65536 < s.length then ([],0,21) else
  match (rawL (skipL s)).1[20000]? with
  | some x => ([],((1 + cnt s - x.2.2 : Nat) : Int),21)
  | none => match (rawL (skipL s)).2 with
   | some q => ([],((1 + cnt s - q : Nat) : Int),20)
   | none => ((rawL (skipL s)).1.map (tokL (cnt s)),0,0)
end Go.Proofs.YtfeknkaioofljaaGreatDoor.Lx
namespace Go.Proofs.YtfeknkaioofljaaGreatDoor.Lx
open Go.Aw Go.RowKit
theorem cnt_byte (l : List UInt8) : Lib.countByte l 10 = cnt l := by
 rw [Lib.countByte,List.count,cnt]
 refine congrFun (congrArg _ (funext fun c => ?_)) _
 rw [Bool.eq_iff_iff]
 simp only [beq_iff_eq,decide_eq_true_eq]
 exact ⟨fun h => by rw [h]; rfl,fun h => UInt8.toNat_inj.1 h⟩
theorem cnt_len (l : List UInt8) : cnt l ≤ l.length := List.countP_le_length
theorem countString_call {l : List UInt8} {S : List En} {k : AV → List En → Prop} (hk : k (.int .i64 (cnt l : Nat)) S) (hl : l.length ≤ 16777216) : AExt Tryz.prog 156 [.str l, .int .u8 ((10 : Nat) : Int)] S k :=
 ⟨Tryz.f156,Extern.BytealgCount.count,Tryz.func156,by kernel_rfl,rfl,by kernel_rfl,by kernel_rfl,fun w0 K w vs hv hS => by
  obtain ⟨x,r,rfl,hx,hr⟩ := hv.cons_inv
  obtain ⟨y,r',rfl,hy,hr'⟩ := hr.cons_inv
  obtain rfl := hr'.nil_inv
  cases hx; cases hy
  have h := Lib.run_countString (P := Tryz.prog) ⟨l.toArray⟩ ((10 : Nat) : Int) w
  have e : (((10 : Nat) : Int)).toNat.toUInt8 = 10 := rfl
  rw [e] at h
  have hle := cnt_len l
  have e2 : ((Lib.countByte l 10 : Nat) : Int) = (cnt l : Nat) := by rw [cnt_byte]
  exact ⟨_,w,K, .int .i64 (cnt l : Nat),S,h,Kle.refl K,e2 ▸ .int _ _ (has_i64 (by rw [cnt_byte]; show -9223372036854775808 ≤ (cnt l : Int) ∧ (cnt l : Int) ≤ 9223372036854775807; omega)),hS,hk⟩⟩
theorem count_ok (l : List UInt8) (R : List En) (hl : l.length ≤ 16777216) : ACall Tryz.prog 124 [.str l, .str [10]] R (fun r S => r = .int .i64 (cnt l : Nat) ∧ S = R) := by
 refine ACall_body tab_ok Tryz.func124 rfl rfl rfl (by kernel_rfl) (nb_ rfl) ?_
 repeat first|refine go_ ?_|intro _
 refine AW_false (b := false) rfl (by first | rfl | (simp; done) | (simp; omega) | decide) ?_
 repeat first|refine go_ ?_|intro _
 refine AW_true (b := true) rfl (by first | rfl | (simp; done) | (simp; omega) | decide) ?_
 repeat first|refine go_ ?_|intro _
 refine at_list 0 rfl (by simp) ?_
 repeat first|refine go_ ?_|intro _
 refine .inr (countString_call ?_ hl)
 repeat first|refine go_ ?_|intro _
 refine AW_ret ?_
 repeat refine mk_ ?_
 refine ⟨_,R,AVle.eq ?_,sle_,rfl,rfl⟩
 rfl
theorem prefix_ok (s p : List UInt8) (R : List En) : ACall Tryz.prog 84 [.str s, .str p] R (fun r S => r = .bool (decide (s.take p.length = p)) ∧ S = R) := by
 have k : ACall Tryz.prog 123 [.str s, .str p] R (fun r S => r = .bool (decide (s.take p.length = p)) ∧ S = R) := by
  refine ACall_body tab_ok Tryz.func123 rfl rfl rfl (by kernel_rfl) (nb_ rfl) ?_
  repeat first|refine go_ ?_|intro _
  refine gsplit (p.length ≤ s.length) ib_ (fun h => ?_) (fun h => ?_)
  ·repeat first|refine ga_ ?_|intro _
   refine at_ss 0 p.length (s.take p.length) rfl rfl (by omega) (by omega) (by simp) ?_
   repeat first|refine ga_ ?_|intro _
   refine AW_ret ?_
   repeat refine mk_ ?_
   refine ⟨_,R,AVle.eq ?_,sle_,rfl,rfl⟩
   rfl
  ·repeat first|refine ga_ ?_|intro _
   refine AW_ret ?_
   repeat refine mk_ ?_
   refine ⟨_,R,AVle.eq ?_,sle_,rfl,rfl⟩
   exact congrArg AV.bool (decide_eq_false fun e => h (by have := congrArg List.length e; simp at this; omega)).symm
 refine ACall_body tab_ok Tryz.func84 rfl rfl rfl (by kernel_rfl) (nb_ rfl) ?_
 repeat first|refine go_ ?_|intro _
 refine Or.inl ⟨⟨_,Tryz.func123,rfl,rfl⟩,ACall.mono ?_ (k)⟩
 rintro _ S1 ⟨rfl,hS1⟩
 subst S1
 repeat first|refine go_ ?_|intro _
 refine AW_ret ?_
 repeat refine mk_ ?_
 refine ⟨_,R,AVle.eq ?_,sle_,rfl,rfl⟩
 rfl
def IsP (F : FuncId) (p : UInt8 → Bool) : Prop := fnOk Tryz.prog F ∧ ∀ (c : UInt8) (R : List En),ACall Tryz.prog F [.int .u8 c.toNat] R (fun r S => r = .bool (p c) ∧ S = R)
theorem isLetter_ok (c : UInt8) (R : List En) : ACall Tryz.prog 128 [.int .u8 c.toNat] R (fun r S => r = .bool (letterB c) ∧ S = R) := by
 refine ACall_body tab_ok Tryz.func128 rfl rfl rfl (by kernel_rfl) (nb_ rfl) ?_
 all_goals (repeat first|refine ga_ ?_|intro _)
 all_goals (try (first | refine AW_cond rfl (fun h => ?_) (fun h => ?_) | refine ⟨fun h => ?_,fun h => ?_⟩))
 all_goals (try (repeat first|refine ga_ ?_|intro _))
 all_goals (try (first | refine AW_cond rfl (fun h => ?_) (fun h => ?_) | refine ⟨fun h => ?_,fun h => ?_⟩))
 all_goals (try (repeat first|refine ga_ ?_|intro _))
 all_goals (try (first | refine AW_cond rfl (fun h => ?_) (fun h => ?_) | refine ⟨fun h => ?_,fun h => ?_⟩))
 all_goals (try (repeat first|refine ga_ ?_|intro _))
 all_goals (try (first | refine AW_cond rfl (fun h => ?_) (fun h => ?_) | refine ⟨fun h => ?_,fun h => ?_⟩))
 all_goals (try (repeat first|refine ga_ ?_|intro _))
 all_goals (refine AW_ret ?_)
 all_goals (refine ⟨_,R,AVle.eq ?_,sle_,rfl,rfl⟩)
 all_goals (show AV.bool _ = AV.bool _; congr 1; rw [Bool.eq_iff_iff]; simp [letterB] at *; omega)
theorem isDigit_ok (c : UInt8) (R : List En) : ACall Tryz.prog 129 [.int .u8 c.toNat] R (fun r S => r = .bool (digitB c) ∧ S = R) := by
 refine ACall_body tab_ok Tryz.func129 rfl rfl rfl (by kernel_rfl) (nb_ rfl) ?_
 all_goals (repeat first|refine ga_ ?_|intro _)
 all_goals (try (first | refine AW_cond rfl (fun h => ?_) (fun h => ?_) | refine ⟨fun h => ?_,fun h => ?_⟩))
 all_goals (try (repeat first|refine ga_ ?_|intro _))
 all_goals (try (first | refine AW_cond rfl (fun h => ?_) (fun h => ?_) | refine ⟨fun h => ?_,fun h => ?_⟩))
 all_goals (try (repeat first|refine ga_ ?_|intro _))
 all_goals (refine AW_ret ?_)
 all_goals (refine ⟨_,R,AVle.eq ?_,sle_,rfl,rfl⟩)
 all_goals (show AV.bool _ = AV.bool _; congr 1; rw [Bool.eq_iff_iff]; simp [digitB] at *; omega)
theorem isBlank_ok : IsP 83 blankB := ⟨⟨_,Tryz.func83,rfl,rfl⟩,fun c R => by
 refine ACall_body tab_ok Tryz.func83 rfl rfl rfl (by kernel_rfl) (nb_ rfl) ?_
 all_goals (repeat first|refine ga_ ?_|intro _)
 all_goals (try (first | refine AW_cond rfl (fun h => ?_) (fun h => ?_) | refine ⟨fun h => ?_,fun h => ?_⟩))
 all_goals (try (repeat first|refine ga_ ?_|intro _))
 all_goals (try (first | refine AW_cond rfl (fun h => ?_) (fun h => ?_) | refine ⟨fun h => ?_,fun h => ?_⟩))
 all_goals (try (repeat first|refine ga_ ?_|intro _))
 all_goals (refine AW_ret ?_)
 all_goals (refine ⟨_,R,AVle.eq ?_,sle_,rfl,rfl⟩)
 all_goals (show AV.bool _ = AV.bool _; congr 1; rw [Bool.eq_iff_iff]; simp [blankB] at *; omega)⟩
theorem isNoNl_ok : IsP 85 noNl := ⟨⟨_,Tryz.func85,rfl,rfl⟩,fun c R => by
 refine ACall_body tab_ok Tryz.func85 rfl rfl rfl (by kernel_rfl) (nb_ rfl) ?_
 all_goals (repeat first|refine ga_ ?_|intro _)
 all_goals (try (first | refine AW_cond rfl (fun h => ?_) (fun h => ?_) | refine ⟨fun h => ?_,fun h => ?_⟩))
 all_goals (try (repeat first|refine ga_ ?_|intro _))
 all_goals (try (first | refine AW_cond rfl (fun h => ?_) (fun h => ?_) | refine ⟨fun h => ?_,fun h => ?_⟩))
 all_goals (try (repeat first|refine ga_ ?_|intro _))
 all_goals (refine AW_ret ?_)
 all_goals (refine ⟨_,R,AVle.eq ?_,sle_,rfl,rfl⟩)
 all_goals (show AV.bool _ = AV.bool _; congr 1; rw [Bool.eq_iff_iff]; simp [noNl] at *; omega)⟩
theorem isSmall_ok : IsP 130 smallB := ⟨⟨_,Tryz.func130,rfl,rfl⟩,fun c R => by
 refine ACall_body tab_ok Tryz.func130 rfl rfl rfl (by kernel_rfl) (nb_ rfl) ?_
 all_goals (repeat first|refine ga_ ?_|intro _)
 all_goals (try (first | refine AW_cond rfl (fun h => ?_) (fun h => ?_) | refine ⟨fun h => ?_,fun h => ?_⟩))
 all_goals (try (repeat first|refine ga_ ?_|intro _))
 all_goals (try (first | refine AW_cond rfl (fun h => ?_) (fun h => ?_) | refine ⟨fun h => ?_,fun h => ?_⟩))
 all_goals (try (repeat first|refine ga_ ?_|intro _))
 all_goals (refine AW_ret ?_)
 all_goals (refine ⟨_,R,AVle.eq ?_,sle_,rfl,rfl⟩)
 all_goals (show AV.bool _ = AV.bool _; congr 1; rw [Bool.eq_iff_iff]; simp [smallB] at *; omega)⟩
theorem isWord_ok : IsP 127 wordB := ⟨⟨_,Tryz.func127,rfl,rfl⟩,fun c R => by
 refine ACall_body tab_ok Tryz.func127 rfl rfl rfl (by kernel_rfl) (nb_ rfl) ?_
 repeat first|refine go_ ?_|intro _
 refine Or.inl ⟨⟨_,Tryz.func128,rfl,rfl⟩,ACall.mono ?_ (isLetter_ok c _)⟩
 rintro _ S1 ⟨rfl,hS1⟩
 subst S1
 repeat first|refine go_ ?_|intro _
 cases h : letterB c with
 | true =>
  repeat first|refine ga_ ?_|intro _
  refine AW_ret ?_
  repeat refine mk_ ?_
  refine ⟨_,R,AVle.eq ?_,sle_,rfl,rfl⟩
  exact congrArg AV.bool (by rw [wordB,h]; rfl)
 | false =>
  repeat first|refine ga_ ?_|intro _
  refine Or.inl ⟨⟨_,Tryz.func129,rfl,rfl⟩,ACall.mono ?_ (isDigit_ok c _)⟩
  rintro _ S1 ⟨rfl,hS1⟩
  subst S1
  repeat first|refine go_ ?_|intro _
  refine AW_ret ?_
  repeat refine mk_ ?_
  refine ⟨_,R,AVle.eq ?_,sle_,rfl,rfl⟩
  exact congrArg AV.bool (by rw [wordB,h]; rfl)⟩
theorem tw_step {p : UInt8 → Bool} {l : List UInt8} {z : Nat} (h : z < l.length) : (l.drop z).takeWhile p = if p l[z] = true then l[z] :: (l.drop (z + 1)).takeWhile p else [] := by
 rw [List.drop_eq_getElem_cons h,List.takeWhile_cons]
theorem tw_len {p : UInt8 → Bool} {l : List UInt8} : (l.takeWhile p).length ≤ l.length := (List.takeWhile_sublist p).length_le
theorem drop_tw {p : UInt8 → Bool} (l : List UInt8) : l.drop (l.takeWhile p).length = l.dropWhile p := by
 have := List.takeWhile_append_dropWhile (p := p) (l := l)
 generalize l.takeWhile p = a at *
 generalize l.dropWhile p = b at *
 subst this
 exact List.drop_left
theorem take_tw {p : UInt8 → Bool} (l : List UInt8) : l.take (l.takeWhile p).length = l.takeWhile p := by
 have := List.takeWhile_append_dropWhile (p := p) (l := l)
 generalize l.takeWhile p = a at *
 generalize l.dropWhile p = b at *
 subst this
 exact List.take_left
theorem run_ok {F : FuncId} {p : UInt8 → Bool} (hF : IsP F p) (l : List UInt8) (R : List En) (hl : l.length ≤ 16777216) : ACall Tryz.prog 82 [.str l, .fn (.func F) [] []] R (fun r S => r = .int .i64 ((l.takeWhile p).length : Nat) ∧ S = R) := by
 refine ACall_body tab_ok Tryz.func82 rfl rfl rfl (by kernel_rfl) (nb_ rfl) ?_
 repeat first|refine go_ ?_|intro _
 refine AW_for (α := Nat) (fun z => ⟨[(0, .str l),(1, .fn (.func F) [] []),(5, .int .i64 (z : Nat))], []⟩) (fun z => R) (fun z => l.length - z) (fun z => z ≤ l.length ∧ (l.takeWhile p).length = z + ((l.drop z).takeWhile p).length) (0) ?_ (weak_of ?_ rfl ?_) (fun z hz => ?_)
 ·exact ⟨by omega,by simp⟩
 ·exact e_
 ·exact l_
 obtain ⟨i1,i2⟩ := hz
 repeat first|refine go_ ?_|intro _
 refine gsplit (z < l.length) ib_ (fun h => ?_) (fun h => ?_)
 ·have hlt := h
  rw [tw_step hlt] at i2
  repeat first|refine ga_ ?_|intro _
  refine at_list z rfl hlt ?_
  repeat first|refine ga_ ?_|intro _
  refine Or.inl ⟨hF.1,ACall.mono ?_ (hF.2 l[z] _)⟩
  rintro _ S1 ⟨rfl,hS1⟩
  subst S1
  repeat first|refine go_ ?_|intro _
  refine AW_cond (b := p l[z]) rfl (fun h => ?_) (fun h => ?_)
  ·rw [if_pos h] at i2
   repeat first|refine go_ ?_|intro _
   refine ⟨z + 1,?_,?_,weak_of ?_ rfl ?_⟩
   ·omega
   ·exact ⟨hlt,by rw [i2,List.length_cons]; omega⟩
   ·exact e_
   ·exact l_
  ·rw [if_neg (by rw [h]; decide)] at i2
   repeat first|refine go_ ?_|intro _
   refine AW_ret ?_
   repeat refine mk_ ?_
   refine ⟨_,R,AVle.eq ?_,sle_,rfl,rfl⟩
   rw [i2]; rfl
 ·have e : z = l.length := by omega
  subst e
  rw [List.drop_length] at i2
  repeat first|refine ga_ ?_|intro _
  refine AW_ret ?_
  repeat refine mk_ ?_
  refine ⟨_,R,AVle.eq ?_,sle_,rfl,rfl⟩
  rw [i2]; rfl
def scn (M : Nat) (l : List UInt8) : List AV := [.str l, .int .i64 ((M - cnt l : Nat) : Int)]
theorem scn_take {M n : Nat} {l : List UInt8} (h : cnt l ≤ M) : M - cnt l + cnt (l.take n) = M - cnt (l.drop n) := by
 have := cnt_app (l.take n) (l.drop n)
 rw [List.take_append_drop] at this
 omega
theorem takes_ok (M n c : Nat) (l : List UInt8) (R : List En) (hn : n ≤ l.length) (hl : l.length ≤ 16777216) (hM : cnt l ≤ M) (hM2 : M ≤ 33554432) :
  ACall Tryz.prog 86 [.ptr c 0, .int .i64 (n : Nat)] (.cells c (scn M l) :: R) (fun _ S => S = .cells c (scn M (l.drop n)) :: R) := by
 have e1 := scn_take (n := n) hM
 have e2 : IntKind.i64.wrap (((M - cnt l : Nat) : Int) + ((cnt (l.take n) : Nat) : Int)) = ((M - cnt (l.drop n) : Nat) : Int) := by
  rw [wrap_i64 (by omega)]; omega
 refine ACall_body tab_ok Tryz.func86 rfl rfl rfl (by kernel_rfl) (nb_ rfl) ?_
 repeat first|refine go_ ?_|intro _
 refine AW_draw tab_ok mixed 12 (by first | rfl | kernel_rfl) ?_
 repeat first|refine go_ ?_|intro _
 refine at_ss 0 n (l.take n) rfl rfl (by omega) hn (by simp) ?_
 repeat first|refine go_ ?_|intro _
 apply call_step
 ·rfl
 ·exact Or.inl ⟨⟨_,Tryz.func124,rfl,rfl⟩,count_ok (l.take n) _ (by rw [List.length_take]; omega)⟩
 repeat first|refine go_ ?_|intro _
 refine at_ss n l.length (l.drop n) rfl rfl (by omega) (by omega) (by simp) ?_
 repeat first|refine go_ ?_|intro _
 refine ⟨.tup [],_,AVle.refl _,SLe.rfl,?_⟩
 exact congrArg (fun x => En.cells c [.str (l.drop n), .int .i64 x] :: R) e2
theorem head47 {z : List UInt8} (h : z.take 2 = [47,47]) : ∃ r,z = 47 :: 47 :: r := by
 match z,h with
 | [],h => simp at h
 | [_],h => simp at h
 | a :: b :: r,h => simp at h; exact ⟨r,by rw [h.1,h.2]⟩
theorem skip_blanks (z : List UInt8) : skipL (z.dropWhile blankB) = skipL z := by
 induction z with
 | nil => rfl
 | cons c z ih =>
  cases h : blankB c with
  | true => rw [skipL_blank h,List.dropWhile_cons,if_pos h]; exact ih
  | false => rw [List.dropWhile_cons,if_neg (by rw [h]; decide)]
theorem skip_here {z : List UInt8} (h1 : z.dropWhile blankB = z) (h2 : ¬ z.take 2 = [47,47]) : skipL z = z := by
 cases z with
 | nil => exact skipL_nil
 | cons c r =>
  refine skipL_stop ?_ ?_
  ·cases h : blankB c with
   | false => rfl
   | true =>
    rw [List.dropWhile_cons,if_pos h] at h1
    have := congrArg List.length h1
    have h3 := (List.dropWhile_sublist blankB (l := r)).length_le
    simp at this; omega
  ·rintro ⟨a,b⟩
   cases r with
   | nil => simp at b
   | cons d r =>
    simp at b
    subst b
    obtain rfl : c = 47 := UInt8.toNat_inj.1 a
    exact h2 rfl
theorem skips_ok (M c : Nat) (l : List UInt8) (R : List En) (hl : l.length ≤ 16777216) (hM : cnt l ≤ M) (hM2 : M ≤ 33554432) :
  ACall Tryz.prog 45 [.ptr c 0] (.cells c (scn M l) :: R) (fun _ S => S = .cells c (scn M (skipL l)) :: R) := by
 refine ACall_body tab_ok Tryz.func45 rfl rfl rfl (by kernel_rfl) (nb_ rfl) ?_
 repeat first|refine go_ ?_|intro _
 refine AW_for (α := List UInt8) (fun z => ⟨[(0, .ptr c 0)], []⟩) (fun z => .cells c (scn M z) :: R) (fun z => z.length) (fun z => skipL z = skipL l ∧ z <:+ l) (l) ?_ (weak_of ?_ rfl ?_) (fun z hz => ?_)
 ·exact ⟨rfl,List.suffix_refl _⟩
 ·exact e_
 ·exact l_
 obtain ⟨i1,i2⟩ := hz
 have hzl := i2.length_le
 have hzc := cnt_suf i2
 have hb := tw_len (p := blankB) (l := z)
 have hd := drop_tw (p := blankB) z
 have hs := skip_blanks z
 repeat first|refine go_ ?_|intro _
 refine Or.inl ⟨⟨_,Tryz.func82,rfl,rfl⟩,ACall.mono ?_ (run_ok isBlank_ok z _ (by omega))⟩
 rintro _ S1 ⟨rfl,hS1⟩
 subst S1
 repeat first|refine go_ ?_|intro _
 refine at_ss (z.takeWhile blankB).length z.length (z.dropWhile blankB) rfl rfl (by omega) (by omega) (by rw [List.take_of_length_le (by omega)]; exact hd) ?_
 repeat first|refine go_ ?_|intro _
 refine Or.inl ⟨⟨_,Tryz.func84,rfl,rfl⟩,ACall.mono ?_ (prefix_ok (z.dropWhile blankB) [47,47] _)⟩
 rintro _ S1 ⟨rfl,hS1⟩
 subst S1
 repeat first|refine go_ ?_|intro _
 refine AW_iff ((z.dropWhile blankB).take 2 = [47,47]) rfl ib_ (fun h => ?_) (fun h => ?_)
 ·obtain ⟨r,hr⟩ := head47 h
  have hn := tw_len (p := noNl) (l := z.dropWhile blankB)
  have hn2 : 1 ≤ ((z.dropWhile blankB).takeWhile noNl).length := by rw [hr,List.takeWhile_cons,if_pos (by decide)]; simp
  have hlen : (z.dropWhile blankB).length = z.length - (z.takeWhile blankB).length := by rw [← hd,List.length_drop]
  have hd2 : z.drop ((z.takeWhile blankB).length + ((z.dropWhile blankB).takeWhile noNl).length) = (z.dropWhile blankB).dropWhile noNl := by rw [← List.drop_drop,hd,drop_tw]
  have e : skipL ((z.dropWhile blankB).dropWhile noNl) = skipL l := by
   rw [← i1, ← hs,hr,skipL_comm,List.dropWhile_cons,if_pos (by decide),List.dropWhile_cons,if_pos (by decide)]
  repeat first|refine go_ ?_|intro _
  refine at_ss (z.takeWhile blankB).length z.length (z.dropWhile blankB) rfl rfl (by omega) (by omega) (by rw [List.take_of_length_le (by omega)]; exact hd) ?_
  repeat first|refine go_ ?_|intro _
  refine Or.inl ⟨⟨_,Tryz.func82,rfl,rfl⟩,ACall.mono ?_ (run_ok isNoNl_ok (z.dropWhile blankB) _ (by omega))⟩
  rintro _ S1 ⟨rfl,hS1⟩
  subst S1
  repeat first|refine go_ ?_|intro _
  refine AW_weak (weak_of (l := [(0, .ptr c 0),(2, .int .i64 ((z.takeWhile blankB).length + ((z.dropWhile blankB).takeWhile noNl).length : Nat)),(25, .bool false)]) (m := []) (S' := .cells c (scn M z) :: R) ?_ rfl ?_) ?_
  ·repeat (first | exact trivial | refine ⟨(AVle.eq (congrArg AV.bool (decide_eq_false (by rw [wrap_i64 (by omega)]; omega)))),?_⟩ | refine env_ ?_)
  ·exact w_
  refine AW_false (b := false) rfl (by first | rfl | (simp; done) | (simp; omega) | decide) ?_
  repeat first|refine go_ ?_|intro _
  refine Or.inl ⟨⟨_,Tryz.func86,rfl,rfl⟩,ACall.mono ?_ (takes_ok M ((z.takeWhile blankB).length + ((z.dropWhile blankB).takeWhile noNl).length) c z R (by omega) (by omega) (by omega) hM2)⟩
  rintro _ S1 rfl
  repeat first|refine go_ ?_|intro _
  refine ⟨z.drop ((z.takeWhile blankB).length + ((z.dropWhile blankB).takeWhile noNl).length),?_,?_,weak_of ?_ rfl ?_⟩
  ·show (z.drop _).length < _; rw [List.length_drop]; omega
  ·exact ⟨by rw [hd2]; exact e,(List.drop_suffix _ _).trans i2⟩
  ·exact e_
  ·exact l_
 ·have hn := h
  repeat first|refine go_ ?_|intro _
  refine AW_iff ((z.takeWhile blankB).length = 0) rfl ib_ (fun h => ?_) (fun h => ?_)
  ·have e : z.dropWhile blankB = z := by rw [← hd,h]; rfl
   rw [e] at hn
   have e2 := skip_here e hn
   repeat first|refine go_ ?_|intro _
   refine AW_ret ?_
   repeat refine mk_ ?_
   refine ⟨_,_,AVle.refl _,SLe.rfl,?_⟩
   rw [← i1,e2]
  ·repeat first|refine go_ ?_|intro _
   refine Or.inl ⟨⟨_,Tryz.func86,rfl,rfl⟩,ACall.mono ?_ (takes_ok M (z.takeWhile blankB).length c z R (by omega) (by omega) (by omega) hM2)⟩
   rintro _ S1 rfl
   repeat first|refine go_ ?_|intro _
   refine ⟨z.drop (z.takeWhile blankB).length,?_,?_,weak_of ?_ rfl ?_⟩
   ·show (z.drop _).length < _; rw [List.length_drop]; omega
   ·exact ⟨by rw [hd,hs]; exact i1,(List.drop_suffix _ _).trans i2⟩
   ·exact e_
   ·exact l_
end Go.Proofs.YtfeknkaioofljaaGreatDoor.Lx
