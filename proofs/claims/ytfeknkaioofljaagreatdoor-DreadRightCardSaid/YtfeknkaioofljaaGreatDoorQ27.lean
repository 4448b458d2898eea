/-
 The tokens of what is shown: plain. Own work.
-/
import Derived.Test.YtfeknkaioofljaaGreatDoorQ24
import Derived.Test.YtfeknkaioofljaaGreatDoorQ22
set_option linter.all false
namespace Go.Proofs.YtfeknkaioofljaaGreatDoor
open Go.Aw Go.RowKit Tree
abbrev Kt := Nat × List UInt8
def NW (r : List UInt8) : Prop := ∀ c ∈ r.head?,Lx.wordB c = false
def LexA (s : List UInt8) (K : List Kt) : Prop := ∀ r,Lx.kws (s ++ r) = K ++ Lx.kws r ∧ (Lx.okX (s ++ r) ↔ Lx.okX r)
def Lex1 (s : List UInt8) (K : List Kt) : Prop := ∀ r,NW r → Lx.kws (s ++ r) = K ++ Lx.kws r ∧ (Lx.okX (s ++ r) ↔ Lx.okX r)
theorem LexA.one {s : List UInt8} {K : List Kt} (h : LexA s K) : Lex1 s K := fun r _ => h r
theorem LexA.app {s t : List UInt8} {K K' : List Kt} (h : LexA s K) (h' : LexA t K') : LexA (s ++ t) (K ++ K') := fun r => by
 obtain ⟨a,b⟩ := h (t ++ r)
 obtain ⟨c,d⟩ := h' r
 rw [List.append_assoc,a,c,List.append_assoc,b,d]
 exact ⟨rfl,Iff.rfl⟩
theorem LexA.app1 {s t : List UInt8} {K K' : List Kt} (h : LexA s K) (h' : Lex1 t K') : Lex1 (s ++ t) (K ++ K') := fun r hr => by
 obtain ⟨a,b⟩ := h (t ++ r)
 obtain ⟨c,d⟩ := h' r hr
 rw [List.append_assoc,a,c,List.append_assoc,b,d]
 exact ⟨rfl,Iff.rfl⟩
def Nw (s : List UInt8) : Prop := ∃ c l,s = c :: l ∧ Lx.wordB c = false
theorem Nw.app {s t : List UInt8} (h : Nw s) : Nw (s ++ t) := by
 obtain ⟨c,l,rfl,hc⟩ := h
 exact ⟨c,l ++ t,rfl,hc⟩
theorem Nw.nw {s : List UInt8} (h : Nw s) : NW s := by
 obtain ⟨c,l,rfl,hc⟩ := h
 intro d hd
 simp at hd
 exact hd ▸ hc
theorem Lex1.app {s t : List UInt8} {K K' : List Kt} (h : Lex1 s K) (hn : Nw t) (h' : Lex1 t K') : Lex1 (s ++ t) (K ++ K') := fun r hr => by
 obtain ⟨a,b⟩ := h (t ++ r) hn.app.nw
 obtain ⟨c,d⟩ := h' r hr
 rw [List.append_assoc,a,c,List.append_assoc,b,d]
 exact ⟨rfl,Iff.rfl⟩
theorem Lex1.appA {s t : List UInt8} {K K' : List Kt} (h : Lex1 s K) (hn : Nw t) (h' : LexA t K') : LexA (s ++ t) (K ++ K') := fun r => by
 obtain ⟨a,b⟩ := h (t ++ r) hn.app.nw
 obtain ⟨c,d⟩ := h' r
 rw [List.append_assoc,a,c,List.append_assoc,b,d]
 exact ⟨rfl,Iff.rfl⟩
theorem lexA_nil : LexA [] [] := fun r => ⟨rfl,Iff.rfl⟩
theorem lexA_blank {c : UInt8} (h : Lx.blankB c = true) : LexA [c] [] := fun r => by
 have : Lx.skipL (c :: r) = Lx.skipL r := Lx.skipL_blank h r
 exact Lx.kws_congr this
theorem lex_tok {k : Nat} {w r : List UInt8} (h : Lx.oneT (Lx.txt k w ++ r) = some (k,w,r)) : Lx.kws (Lx.txt k w ++ r) = [(k,w)] ++ Lx.kws r ∧ (Lx.okX (Lx.txt k w ++ r) ↔ Lx.okX r) := by
 obtain ⟨c,l,e,h1,h2⟩ := Lx.txt_head (x := (k,w)) ⟨_,_,h⟩
 have hs : Lx.skipL (Lx.txt k w ++ r) = Lx.txt k w ++ r := by
  simp only [] at e
  rw [e,List.cons_append]
  exact Lx.skipL_stop h1 (fun hh => h2 hh.1)
 rw [Lx.kws,Lx.okX,hs,Lx.rawL_some h]
 exact ⟨rfl,Iff.rfl⟩
theorem tw_word {w r : List UInt8} {p : UInt8 → Bool} (h : ∀ c ∈ w,p c = true) (hr : ∀ c ∈ r.head?,p c = false) : (w ++ r).takeWhile p = w ∧ (w ++ r).dropWhile p = r := by
 have hw : ∀ w : List UInt8,(∀ c ∈ w,p c = true) → w.takeWhile p = w := fun w => by
  induction w with
  | nil => intro _; rfl
  | cons c w ih => intro h; rw [List.takeWhile_cons,if_pos (h c (.head _)),ih fun x hx => h x (.tail _ hx)]
 replace hw := hw w h
 have := Lx.tw_ext (x := r) hr w
 rw [hw] at this; exact this
theorem name_all {s : List UInt8} (h : nameB s = true) : ∃ c l,s = c :: l ∧ letterB c = true ∧ (∀ x ∈ s,Lx.wordB x = true) ∧ s.length ≤ 40 ∧ s ≠ [95] := by
 rw [nameB] at h
 simp only [Bool.and_eq_true,decide_eq_true_eq,Bool.not_eq_true',decide_eq_false_iff_not,List.all_eq_true,List.mem_range] at h
 obtain ⟨⟨⟨h1,h2⟩,h3⟩,h4⟩ := h
 cases s with
 | nil => simp at h1
 | cons c l =>
  refine ⟨c,l,rfl,?_,fun x hx => ?_,h2,h3⟩
  ·have := h4 0 (by simp)
   simpa [okAt] using this
  ·obtain ⟨j,hj,rfl⟩ := List.mem_iff_getElem.1 hx
   have := h4 j hj
   rw [get0 hj,okAt,Bool.or_eq_true] at this
   rw [Lx.wordB]
   rcases this with h | h
   ·rw [h]; rfl
   ·rw [Bool.and_eq_true] at h; rw [h.2,Bool.or_true]
theorem lex_word {s : List UInt8} {c : UInt8} {l : List UInt8} (e : s = c :: l) (hc : letterB c = true) (hw : ∀ x ∈ s,Lx.wordB x = true) (hl : s.length ≤ 40) : Lex1 s [(1,s)] := fun r hr => by
 have h : Lx.oneT (Lx.txt 1 s ++ r) = some (1,s,r) := by
  obtain ⟨a,b⟩ := tw_word hw hr
  rw [Lx.txt,if_neg (by decide)]
  rw [e,List.cons_append] at a b ⊢
  unfold Lx.oneT
  simp only []
  rw [if_pos hc,a,b,if_pos (by rw [← e]; exact hl)]
 have := lex_tok h
 rw [Lx.txt,if_neg (by decide)] at this
 exact this
theorem lex_name {s : List UInt8} (h : nameB s = true) : Lex1 s [(1,s)] := by
 obtain ⟨c,l,e,h1,h2,h3,_⟩ := name_all h
 exact lex_word e h1 h2 h3
theorem lex_any : Lex1 [95] [(1, [95])] := lex_word (c := 95) (l := []) rfl (by decide) (by decide) (by decide)
theorem lex_num {n : Int} (h0 : 0 ≤ n) (h : inR64 n) : Lex1 (Lib.itoa n) [(2,Lib.itoa n)] := fun r hr => by
 obtain ⟨u,rfl⟩ : ∃ u : Nat,n = u := ⟨n.toNat,by omega⟩
 have hp := pn_itoa h
 rw [Lib.itoa_nonneg] at hp ⊢
 obtain ⟨c,l,e,h1,h2⟩ := dd_cons u
 have hd := dd_dig u
 have hw : ∀ x ∈ Lib.decDigits u,Lx.wordB x = true := fun x hx => Lx.wordB_digit (by have := hd x hx; simp [digitB]; omega)
 have h : Lx.oneT (Lx.txt 2 (Lib.decDigits u) ++ r) = some (2,Lib.decDigits u,r) := by
  obtain ⟨a,b⟩ := tw_word hw hr
  rw [Lx.txt,if_neg (by decide)]
  rw [e,List.cons_append] at a b ⊢
  unfold Lx.oneT
  simp only []
  rw [if_neg (by simp [letterB]; omega),if_pos (by simp [digitB]; omega),a,b,if_pos (by rw [← e,hp])]
 have := lex_tok h
 rw [Lx.txt,if_neg (by decide)] at this
 exact this
theorem lex_sym (s : List UInt8) : LexA (quoteL s) [(3,s)] := fun r => by
 have h : Lx.oneT (Lx.txt 3 s ++ r) = some (3,s,r) := by
  have e : quoteL s ++ r = 34 :: (s.flatMap oneL ++ 34 :: r) := by simp [quoteL]
  rw [Lx.txt,if_pos rfl,e]
  unfold Lx.oneT
  simp only []
  rw [if_neg (by decide),if_neg (by decide),if_pos (by decide),Lx.symR_flat]; rfl
 have := lex_tok h
 rw [Lx.txt,if_pos rfl] at this
 exact this
theorem lex_sign {c : UInt8} (r : List UInt8) (h1 : letterB c = false) (h2 : digitB c = false) (h3 : ¬ c.toNat = 34) (h4 : c.toNat = 46 → ∀ d ∈ r.head?,Lx.smallB d = false) (h5 : Lx.twoS c r = false) (h6 : c ∈ Lx.signs) : Lx.kws (c :: r) = [(4, [c])] ++ Lx.kws r ∧ (Lx.okX (c :: r) ↔ Lx.okX r) := by
 have h : Lx.oneT (Lx.txt 4 [c] ++ r) = some (4, [c],r) := by
  rw [Lx.txt,if_neg (by decide)]
  show Lx.oneT (c :: r) = _
  unfold Lx.oneT
  simp only []
  have hs : Lx.signN c r = 1 := by rw [Lx.signN,h5,if_neg (by decide),if_pos h6]
  rw [if_neg (by rw [h1]; decide),if_neg (by rw [h2]; decide),if_neg h3,if_neg ?_,hs,if_neg (by decide)]
  ·rfl
  ·rintro ⟨a,b⟩
   cases r with
   | nil => simp at b
   | cons d r =>
    have := h4 a d rfl
    rw [List.takeWhile_cons,if_neg (by rw [this]; decide)] at b
    simp at b
 exact lex_tok h
theorem lexA_sign {c : UInt8} (h1 : letterB c = false) (h2 : digitB c = false) (h3 : ¬ c.toNat = 34) (h4 : c.toNat ≠ 46) (h5 : c.toNat ≠ 58 ∧ c.toNat ≠ 33 ∧ c.toNat ≠ 60 ∧ c.toNat ≠ 62) (h6 : c ∈ Lx.signs) : LexA [c] [(4, [c])] := fun r =>
 lex_sign r h1 h2 h3 (fun h => absurd h h4) (by simp [Lx.twoS,h5.1,h5.2.1,h5.2.2.1,h5.2.2.2]) h6
theorem small_word {c : UInt8} (h : Lx.wordB c = false) : Lx.smallB c = false := by
 simp only [Lx.wordB,letterB,Bool.or_eq_false_iff,Bool.and_eq_false_iff,decide_eq_false_iff_not] at h
 simp only [Lx.smallB,Bool.and_eq_false_iff,decide_eq_false_iff_not]
 omega
theorem lex_dot : Lex1 [46] [(4, [46])] := fun r hr => lex_sign r (by decide) (by decide) (by decide) (fun _ d hd => small_word (hr d hd)) (by simp [Lx.twoS]) (by decide)
theorem lexA_sp {w : List UInt8} (h : ∀ r,Lx.oneT (w ++ 32 :: r) = some (4,w,32 :: r)) : LexA (w ++ [32]) [(4,w)] := fun r => by
 have e : w ++ [32] ++ r = Lx.txt 4 w ++ 32 :: r := by rw [Lx.txt,if_neg (by decide)]; simp
 have h' : Lx.oneT (Lx.txt 4 w ++ 32 :: r) = some (4,w,32 :: r) := by rw [Lx.txt,if_neg (by decide)]; exact h r
 obtain ⟨a,b⟩ := lex_tok h'
 obtain ⟨c,d⟩ := lexA_blank (c := 32) (by decide) r
 rw [e,a,b]
 simp only [List.cons_append,List.nil_append] at c d ⊢
 rw [c,d]
 exact ⟨rfl,Iff.rfl⟩
theorem lexA_key {w : List UInt8} (h : ∀ r,Lx.oneT (w ++ 32 :: r) = some (5,w,32 :: r)) : LexA (w ++ [32]) [(5,w)] := fun r => by
 have e : w ++ [32] ++ r = Lx.txt 5 w ++ 32 :: r := by rw [Lx.txt,if_neg (by decide)]; simp
 have h' : Lx.oneT (Lx.txt 5 w ++ 32 :: r) = some (5,w,32 :: r) := by rw [Lx.txt,if_neg (by decide)]; exact h r
 obtain ⟨a,b⟩ := lex_tok h'
 obtain ⟨c,d⟩ := lexA_blank (c := 32) (by decide) r
 rw [e,a,b]
 simp only [List.cons_append,List.nil_append] at c d ⊢
 rw [c,d]
 exact ⟨rfl,Iff.rfl⟩
theorem LexA.eq {s t : List UInt8} {K K' : List Kt} (h : LexA s K) (e : s = t) (e' : K = K') : LexA t K' := e ▸ e' ▸ h
theorem Lex1.eq {s t : List UInt8} {K K' : List Kt} (h : Lex1 s K) (e : s = t) (e' : K = K') : Lex1 t K' := e ▸ e' ▸ h
theorem lex_open : LexA [40] [(4, [40])] := lexA_sign (by decide) (by decide) (by decide) (by decide) (by decide) (by decide)
theorem lex_close : LexA [41] [(4, [41])] := lexA_sign (by decide) (by decide) (by decide) (by decide) (by decide) (by decide)
theorem lex_minus : LexA [45] [(4, [45])] := lexA_sign (by decide) (by decide) (by decide) (by decide) (by decide) (by decide)
theorem lex_comma : LexA [44,32] [(4, [44])] := (lexA_sign (c := 44) (by decide) (by decide) (by decide) (by decide) (by decide) (by decide)).app (lexA_blank (c := 32) (by decide))
theorem lex_sp {w : List UInt8} (h : ∀ r,Lx.oneT (w ++ 32 :: r) = some (4,w,32 :: r)) : LexA (32 :: (w ++ [32])) [(4,w)] := (lexA_blank (c := 32) (by decide)).app (lexA_sp h)
theorem lex_op {op : Int} (h : op = 5 ∨ op = 6 ∨ op = 7) : ∃ c : UInt8,signL op = [32,c,32] ∧ LexA (signL op) [(4, [c])] ∧ (if op = 7 then opsP [c] = 7 else opsP [c] = 0 ∧ opsS [c] = op) := by
 rcases h with rfl | rfl | rfl
 ·exact ⟨43,rfl,lex_sp (w := [43]) (fun r => rfl),by decide⟩
 ·exact ⟨45,rfl,lex_sp (w := [45]) (fun r => rfl),by decide⟩
 ·exact ⟨42,rfl,lex_sp (w := [42]) (fun r => rfl),by decide⟩
inductive TokT : T → List Kt → Prop
 | var {s : List UInt8} (h : nameB s = true) : TokT (.mk 1 s 0 []) [(1,s)]
 | pos {n : Int} (h0 : 0 ≤ n) (h : inR64 n) : TokT (.mk 2 [] n []) [(2,Lib.itoa n)]
 | neg {n : Int} (h0 : n < 0) (h : inR64 (-n)) : TokT (.mk 2 [] n []) [(4, [45]),(2,Lib.itoa (-n))]
 | sym (s : List UInt8) : TokT (.mk 3 s 0 []) [(3,s)]
 | two {op : Int} {x y : T} {a b : List Kt} {c : UInt8} (ho : op = 5 ∨ op = 6 ∨ op = 7) (hc : if op = 7 then opsP [c] = 7 else opsP [c] = 0 ∧ opsS [c] = op) (hx : TokT x a) (hy : TokT y b) (h3 : x.op ≠ 3) (h3' : y.op ≠ 3) : TokT (.mk op [] 0 [x,y]) ((4, [40]) :: (a ++ ((4, [c]) :: (b ++ [(4, [41])]))))
theorem tok_term : ∀ (h : Nat) (t : T),rightT t h = true → nT t → lo t → t.op ≠ 4 → ∃ a,TokT t a ∧ Lex1 (showT t) a
 | 0,t,hr,_,_,_ => by rw [rightT] at hr; cases hr
 | m + 1,t,hr,hn,hl,h4 => by
  obtain ⟨op,s,n,l⟩ := t
  have h4 : op ≠ 4 := h4
  rw [nT] at hn
  rw [lo] at hl
  have leaf : twoB op = false → leafB (.mk op s n l) = true := fun hb => by
   rw [rightT,if_pos (show twoB (T.mk op s n l).op = false from hb)] at hr; exact hr
  by_cases h1 : op = 1
  ·subst h1
   have := leaf (by decide)
   simp only [leafB,bareB,T.op,T.s,T.n,T.l,Bool.and_eq_true,decide_eq_true_eq,if_true,List.length_eq_zero_iff] at this
   obtain ⟨_,⟨h2,hn0⟩,rfl⟩ := this
   obtain rfl := of_decide_eq_true hn0
   exact ⟨_, .var h2,by rw [show showT (.mk 1 s 0 []) = s by rw [showT]; rfl]; exact lex_name h2⟩
  by_cases h2 : op = 2
  ·subst h2
   have := leaf (by decide)
   simp [leafB,bareB,T.op,T.s,T.n,T.l] at this
   obtain ⟨hn0,rfl⟩ := this
   obtain rfl := of_decide_eq_true hn0
   rw [show showT (.mk 2 [] n []) = Lib.itoa n by rw [showT]; rfl]
   by_cases h0 : 0 ≤ n
   ·exact ⟨_, .pos h0 hn.1,lex_num h0 hn.1⟩
   ·have hm := hl.1 rfl
    have hr : inR64 (-n) := by have := hn.1; unfold inR64 at this ⊢; omega
    refine ⟨_, .neg (by omega) hr,?_⟩
    obtain ⟨u,hu⟩ : ∃ u : Nat,n = -(u : Int) := ⟨(-n).toNat,by omega⟩
    have e1 : Lib.itoa n = [45] ++ Lib.itoa (-n) := by
     rw [hu,Int.neg_neg,Lib.itoa_neg u (by omega),Lib.itoa_nonneg]; rfl
    rw [e1]
    exact lex_minus.app1 (lex_num (by omega) hr)
  by_cases h3 : op = 3
  ·subst h3
   have := leaf (by decide)
   simp [leafB,bareB,T.op,T.s,T.n,T.l] at this
   obtain ⟨hn0,rfl⟩ := this
   obtain rfl := of_decide_eq_true hn0
   exact ⟨_, .sym s,by rw [show showT (.mk 3 s 0 []) = quoteL s by rw [showT]; rfl]; exact (lex_sym s).one⟩
  obtain ⟨ho,rfl,rfl,x,y,rfl,rx,ry,x3,x4,y3,y4⟩ := two_parts hr h1 h2 h3 h4
  rw [nTs,nTs,nTs] at hn
  rw [los,los,los] at hl
  obtain ⟨a,ta,la⟩ := tok_term m x rx hn.2.1 hl.2.1 x4
  obtain ⟨b,tb,lb⟩ := tok_term m y ry hn.2.2.1 hl.2.2.1 y4
  obtain ⟨c,e,lc,hc⟩ := lex_op ho
  refine ⟨_, .two ho hc ta tb x3 y3,?_⟩
  rw [showT_two ho]
  have k1 := (lb.appA (t := [41]) ⟨41, [],rfl,by decide⟩ lex_close)
  have k2 := (la.appA (t := signL op ++ (showT y ++ [41])) (by rw [e]; exact ⟨32,_,rfl,by decide⟩) (lc.app k1))
  exact (lex_open.app k2).one
theorem tok_arg {t : T} (hr : rightT t 20 = true) (hn : nT t) (hl : lo t) : ∃ a,(TokT t a ∨ (t = .mk 4 [] 0 [] ∧ a = [(1, [95])])) ∧ Lex1 (showT t) a := by
 by_cases h4 : t.op = 4
 ·obtain ⟨op,s,n,l⟩ := t
  have h4 : op = 4 := h4
  subst h4
  rw [rightT,if_pos (show twoB (T.mk 4 s n l).op = false from rfl)] at hr
  simp [leafB,bareB,T.op,T.s,T.n,T.l] at hr
  obtain ⟨⟨hs0,hn0⟩,rfl⟩ := hr
  obtain rfl := of_decide_eq_true hs0
  obtain rfl := of_decide_eq_true hn0
  exact ⟨_, .inr ⟨rfl,rfl⟩,by rw [show showT (.mk 4 [] 0 []) = [95] by rw [showT]; rfl]; exact lex_any⟩
 ·obtain ⟨a,h1,h2⟩ := tok_term 20 t hr hn hl h4
  exact ⟨a, .inl h1,h2⟩
def joinK : List (List Kt) → List Kt
 | [] => []
 | [a] => a
 | a :: b :: r => a ++ (4, [44]) :: joinK (b :: r)
theorem lex_join {α : Type} {f : α → List UInt8} {Q : α → List Kt → Prop} : ∀ (l : List α),l ≠ [] → (∀ x ∈ l, ∃ a,Q x a ∧ Lex1 (f x) a) → ∃ ks,ks.length = l.length ∧ (∀ (i : Nat) (h : i < l.length) (h' : i < ks.length),Q l[i] ks[i]) ∧ Lex1 (Lib.join (l.map f) [44,32]) (joinK ks)
 | [],h,_ => absurd rfl h
 | [x],_,hq => by
  obtain ⟨a,h1,h2⟩ := hq x (.head _)
  refine ⟨[a],rfl,fun i h h' => ?_,?_⟩
  ·obtain rfl : i = 0 := by simp at h; omega
   exact h1
  ·rw [List.map_cons,List.map_nil,Lib.join_one]; exact h2
 | x :: y :: r,_,hq => by
  obtain ⟨a,h1,h2⟩ := hq x (.head _)
  obtain ⟨ks,g1,g2,g3⟩ := lex_join (y :: r) (by simp) fun z hz => hq z (.tail _ hz)
  refine ⟨a :: ks,by simp [g1],fun i h h' => ?_,?_⟩
  ·cases i with
   | zero => exact h1
   | succ i => exact g2 i (by simpa using h) (by simpa using h')
  ·rw [List.map_cons,List.map_cons,join_cons2]
   have hk : joinK (a :: ks) = a ++ ([(4, [44])] ++ joinK ks) := by
    cases ks with
    | nil => simp at g1
    | cons b ks => rfl
   rw [hk]
   exact h2.app ⟨44,_,rfl,by decide⟩ (lex_comma.app1 g3)
end Go.Proofs.YtfeknkaioofljaaGreatDoor
namespace Go.Proofs.YtfeknkaioofljaaGreatDoor
open Go.Aw Go.RowKit Tree
open Lx (Tok)
def kk (t : Tok) : Int × List UInt8 := (t.kind,t.s)
def kI (x : Kt) : Int × List UInt8 := ((x.1 : Int),x.2)
def Sp (ts : List Tok) (K : List Kt) : Prop := ts.map kk = K.map kI
theorem Sp.nil {ts : List Tok} (h : Sp ts []) : ts = [] := by
 rw [Sp,List.map_nil,List.map_eq_nil_iff] at h; exact h
theorem Sp.cons {ts : List Tok} {x : Kt} {K : List Kt} (h : Sp ts (x :: K)) : ∃ t r,ts = t :: r ∧ t.kind = (x.1 : Int) ∧ t.s = x.2 ∧ Sp r K := by
 cases ts with
 | nil => cases h
 | cons t r =>
  rw [Sp,List.map_cons,List.map_cons] at h
  injection h with h1 h2
  rw [kk,kI] at h1
  injection h1 with h3 h4
  exact ⟨t,r,rfl,h3,h4,h2⟩
theorem Sp.app {ts : List Tok} {K K' : List Kt} (h : Sp ts (K ++ K')) : ∃ a b,ts = a ++ b ∧ Sp a K ∧ Sp b K' := by
 rw [Sp,List.map_append] at h
 obtain ⟨a,b,h1,h2,h3⟩ := List.map_eq_append_iff.1 h
 exact ⟨a,b,h1,h2,h3⟩
def Sg (c : List UInt8) (r : List Tok) : Prop := ∃ t l,r = t :: l ∧ t.kind = 4 ∧ t.s = c
theorem hd0 (t : Tok) (l : List Tok) : hd (t :: l) 0 = t := rfl
theorem takes_sg {c : List UInt8} {t : Tok} {l : List Tok} (h : t.kind = 4) (h2 : t.s = c) : takesL c (t :: l) = some l := by
 rw [takesL,signB,h,h2,if_pos (by simp)]
theorem takes_ns {c : List UInt8} {t : Tok} {l : List Tok} (h : t.kind = 4 → t.s ≠ c) : takesL c (t :: l) = none := by
 rw [takesL,signB,if_neg]
 intro hh
 rw [Bool.and_eq_true,decide_eq_true_eq,decide_eq_true_eq] at hh
 exact h hh.1 hh.2
theorem must_sg {c : List UInt8} {t : Tok} {l : List Tok} (h : t.kind = 4) (h2 : t.s = c) : mustL c (t :: l) = .ok ((),l) := must_of (takes_sg h h2)
def noOp (ops : List UInt8 → Int) (r : List Tok) : Prop := ¬ ((hd r 0).kind = 4 ∧ ops (hd r 0).s ≠ 0)
theorem chainGo_stop {part : List Tok → PR T} {ops : List UInt8 → Int} {x : T} {r : List Tok} (h : noOp ops r) (k : Nat) : chainGo part ops k x r = .ok (x,r) := by
 cases k with
 | zero => rfl
 | succ k => rw [chainGo,if_neg h]
theorem chain_stop1 {part : List Tok → PR T} {ops : List UInt8 → Int} {x : T} {ts r : List Tok} (h : part ts = .ok (x,r)) (hn : noOp ops r) : chainL part ops ts = .ok (x,r) := by
 rw [chainL,h]; exact chainGo_stop hn _
theorem chain_two {part : List Tok → PR T} {ops : List UInt8 → Int} {x y : T} {ts r2 l : List Tok} {t : Tok} (h : part ts = .ok (x,t :: l)) (hk : t.kind = 4) (ho : ops t.s ≠ 0) (h2 : part l = .ok (y,r2)) (h3 : x.op ≠ 3) (h3' : y.op ≠ 3) (hn : noOp ops r2) : chainL part ops ts = .ok (.mk (ops t.s) [] 0 [x,y],r2) := by
 rw [chainL,h]
 show chainGo part ops (l.length + 1) x (t :: l) = _
 rw [chainGo,hd0,if_pos ⟨hk,ho⟩]
 show (match part l with | .error e => _ | .ok (y,r) => _) = _
 rw [h2]
 simp only []
 rw [if_neg (by rintro (h | h); exact h3 h; exact h3' h)]
 exact chainGo_stop hn _
theorem noOp_sg {ops : List UInt8 → Int} {c : List UInt8} {r : List Tok} (h : Sg c r) (ho : ops c = 0) : noOp ops r := by
 obtain ⟨t,l,rfl,_,h2⟩ := h
 rintro ⟨_,h⟩
 rw [hd0,h2] at h
 exact h ho
theorem high_two {op : Int} {x y : T} : highT (.mk op [] 0 [x,y]) = max (highT x) (highT y) + 1 := by
 rw [highT,highs,highs,highs]; omega
theorem name_first {t : Tok} {s : List UInt8} (hk : t.kind = 1) (hs : t.s = s) (h : nameB s = true) : nameT t = true := by
 obtain ⟨_,_,_,_,_,_,h5⟩ := name_all h
 rw [nameT,hk,hs,decide_eq_false h5]; rfl
theorem name_not {t : Tok} (h : t.kind ≠ 1) : ¬ nameT t = true := fun hh => h (name_kind hh)
theorem parse_thing {t : T} {K : List Kt} (h : TokT t K) : ∀ (n : Nat),highT t ≤ n → ∀ (ts r : List Tok),Sp ts K → thingL n (ts ++ r) = .ok (t,r) := by
 induction h with
 | @var s h =>
  intro n hn ts r hs
  obtain ⟨m,rfl⟩ : ∃ m,n = m + 1 := ⟨n - 1,by rw [high_leaf] at hn; omega⟩
  obtain ⟨t,l,rfl,h1,h2,hl⟩ := hs.cons
  obtain rfl := hl.nil
  have h1 : t.kind = 1 := h1
  have h2 : t.s = s := h2
  rw [thingL,List.singleton_append,hd0,if_neg (by rw [h1]; decide),if_neg (by rw [h1]; decide),if_pos (name_first h1 h2 h),h2]
  rfl
 | @pos m h0 h =>
  intro n hn ts r hs
  obtain ⟨m,rfl⟩ : ∃ m,n = m + 1 := ⟨n - 1,by rw [high_leaf] at hn; omega⟩
  obtain ⟨t,l,rfl,h1,h2,hl⟩ := hs.cons
  obtain rfl := hl.nil
  have h1 : t.kind = 2 := h1
  rw [thingL,List.singleton_append,hd0,if_pos h1,numL,hd0,if_pos h1,h2,pn_itoa h,Int.one_mul,wrap_i64 h]
  rfl
 | @neg m h0 h =>
  intro n hn ts r hs
  obtain ⟨q,rfl⟩ : ∃ m,n = m + 1 := ⟨n - 1,by rw [high_leaf] at hn; omega⟩
  obtain ⟨t,l,rfl,h1,h2,hl⟩ := hs.cons
  obtain ⟨t2,l2,rfl,h3,h4,hl2⟩ := hl.cons
  obtain rfl := hl2.nil
  have h1 : t.kind = 4 := h1
  have h2 : t.s = [45] := h2
  have h3 : t2.kind = 2 := h3
  have hw : IntKind.i64.wrap (-1 * -m) = m := by
   rw [wrap_i64 (by unfold inR64 at h; omega)]; omega
  rw [thingL]
  simp only [List.cons_append,List.nil_append]
  rw [hd0,if_neg (by rw [h1]; decide),if_neg (by rw [h1]; decide),if_neg (name_not (by rw [h1]; decide)),takes_sg h1 h2]
  show numL (-1) (t2 :: r) = _
  rw [numL,hd0,if_pos h3,h4,pn_itoa h]
  show Except.ok (T.mk 2 [] (IntKind.i64.wrap (-1 * -m)) [],r) = _
  rw [hw]
 | sym s =>
  intro n hn ts r hs
  obtain ⟨m,rfl⟩ : ∃ m,n = m + 1 := ⟨n - 1,by rw [high_leaf] at hn; omega⟩
  obtain ⟨t,l,rfl,h1,h2,hl⟩ := hs.cons
  obtain rfl := hl.nil
  have h1 : t.kind = 3 := h1
  rw [thingL,List.singleton_append,hd0,if_neg (by rw [h1]; decide),if_pos h1,h2]
  rfl
 | @two op x y a b c ho hc hx hy h3 h3' ihx ihy =>
  intro n hn ts r hs
  rw [high_two] at hn
  obtain ⟨m,rfl⟩ : ∃ m,n = m + 1 := ⟨n - 1,by omega⟩
  obtain ⟨t,l,rfl,h1,h2,hl⟩ := hs.cons
  obtain ⟨l1,l2,rfl,s1,s2⟩ := hl.app
  obtain ⟨t2,l3,rfl,h5,h6,s3⟩ := s2.cons
  obtain ⟨l4,l5,rfl,s4,s5⟩ := s3.app
  obtain ⟨t3,l6,rfl,h7,h8,s6⟩ := s5.cons
  obtain rfl := s6.nil
  have h1 : t.kind = 4 := h1
  have h2 : t.s = [40] := h2
  have h5 : t2.kind = 4 := h5
  have h6 : t2.s = [c] := h6
  have h7 : t3.kind = 4 := h7
  have h8 : t3.s = [41] := h8
  have e : t :: (l1 ++ (t2 :: (l4 ++ [t3]))) ++ r = t :: (l1 ++ (t2 :: (l4 ++ (t3 :: r)))) := by simp
  have px := ihx m (by omega) l1 (t2 :: (l4 ++ (t3 :: r))) s1
  have py := ihy m (by omega) l4 (t3 :: r) s4
  have hsg : Sg [41] (t3 :: r) := ⟨t3,r,rfl,h7,h8⟩
  have hS : chainL (chainL (thingL m) opsP) opsS (l1 ++ (t2 :: (l4 ++ (t3 :: r)))) = .ok (.mk op [] 0 [x,y],t3 :: r) := by
   by_cases h7o : op = 7
   ·rw [if_pos h7o] at hc
    have := chain_two (ops := opsP) px h5 (by rw [h6,hc]; decide) py h3 h3' (noOp_sg hsg (by decide))
    rw [h6,hc, ← h7o] at this
    exact chain_stop1 this (noOp_sg hsg (by decide))
   ·rw [if_neg h7o] at hc
    have p1 := chain_stop1 px (ops := opsP) (noOp_sg ⟨t2,_,rfl,h5,h6⟩ hc.1)
    have p2 := chain_stop1 py (ops := opsP) (noOp_sg hsg (by decide))
    have := chain_two p1 h5 (ops := opsS) (by rw [h6,hc.2]; omega) p2 h3 h3' (noOp_sg hsg (by decide))
    rw [h6,hc.2] at this
    exact this
  rw [e,thingL,hd0,if_neg (by rw [h1]; decide),if_neg (by rw [h1]; decide),if_neg (name_not (by rw [h1]; decide)),takes_ns (c := [45]) (by rw [h2]; intro _; decide)]
  simp only []
  rw [takes_sg h1 h2]
  show within1 _ _ = _
  rw [within1,hS]
  simp only []
  rw [must_sg h7 h8]
theorem high_right : ∀ (h : Nat) (t : T),rightT t h = true → highT t ≤ h
 | 0,t,hr => by rw [rightT] at hr; cases hr
 | m + 1,t,hr => by
  rw [rightT] at hr
  split at hr
  ·rw [leafB,Bool.and_eq_true,Bool.and_eq_true,decide_eq_true_eq,List.length_eq_zero_iff] at hr
   rw [highT_eq,hr.2.2,highs]; omega
  ·simp only [Bool.and_eq_true,List.all_eq_true] at hr
   have : ∀ l : List T,(∀ x ∈ l,highT x ≤ m) → highs l ≤ m := fun l => by
    induction l with
    | nil => intro _; rw [highs]; omega
    | cons a r ih =>
     intro h
     have h1 := h a (.head _)
     have h2 := ih fun x hx => h x (.tail _ hx)
     rw [highs]; omega
   rw [highT_eq]
   have := this t.l fun x hx => high_right m x (hr.2.2.2 x hx).2.2
   omega
def Fol (r : List Tok) : Prop := noOp opsP r ∧ noOp opsS r
theorem fol_sg {c : List UInt8} {r : List Tok} (h : Sg c r) (h1 : opsP c = 0) (h2 : opsS c = 0) : Fol r := ⟨noOp_sg h h1,noOp_sg h h2⟩
theorem parse_expr {F : Nat} (hF : 20 ≤ F) {t : T} {K : List Kt} (h : TokT t K) (hr : rightT t 20 = true) {ts r : List Tok} (hs : Sp ts K) (hf : Fol r) : exprL F (ts ++ r) = .ok (t,r) := by
 have hh := high_right 20 t hr
 have h1 := parse_thing h F (by omega) ts r hs
 have h2 : sumL F (ts ++ r) = .ok (t,r) := chain_stop1 (chain_stop1 h1 hf.1) hf.2
 rw [exprL,h2]
 simp only []
 rw [if_neg (by omega)]
theorem tok_first {t : T} {K : List Kt} (h : TokT t K) : ∃ k w K',K = (k,w) :: K' ∧ (k = 1 ∧ nameB w = true ∧ K' = [] ∨ k = 2 ∨ k = 3 ∨ k = 4 ∧ (w = [45] ∨ w = [40])) := by
 cases h with
 | var h => exact ⟨1,_, [],rfl, .inl ⟨rfl,h,rfl⟩⟩
 | pos => exact ⟨2,_,_,rfl, .inr (.inl rfl)⟩
 | neg => exact ⟨4,_,_,rfl, .inr (.inr (.inr ⟨rfl, .inl rfl⟩))⟩
 | sym => exact ⟨3,_,_,rfl, .inr (.inr (.inl rfl))⟩
 | two => exact ⟨4,_,_,rfl, .inr (.inr (.inr ⟨rfl, .inr rfl⟩))⟩
def TokA (t : T) (a : List Kt) : Prop := (TokT t a ∨ (t = .mk 4 [] 0 [] ∧ a = [(1, [95])])) ∧ rightT t 20 = true
theorem parse_arg {F : Nat} (hF : 20 ≤ F) {t : T} {K : List Kt} (h : TokA t K) {ts r : List Tok} (hs : Sp ts K) (hf : Fol r) : argL F (ts ++ r) = .ok (t,r) := by
 obtain ⟨h | ⟨rfl,rfl⟩,hr⟩ := h
 ·obtain ⟨k,w,K',rfl,hk⟩ := tok_first h
  obtain ⟨u,l,rfl,h1,h2,_⟩ := hs.cons
  have h2 : u.s = w := h2
  have h1 : u.kind = (k : Int) := h1
  have hp := parse_expr hF h hr hs hf
  rw [argL,if_neg]
  ·exact hp
  ·rw [List.cons_append,hd0]
   rintro ⟨a,b⟩
   rcases hk with ⟨rfl,hn,_⟩ | rfl | rfl | ⟨rfl,_⟩
   ·obtain ⟨_,_,_,_,_,_,h5⟩ := name_all hn
    exact h5 (h2.symm.trans b)
   ·rw [h1] at a; cases a
   ·rw [h1] at a; cases a
   ·rw [h1] at a; cases a
 ·obtain ⟨u,l,rfl,h1,h2,hl⟩ := hs.cons
  obtain rfl := hl.nil
  rw [argL,List.singleton_append,hd0,if_pos ⟨h1,h2⟩]
  rfl
theorem parse_list {α β : Type} {one : β → List Tok → PR β} {step : β → α → β} {Q : α → List Kt → Prop} {c : List UInt8} (hc : c ≠ [44]) (ho : ∀ (b : β) (x : α) (a : List Kt) (ts r : List Tok),Q x a → Sp ts a → (Sg [44] r ∨ Sg c r) → one b (ts ++ r) = .ok (step b x,r)) :
  ∀ (l : List α) (ks : List (List Kt)) (k : Nat) (b : β) (ts r : List Tok),l ≠ [] → ks.length = l.length → (∀ (i : Nat) (h : i < l.length) (h' : i < ks.length),Q l[i] ks[i]) → l.length ≤ k → Sp ts (joinK ks) → Sg c r → listGo one k b (ts ++ r) = .ok (l.foldl step b,r)
 | [],ks,k,b,ts,r,h,_,_,_,_,_ => absurd rfl h
 | x :: l, [],k,b,ts,r,_,h,_,_,_,_ => by simp at h
 | [x], [a],k,b,ts,r,_,_,hq,hk,hs,hr => by
  obtain ⟨m,rfl⟩ : ∃ m,k = m + 1 := ⟨k - 1,by simp at hk; omega⟩
  have h1 := ho b x a ts r (hq 0 (by simp) (by simp)) hs (.inr hr)
  obtain ⟨t,r',rfl,h2,h3⟩ := hr
  rw [listGo,h1]
  simp only []
  rw [takes_ns fun _ => by rw [h3]; exact hc]
  rfl
 | [x],a :: a' :: ks,k,b,ts,r,_,h,_,_,_,_ => by simp at h
 | x :: y :: l, [a],k,b,ts,r,_,h,_,_,_,_ => by simp at h
 | x :: y :: l,a :: a' :: ks,k,b,ts,r,_,h,hq,hk,hs,hr => by
  obtain ⟨m,rfl⟩ : ∃ m,k = m + 1 := ⟨k - 1,by simp at hk; omega⟩
  obtain ⟨t1,t2,rfl,s1,s2⟩ := Sp.app (K := a) hs
  obtain ⟨u,t3,rfl,h2,h3,s3⟩ := s2.cons
  have h1 := ho b x a t1 ((u :: t3) ++ r) (hq 0 (by simp) (by simp)) s1 (.inl ⟨u,_,rfl,h2,h3⟩)
  rw [List.append_assoc,listGo,h1]
  simp only [List.cons_append]
  rw [takes_sg h2 h3]
  simp only []
  exact parse_list hc ho (y :: l) (a' :: ks) m (step b x) t3 r (by simp) (by simpa using h) (fun i hi hi' => hq (i + 1) (by simpa using hi) (by simpa using hi')) (by simpa using hk) s3 hr
theorem foldl_snoc {α : Type} (l : List α) : ∀ b : List α,l.foldl (fun b x => b ++ [x]) b = b ++ l := by
 induction l with
 | nil => intro b; simp
 | cons a l ih => intro b; rw [List.foldl_cons,ih]; simp
def TokAt (a : At) (K : List Kt) : Prop := ∃ ks,ks.length = a.l.length ∧ (∀ (i : Nat) (h : i < a.l.length) (h' : i < ks.length),TokA a.l[i] ks[i]) ∧ K = (1,a.rel) :: (4, [40]) :: (joinK ks ++ [(4, [41])])
theorem parse_atom {F : Nat} (hF : 20 ≤ F) {a : At} (hr : rightA a = true) {K : List Kt} (h : TokAt a K) {ts r : List Tok} (hs : Sp ts K) : atomL F (ts ++ r) = .ok (a,r) := by
 obtain ⟨ks,h1,h2,rfl⟩ := h
 obtain ⟨hn,hne,_⟩ := rightA_all hr
 have h8 := (rightA_at hr).1
 obtain ⟨t,l,rfl,k1,k2,s1⟩ := hs.cons
 obtain ⟨t2,l2,rfl,k3,k4,s2⟩ := s1.cons
 obtain ⟨l3,l4,rfl,s3,s4⟩ := s2.app
 obtain ⟨t3,l5,rfl,k5,k6,s5⟩ := s4.cons
 obtain rfl := s5.nil
 have e : t :: t2 :: (l3 ++ [t3]) ++ r = t :: t2 :: (l3 ++ (t3 :: r)) := by simp
 have hl := parse_list (one := argStep F) (step := fun b x => b ++ [x]) (Q := TokA) (c := [41]) (by decide) (fun b x a ts r hq hsp hf => by
  have hf' : Fol r := by rcases hf with hf | hf <;> exact fol_sg hf (by decide) (by decide)
  rw [argStep,parse_arg hF hq hsp hf']) a.l ks 8 [] l3 (t3 :: r) hne h1 h2 h8 s3 ⟨t3,r,rfl,k5,k6⟩
 rw [foldl_snoc,List.nil_append] at hl
 have hN : nameP (t :: t2 :: (l3 ++ (t3 :: r))) = .ok (a.rel,t2 :: (l3 ++ (t3 :: r))) := by
  rw [nameP,hd0,if_pos (name_first k1 k2 hn)]
  show Except.ok (t.s,_) = _
  rw [show t.s = a.rel from k2]; rfl
 rw [e,atomL,hN]
 simp only []
 rw [withinL,must_sg k3 k4]
 simp only []
 rw [hl]
 simp only []
 rw [must_sg k5 k6]
theorem lex_atom {a : At} (hr : rightA a = true) (hn : nTs a.l) (hl : los a.l) : ∃ K,TokAt a K ∧ LexA (showA a) K := by
 obtain ⟨h1,h2,h3⟩ := rightA_all hr
 obtain ⟨ks,g1,g2,g3⟩ := lex_join (f := showT) (Q := TokA) a.l h2 fun x hx => by
  obtain ⟨k,t1,t2⟩ := tok_arg (h3 x hx) (nTs_all.1 hn x hx) (los_all.1 hl x hx)
  exact ⟨k,⟨t1,h3 x hx⟩,t2⟩
 refine ⟨_,⟨ks,g1,g2,rfl⟩,?_⟩
 rw [showA]
 exact (lex_name h1).appA ⟨40,_,rfl,by decide⟩ (lex_open.app (g3.appA ⟨41, [],rfl,by decide⟩ lex_close))
end Go.Proofs.YtfeknkaioofljaaGreatDoor
namespace Go.Proofs.YtfeknkaioofljaaGreatDoor
open Go.Aw Go.RowKit Tree
open Lx (Tok)
def wCount : List UInt8 := [99,111,117,110,116]
def TokL (l : Li) (K : List Kt) : Prop :=
 (l.op = 1 ∧ TokAt l.a K) ∨ (l.op = 2 ∧ ∃ K',TokAt l.a K' ∧ K = (4, [33]) :: K') ∨
 (∃ a b w,TokT l.x a ∧ TokT l.y b ∧ (relOp w = l.op ∧ relOp w ≠ 0 ∧ w ≠ [62] ∧ w ≠ [62,61]) ∧ K = a ++ ((4,w) :: b)) ∨
 (l.op = 7 ∧ ∃ a K',TokT l.x a ∧ TokAt l.a K' ∧ K = a ++ ((4, [61]) :: (1,wCount) :: (4, [58]) :: (4, [123]) :: (K' ++ [(4, [125])]))) ∨
 (∃ a K' w s,TokT l.x a ∧ TokAt l.a K' ∧ (aggOp w = l.op ∧ 7 < aggOp w) ∧ l.y = .mk 1 s 0 [] ∧ nameB s = true ∧ K = a ++ ((4, [61]) :: (1,w) :: (1,s) :: (4, [58]) :: (4, [123]) :: (K' ++ [(4, [125])])))
theorem showA_first {a : At} (hr : rightA a = true) : ∃ c l,showA a = c :: l ∧ letterB c = true := by
 obtain ⟨h1,_,_⟩ := rightA_all hr
 obtain ⟨c,l,e,h,_⟩ := name_all h1
 exact ⟨c,l ++ ([40] ++ (Lib.join (a.l.map showT) [44,32] ++ [41])),by rw [showA,e]; rfl,h⟩
theorem lex_colon : LexA [32,58,32,123,32] [(4, [58]),(4, [123])] := (lex_sp (w := [58]) fun r => rfl).app (lexA_sp (w := [123]) fun r => rfl)
theorem lex_end : LexA [32,125] [(4, [125])] := (lexA_blank (c := 32) (by decide)).app (lexA_sign (c := 125) (by decide) (by decide) (by decide) (by decide) (by decide) (by decide))
theorem lex_rel {op : Int} (h : op = 3 ∨ op = 4 ∨ op = 5 ∨ op = 6) : ∃ w,LexA (eqL op) [(4,w)] ∧ Nw (eqL op) ∧ relOp w = op ∧ relOp w ≠ 0 ∧ w ≠ [62] ∧ w ≠ [62,61] := by
 rcases h with rfl | rfl | rfl | rfl
 ·exact ⟨[61],lex_sp (w := [61]) fun r => rfl,⟨32,_,rfl,by decide⟩,by decide⟩
 ·exact ⟨[33,61],lex_sp (w := [33,61]) fun r => rfl,⟨32,_,rfl,by decide⟩,by decide⟩
 ·exact ⟨[60],lex_sp (w := [60]) fun r => rfl,⟨32,_,rfl,by decide⟩,by decide⟩
 ·exact ⟨[60,61],lex_sp (w := [60,61]) fun r => rfl,⟨32,_,rfl,by decide⟩,by decide⟩
theorem op_of {t : T} (h : rightT t 20 = true) : t.op = 1 ∨ t.op = 2 ∨ t.op = 3 ∨ t.op = 4 ∨ t.op = 5 ∨ t.op = 6 ∨ t.op = 7 := by
 rw [rightT] at h
 split at h
 ·rw [leafB,Bool.and_eq_true,Bool.not_eq_true',decide_eq_false_iff_not,Bool.and_eq_true,bareB] at h
  obtain ⟨h0,h1,_⟩ := h
  by_cases h1' : t.op = 1
  ·exact .inl h1'
  by_cases h2' : t.op = 2
  ·exact .inr (.inl h2')
  by_cases h3' : t.op = 3
  ·exact .inr (.inr (.inl h3'))
  by_cases h4' : t.op = 4
  ·exact .inr (.inr (.inr (.inl h4')))
  ·rw [if_neg h1',if_neg h2',if_neg h3',if_neg (by omega)] at h1; cases h1
 ·rename_i h1
  have : twoB t.op = true := by simpa using h1
  simp only [twoB,Bool.or_eq_true,decide_eq_true_eq] at this
  omega
theorem lex_lit {l : Li} (hr : rightL l = true) (hn : nL l) (hl : loL l) : ∃ K,TokL l K ∧ Lex1 (showL l) K := by
 have hcs := rightL_cases hr
 have hx4 : (l.op = 3 ∨ l.op = 4 ∨ l.op = 5 ∨ l.op = 6) → l.x.op ≠ 4 ∧ l.y.op ≠ 4 := fun h => by
  rw [rightL,if_neg (by omega),if_pos (by omega)] at hr
  simp only [Bool.and_eq_true,Bool.not_eq_true',decide_eq_false_iff_not] at hr
  exact ⟨hr.1.2.1,hr.1.2.2⟩
 have hX : (l.op = 7 ∨ l.op = 8 ∨ l.op = 9 ∨ l.op = 10) → l.x.op ≠ 4 := fun h => by
  rw [rightL,if_neg (by omega),if_neg (by omega)] at hr
  have hx : isX l.x = true := by
   split at hr
   ·simp only [Bool.and_eq_true] at hr; exact hr.2.1.1
   ·rw [if_pos (by omega)] at hr
    simp only [Bool.and_eq_true] at hr; exact hr.2.1.1
  simp only [isX,Bool.or_eq_true,decide_eq_true_eq] at hx
  omega
 have hY : (l.op = 8 ∨ l.op = 9 ∨ l.op = 10) → l.y.op = 1 := fun h => by
  rw [rightL,if_neg (by omega),if_neg (by omega),if_neg (by omega),if_pos (by omega)] at hr
  simp only [Bool.and_eq_true,decide_eq_true_eq] at hr
  exact hr.2.1.2
 rw [showL]
 rcases hcs with ⟨o,ra,ex,ey⟩ | ⟨o,ea,rx,ry⟩ | ⟨o,ra,rx,ey⟩ | ⟨o,ra,rx,ry⟩
 ·obtain ⟨K,k1,k2⟩ := lex_atom ra hn.1 hl.1
  rcases o with o | o
  ·exact ⟨K, .inl ⟨o,k1⟩,by rw [if_pos o]; exact k2.one⟩
  ·refine ⟨_, .inr (.inl ⟨o,K,k1,rfl⟩),?_⟩
   rw [if_neg (by omega),if_pos o]
   intro r hr'
   obtain ⟨c,m,e,hc⟩ := showA_first ra
   obtain ⟨a,b⟩ := k2 r
   obtain ⟨a',b'⟩ := lex_sign (c := 33) (showA l.a ++ r) (by decide) (by decide) (by decide) (fun h => absurd h (by decide)) (by
    rw [e,List.cons_append,Lx.twoS]
    have : c ≠ 61 := by rintro rfl; revert hc; decide
    simp [this]) (by decide)
   show Lx.kws (33 :: (showA l.a ++ r)) = _ ∧ (Lx.okX (33 :: (showA l.a ++ r)) ↔ _)
   rw [a',a,b',b]
   exact ⟨rfl,Iff.rfl⟩
 ·obtain ⟨a,ta,la⟩ := tok_term 20 l.x rx hn.2.1 hl.2.1 (hx4 o).1
  obtain ⟨b,tb,lb⟩ := tok_term 20 l.y ry hn.2.2 hl.2.2 (hx4 o).2
  obtain ⟨w,lw,nw,hw⟩ := lex_rel o
  refine ⟨_, .inr (.inr (.inl ⟨a,b,w,ta,tb,hw,rfl⟩)),?_⟩
  rw [if_neg (by omega),if_neg (by omega),if_pos (by omega)]
  exact la.app nw.app (lw.app1 lb)
 ·obtain ⟨a,ta,la⟩ := tok_term 20 l.x rx hn.2.1 hl.2.1 (hX (.inl o))
  obtain ⟨K,k1,k2⟩ := lex_atom ra hn.1 hl.1
  refine ⟨_, .inr (.inr (.inr (.inl ⟨o,a,K,ta,k1,rfl⟩))),?_⟩
  rw [if_neg (by omega),if_neg (by omega),if_neg (by omega),howL,if_pos o]
  have e := k2.app lex_end
  have f := lex_colon.app e
  have g := (lex_word (s := wCount) (c := 99) (l := [111,117,110,116]) rfl (by decide) (by decide) (by decide)).appA ⟨32,_,rfl,by decide⟩ f
  exact la.app ⟨32,_,rfl,by decide⟩ ((lex_sp (w := [61]) fun r => rfl).app g).one
 ·obtain ⟨a,ta,la⟩ := tok_term 20 l.x rx hn.2.1 hl.2.1 (hX (by omega))
  obtain ⟨K,k1,k2⟩ := lex_atom ra hn.1 hl.1
  obtain ⟨b,tb,lb⟩ := tok_term 20 l.y ry hn.2.2 hl.2.2 (by rw [hY o]; decide)
  have hy : ∃ s,l.y = .mk 1 s 0 [] ∧ nameB s = true ∧ b = [(1,s)] := by
   have h1 := hY o
   generalize l.y = y at h1 tb
   cases tb with
   | var h => exact ⟨_,rfl,h,rfl⟩
   | pos => cases h1
   | neg => cases h1
   | sym => cases h1
   | two ho => have h1 : _ = (1 : Int) := h1; simp only [T.op] at h1; omega
  obtain ⟨s,hy1,hy2,rfl⟩ := hy
  have e := k2.app lex_end
  have f := lex_colon.app e
  have g := lb.appA (t := [32,58,32,123,32] ++ (showA l.a ++ [32,125])) ⟨32,_,rfl,by decide⟩ f
  obtain ⟨w,hw,hw2,hw3⟩ : ∃ w : List UInt8,(aggOp w = l.op ∧ 7 < aggOp w) ∧ howL l = (w ++ [32]) ++ showT l.y ∧ Lex1 w [(1,w)] := by
   rw [howL,if_neg (by omega)]
   rcases o with o | o | o
   ·exact ⟨[115,117,109],by rw [o]; decide,by rw [if_pos o]; rfl,lex_word (c := 115) (l := [117,109]) rfl (by decide) (by decide) (by decide)⟩
   ·exact ⟨[109,105,110],by rw [o]; decide,by rw [if_neg (by omega),if_pos o]; rfl,lex_word (c := 109) (l := [105,110]) rfl (by decide) (by decide) (by decide)⟩
   ·exact ⟨[109,97,120],by rw [o]; decide,by rw [if_neg (by omega),if_neg (by omega)]; rfl,lex_word (c := 109) (l := [97,120]) rfl (by decide) (by decide) (by decide)⟩
  refine ⟨_, .inr (.inr (.inr (.inr ⟨a,K,w,s,ta,k1,hw,hy1,hy2,rfl⟩))),?_⟩
  rw [if_neg (by omega),if_neg (by omega),if_neg (by omega),hw2]
  have q := (hw3.appA (t := [32]) ⟨32, [],rfl,by decide⟩ (lexA_blank (c := 32) (by decide))).app g
  rw [show (w ++ [32]) ++ showT l.y ++ ([32,58,32,123,32] ++ (showA l.a ++ [32,125])) = (w ++ [32]) ++ (showT l.y ++ ([32,58,32,123,32] ++ (showA l.a ++ [32,125]))) by simp]
  exact la.app ⟨32,_,rfl,by decide⟩ ((lex_sp (w := [61]) fun r => rfl).app q).one
theorem rel_ops {w : List UInt8} (h : relOp w ≠ 0) : opsP w = 0 ∧ opsS w = 0 := by
 rw [relOp] at h
 split at h
 ·rename_i e; rw [e]; decide
 ·split at h
  ·rename_i e; rw [e]; decide
  ·split at h
   ·rename_i e; rcases e with e | e <;> rw [e] <;> decide
   ·split at h
    ·rename_i e; rcases e with e | e <;> rw [e] <;> decide
    ·exact absurd rfl h
def Beh (r : List Tok) : Prop := Sg [44] r ∨ Sg [46] r
theorem beh_kind {r : List Tok} (h : Beh r) : ∃ t l,r = t :: l ∧ t.kind = 4 ∧ (t.s = [44] ∨ t.s = [46]) := by
 rcases h with ⟨t,l,rfl,h1,h2⟩ | ⟨t,l,rfl,h1,h2⟩
 ·exact ⟨t,l,rfl,h1, .inl h2⟩
 ·exact ⟨t,l,rfl,h1, .inr h2⟩
theorem beh_fol {r : List Tok} (h : Beh r) : Fol r := by
 rcases h with h | h <;> exact fol_sg h (by decide) (by decide)
theorem part_expr {F : Nat} {t : T} {K : List Kt} (h : TokT t K) {ts R : List Tok} (hs : Sp ts K) {c : List UInt8} (hR : Sg c R) (hc : c ≠ [40]) {x : T} {r : List Tok} (he : exprL F (ts ++ R) = .ok (x,r)) : partL' F (ts ++ R) = if howL' r ≠ 0 then aggL F (howL' r) x r else heldL F x r := by
 obtain ⟨k,w,K',rfl,hk⟩ := tok_first h
 obtain ⟨u,l,rfl,h1,h2,sl⟩ := hs.cons
 have h1 : u.kind = (k : Int) := h1
 have h2 : u.s = w := h2
 rw [partL',List.cons_append,takes_ns fun hk4 => ?_]
 ·simp only []
  rw [hd0,if_neg ?_]
  ·rw [List.cons_append] at he
   rw [he]
  ·rintro ⟨hn,hs⟩
   rcases hk with ⟨rfl,_,rfl⟩ | rfl | rfl | ⟨rfl,_⟩
   ·obtain rfl := sl.nil
    obtain ⟨t2,l2,rfl,_,h3⟩ := hR
    have := (sign_kind hs).2
    rw [show hd (u :: ([] ++ t2 :: l2)) 1 = t2 from rfl] at this
    exact hc (h3 ▸ this)
   ·have := name_kind hn; rw [h1] at this; cases this
   ·have := name_kind hn; rw [h1] at this; cases this
   ·have := name_kind hn; rw [h1] at this; cases this
 ·rw [h2]
  rcases hk with ⟨rfl,_⟩ | rfl | rfl | ⟨rfl,hw⟩
  ·rw [h1] at hk4; cases hk4
  ·rw [h1] at hk4; cases hk4
  ·rw [h1] at hk4; cases hk4
  ·rcases hw with rfl | rfl <;> decide
theorem parse_lit {F : Nat} (hF : 20 ≤ F) {l : Li} (hr : rightL l = true) {K : List Kt} (h : TokL l K) {ts r : List Tok} (hs : Sp ts K) (hb : Beh r) : partL' F (ts ++ r) = .ok (l,r) := by
 have hcs := rightL_cases hr
 obtain ⟨op,a,x,y⟩ := l
 simp only [TokL] at h hcs
 obtain ⟨tb,lb,rfl,bk,bs⟩ := beh_kind hb
 rcases h with ⟨o,ta⟩ | ⟨o,K',ta,rfl⟩ | ⟨ka,kb,w,ta,tb',hw,rfl⟩ | ⟨o,ka,K',ta,tat,rfl⟩ | ⟨ka,K',w,s,ta,tat,hw,hy,hyn,rfl⟩
 · -- an atom
  subst o
  obtain ⟨_,ra,rfl,rfl⟩ : _ ∧ rightA a = true ∧ x = .mk 0 [] 0 [] ∧ y = .mk 0 [] 0 [] := by
   rcases hcs with h | ⟨h,_⟩ | ⟨h,_⟩ | ⟨h,_⟩
   ·exact h
   ·omega
   ·omega
   ·omega
  have hp := parse_atom hF ra ta (r := tb :: lb) hs
  obtain ⟨ks,_,_,rfl⟩ := ta
  obtain ⟨u,m,rfl,h1,h2,s1⟩ := hs.cons
  obtain ⟨u2,m2,rfl,h3,h4,_⟩ := s1.cons
  have hn := (rightA_all ra).1
  rw [partL',List.cons_append,takes_ns fun hk => by rw [h1] at hk; cases hk]
  simp only []
  rw [if_pos ⟨name_first h1 h2 hn,by show signB u2 [40] = true; rw [signB,h3,h4]; rfl⟩]
  rw [List.cons_append] at hp
  rw [hp]; rfl
 ·subst o
  obtain ⟨_,ra,rfl,rfl⟩ : _ ∧ rightA a = true ∧ x = .mk 0 [] 0 [] ∧ y = .mk 0 [] 0 [] := by
   rcases hcs with h | ⟨h,_⟩ | ⟨h,_⟩ | ⟨h,_⟩
   ·exact h
   ·omega
   ·omega
   ·omega
  obtain ⟨u,m,rfl,h1,h2,s1⟩ := hs.cons
  have hp := parse_atom hF ra ta (r := tb :: lb) s1
  rw [partL',List.cons_append,takes_sg h1 h2]
  simp only []
  rw [hp]; rfl
 · -- two sides
  obtain ⟨w1,w2,w3,w4⟩ := hw
  have hop : op = 3 ∨ op = 4 ∨ op = 5 ∨ op = 6 := by have := (rel_s w2).2.2.2; omega
  obtain ⟨_,rfl,rx,ry⟩ : _ ∧ a = ⟨[], []⟩ ∧ rightT x 20 = true ∧ rightT y 20 = true := by
   rcases hcs with ⟨h,_⟩ | h | ⟨h,_⟩ | ⟨h,_⟩
   ·omega
   ·exact h
   ·omega
   ·omega
  obtain ⟨m1,m2,rfl,s1,s2⟩ := hs.app
  obtain ⟨u,m3,rfl,h1,h2,s3⟩ := s2.cons
  have h1 : u.kind = 4 := h1
  have h2 : u.s = w := h2
  have ho := rel_ops w2
  have sg : Sg w (u :: m3 ++ tb :: lb) := ⟨u,_,rfl,h1,h2⟩
  have px := parse_expr hF ta rx s1 (fol_sg sg ho.1 ho.2)
  have py := parse_expr hF tb' ry s3 (beh_fol hb)
  have hw40 : w ≠ [40] := by rintro rfl; exact w2 (by decide)
  rw [List.append_assoc,part_expr ta s1 sg hw40 px,if_neg,heldL]
  ·simp only [List.cons_append]
   rw [hd0,if_pos ⟨h1,by rw [h2]; exact w2⟩]
   show (match exprL F (m3 ++ tb :: lb) with | .error e => _ | .ok (y,r) => _) = _
   rw [py]
   simp only []
   rw [if_neg (by rw [h2]; rintro (h | h); exact w3 h; exact w4 h),h2,w1]
   rfl
  · -- no aggregate
   intro hh
   obtain ⟨q1,q2,_,q4⟩ := how_parts hh
   have e1 : hd (u :: m3 ++ tb :: lb) 1 = hd (m3 ++ tb :: lb) 0 := rfl
   have e2 : hd (u :: m3 ++ tb :: lb) 2 = hd (m3 ++ tb :: lb) 1 := rfl
   rw [e1] at q2
   obtain ⟨k,v,K'',rfl,hk⟩ := tok_first tb'
   obtain ⟨u2,m4,rfl,h3,h4,s4⟩ := s3.cons
   have h3 : u2.kind = (k : Int) := h3
   rw [List.cons_append,hd0,h3] at q2
   rcases hk with ⟨rfl,_,rfl⟩ | rfl | rfl | ⟨rfl,_⟩
   ·obtain rfl := s4.nil
    have e3 : hd (u :: [u2] ++ tb :: lb) 2 = tb := rfl
    rw [e3] at q4
    rcases q4 with ⟨_,q⟩ | ⟨_,q,_⟩
    ·have := (sign_kind q).2
     rcases bs with b | b <;> rw [b] at this <;> cases this
    ·have := name_kind q
     rw [bk] at this; cases this
   ·cases q2
   ·cases q2
   ·cases q2
 · -- count
  subst o
  obtain ⟨_,ra,rx,rfl⟩ : _ ∧ rightA a = true ∧ rightT x 20 = true ∧ y = .mk 0 [] 0 [] := by
   rcases hcs with ⟨h,_⟩ | ⟨h,_⟩ | h | ⟨h,_⟩
   ·omega
   ·omega
   ·exact h
   ·omega
  have hxo : x.op = 1 ∨ x.op = 2 := by
   rw [rightL,if_neg (show ¬ ((7 : Int) = 1 ∨ (7 : Int) = 2) by decide),if_neg (show ¬ ((3 : Int) ≤ 7 ∧ (7 : Int) ≤ 6) by decide),if_pos rfl] at hr
   simp only [Bool.and_eq_true,isX,Bool.or_eq_true,decide_eq_true_eq] at hr
   exact hr.2.1.1
  obtain ⟨m1,m2,rfl,s1,s2⟩ := hs.app
  obtain ⟨u,m3,rfl,h1,h2,s3⟩ := s2.cons
  obtain ⟨u2,m4,rfl,h3,h4,s4⟩ := s3.cons
  obtain ⟨u3,m5,rfl,h5,h6,s5⟩ := s4.cons
  obtain ⟨u4,m6,rfl,h7,h8,s6⟩ := s5.cons
  obtain ⟨m7,m8,rfl,s7,s8⟩ := s6.app
  obtain ⟨u5,m9,rfl,h9,h10,s9⟩ := s8.cons
  obtain rfl := s9.nil
  have sg : Sg [61] (u :: u2 :: u3 :: u4 :: (m7 ++ [u5]) ++ tb :: lb) := ⟨u,_,rfl,h1,h2⟩
  have px := parse_expr hF ta rx s1 (fol_sg sg (by decide) (by decide))
  have hw : howL' (u :: u2 :: u3 :: u4 :: (m7 ++ [u5]) ++ tb :: lb) = 7 := by
   have e1 : hd (u :: u2 :: u3 :: u4 :: (m7 ++ [u5]) ++ tb :: lb) 1 = u2 := rfl
   have e2 : hd (u :: u2 :: u3 :: u4 :: (m7 ++ [u5]) ++ tb :: lb) 2 = u3 := rfl
   have h4 : u2.s = wCount := h4
   rw [howL',e1,e2,List.cons_append,hd0,h4,if_pos ⟨by rw [signB,h1,h2]; rfl,h3⟩,if_pos (.inl ⟨by decide,by rw [signB,h5,h6]; rfl⟩)]
   decide
  rw [List.append_assoc,part_expr ta s1 sg (by decide) px,hw,if_pos (by decide),aggL,if_neg (by omega),if_pos rfl]
  have hd3 : (u :: u2 :: u3 :: u4 :: (m7 ++ [u5]) ++ tb :: lb).drop 3 = u4 :: (m7 ++ (u5 :: tb :: lb)) := by simp
  rw [hd3,withinL,must_sg h7 h8]
  simp only []
  rw [parse_atom hF ra tat s7]
  simp only []
  rw [must_sg h9 h10]
  rfl
 · -- sum,min,max
  obtain ⟨w1,w2⟩ := hw
  have hop : op = 8 ∨ op = 9 ∨ op = 10 := by have := (agg_s (s := w) (by omega)).2.2; omega
  subst hy
  obtain ⟨_,ra,rx,_⟩ : _ ∧ rightA a = true ∧ rightT x 20 = true ∧ rightT (.mk 1 s 0 []) 20 = true := by
   rcases hcs with ⟨h,_⟩ | ⟨h,_⟩ | ⟨h,_⟩ | h
   ·omega
   ·omega
   ·omega
   ·exact h
  have hxo : x.op = 1 ∨ x.op = 2 := by
   rw [rightL,if_neg (by show ¬ (op = 1 ∨ op = 2); omega),if_neg (by show ¬ (3 ≤ op ∧ op ≤ 6); omega),if_neg (by show ¬ op = 7; omega),if_pos (by show 8 ≤ op ∧ op ≤ 10; omega)] at hr
   simp only [Bool.and_eq_true,isX,Bool.or_eq_true,decide_eq_true_eq] at hr
   exact hr.2.1.1
  obtain ⟨m1,m2,rfl,s1,s2⟩ := hs.app
  obtain ⟨u,m3,rfl,h1,h2,s3⟩ := s2.cons
  obtain ⟨u2,m4,rfl,h3,h4,s4⟩ := s3.cons
  obtain ⟨u6,m0,rfl,h11,h12,s0⟩ := s4.cons
  obtain ⟨u3,m5,rfl,h5,h6,s5⟩ := s0.cons
  obtain ⟨u4,m6,rfl,h7,h8,s6⟩ := s5.cons
  obtain ⟨m7,m8,rfl,s7,s8⟩ := s6.app
  obtain ⟨u5,m9,rfl,h9,h10,s9⟩ := s8.cons
  obtain rfl := s9.nil
  have sg : Sg [61] (u :: u2 :: u6 :: u3 :: u4 :: (m7 ++ [u5]) ++ tb :: lb) := ⟨u,_,rfl,h1,h2⟩
  have px := parse_expr hF ta rx s1 (fol_sg sg (by decide) (by decide))
  have h4 : u2.s = w := h4
  have h12 : u6.s = s := h12
  have hw : howL' (u :: u2 :: u6 :: u3 :: u4 :: (m7 ++ [u5]) ++ tb :: lb) = op := by
   have e1 : hd (u :: u2 :: u6 :: u3 :: u4 :: (m7 ++ [u5]) ++ tb :: lb) 1 = u2 := rfl
   have e2 : hd (u :: u2 :: u6 :: u3 :: u4 :: (m7 ++ [u5]) ++ tb :: lb) 2 = u6 := rfl
   have e3 : hd (u :: u2 :: u6 :: u3 :: u4 :: (m7 ++ [u5]) ++ tb :: lb) 3 = u3 := rfl
   rw [howL',e1,e2,e3,List.cons_append,hd0,h4,if_pos ⟨by rw [signB,h1,h2]; rfl,h3⟩,if_pos (.inr ⟨w2,name_first h11 h12 hyn,by rw [signB,h5,h6]; rfl⟩),w1]
  have h7' : ¬ op = 7 := by omega
  rw [List.append_assoc,part_expr ta s1 sg (by decide) px,hw,if_pos (by omega),aggL,if_neg (by omega),if_neg h7',if_neg h7']
  have hd3 : (u :: u2 :: u6 :: u3 :: u4 :: (m7 ++ [u5]) ++ tb :: lb).drop 4 = u4 :: (m7 ++ (u5 :: tb :: lb)) := by simp
  have e2 : hd (u :: u2 :: u6 :: u3 :: u4 :: (m7 ++ [u5]) ++ tb :: lb) 2 = u6 := rfl
  rw [hd3,e2,withinL,must_sg h7 h8]
  simp only []
  rw [parse_atom hF ra tat s7]
  simp only []
  rw [must_sg h9 h10,h12]
end Go.Proofs.YtfeknkaioofljaaGreatDoor
