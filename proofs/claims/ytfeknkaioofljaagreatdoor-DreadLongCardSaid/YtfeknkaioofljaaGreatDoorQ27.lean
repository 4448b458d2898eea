/-
 The tokens of what is shown: plain. Own work.
-/
import Derived.Test.YtfeknkaioofljaaGreatDoorQ24
set_option linter.all false
namespace Go.Proofs.YtfeknkaioofljaaGreatDoor
open Go.Aw Go.RowKit Tree
abbrev Kt := Nat × List UInt8
def NW (r : List UInt8) : Prop := ∀ c ∈ r.head?,Lx.wordB c = false
def LexA (s : List UInt8) (K : List Kt) : Prop := ∀ r,Lx.kws (s ++ r) = K ++ Lx.kws r ∧ (Lx.okX (s ++ r) ↔ Lx.okX r)
def Lex1 (s : List UInt8) (K : List Kt) : Prop := ∀ r,NW r → Lx.kws (s ++ r) = K ++ Lx.kws r ∧ (Lx.okX (s ++ r) ↔ Lx.okX r)
theorem LexA.one {s : List UInt8} {K : List Kt} (h : LexA s K) : Lex1 s K := fun r _ => h r
theorem LexA.app {s t : List UInt8} {K K' : List Kt} (h : LexA s K) (h' : LexA t K') : LexA (s ++ t) (K ++ K') := fun r => by
 obtain ⟨a,b⟩ := h (t ++ r)
 obtain ⟨c,d⟩ := h' r
 rw [List.append_assoc,a,c,List.append_assoc,b,d]
 exact ⟨rfl,Iff.rfl⟩
theorem LexA.app1 {s t : List UInt8} {K K' : List Kt} (h : LexA s K) (h' : Lex1 t K') : Lex1 (s ++ t) (K ++ K') := fun r hr => by
 obtain ⟨a,b⟩ := h (t ++ r)
 obtain ⟨c,d⟩ := h' r hr
 rw [List.append_assoc,a,c,List.append_assoc,b,d]
 exact ⟨rfl,Iff.rfl⟩
def Nw (s : List UInt8) : Prop := ∃ c l,s = c :: l ∧ Lx.wordB c = false
theorem Nw.app {s t : List UInt8} (h : Nw s) : Nw (s ++ t) := by
 obtain ⟨c,l,rfl,hc⟩ := h
 exact ⟨c,l ++ t,rfl,hc⟩
theorem Nw.nw {s : List UInt8} (h : Nw s) : NW s := by
 obtain ⟨c,l,rfl,hc⟩ := h
 intro d hd
 simp at hd
 exact hd ▸ hc
theorem nw_nil : NW [] := fun c hc => by simp at hc
theorem Lex1.app {s t : List UInt8} {K K' : List Kt} (h : Lex1 s K) (hn : Nw t) (h' : Lex1 t K') : Lex1 (s ++ t) (K ++ K') := fun r hr => by
 obtain ⟨a,b⟩ := h (t ++ r) hn.app.nw
 obtain ⟨c,d⟩ := h' r hr
 rw [List.append_assoc,a,c,List.append_assoc,b,d]
 exact ⟨rfl,Iff.rfl⟩
theorem Lex1.appA {s t : List UInt8} {K K' : List Kt} (h : Lex1 s K) (hn : Nw t) (h' : LexA t K') : LexA (s ++ t) (K ++ K') := fun r => by
 obtain ⟨a,b⟩ := h (t ++ r) hn.app.nw
 obtain ⟨c,d⟩ := h' r
 rw [List.append_assoc,a,c,List.append_assoc,b,d]
 exact ⟨rfl,Iff.rfl⟩
theorem lexA_nil : LexA [] [] := fun r => ⟨rfl,Iff.rfl⟩
theorem lexA_blank {c : UInt8} (h : Lx.blankB c = true) : LexA [c] [] := fun r => by
 have : Lx.skipL (c :: r) = Lx.skipL r := Lx.skipL_blank h r
 exact Lx.kws_congr this
theorem lex_tok {k : Nat} {w r : List UInt8} (h : Lx.oneT (Lx.txt k w ++ r) = some (k,w,r)) : Lx.kws (Lx.txt k w ++ r) = [(k,w)] ++ Lx.kws r ∧ (Lx.okX (Lx.txt k w ++ r) ↔ Lx.okX r) := by
 obtain ⟨c,l,e,h1,h2⟩ := Lx.txt_head (x := (k,w)) ⟨_,_,h⟩
 have hs : Lx.skipL (Lx.txt k w ++ r) = Lx.txt k w ++ r := by
  simp only [] at e
  rw [e,List.cons_append]
  exact Lx.skipL_stop h1 (fun hh => h2 hh.1)
 rw [Lx.kws,Lx.okX,hs,Lx.rawL_some h]
 exact ⟨rfl,Iff.rfl⟩
theorem tw_word {w r : List UInt8} {p : UInt8 → Bool} (h : ∀ c ∈ w,p c = true) (hr : ∀ c ∈ r.head?,p c = false) : (w ++ r).takeWhile p = w ∧ (w ++ r).dropWhile p = r := by
 have hw : ∀ w : List UInt8,(∀ c ∈ w,p c = true) → w.takeWhile p = w := fun w => by
  induction w with
  | nil => intro _; rfl
  | cons c w ih => intro h; rw [List.takeWhile_cons,if_pos (h c (.head _)),ih fun x hx => h x (.tail _ hx)]
 replace hw := hw w h
 have := Lx.tw_ext (x := r) hr w
 rw [hw] at this; exact this
theorem lex_word {s : List UInt8} {c : UInt8} {l : List UInt8} (e : s = c :: l) (hc : letterB c = true) (hw : ∀ x ∈ s,Lx.wordB x = true) (hl : s.length ≤ 40) : Lex1 s [(1,s)] := fun r hr => by
 have h : Lx.oneT (Lx.txt 1 s ++ r) = some (1,s,r) := by
  obtain ⟨a,b⟩ := tw_word hw hr
  rw [Lx.txt,if_neg (by decide)]
  rw [e,List.cons_append] at a b ⊢
  unfold Lx.oneT
  simp only []
  rw [if_pos hc,a,b,if_pos (by rw [← e]; exact hl)]
 have := lex_tok h
 rw [Lx.txt,if_neg (by decide)] at this
 exact this
theorem lex_num {n : Int} (h0 : 0 ≤ n) (h : inR64 n) : Lex1 (Lib.itoa n) [(2,Lib.itoa n)] := fun r hr => by
 obtain ⟨u,rfl⟩ : ∃ u : Nat,n = u := ⟨n.toNat,by omega⟩
 have hp := pn_itoa h
 rw [Lib.itoa_nonneg] at hp ⊢
 obtain ⟨c,l,e,h1,h2⟩ := dd_cons u
 have hd := dd_dig u
 have hw : ∀ x ∈ Lib.decDigits u,Lx.wordB x = true := fun x hx => Lx.wordB_digit (by have := hd x hx; simp [digitB]; omega)
 have h : Lx.oneT (Lx.txt 2 (Lib.decDigits u) ++ r) = some (2,Lib.decDigits u,r) := by
  obtain ⟨a,b⟩ := tw_word hw hr
  rw [Lx.txt,if_neg (by decide)]
  rw [e,List.cons_append] at a b ⊢
  unfold Lx.oneT
  simp only []
  rw [if_neg (by simp [letterB]; omega),if_pos (by simp [digitB]; omega),a,b,if_pos (by rw [← e,hp])]
 have := lex_tok h
 rw [Lx.txt,if_neg (by decide)] at this
 exact this
theorem lex_sign {c : UInt8} (r : List UInt8) (h1 : letterB c = false) (h2 : digitB c = false) (h3 : ¬ c.toNat = 34) (h4 : c.toNat = 46 → ∀ d ∈ r.head?,Lx.smallB d = false) (h5 : Lx.twoS c r = false) (h6 : c ∈ Lx.signs) : Lx.kws (c :: r) = [(4, [c])] ++ Lx.kws r ∧ (Lx.okX (c :: r) ↔ Lx.okX r) := by
 have h : Lx.oneT (Lx.txt 4 [c] ++ r) = some (4, [c],r) := by
  rw [Lx.txt,if_neg (by decide)]
  show Lx.oneT (c :: r) = _
  unfold Lx.oneT
  simp only []
  have hs : Lx.signN c r = 1 := by rw [Lx.signN,h5,if_neg (by decide),if_pos h6]
  rw [if_neg (by rw [h1]; decide),if_neg (by rw [h2]; decide),if_neg h3,if_neg ?_,hs,if_neg (by decide)]
  ·rfl
  ·rintro ⟨a,b⟩
   cases r with
   | nil => simp at b
   | cons d r =>
    have := h4 a d rfl
    rw [List.takeWhile_cons,if_neg (by rw [this]; decide)] at b
    simp at b
 exact lex_tok h
theorem lexA_sign {c : UInt8} (h1 : letterB c = false) (h2 : digitB c = false) (h3 : ¬ c.toNat = 34) (h4 : c.toNat ≠ 46) (h5 : c.toNat ≠ 58 ∧ c.toNat ≠ 33 ∧ c.toNat ≠ 60 ∧ c.toNat ≠ 62) (h6 : c ∈ Lx.signs) : LexA [c] [(4, [c])] := fun r =>
 lex_sign r h1 h2 h3 (fun h => absurd h h4) (by simp [Lx.twoS,h5.1,h5.2.1,h5.2.2.1,h5.2.2.2]) h6
theorem small_word {c : UInt8} (h : Lx.wordB c = false) : Lx.smallB c = false := by
 simp only [Lx.wordB,letterB,Bool.or_eq_false_iff,Bool.and_eq_false_iff,decide_eq_false_iff_not] at h
 simp only [Lx.smallB,Bool.and_eq_false_iff,decide_eq_false_iff_not]
 omega
theorem lex_dot : Lex1 [46] [(4, [46])] := fun r hr => lex_sign r (by decide) (by decide) (by decide) (fun _ d hd => small_word (hr d hd)) (by simp [Lx.twoS]) (by decide)
theorem lexA_sp {w : List UInt8} (h : ∀ r,Lx.oneT (w ++ 32 :: r) = some (4,w,32 :: r)) : LexA (w ++ [32]) [(4,w)] := fun r => by
 have e : w ++ [32] ++ r = Lx.txt 4 w ++ 32 :: r := by rw [Lx.txt,if_neg (by decide)]; simp
 have h' : Lx.oneT (Lx.txt 4 w ++ 32 :: r) = some (4,w,32 :: r) := by rw [Lx.txt,if_neg (by decide)]; exact h r
 obtain ⟨a,b⟩ := lex_tok h'
 obtain ⟨c,d⟩ := lexA_blank (c := 32) (by decide) r
 rw [e,a,b]
 simp only [List.cons_append,List.nil_append] at c d ⊢
 rw [c,d]
 exact ⟨rfl,Iff.rfl⟩
theorem lexA_key {w : List UInt8} (h : ∀ r,Lx.oneT (w ++ 32 :: r) = some (5,w,32 :: r)) : LexA (w ++ [32]) [(5,w)] := fun r => by
 have e : w ++ [32] ++ r = Lx.txt 5 w ++ 32 :: r := by rw [Lx.txt,if_neg (by decide)]; simp
 have h' : Lx.oneT (Lx.txt 5 w ++ 32 :: r) = some (5,w,32 :: r) := by rw [Lx.txt,if_neg (by decide)]; exact h r
 obtain ⟨a,b⟩ := lex_tok h'
 obtain ⟨c,d⟩ := lexA_blank (c := 32) (by decide) r
 rw [e,a,b]
 simp only [List.cons_append,List.nil_append] at c d ⊢
 rw [c,d]
 exact ⟨rfl,Iff.rfl⟩
theorem LexA.eq {s t : List UInt8} {K K' : List Kt} (h : LexA s K) (e : s = t) (e' : K = K') : LexA t K' := e ▸ e' ▸ h
theorem Lex1.eq {s t : List UInt8} {K K' : List Kt} (h : Lex1 s K) (e : s = t) (e' : K = K') : Lex1 t K' := e ▸ e' ▸ h
theorem lex_open : LexA [40] [(4, [40])] := lexA_sign (by decide) (by decide) (by decide) (by decide) (by decide) (by decide)
theorem lex_close : LexA [41] [(4, [41])] := lexA_sign (by decide) (by decide) (by decide) (by decide) (by decide) (by decide)
theorem lex_comma : LexA [44,32] [(4, [44])] := (lexA_sign (c := 44) (by decide) (by decide) (by decide) (by decide) (by decide) (by decide)).app (lexA_blank (c := 32) (by decide))
inductive TokT : T → List Kt → Prop
 | var {s : List UInt8} (h : nameB s = true) : TokT (.mk 1 s 0 []) [(1,s)]
 | pos {n : Int} (h0 : 0 ≤ n) (h : inR64 n) : TokT (.mk 2 [] n []) [(2,Lib.itoa n)]
 | neg {n : Int} (h0 : n < 0) (h : inR64 (-n)) : TokT (.mk 2 [] n []) [(4, [45]),(2,Lib.itoa (-n))]
 | sym (s : List UInt8) : TokT (.mk 3 s 0 []) [(3,s)]
 | two {op : Int} {x y : T} {a b : List Kt} {c : UInt8} (ho : op = 5 ∨ op = 6 ∨ op = 7) (hc : if op = 7 then opsP [c] = 7 else opsP [c] = 0 ∧ opsS [c] = op) (hx : TokT x a) (hy : TokT y b) (h3 : x.op ≠ 3) (h3' : y.op ≠ 3) : TokT (.mk op [] 0 [x,y]) ((4, [40]) :: (a ++ ((4, [c]) :: (b ++ [(4, [41])]))))
end Go.Proofs.YtfeknkaioofljaaGreatDoor
