/-
  Tokens: texts behind each other; tokens' texts; lines: plain laws. Own work.
-/
import Derived.Test.YtgcoomicgdbmbaaGreatDoorP12
import Derived.Test.YtgcoomicgdbmbaaGreatDoorDraw2
set_option linter.all false
namespace Go.Proofs.YtgcoomicgdbmbaaGreatDoor
open Go.Aw

def kw (x : Nat × List UInt8 × Nat) : Nat × List UInt8 := (x.1, x.2.1)
/-- the tokens of a text, without lines; are there no others? -/
def kws (s : List UInt8) : List (Nat × List UInt8) := (rawL (skipL s)).1.map kw
def okX (s : List UInt8) : Prop := (rawL (skipL s)).2 = none
def glue (x s : List UInt8) : List UInt8 := if s = [] then skipL x else s ++ 10 :: x
theorem skip_glue (s x : List UInt8) : skipL (s ++ 10 :: x) = glue x (skipL s) := skipL_nl s x
theorem glue_raw (x : List UInt8) : ∀ s, ((rawL s).2 = none → (rawL (glue x s)).1.map kw = (rawL s).1.map kw ++ kws x ∧ (rawL (glue x s)).2 = (rawL (skipL x)).2) ∧ ((rawL s).2 ≠ none → (rawL (glue x s)).2 ≠ none) := by
  refine rawL_ind ?_ ?_ ?_
  · refine ⟨fun _ => ?_, fun h => absurd (by rw [rawL_nil]) h⟩
    rw [glue, if_pos rfl, rawL_nil]
    exact ⟨rfl, rfl⟩
  · intro s hs h
    refine ⟨fun h2 => ?_, fun _ => ?_⟩
    · rw [rawL_none hs h] at h2; cases h2
    · rw [glue, if_neg hs, rawL_none (by simp) (by rw [oneT_nl hs, h]; rfl)]
      simp
  · intro s k w r h ih
    have hs := oneT_ne h
    have e : oneT (s ++ 10 :: x) = some (k, w, r ++ 10 :: x) := by rw [oneT_nl hs, h]; rfl
    have e2 : rawL (glue x s) = ((k, w, cnt (s ++ 10 :: x)) :: (rawL (glue x (skipL r))).1, (rawL (glue x (skipL r))).2) := by
      rw [glue, if_neg hs, rawL_some e, skip_glue]
    rw [rawL_some h]
    refine ⟨fun h2 => ?_, fun h2 => ?_⟩
    · obtain ⟨a, b⟩ := ih.1 h2
      rw [e2]
      refine ⟨?_, b⟩
      simp only [List.map_cons, a, List.cons_append, kw]
    · rw [e2]; exact ih.2 h2
theorem kws_nl {s x : List UInt8} (h : okX s) : kws (s ++ 10 :: x) = kws s ++ kws x ∧ (okX (s ++ 10 :: x) ↔ okX x) := by
  have := (glue_raw x (skipL s)).1 h
  rw [kws, okX, skip_glue]
  exact ⟨this.1, by rw [this.2]; rfl⟩
theorem bad_nl {s x : List UInt8} (h : ¬ okX s) : ¬ okX (s ++ 10 :: x) := by
  rw [okX, skip_glue]
  exact (glue_raw x (skipL s)).2 h
theorem skip_bl : ∀ (b y : List UInt8), b.all blankB = true → skipL (b ++ y) = skipL y
  | [], y, _ => rfl
  | c :: b, y, h => by
    simp only [List.all_cons, Bool.and_eq_true] at h
    rw [List.cons_append, skipL_blank h.1, skip_bl b y h.2]
theorem dw_all {c y : List UInt8} (h : c.all noNl = true) : (c ++ 10 :: y).dropWhile noNl = 10 :: y ∧ c.dropWhile noNl = [] := by
  induction c with
  | nil => exact ⟨by rw [List.nil_append, List.dropWhile_cons, if_neg (by decide)], rfl⟩
  | cons a c ih =>
    simp only [List.all_cons, Bool.and_eq_true] at h
    have := ih h.2
    rw [List.cons_append, List.dropWhile_cons, if_pos h.1, List.dropWhile_cons, if_pos h.1]
    exact this
theorem skip_com {c : List UInt8} (h : c.all noNl = true) (y : List UInt8) : skipL (47 :: 47 :: c ++ 10 :: y) = skipL y ∧ skipL (47 :: 47 :: c) = [] := by
  refine ⟨?_, ?_⟩
  · show skipL (47 :: 47 :: (c ++ 10 :: y)) = _
    rw [skipL_comm, (dw_all h).1, skipL_blank (by decide)]
  · rw [skipL_comm, (dw_all (y := []) h).2, skipL_nil]
theorem kws_congr {a b : List UInt8} (h : skipL a = skipL b) : kws a = kws b ∧ (okX a ↔ okX b) := by
  rw [kws, kws, okX, okX, h]; exact ⟨rfl, Iff.rfl⟩
/-- blanks and comments ahead, and between two texts -/
def wrapT (b s c t : List UInt8) : List UInt8 := b ++ s ++ [10] ++ c ++ [10] ++ b ++ t ++ [10] ++ c
theorem wrap_law {b c s t : List UInt8} (hb : b.all blankB = true) (hc : c.all noNl = true) :
    (okX s → okX t → okX (wrapT b s (47 :: 47 :: c) t) ∧ kws (wrapT b s (47 :: 47 :: c) t) = kws s ++ kws t) ∧ ((¬ okX s ∨ ¬ okX t) → ¬ okX (wrapT b s (47 :: 47 :: c) t)) := by
  have e : wrapT b s (47 :: 47 :: c) t = b ++ (s ++ 10 :: (47 :: 47 :: c ++ 10 :: (b ++ (t ++ 10 :: (47 :: 47 :: c))))) := by simp [wrapT]
  have e1 : skipL (wrapT b s (47 :: 47 :: c) t) = skipL (s ++ 10 :: (47 :: 47 :: c ++ 10 :: (b ++ (t ++ 10 :: (47 :: 47 :: c))))) := by rw [e, skip_bl _ _ hb]
  have e2 : skipL (47 :: 47 :: c ++ 10 :: (b ++ (t ++ 10 :: (47 :: 47 :: c)))) = skipL (t ++ 10 :: (47 :: 47 :: c)) := by rw [(skip_com hc _).1, skip_bl _ _ hb]
  obtain ⟨k1, o1⟩ := kws_congr e1
  obtain ⟨k2, o2⟩ := kws_congr e2
  have e3 : kws (47 :: 47 :: c) = [] ∧ okX (47 :: 47 :: c) := by
    rw [kws, okX, (skip_com hc []).2, rawL_nil]; exact ⟨rfl, rfl⟩
  refine ⟨fun hs ht => ?_, fun h => ?_⟩
  · obtain ⟨a1, a2⟩ := kws_nl (x := 47 :: 47 :: c ++ 10 :: (b ++ (t ++ 10 :: (47 :: 47 :: c)))) hs
    obtain ⟨b1, b2⟩ := kws_nl (x := 47 :: 47 :: c) ht
    refine ⟨o1.2 (a2.2 (o2.2 (b2.2 e3.2))), ?_⟩
    rw [k1, a1, k2, b1, e3.1, List.append_nil]
  · rw [o1]
    by_cases hs : okX s
    · obtain ⟨_, a2⟩ := kws_nl (x := 47 :: 47 :: c ++ 10 :: (b ++ (t ++ 10 :: (47 :: 47 :: c)))) hs
      rw [a2, o2]
      rcases h with h | h
      · exact absurd hs h
      · exact bad_nl h
    · exact bad_nl hs

/-! ### short texts -/
theorem raw_len (s : List UInt8) : (rawL s).1.length ≤ s.length := by
  refine rawL_ind (Q := fun t => (rawL t).1.length ≤ t.length) ?_ ?_ ?_ s
  · rw [rawL_nil]; simp
  · intro t h1 h2; rw [rawL_none h1 h2]; simp
  · intro t k w r h1 h2
    rw [rawL_some h1]
    have a := oneT_len h1
    have b := skipL_len r
    simp only [List.length_cons]; omega
theorem raw_cnt (s : List UInt8) : (∀ x ∈ (rawL s).1, x.2.2 ≤ cnt s) ∧ (rawL s).1.Pairwise (fun a b => b.2.2 ≤ a.2.2) ∧ ∀ q, (rawL s).2 = some q → q ≤ cnt s := by
  refine rawL_ind (Q := fun s => (∀ x ∈ (rawL s).1, x.2.2 ≤ cnt s) ∧ (rawL s).1.Pairwise (fun a b => b.2.2 ≤ a.2.2) ∧ ∀ q, (rawL s).2 = some q → q ≤ cnt s) ?_ ?_ ?_ s
  · rw [rawL_nil]; exact ⟨fun x h => (by cases h), List.Pairwise.nil, fun q h => (by cases h)⟩
  · intro t h1 h2
    rw [rawL_none h1 h2]
    exact ⟨fun x h => (by cases h), List.Pairwise.nil, fun q h => (by cases h; exact Nat.le_refl _)⟩
  · intro t k w r h1 ih
    have hc := oneT_cnt h1
    have hk := cnt_suf (skipL_suf r)
    rw [rawL_some h1]
    obtain ⟨a, b, c⟩ := ih
    refine ⟨fun x hx => ?_, List.Pairwise.cons (fun x hx => by have := a x hx; show x.2.2 ≤ cnt t; omega) b, fun q hq => by have := c q hq; omega⟩
    rcases List.mem_cons.1 hx with rfl | hx
    · exact Nat.le_refl _
    · have := a x hx; omega
theorem lex_ok_of {s : List UInt8} (hs : s.length ≤ 20000) (h : okX s) : lexS s = ((rawL (skipL s)).1.map (tokL (cnt s)), 0, 0) :=
  lexS_end (by omega) rfl h (Nat.le_trans (raw_len _) (Nat.le_trans (skipL_len s) hs))
theorem lex_bad_of {s : List UInt8} (hs : s.length ≤ 20000) (h : ¬ okX s) : ∃ q, q ≤ cnt s ∧ lexS s = ([], ((1 + cnt s - q : Nat) : Int), 20) := by
  cases hq : (rawL (skipL s)).2 with
  | none => exact absurd hq h
  | some q => exact ⟨q, Nat.le_trans ((raw_cnt _).2.2 q hq) (cnt_suf (skipL_suf s)), lexS_bad (by omega) rfl hq (Nat.le_trans (raw_len _) (Nat.le_trans (skipL_len s) hs))⟩
theorem lex_kind (N : Nat) (l : List (Nat × List UInt8 × Nat)) : (l.map (tokL N)).map (fun t => (t.kind, t.s)) = (l.map kw).map (fun x => ((x.1 : Int), x.2)) := by
  rw [List.map_map, List.map_map]; rfl

/-! ### tokens' texts -/
def showK (l : List (Nat × List UInt8)) : List UInt8 := l.flatMap fun x => txt x.1 x.2 ++ [32]
def showT (l : List Tok) : List UInt8 := l.flatMap fun t => (if t.kind = 3 then quoteL t.s else t.s) ++ [32]
theorem showT_raw (N : Nat) (l : List (Nat × List UInt8 × Nat)) : showT (l.map (tokL N)) = showK (l.map kw) := by
  rw [showT, showK, List.flatMap_map, List.flatMap_map]
  refine congrFun (congrArg _ (funext fun x => ?_)) l
  show (if ((x.1 : Nat) : Int) = 3 then quoteL x.2.1 else x.2.1) ++ [32] = (if x.1 = 3 then quoteL x.2.1 else x.2.1) ++ [32]
  by_cases h : x.1 = 3
  · rw [if_pos h, if_pos (by omega)]
  · rw [if_neg h, if_neg (by omega)]
def isTok (x : Nat × List UInt8) : Prop := ∃ s r, oneT s = some (x.1, x.2, r)
theorem txt_head {x : Nat × List UInt8} (h : isTok x) : ∃ c r, txt x.1 x.2 = c :: r ∧ blankB c = false ∧ c.toNat ≠ 47 := by
  obtain ⟨s, r, h⟩ := h
  have hp := oneT_pos h
  obtain ⟨c, l, rfl, e, _, _, h3⟩ := oneT_cases h
  have hc : blankB c = false ∧ c.toNat ≠ 47 := by
    have lt : letterB c = true → blankB c = false ∧ c.toNat ≠ 47 := fun h => by
      simp [letterB] at h
      refine ⟨?_, by omega⟩
      simp [blankB]; omega
    have dg : digitB c = true → blankB c = false ∧ c.toNat ≠ 47 := fun h => by
      simp [digitB] at h
      refine ⟨?_, by omega⟩
      simp [blankB]; omega
    rcases h3 with ⟨h1, _⟩ | ⟨_, h1, _⟩ | ⟨rfl, _⟩ | ⟨rfl, _⟩ | ⟨_, _, _, _, _, h1, _⟩
    · exact lt h1
    · exact dg h1
    · decide
    · decide
    · unfold signN at h1
      by_cases h2 : twoS c l = true
      · rw [twoS_in, decide_eq_true_eq] at h2
        have : ∀ x ∈ twos, blankB (x.getD 0 0) = false ∧ (x.getD 0 0).toNat ≠ 47 := by decide
        have h4 := this _ h2
        cases l <;> exact h4
      · rw [if_neg h2] at h1
        by_cases hs : c ∈ signs
        · have : ∀ x ∈ signs, blankB x = false ∧ x.toNat ≠ 47 := by decide
          exact this _ hs
        · rw [if_neg hs] at h1; exact absurd rfl h1
  cases ht : txt x.1 x.2 with
  | nil => rw [ht] at hp; simp at hp
  | cons d y =>
    rw [ht, List.cons_append] at e
    obtain ⟨rfl, _⟩ := List.cons.inj e
    exact ⟨c, y, rfl, hc⟩
theorem skip_show {l : List (Nat × List UInt8)} (h : ∀ x ∈ l, isTok x) : skipL (showK l) = showK l := by
  cases l with
  | nil => exact skipL_nil
  | cons x l =>
    obtain ⟨c, r, e, h1, h2⟩ := txt_head (h x (.head _))
    show skipL (txt x.1 x.2 ++ [32] ++ showK l) = txt x.1 x.2 ++ [32] ++ showK l
    rw [e]
    exact skipL_stop h1 (fun h => h2 h.1)
theorem show_raw : ∀ {l : List (Nat × List UInt8)}, (∀ x ∈ l, isTok x) → (rawL (showK l)).1.map kw = l ∧ (rawL (showK l)).2 = none
  | [], _ => by
    show (rawL []).1.map kw = [] ∧ (rawL []).2 = none
    rw [rawL_nil]; exact ⟨rfl, rfl⟩
  | x :: l, h => by
    have ih := show_raw (l := l) fun y hy => h y (.tail _ hy)
    obtain ⟨s, r, hx⟩ := h x (.head _)
    have e := oneT_ext hx (showK l)
    have e2 : showK (x :: l) = txt x.1 x.2 ++ 32 :: showK l := by
      show txt x.1 x.2 ++ [32] ++ showK l = _
      simp
    rw [e2, rawL_some e, skipL_blank (by decide), skip_show fun y hy => h y (.tail _ hy)]
    exact ⟨by simp [kw, ih.1], ih.2⟩
theorem raw_isTok (s : List UInt8) : ∀ x ∈ (rawL s).1.map kw, isTok x := by
  refine rawL_ind (Q := fun s => ∀ x ∈ (rawL s).1.map kw, isTok x) ?_ ?_ ?_ s
  · rw [rawL_nil]; intro x h; cases h
  · intro t h1 h2; rw [rawL_none h1 h2]; intro x h; cases h
  · intro t k w r h1 ih
    rw [rawL_some h1]
    intro x hx
    rcases List.mem_cons.1 hx with rfl | hx
    · exact ⟨t, r, h1⟩
    · exact ih x hx
theorem show_len (s : List UInt8) : (showK ((rawL s).1.map kw)).length ≤ 2 * s.length := by
  refine rawL_ind (Q := fun s => (showK ((rawL s).1.map kw)).length ≤ 2 * s.length) ?_ ?_ ?_ s
  · rw [rawL_nil]; simp [showK]
  · intro t h1 h2; rw [rawL_none h1 h2]; simp [showK]
  · intro t k w r h1 ih
    have a := congrArg List.length (oneT_txt h1)
    have b := skipL_len r
    have c := oneT_pos h1
    rw [List.length_append] at a
    rw [rawL_some h1]
    show (txt k w ++ [32] ++ showK ((rawL (skipL r)).1.map kw)).length ≤ _
    simp only [List.length_append, List.length_cons, List.length_nil]
    omega
/-- what is shown of a text's tokens is read so again -/
theorem back_law {s : List UInt8} (hs : s.length ≤ 3000) (h : okX s) : okX (showT (lexS s).1) ∧ kws (showT (lexS s).1) = kws s ∧ (showT (lexS s).1).length ≤ 6000 := by
  rw [lex_ok_of (by omega) h]
  simp only []
  rw [showT_raw]
  have hi := raw_isTok (skipL s)
  have hr := show_raw hi
  have hl := show_len (skipL s)
  have hk := skipL_len s
  refine ⟨?_, ?_, by omega⟩
  · rw [okX, skip_show hi]; exact hr.2
  · rw [kws, skip_show hi]; exact hr.1
end Go.Proofs.YtgcoomicgdbmbaaGreatDoor
/-
  Tokens' texts, the program's and the book's. Own work.
-/
namespace Go.Proofs.YtgcoomicgdbmbaaGreatDoor
open Go.Aw Go.RowKit
set_option maxHeartbeats 4000000

theorem bldX_in {b : Nat} {u : Bool} {s : List UInt8} {bb cap : Nat} {rest : List AV} {R : List En} {e : En} : SLe (Bld b u s bb cap rest (e :: R)) (e :: Bld b u s bb cap rest R) := by
  cases s with
  | nil => exact fun _ _ _ h => h.perm (List.perm_middle (l₁ := [_, _])).symm
  | cons => exact fun _ _ _ h => h.perm (List.perm_middle (l₁ := [_, _, _, _])).symm
theorem bldX_out {b : Nat} {u : Bool} {s : List UInt8} {bb cap : Nat} {rest : List AV} {R : List En} {e : En} : SLe (e :: Bld b u s bb cap rest R) (Bld b u s bb cap rest (e :: R)) := by
  cases s with
  | nil => exact fun _ _ _ h => h.perm (List.perm_middle (l₁ := [_, _]))
  | cons => exact fun _ _ _ h => h.perm (List.perm_middle (l₁ := [_, _, _, _]))
def showO (t : Tok) : List UInt8 := (if t.kind = 3 then quoteL t.s else t.s) ++ [32]
theorem showT_take {l : List Tok} {t : Tok} {z : Nat} (h : z < l.length) (hx : t = l[z]) : showT (l.take (z + 1)) = showT (l.take z) ++ showO t := by
  rw [showT, showT, List.take_succ_eq_append_getElem h, List.flatMap_append, ← hx]; simp [showO]
theorem showT_at {l : List Tok} {z : Nat} (h : z < l.length) : (showT (l.take z)).length + (showO l[z]).length ≤ (showT l).length := by
  have e : showT l = showT (l.take (z + 1)) ++ showT (l.drop (z + 1)) := by
    have := List.take_append_drop (z + 1) l
    conv => lhs; rw [← this]
    rw [showT, List.flatMap_append]; rfl
  rw [e, List.length_append, showT_take h rfl, List.length_append]; omega
theorem quoteL_geX (s : List UInt8) : s.length ≤ (quoteL s).length := by
  have : ∀ l : List UInt8, l.length ≤ (l.flatMap oneL).length := fun l => by
    induction l with
    | nil => simp
    | cons c l ih => have := (oneL_len c).1; simp only [List.flatMap_cons, List.length_append, List.length_cons]; omega
  have := this s
  simp only [quoteL, List.length_append, List.length_cons]; omega
theorem showO_len (t : Tok) : t.s.length + 1 ≤ (showO t).length := by
  have := quoteL_geX t.s
  rw [showO, List.length_append]
  split <;> simp <;> omega
theorem showLex_ok (l : List Tok) (tk : Tk) (R : List En) (hl : (showT l).length ≤ 1000000) (hn : l.length ≤ 1000000) : ACall Tryz.prog 15 [.sl 3 (l.map encT) tk] R (fun r S => r = .str (showT l) ∧ S = R) := by
  refine ACall_body tab_ok Tryz.func15 rfl rfl rfl (by kernel_rfl) (Nat.le_of_ble_eq_true rfl) ?_
  repeat (first | refine go_ ?_ | intro _)
  rename_i b
  refine AW_for (α := Nat × Bool × Nat × Nat × List AV) (fun z => ⟨[(3, .ptr b 0), (7, .sl 3 (l.map encT) tk), (8, .int .i64 (l.length : Nat)), (9, .int .i64 (z.1 : Nat))], []⟩) (fun z => Bld b z.2.1 (showT (l.take z.1)) z.2.2.1 z.2.2.2.1 z.2.2.2.2 R) (fun z => l.length - z.1) (fun z => z.1 ≤ l.length ∧ (showT (l.take z.1)).length ≤ z.2.2.2.1 ∧ z.2.2.2.2.length = z.2.2.2.1 - (showT (l.take z.1)).length) ((0, false, 0, 0, [])) ?_ (weak_of ?_ rfl ?_) (fun z hz => ?_)
  · exact ⟨Nat.zero_le _, Nat.le_refl 0, rfl⟩
  · repeat (first | exact trivial | refine ⟨(AVle.eq (congrArg (AV.int .i64) (by simp))), ?_⟩ | refine ⟨AVle.refl _, ?_⟩ | refine ⟨AVle.tk, ?_⟩ | refine ⟨AVle.nil, ?_⟩ | refine ⟨AVle.nilFull, ?_⟩ | refine ⟨AVle.eq (congrArg (AV.int .i64) (by first | (simp; done) | (simp; omega) | (rw [wrap_i64 (by first | omega | (simp; omega))]; first | rfl | omega | (simp; done) | (simp; omega)))), ?_⟩)
  · exact SLe.rfl
  obtain ⟨z, u, bb, cap, rest⟩ := z
  obtain ⟨hz, h1, h2⟩ := hz
  replace hz : z ≤ l.length := hz
  replace h1 : (showT (l.take z)).length ≤ cap := h1
  replace h2 : rest.length = cap - (showT (l.take z)).length := h2
  show AW _ _ _ _ ⟨[(3, .ptr b 0), (7, .sl 3 (l.map encT) tk), (8, .int .i64 (l.length : Nat)), (9, .int .i64 (z : Nat))], []⟩ (Bld b u (showT (l.take z)) bb cap rest R) _
  repeat (first | refine go_ ?_ | intro _)
  refine AW_iff (z < l.length) rfl (by first | (simp; done) | (simp <;> omega) | decide) (fun h => ?_) (fun h => ?_)
  · have hlt := h
    obtain ⟨t, ht⟩ : ∃ t, t = l[z] := ⟨_, rfl⟩
    have hat := showT_at hlt
    have hg := get_encT hlt
    rw [← ht] at hat hg
    have hol := showO_len t
    have hsl : (showO t).length = (if t.kind = 3 then quoteL t.s else t.s).length + 1 := by simp [showO]
    repeat (first | refine go_ ?_ | intro _)
    refine at_get (z) (encT t) (by first | rfl | omega | (rw [wrap_i64 (by omega)]; omega)) (by exact hg) ?_
    repeat (first | refine go_ ?_ | intro _)
    rename_i b5
    refine AW_iff (t.kind = 3) rfl (by first | (simp; done) | (simp <;> omega) | decide) (fun h => ?_) (fun h => ?_)
    · have e' : showT (l.take z) ++ (quoteL t.s ++ [32]) = showT (l.take (z + 1)) := by rw [showT_take hlt ht, showO, if_pos h]
      rw [if_pos h] at hsl
      have hle : (quoteL t.s ++ [32]).length = (quoteL t.s).length + 1 := by simp
      repeat (first | refine go_ ?_ | intro _)
      refine Or.inl ⟨⟨_, Tryz.func22, rfl, rfl⟩, ACall.mono ?_ (quote_ok t.s _ (by omega))⟩
      rintro _ S1 ⟨rfl, hS1⟩
      subst S1
      repeat (first | refine go_ ?_ | intro _)
      refine cat_ ?_
      repeat (first | refine go_ ?_ | intro _)
      refine Or.inl ⟨⟨_, Tryz.func23, rfl, rfl⟩, ACall_dropX bldX_out (ACall.mono ?_ (writeString_ok b u (showT (l.take z)) bb cap rest (quoteL t.s ++ [32]) _ h1 h2 (by omega)))⟩
      rintro _ S1 ⟨rfl, bb', cap', rest', g1, g2, hS1⟩
      subst S1
      rw [e'] at g1 g2
      repeat (first | refine go_ ?_ | intro _)
      refine ⟨((z + 1, true, bb', cap', rest') : Nat × Bool × Nat × Nat × List AV), ?_, ?_, weak_of ?_ rfl ?_⟩
      · exact Nat.sub_lt_sub_left hlt (Nat.lt_succ_self z)
      · exact ⟨hlt, g1, g2⟩
      · repeat (first | exact trivial | refine ⟨AVle.refl _, ?_⟩ | refine ⟨AVle.tk, ?_⟩ | refine ⟨AVle.nil, ?_⟩ | refine ⟨AVle.nilFull, ?_⟩ | refine ⟨AVle.eq (congrArg (AV.int .i64) (by first | (simp; done) | (simp; omega) | (rw [wrap_i64 (by first | omega | (simp; omega))]; first | rfl | omega | (simp; done) | (simp; omega)))), ?_⟩)
      · rw [e']; exact SLe.trans bldX_in (SLe.tail SLe.rfl)
    · have e' : showT (l.take z) ++ (t.s ++ [32]) = showT (l.take (z + 1)) := by rw [showT_take hlt ht, showO, if_neg h]
      rw [if_neg h] at hsl
      have hle : (t.s ++ [32]).length = t.s.length + 1 := by simp
      repeat (first | refine go_ ?_ | intro _)
      refine cat_ ?_
      repeat (first | refine go_ ?_ | intro _)
      refine Or.inl ⟨⟨_, Tryz.func23, rfl, rfl⟩, ACall_dropX bldX_out (ACall.mono ?_ (writeString_ok b u (showT (l.take z)) bb cap rest (t.s ++ [32]) _ h1 h2 (by omega)))⟩
      rintro _ S1 ⟨rfl, bb', cap', rest', g1, g2, hS1⟩
      subst S1
      rw [e'] at g1 g2
      repeat (first | refine go_ ?_ | intro _)
      refine ⟨((z + 1, true, bb', cap', rest') : Nat × Bool × Nat × Nat × List AV), ?_, ?_, weak_of ?_ rfl ?_⟩
      · exact Nat.sub_lt_sub_left hlt (Nat.lt_succ_self z)
      · exact ⟨hlt, g1, g2⟩
      · repeat (first | exact trivial | refine ⟨AVle.refl _, ?_⟩ | refine ⟨AVle.tk, ?_⟩ | refine ⟨AVle.nil, ?_⟩ | refine ⟨AVle.nilFull, ?_⟩ | refine ⟨AVle.eq (congrArg (AV.int .i64) (by first | (simp; done) | (simp; omega) | (rw [wrap_i64 (by first | omega | (simp; omega))]; first | rfl | omega | (simp; done) | (simp; omega)))), ?_⟩)
      · rw [e']; exact SLe.trans bldX_in (SLe.tail SLe.rfl)
  have hz' : z = l.length := by omega
  rw [hz', List.take_length] at h1 h2 ⊢
  repeat (first | refine go_ ?_ | intro _)
  refine Or.inl ⟨⟨_, Tryz.func24, rfl, rfl⟩, ACall.mono ?_ (bldString_ok b u (showT l) bb cap rest _ (by omega))⟩
  rintro _ S1 ⟨rfl, hS1⟩
  subst S1
  repeat (first | refine go_ ?_ | intro _)
  refine AW_ret ?_
  repeat (first | refine ⟨0, rfl, ?_⟩ | refine ⟨1, rfl, ?_⟩ | refine ⟨2, rfl, ?_⟩ | refine ⟨3, rfl, ?_⟩ | refine ⟨4, rfl, ?_⟩ | refine ⟨5, rfl, ?_⟩ | refine ⟨6, rfl, ?_⟩)
  refine ⟨_, R, AVle.eq ?_, (by repeat (first | exact SLe.rfl | refine SLe.tail ?_)), rfl, rfl⟩
  rfl
theorem refShowLex_ok (l : List Tok) (tk : Tk) (R : List En) (hl : (showT l).length ≤ 1000000) (hn : l.length ≤ 1000000) : ACall Tryz.prog 16 [.sl 3 (l.map encT) tk] R (fun r S => r = .str (showT l) ∧ S = R) := by
  refine ACall_body tab_ok Tryz.func16 rfl rfl rfl (by kernel_rfl) (Nat.le_of_ble_eq_true rfl) ?_
  repeat (first | refine go_ ?_ | intro _)
  refine AW_for (α := Nat) (fun z => ⟨[(0, .sl 3 (l.map encT) tk), (3, .str (showT (l.take z))), (4, .int .i64 (z : Nat))], []⟩) (fun z => R) (fun z => l.length - z) (fun z => z ≤ l.length) (0) ?_ (weak_of ?_ rfl ?_) (fun z hz => ?_)
  · exact Nat.zero_le _
  · repeat (first | exact trivial | refine ⟨AVle.refl _, ?_⟩ | refine ⟨AVle.tk, ?_⟩ | refine ⟨AVle.nil, ?_⟩ | refine ⟨AVle.nilFull, ?_⟩ | refine ⟨AVle.eq (congrArg (AV.int .i64) (by first | (simp; done) | (simp; omega) | (rw [wrap_i64 (by first | omega | (simp; omega))]; first | rfl | omega | (simp; done) | (simp; omega)))), ?_⟩)
  · repeat (first | exact SLe.rfl | refine SLe.tail ?_ | refine SLe.full ?_)
  repeat (first | refine go_ ?_ | intro _)
  refine AW_iff (z < l.length) rfl (by rw [decide_eq_true_eq, List.length_map]; omega) (fun h => ?_) (fun h => ?_)
  · have hlt := h
    obtain ⟨t, ht⟩ : ∃ t, t = l[z] := ⟨_, rfl⟩
    have hat := showT_at hlt
    have hg := get_encT hlt
    rw [← ht] at hat hg
    have hol := showO_len t
    have hsl : (showO t).length = (if t.kind = 3 then quoteL t.s else t.s).length + 1 := by simp [showO]
    repeat (first | refine go_ ?_ | intro _)
    refine at_get (z) (encT t) (by first | rfl | omega | (rw [wrap_i64 (by omega)]; omega)) (by exact hg) ?_
    repeat (first | refine go_ ?_ | intro _)
    refine AW_iff (t.kind = 3) rfl (by first | (simp; done) | (simp <;> omega) | decide) (fun h => ?_) (fun h => ?_)
    · have e' : showT (l.take (z + 1)) = showT (l.take z) ++ quoteL t.s ++ [32] := by rw [showT_take hlt ht, showO, if_pos h]; simp
      rw [if_pos h] at hsl
      repeat (first | refine go_ ?_ | intro _)
      refine at_get (z) (encT t) (by first | rfl | omega | (rw [wrap_i64 (by omega)]; omega)) (by exact hg) ?_
      repeat (first | refine go_ ?_ | intro _)
      refine Or.inl ⟨⟨_, Tryz.func25, rfl, rfl⟩, ACall.mono ?_ (refQuote_ok t.s _ (by omega))⟩
      rintro _ S1 ⟨rfl, hS1⟩
      subst S1
      repeat (first | refine go_ ?_ | intro _)
      refine cat_ ?_
      repeat (first | refine go_ ?_ | intro _)
      refine cat_ ?_
      repeat (first | refine go_ ?_ | intro _)
      refine ⟨z + 1, ?_, ?_, weak_of ?_ rfl ?_⟩
      · omega
      · omega
      · repeat (first | exact trivial | refine ⟨(AVle.eq (congrArg AV.str e'.symm)), ?_⟩ | refine ⟨AVle.refl _, ?_⟩ | refine ⟨AVle.tk, ?_⟩ | refine ⟨AVle.nil, ?_⟩ | refine ⟨AVle.nilFull, ?_⟩ | refine ⟨AVle.eq (congrArg (AV.int .i64) (by first | (simp; done) | (simp; omega) | (rw [wrap_i64 (by first | omega | (simp; omega))]; first | rfl | omega | (simp; done) | (simp; omega)))), ?_⟩)
      · repeat (first | exact SLe.rfl | refine SLe.tail ?_ | refine SLe.full ?_)
    · have e' : showT (l.take (z + 1)) = showT (l.take z) ++ t.s ++ [32] := by rw [showT_take hlt ht, showO, if_neg h]; simp
      rw [if_neg h] at hsl
      repeat (first | refine go_ ?_ | intro _)
      refine at_get (z) (encT t) (by first | rfl | omega | (rw [wrap_i64 (by omega)]; omega)) (by exact hg) ?_
      repeat (first | refine go_ ?_ | intro _)
      refine cat_ ?_
      repeat (first | refine go_ ?_ | intro _)
      refine cat_ ?_
      repeat (first | refine go_ ?_ | intro _)
      refine ⟨z + 1, ?_, ?_, weak_of ?_ rfl ?_⟩
      · omega
      · omega
      · repeat (first | exact trivial | refine ⟨(AVle.eq (congrArg AV.str e'.symm)), ?_⟩ | refine ⟨AVle.refl _, ?_⟩ | refine ⟨AVle.tk, ?_⟩ | refine ⟨AVle.nil, ?_⟩ | refine ⟨AVle.nilFull, ?_⟩ | refine ⟨AVle.eq (congrArg (AV.int .i64) (by first | (simp; done) | (simp; omega) | (rw [wrap_i64 (by first | omega | (simp; omega))]; first | rfl | omega | (simp; done) | (simp; omega)))), ?_⟩)
      · repeat (first | exact SLe.rfl | refine SLe.tail ?_ | refine SLe.full ?_)
  · have hz' : z = l.length := by omega
    subst hz'
    repeat (first | refine go_ ?_ | intro _)
    refine AW_ret ?_
    repeat (first | refine ⟨0, rfl, ?_⟩ | refine ⟨1, rfl, ?_⟩ | refine ⟨2, rfl, ?_⟩ | refine ⟨3, rfl, ?_⟩ | refine ⟨4, rfl, ?_⟩ | refine ⟨5, rfl, ?_⟩ | refine ⟨6, rfl, ?_⟩)
    refine ⟨_, R, AVle.eq ?_, (by repeat (first | exact SLe.rfl | refine SLe.tail ?_)), rfl, rfl⟩
    rw [List.take_length]; rfl
end Go.Proofs.YtgcoomicgdbmbaaGreatDoor
/-
  Lines; what is shown, read again; tokens' texts: the laws' walks. Own work.
-/
namespace Go.Proofs.YtgcoomicgdbmbaaGreatDoor
open Go.Aw Go.RowKit
set_option maxHeartbeats 4000000

theorem opens_Tok (n : Nat) : Opens Tryz.prog n 34 encT (fun _ => 0) := opens_all (fun n => opens_map (opens_struct Tryz.underlying34 (by kernel_rfl) (opensF_cons (c := 1) rfl (by kernel_rfl) (opens_int (k := .i64) Tryz.underlying3 n) (opensF_cons (c := 1) rfl (by kernel_rfl) (opens_str Tryz.underlying9 n) (opensF_cons (c := 1) rfl (by kernel_rfl) (opens_int (k := .i64) Tryz.underlying3 n) opensF_nil)))) (fun x => Tok.mk x.1 x.2.1 x.2.2.1) (fun x => rfl) (fun x => Nat.zero_le _)) n
theorem opens_Toks (n : Nat) : Opens Tryz.prog n 24 (fun l : List Tok => .sl 3 (l.map encT) .no) (fun _ => 0) := opens_all (fun n => opens_map (opens_slice (c := 3) Tryz.underlying24 (by kernel_rfl) (by decide) (opens_Tok n)) id (fun l => rfl) (fun l => Nat.zero_le _)) n
theorem cnt_take {s : List UInt8} {z : Nat} (h : z < s.length) : cnt (s.take (z + 1)) = cnt (s.take z) + if s[z].toNat = 10 then 1 else 0 := by
  rw [List.take_succ_eq_append_getElem h, cnt_app, cnt_cons]; simp [cnt]
theorem lines_of {s : List UInt8} (hs : s.length ≤ 20000) (h : okX s) : (∀ x ∈ (lexS s).1, 1 ≤ x.line ∧ x.line ≤ 1 + (cnt s : Int)) ∧ (lexS s).1.Pairwise (fun a b => a.line ≤ b.line) := by
  obtain ⟨h1, h2, _⟩ := raw_cnt (skipL s)
  have hk := cnt_suf (skipL_suf s)
  rw [lex_ok_of hs h]
  refine ⟨fun x hx => ?_, ?_⟩
  · obtain ⟨y, hy, rfl⟩ := List.mem_map.1 hx
    have := h1 y hy
    show 1 ≤ ((1 + cnt s - y.2.2 : Nat) : Int) ∧ ((1 + cnt s - y.2.2 : Nat) : Int) ≤ _
    omega
  · rw [List.pairwise_map]
    refine h2.imp fun {a b} hab => ?_
    show ((1 + cnt s - a.2.2 : Nat) : Int) ≤ ((1 + cnt s - b.2.2 : Nat) : Int)
    omega
theorem dlexLines_ok (s : List UInt8) (R : List En) (hG : LexG R) : ACall Tryz.prog 6 [.str s] R (fun r S => r = .bool true ∧ S = R) := by
  obtain ⟨t, ht⟩ : ∃ t, t = s.take 3000 := ⟨_, rfl⟩
  have htl : t.length ≤ 3000 := ht ▸ take_le s 3000
  have hcl := cnt_len t
  have kc := cut_ok s
  rw [← ht] at kc
  have k1 := lex_ok t R hG.1 hG.2.1 hG.2.2 (by omega)
  have hll := lexS_len t
  obtain ⟨l, hl⟩ : ∃ l, l = (lexS t).1 := ⟨_, rfl⟩
  rw [← hl] at hll
  refine ACall_body tab_ok Tryz.func6 rfl rfl rfl (by kernel_rfl) (Nat.le_of_ble_eq_true rfl) ?_
  repeat (first | refine go_ ?_ | intro _)
  refine Or.inl ⟨⟨_, Tryz.func9, rfl, rfl⟩, ACall.mono ?_ (shown_ok R hG)⟩
  rintro _ S1 ⟨rfl, hS1⟩
  subst S1
  repeat (first | refine go_ ?_ | intro _)
  refine Or.inl ⟨⟨_, Tryz.func10, rfl, rfl⟩, ACall.mono ?_ (kc _)⟩
  rintro _ S1 ⟨rfl, hS1⟩
  subst S1
  repeat (first | refine go_ ?_ | intro _)
  refine Or.inl ⟨⟨_, Tryz.func11, rfl, rfl⟩, ACall.mono ?_ (k1)⟩
  rintro _ S1 ⟨rfl, hS1⟩
  subst S1
  repeat (first | refine det_step rfl ?_ | refine ⟨rfl, ?_⟩ | refine ⟨⟨_, rfl⟩, ?_⟩ | refine ⟨⟨_, rfl, rfl⟩, ?_⟩ | refine ⟨⟨rfl, rfl⟩, ?_⟩ | refine ⟨⟨Nat.le_of_ble_eq_true rfl, Nat.le_of_ble_eq_true rfl⟩, ?_⟩ | refine ⟨Nat.le_of_ble_eq_true rfl, ?_⟩ | refine ⟨_, _, rfl, ?_⟩ | refine ⟨0, _, rfl, ?_⟩ | refine ⟨1, _, rfl, ?_⟩ | refine ⟨2, _, rfl, ?_⟩ | refine ⟨3, _, rfl, ?_⟩ | refine ⟨4, _, rfl, ?_⟩ | refine ⟨5, _, rfl, ?_⟩ | refine ⟨_, rfl, ?_⟩ | intro _)
  refine AW_weak (weak_of (l := [(0, .str t), (3, .bool true), (4, .sl 3 (l.map encT) .no), (5, .int .i64 (lexS t).2.1), (6, .int .i64 (lexS t).2.2)]) (m := []) (S' := R) ?_ rfl ?_) ?_
  · repeat (first | exact trivial | refine ⟨(AVle.slEq (by rw [hl])), ?_⟩ | refine ⟨AVle.refl _, ?_⟩ | refine ⟨AVle.tk, ?_⟩ | refine ⟨AVle.nil, ?_⟩ | refine ⟨AVle.nilFull, ?_⟩ | refine ⟨AVle.eq (congrArg (AV.int .i64) (by first | (simp; done) | (simp; omega) | (rw [wrap_i64 (by first | omega | (simp; omega))]; first | rfl | omega | (simp; done) | (simp; omega)))), ?_⟩)
  · refine SW.le ?_
    repeat (first | exact SW.nil | refine SW.cons ?_ | refine SW.cells (by repeat (first | exact trivial | refine ⟨AVle.refl _, ?_⟩ | refine ⟨AVle.nilFull, ?_⟩ | refine ⟨AVle.tk, ?_⟩ | refine ⟨AVle.nil, ?_⟩)) rfl ?_ | refine SW.full ?_ | refine SW.drop ?_)
  repeat (first | refine go_ ?_ | intro _)
  refine AW_for (α := Nat) (fun z => ⟨[(0, .str t), (3, .bool true), (4, .sl 3 (l.map encT) .no), (5, .int .i64 (lexS t).2.1), (6, .int .i64 (lexS t).2.2), (7, .int .i64 ((1 + cnt (t.take z) : Nat) : Int)), (8, .int .i64 (z : Nat))], []⟩) (fun z => R) (fun z => t.length - z) (fun z => z ≤ t.length) (0) ?_ (weak_of ?_ rfl ?_) (fun z hz => ?_)
  · omega
  · repeat (first | exact trivial | refine ⟨AVle.refl _, ?_⟩ | refine ⟨AVle.tk, ?_⟩ | refine ⟨AVle.nil, ?_⟩ | refine ⟨AVle.nilFull, ?_⟩ | refine ⟨AVle.eq (congrArg (AV.int .i64) (by first | (simp; done) | (simp; omega) | (rw [wrap_i64 (by first | omega | (simp; omega))]; first | rfl | omega | (simp; done) | (simp; omega)))), ?_⟩)
  · repeat (first | exact SLe.rfl | refine SLe.tail ?_ | refine SLe.full ?_)
  repeat (first | refine go_ ?_ | intro _)
  refine AW_iff (z < t.length) rfl (by first | (simp; done) | (simp <;> omega) | decide) (fun h => ?_) (fun h => ?_)
  · have hlt := h
    have hct := cnt_take hlt
    have hcz := cnt_len (t.take z)
    rw [List.length_take] at hcz
    repeat (first | refine go_ ?_ | intro _)
    refine at_list z rfl hlt ?_
    repeat (first | refine go_ ?_ | intro _)
    refine AW_iff (t[z].toNat = 10) rfl (by first | (simp; done) | (simp <;> omega) | decide) (fun h => ?_) (fun h => ?_)
    · rw [if_pos h] at hct
      repeat (first | refine go_ ?_ | intro _)
      refine ⟨z + 1, ?_, ?_, weak_of ?_ rfl ?_⟩
      · omega
      · omega
      · repeat (first | exact trivial | refine ⟨(AVle.eq (congrArg (AV.int .i64) (show IntKind.i64.wrap (((1 + cnt (t.take z) : Nat) : Int) + 1) = ((1 + cnt (t.take (z + 1)) : Nat) : Int) by rw [wrap_i64 (by omega)]; omega))), ?_⟩ | refine ⟨AVle.refl _, ?_⟩ | refine ⟨AVle.tk, ?_⟩ | refine ⟨AVle.nil, ?_⟩ | refine ⟨AVle.nilFull, ?_⟩ | refine ⟨AVle.eq (congrArg (AV.int .i64) (by first | (simp; done) | (simp; omega) | (rw [wrap_i64 (by first | omega | (simp; omega))]; first | rfl | omega | (simp; done) | (simp; omega)))), ?_⟩)
      · repeat (first | exact SLe.rfl | refine SLe.tail ?_ | refine SLe.full ?_)
    · rw [if_neg h] at hct
      repeat (first | refine go_ ?_ | intro _)
      refine ⟨z + 1, ?_, ?_, weak_of ?_ rfl ?_⟩
      · omega
      · omega
      · repeat (first | exact trivial | refine ⟨(AVle.eq (congrArg (AV.int .i64) (show ((1 + cnt (t.take z) : Nat) : Int) = ((1 + cnt (t.take (z + 1)) : Nat) : Int) by omega))), ?_⟩ | refine ⟨AVle.refl _, ?_⟩ | refine ⟨AVle.tk, ?_⟩ | refine ⟨AVle.nil, ?_⟩ | refine ⟨AVle.nilFull, ?_⟩ | refine ⟨AVle.eq (congrArg (AV.int .i64) (by first | (simp; done) | (simp; omega) | (rw [wrap_i64 (by first | omega | (simp; omega))]; first | rfl | omega | (simp; done) | (simp; omega)))), ?_⟩)
      · repeat (first | exact SLe.rfl | refine SLe.tail ?_ | refine SLe.full ?_)
  obtain rfl : z = t.length := by omega
  rw [List.take_length]
  refine AW_weak (weak_of (l := [(3, .bool true), (4, .sl 3 (l.map encT) .no), (5, .int .i64 (lexS t).2.1), (6, .int .i64 (lexS t).2.2), (7, .int .i64 ((1 + cnt t : Nat) : Int))]) (m := []) (S' := R) ?_ rfl ?_) ?_
  · repeat (first | exact trivial | refine ⟨AVle.refl _, ?_⟩ | refine ⟨AVle.tk, ?_⟩ | refine ⟨AVle.nil, ?_⟩ | refine ⟨AVle.nilFull, ?_⟩ | refine ⟨AVle.eq (congrArg (AV.int .i64) (by first | (simp; done) | (simp; omega) | (rw [wrap_i64 (by first | omega | (simp; omega))]; first | rfl | omega | (simp; done) | (simp; omega)))), ?_⟩)
  · refine SW.le ?_
    repeat (first | exact SW.nil | refine SW.cons ?_ | refine SW.cells (by repeat (first | exact trivial | refine ⟨AVle.refl _, ?_⟩ | refine ⟨AVle.nilFull, ?_⟩ | refine ⟨AVle.tk, ?_⟩ | refine ⟨AVle.nil, ?_⟩)) rfl ?_ | refine SW.full ?_ | refine SW.drop ?_)
  repeat (first | refine go_ ?_ | intro _)
  by_cases hok : okX t
  rotate_left
  · obtain ⟨q, hq, e⟩ := lex_bad_of (by omega) hok
    rw [e]
    refine AW_true (b := true) rfl (by first | rfl | (simp; done) | (simp; omega) | decide) ?_
    repeat (first | refine ga_ ?_ | intro _)
    refine known_true (b := decide ((1 : Int) ≤ ((1 + cnt t - q : Nat) : Int))) (decide_eq_true (by omega)) ?_
    repeat (first | refine ga_ ?_ | intro _)
    refine AW_ret ?_
    repeat (first | refine ⟨0, rfl, ?_⟩ | refine ⟨1, rfl, ?_⟩ | refine ⟨2, rfl, ?_⟩ | refine ⟨3, rfl, ?_⟩ | refine ⟨4, rfl, ?_⟩ | refine ⟨5, rfl, ?_⟩ | refine ⟨6, rfl, ?_⟩)
    refine ⟨_, R, AVle.eq ?_, (by repeat (first | exact SLe.rfl | refine SLe.tail ?_)), rfl, rfl⟩
    exact congrArg AV.bool (show decide (((1 + cnt t - q : Nat) : Int) ≤ ((1 + cnt t : Nat) : Int)) = true from decide_eq_true (by omega))
  have e := lex_ok_of (s := t) (by omega) hok
  obtain ⟨hb, hp⟩ := lines_of (s := t) (by omega) hok
  rw [← hl] at hb hp
  have e1 : (lexS t).2.1 = 0 := by rw [e]
  have e2 : (lexS t).2.2 = 0 := by rw [e]
  rw [e1, e2]
  refine AW_false (b := false) rfl (by first | rfl | (simp; done) | (simp; omega) | decide) ?_
  repeat (first | refine go_ ?_ | intro _)
  refine AW_for (α := Nat) (fun z => ⟨[(3, .bool true), (4, .sl 3 (l.map encT) .no), (5, .int .i64 0), (7, .int .i64 ((1 + cnt t : Nat) : Int)), (9, .int .i64 (z : Nat))], []⟩) (fun z => R) (fun z => l.length - z) (fun z => z ≤ l.length) (0) ?_ (weak_of ?_ rfl ?_) (fun z hz => ?_)
  · exact Nat.zero_le _
  · repeat (first | exact trivial | refine ⟨AVle.refl _, ?_⟩ | refine ⟨AVle.tk, ?_⟩ | refine ⟨AVle.nil, ?_⟩ | refine ⟨AVle.nilFull, ?_⟩ | refine ⟨AVle.eq (congrArg (AV.int .i64) (by first | (simp; done) | (simp; omega) | (rw [wrap_i64 (by first | omega | (simp; omega))]; first | rfl | omega | (simp; done) | (simp; omega)))), ?_⟩)
  · repeat (first | exact SLe.rfl | refine SLe.tail ?_ | refine SLe.full ?_)
  repeat (first | refine go_ ?_ | intro _)
  refine AW_iff (z < l.length) rfl (by rw [decide_eq_true_eq, List.length_map]; omega) (fun h => ?_) (fun h => ?_)
  · have hlt := h
    obtain ⟨x, hx⟩ : ∃ x, x = l[z] := ⟨_, rfl⟩
    have hg := get_encT hlt
    rw [← hx] at hg
    obtain ⟨b1, b2⟩ := hb x (hx ▸ List.getElem_mem hlt)
    repeat (first | refine go_ ?_ | intro _)
    refine AW_draw tab_ok mixed 33 (by first | rfl | kernel_rfl) ?_
    repeat (first | refine go_ ?_ | intro _)
    refine at_get (z) (encT x) (by first | rfl | omega | (rw [wrap_i64 (by omega)]; omega)) (by exact hg) ?_
    repeat (first | refine go_ ?_ | intro _)
    refine known_false (b := decide (x.line < 1)) (decide_eq_false (by omega)) ?_
    repeat (first | refine ga_ ?_ | intro _)
    refine at_get (z) (encT x) (by first | rfl | omega | (rw [wrap_i64 (by omega)]; omega)) (by exact hg) ?_
    repeat (first | refine ga_ ?_ | intro _)
    refine known_false (b := decide (((1 + cnt t : Nat) : Int) < x.line)) (decide_eq_false (by omega)) ?_
    repeat (first | refine ga_ ?_ | intro _)
    refine gsplit (0 < z) (by first | (simp; done) | (simp <;> omega) | decide) (fun h => ?_) (fun h => ?_)
    · obtain ⟨y, rfl⟩ : ∃ y, z = y + 1 := ⟨z - 1, by omega⟩
      have hg2 := get_encT (l := l) (z := y) (by omega)
      have hm := (List.pairwise_iff_getElem.1 hp) y (y + 1) (by omega) hlt (by omega)
      rw [← hx] at hm
      obtain ⟨x', hx'⟩ : ∃ x', x' = l[y]'(by omega) := ⟨_, rfl⟩
      rw [← hx'] at hm hg2
      repeat (first | refine ga_ ?_ | intro _)
      refine at_get (y + 1) (encT x) (by first | rfl | omega | (rw [wrap_i64 (by omega)]; omega)) (by exact hg) ?_
      repeat (first | refine ga_ ?_ | intro _)
      refine at_get (y) (encT x') (by first | rfl | omega | (rw [wrap_i64 (by omega)]; omega)) (by exact hg2) ?_
      repeat (first | refine ga_ ?_ | intro _)
      refine AW_false (b := decide (x.line < x'.line)) rfl (by exact decide_eq_false (by omega)) ?_
      repeat (first | refine ga_ ?_ | intro _)
      refine ⟨y + 1 + 1, ?_, ?_, weak_of ?_ rfl ?_⟩
      · omega
      · omega
      · repeat (first | exact trivial | refine ⟨AVle.refl _, ?_⟩ | refine ⟨AVle.tk, ?_⟩ | refine ⟨AVle.nil, ?_⟩ | refine ⟨AVle.nilFull, ?_⟩ | refine ⟨AVle.eq (congrArg (AV.int .i64) (by first | (simp; done) | (simp; omega) | (rw [wrap_i64 (by first | omega | (simp; omega))]; first | rfl | omega | (simp; done) | (simp; omega)))), ?_⟩)
      · repeat (first | exact SLe.rfl | refine SLe.tail ?_ | refine SLe.full ?_)
    · repeat (first | refine ga_ ?_ | intro _)
      refine ⟨z + 1, ?_, ?_, weak_of ?_ rfl ?_⟩
      · omega
      · omega
      · repeat (first | exact trivial | refine ⟨AVle.refl _, ?_⟩ | refine ⟨AVle.tk, ?_⟩ | refine ⟨AVle.nil, ?_⟩ | refine ⟨AVle.nilFull, ?_⟩ | refine ⟨AVle.eq (congrArg (AV.int .i64) (by first | (simp; done) | (simp; omega) | (rw [wrap_i64 (by first | omega | (simp; omega))]; first | rfl | omega | (simp; done) | (simp; omega)))), ?_⟩)
      · repeat (first | exact SLe.rfl | refine SLe.tail ?_ | refine SLe.full ?_)
  · repeat (first | refine ga_ ?_ | intro _)
    refine AW_ret ?_
    repeat (first | refine ⟨0, rfl, ?_⟩ | refine ⟨1, rfl, ?_⟩ | refine ⟨2, rfl, ?_⟩ | refine ⟨3, rfl, ?_⟩ | refine ⟨4, rfl, ?_⟩ | refine ⟨5, rfl, ?_⟩ | refine ⟨6, rfl, ?_⟩)
    refine ⟨_, R, AVle.eq ?_, (by repeat (first | exact SLe.rfl | refine SLe.tail ?_)), rfl, rfl⟩
    rfl
theorem same_kws {a b : List Tok} (h : a.map (fun t => (t.kind, t.s)) = b.map (fun t => (t.kind, t.s))) : a.length = b.length ∧ ∀ (i : Nat) (h1 : i < a.length) (h2 : i < b.length), a[i].kind = b[i].kind ∧ a[i].s = b[i].s := by
  have hl : a.length = b.length := by have := congrArg List.length h; simpa using this
  refine ⟨hl, fun i h1 h2 => ?_⟩
  have := congrArg (·[i]?) h
  simp only [List.getElem?_map, List.getElem?_eq_getElem h1, List.getElem?_eq_getElem h2, Option.map_some, Option.some.injEq, Prod.mk.injEq] at this
  exact this
theorem dlexBack_ok (s : List UInt8) (R : List En) (hG : LexG R) : ACall Tryz.prog 8 [.str s] R (fun r S => r = .bool true ∧ S = R) := by
  obtain ⟨t, ht⟩ : ∃ t, t = s.take 3000 := ⟨_, rfl⟩
  have htl : t.length ≤ 3000 := ht ▸ take_le s 3000
  have kc := cut_ok s
  rw [← ht] at kc
  have k1 := lex_ok t R hG.1 hG.2.1 hG.2.2 (by omega)
  have hll := lexS_len t
  by_cases hok : okX t
  rotate_left
  · obtain ⟨q, hq, e⟩ := lex_bad_of (by omega) hok
    rw [e] at k1
    refine ACall_body tab_ok Tryz.func8 rfl rfl rfl (by kernel_rfl) (Nat.le_of_ble_eq_true rfl) ?_
    repeat (first | refine go_ ?_ | intro _)
    refine Or.inl ⟨⟨_, Tryz.func9, rfl, rfl⟩, ACall.mono ?_ (shown_ok R hG)⟩
    rintro _ S1 ⟨rfl, hS1⟩
    subst S1
    repeat (first | refine go_ ?_ | intro _)
    refine Or.inl ⟨⟨_, Tryz.func10, rfl, rfl⟩, ACall.mono ?_ (kc _)⟩
    rintro _ S1 ⟨rfl, hS1⟩
    subst S1
    repeat (first | refine go_ ?_ | intro _)
    refine Or.inl ⟨⟨_, Tryz.func11, rfl, rfl⟩, ACall.mono ?_ (k1)⟩
    rintro _ S1 ⟨rfl, hS1⟩
    subst S1
    repeat (first | refine go_ ?_ | intro _)
    refine AW_true (b := true) rfl (by first | rfl | (simp; done) | (simp; omega) | decide) ?_
    repeat (first | refine ga_ ?_ | intro _)
    refine AW_ret ?_
    repeat (first | refine ⟨0, rfl, ?_⟩ | refine ⟨1, rfl, ?_⟩ | refine ⟨2, rfl, ?_⟩ | refine ⟨3, rfl, ?_⟩ | refine ⟨4, rfl, ?_⟩ | refine ⟨5, rfl, ?_⟩ | refine ⟨6, rfl, ?_⟩)
    refine ⟨_, R, AVle.eq ?_, (by repeat (first | exact SLe.rfl | refine SLe.tail ?_)), rfl, rfl⟩
    rfl
  obtain ⟨b1, b2, b3⟩ := back_law htl hok
  have e := lex_ok_of (s := t) (by omega) hok
  obtain ⟨l, hl⟩ : ∃ l, l = (lexS t).1 := ⟨_, rfl⟩
  have e3 : lexS t = (l, 0, 0) := by rw [hl, e]
  rw [← hl] at b1 b2 b3 hll
  rw [e3] at k1
  obtain ⟨u, hu⟩ : ∃ u, u = showT l := ⟨_, rfl⟩
  have k2 := showLex_ok l .no R (by omega) (by omega)
  rw [← hu] at b1 b2 b3 k2
  have k3 := lex_ok u R hG.1 hG.2.1 hG.2.2 (by omega)
  have e4 := lex_ok_of (s := u) (by omega) b1
  obtain ⟨m, hm⟩ : ∃ m, m = (lexS u).1 := ⟨_, rfl⟩
  have e5 : lexS u = (m, 0, 0) := by rw [hm, e4]
  rw [e5] at k3
  have hk : l.map (fun t => (t.kind, t.s)) = m.map (fun t => (t.kind, t.s)) := by
    rw [hl, hm, e, e4]
    show ((rawL (skipL t)).1.map (tokL (cnt t))).map _ = ((rawL (skipL u)).1.map (tokL (cnt u))).map _
    rw [lex_kind, lex_kind]
    exact congrArg _ b2.symm
  obtain ⟨c1, c2⟩ := same_kws hk
  have k4 := alike_ok l m c1 c2 R (by omega) .no .no
  refine ACall_body tab_ok Tryz.func8 rfl rfl rfl (by kernel_rfl) (Nat.le_of_ble_eq_true rfl) ?_
  repeat (first | refine go_ ?_ | intro _)
  refine Or.inl ⟨⟨_, Tryz.func9, rfl, rfl⟩, ACall.mono ?_ (shown_ok R hG)⟩
  rintro _ S1 ⟨rfl, hS1⟩
  subst S1
  repeat (first | refine go_ ?_ | intro _)
  refine Or.inl ⟨⟨_, Tryz.func10, rfl, rfl⟩, ACall.mono ?_ (kc _)⟩
  rintro _ S1 ⟨rfl, hS1⟩
  subst S1
  repeat (first | refine go_ ?_ | intro _)
  refine Or.inl ⟨⟨_, Tryz.func11, rfl, rfl⟩, ACall.mono ?_ (k1)⟩
  rintro _ S1 ⟨rfl, hS1⟩
  subst S1
  repeat (first | refine det_step rfl ?_ | refine ⟨rfl, ?_⟩ | refine ⟨⟨_, rfl⟩, ?_⟩ | refine ⟨⟨_, rfl, rfl⟩, ?_⟩ | refine ⟨⟨rfl, rfl⟩, ?_⟩ | refine ⟨⟨Nat.le_of_ble_eq_true rfl, Nat.le_of_ble_eq_true rfl⟩, ?_⟩ | refine ⟨Nat.le_of_ble_eq_true rfl, ?_⟩ | refine ⟨_, _, rfl, ?_⟩ | refine ⟨0, _, rfl, ?_⟩ | refine ⟨1, _, rfl, ?_⟩ | refine ⟨2, _, rfl, ?_⟩ | refine ⟨3, _, rfl, ?_⟩ | refine ⟨4, _, rfl, ?_⟩ | refine ⟨5, _, rfl, ?_⟩ | refine ⟨_, rfl, ?_⟩ | intro _)
  refine AW_weak (weak_of (l := [(3, .bool true), (4, .sl 3 (l.map encT) .no), (6, .int .i64 0)]) (m := []) (S' := R) ?_ rfl ?_) ?_
  · repeat (first | exact trivial | refine ⟨AVle.refl _, ?_⟩ | refine ⟨AVle.tk, ?_⟩ | refine ⟨AVle.nil, ?_⟩ | refine ⟨AVle.nilFull, ?_⟩ | refine ⟨AVle.eq (congrArg (AV.int .i64) (by first | (simp; done) | (simp; omega) | (rw [wrap_i64 (by first | omega | (simp; omega))]; first | rfl | omega | (simp; done) | (simp; omega)))), ?_⟩)
  · refine SW.le ?_
    repeat (first | exact SW.nil | refine SW.cons ?_ | refine SW.cells (by repeat (first | exact trivial | refine ⟨AVle.refl _, ?_⟩ | refine ⟨AVle.nilFull, ?_⟩ | refine ⟨AVle.tk, ?_⟩ | refine ⟨AVle.nil, ?_⟩)) rfl ?_ | refine SW.full ?_ | refine SW.drop ?_)
  repeat (first | refine go_ ?_ | intro _)
  refine AW_false (b := false) rfl (by first | rfl | (simp; done) | (simp; omega) | decide) ?_
  repeat (first | refine go_ ?_ | intro _)
  refine Or.inl ⟨⟨_, Tryz.func15, rfl, rfl⟩, ACall.mono ?_ (k2)⟩
  rintro _ S1 ⟨rfl, hS1⟩
  subst S1
  repeat (first | refine go_ ?_ | intro _)
  refine Or.inl ⟨⟨_, Tryz.func11, rfl, rfl⟩, ACall.mono ?_ (k3)⟩
  rintro _ S1 ⟨rfl, hS1⟩
  subst S1
  repeat (first | refine ga_ ?_ | intro _)
  refine Or.inl ⟨⟨_, Tryz.func14, rfl, rfl⟩, ACall.mono ?_ (k4)⟩
  rintro _ S1 ⟨rfl, hS1⟩
  subst S1
  repeat (first | refine ga_ ?_ | intro _)
  refine AW_ret ?_
  repeat (first | refine ⟨0, rfl, ?_⟩ | refine ⟨1, rfl, ?_⟩ | refine ⟨2, rfl, ?_⟩ | refine ⟨3, rfl, ?_⟩ | refine ⟨4, rfl, ?_⟩ | refine ⟨5, rfl, ?_⟩ | refine ⟨6, rfl, ?_⟩)
  refine ⟨_, R, AVle.eq ?_, (by repeat (first | exact SLe.rfl | refine SLe.tail ?_)), rfl, rfl⟩
  rfl
theorem dlexShows_ok (l : List Tok) (R : List En) (hG : LexG R) : ACall Tryz.prog 7 [.sl 3 (l.map encT) .no] R (fun r S => r = .bool true ∧ S = R) := by
  obtain ⟨m, hm⟩ : ∃ m, m = l.take 200 := ⟨_, rfl⟩
  have hml : m.length ≤ 200 := by rw [hm, List.length_take]; omega
  have hmm : ((l.map encT).take (min l.length 200)).drop 0 = m.map encT := by
    rw [List.drop_zero, hm, List.map_take, List.take_eq_take_iff, List.length_map]; omega
  refine ACall_body tab_ok Tryz.func7 rfl rfl rfl (by kernel_rfl) (Nat.le_of_ble_eq_true rfl) ?_
  repeat (first | refine go_ ?_ | intro _)
  refine Or.inl ⟨⟨_, Tryz.func9, rfl, rfl⟩, ACall.mono ?_ (shown_ok R hG)⟩
  rintro _ S1 ⟨rfl, hS1⟩
  subst S1
  repeat (first | refine go_ ?_ | intro _)
  refine ⟨.inl rfl, (by simp), at_slice 0 (min l.length 200) rfl (by show min (((l.map encT).length : Nat) : Int) 200 = _; rw [List.length_map]; omega) (by omega) (by first | omega | (simp; done) | (simp; omega)) (by simp) (m.map encT) hmm ?_⟩
  repeat (first | refine det_step rfl ?_ | refine ⟨rfl, ?_⟩ | refine ⟨⟨_, rfl⟩, ?_⟩ | refine ⟨⟨_, rfl, rfl⟩, ?_⟩ | refine ⟨⟨rfl, rfl⟩, ?_⟩ | refine ⟨⟨Nat.le_of_ble_eq_true rfl, Nat.le_of_ble_eq_true rfl⟩, ?_⟩ | refine ⟨Nat.le_of_ble_eq_true rfl, ?_⟩ | refine ⟨_, _, rfl, ?_⟩ | refine ⟨0, _, rfl, ?_⟩ | refine ⟨1, _, rfl, ?_⟩ | refine ⟨2, _, rfl, ?_⟩ | refine ⟨3, _, rfl, ?_⟩ | refine ⟨4, _, rfl, ?_⟩ | refine ⟨5, _, rfl, ?_⟩ | refine ⟨_, rfl, ?_⟩ | intro _)
  refine AW_weak (weak_of (l := [(0, .sl 3 (m.map encT) .no), (3, .bool true)]) (m := []) (S' := R) ?_ rfl ?_) ?_
  · repeat (first | exact trivial | refine ⟨AVle.refl _, ?_⟩ | refine ⟨AVle.tk, ?_⟩ | refine ⟨AVle.nil, ?_⟩ | refine ⟨AVle.nilFull, ?_⟩ | refine ⟨AVle.eq (congrArg (AV.int .i64) (by first | (simp; done) | (simp; omega) | (rw [wrap_i64 (by first | omega | (simp; omega))]; first | rfl | omega | (simp; done) | (simp; omega)))), ?_⟩)
  · refine SW.le ?_
    repeat (first | exact SW.nil | refine SW.cons ?_ | refine SW.cells (by repeat (first | exact trivial | refine ⟨AVle.refl _, ?_⟩ | refine ⟨AVle.nilFull, ?_⟩ | refine ⟨AVle.tk, ?_⟩ | refine ⟨AVle.nil, ?_⟩)) rfl ?_ | refine SW.full ?_ | refine SW.drop ?_)
  repeat (first | refine go_ ?_ | intro _)
  refine AW_for (α := Nat) (fun z => ⟨[(0, .sl 3 (m.map encT) .no), (3, .bool true), (4, .int .i64 (z : Nat))], []⟩) (fun z => R) (fun z => m.length - z) (fun z => z ≤ m.length ∧ ∀ (i : Nat) (h : i < m.length), i < z → m[i].s.length ≤ 200) (0) ?_ (weak_of ?_ rfl ?_) (fun z hz => ?_)
  · exact ⟨Nat.zero_le _, fun i _ h => absurd h (Nat.not_lt_zero i)⟩
  · repeat (first | exact trivial | refine ⟨AVle.refl _, ?_⟩ | refine ⟨AVle.tk, ?_⟩ | refine ⟨AVle.nil, ?_⟩ | refine ⟨AVle.nilFull, ?_⟩ | refine ⟨AVle.eq (congrArg (AV.int .i64) (by first | (simp; done) | (simp; omega) | (rw [wrap_i64 (by first | omega | (simp; omega))]; first | rfl | omega | (simp; done) | (simp; omega)))), ?_⟩)
  · repeat (first | exact SLe.rfl | refine SLe.tail ?_ | refine SLe.full ?_)
  obtain ⟨i1, i2⟩ := hz
  repeat (first | refine go_ ?_ | intro _)
  refine AW_iff (z < m.length) rfl (by rw [decide_eq_true_eq, List.length_map]; omega) (fun h => ?_) (fun h => ?_)
  · have hlt := h
    obtain ⟨x, hx⟩ : ∃ x, x = m[z] := ⟨_, rfl⟩
    have hg := get_encT hlt
    rw [← hx] at hg
    repeat (first | refine go_ ?_ | intro _)
    refine at_get (z) (encT x) (by first | rfl | omega | (rw [wrap_i64 (by omega)]; omega)) (by exact hg) ?_
    repeat (first | refine go_ ?_ | intro _)
    refine AW_iff (200 < x.s.length) rfl (by first | (simp; done) | (simp <;> omega) | decide) (fun h => ?_) (fun h => ?_)
    · repeat (first | refine go_ ?_ | intro _)
      refine AW_ret ?_
      repeat (first | refine ⟨0, rfl, ?_⟩ | refine ⟨1, rfl, ?_⟩ | refine ⟨2, rfl, ?_⟩ | refine ⟨3, rfl, ?_⟩ | refine ⟨4, rfl, ?_⟩ | refine ⟨5, rfl, ?_⟩ | refine ⟨6, rfl, ?_⟩)
      refine ⟨_, R, AVle.eq ?_, (by repeat (first | exact SLe.rfl | refine SLe.tail ?_)), rfl, rfl⟩
      rfl
    · have hs := h
      repeat (first | refine go_ ?_ | intro _)
      refine ⟨z + 1, ?_, ?_, weak_of ?_ rfl ?_⟩
      · omega
      · refine ⟨hlt, fun i hi hiz => ?_⟩
        by_cases hc : i < z
        · exact i2 i hi hc
        · obtain rfl : i = z := by omega
          rw [← hx]; omega
      · repeat (first | exact trivial | refine ⟨AVle.refl _, ?_⟩ | refine ⟨AVle.tk, ?_⟩ | refine ⟨AVle.nil, ?_⟩ | refine ⟨AVle.nilFull, ?_⟩ | refine ⟨AVle.eq (congrArg (AV.int .i64) (by first | (simp; done) | (simp; omega) | (rw [wrap_i64 (by first | omega | (simp; omega))]; first | rfl | omega | (simp; done) | (simp; omega)))), ?_⟩)
      · repeat (first | exact SLe.rfl | refine SLe.tail ?_ | refine SLe.full ?_)
  · have hall : ∀ t ∈ m, t.s.length ≤ 200 := fun t ht => by
      obtain ⟨i, hi, rfl⟩ := List.mem_iff_getElem.1 ht
      exact i2 i hi (by omega)
    have hsl : ∀ k : List Tok, (∀ t ∈ k, t.s.length ≤ 200) → (showT k).length ≤ 803 * k.length := fun k hk => by
      induction k with
      | nil => simp [showT]
      | cons a k ih =>
        have h1 := ih fun t ht => hk t (.tail _ ht)
        have h2 := hk a (.head _)
        have h3 := (quoteL_len a.s).2
        show (showO a ++ showT k).length ≤ _
        have h4 : (showO a).length ≤ 803 := by
          rw [showO, List.length_append]
          split <;> simp <;> omega
        rw [List.length_append, List.length_cons]; omega
    have hs := hsl m hall
    have k1 := showLex_ok m .no R (by omega) (by omega)
    have k2 := refShowLex_ok m .no R (by omega) (by omega)
    repeat (first | refine ga_ ?_ | intro _)
    refine Or.inl ⟨⟨_, Tryz.func15, rfl, rfl⟩, ACall.mono ?_ (k1)⟩
    rintro _ S1 ⟨rfl, hS1⟩
    subst S1
    repeat (first | refine ga_ ?_ | intro _)
    refine Or.inl ⟨⟨_, Tryz.func16, rfl, rfl⟩, ACall.mono ?_ (k2)⟩
    rintro _ S1 ⟨rfl, hS1⟩
    subst S1
    repeat (first | refine ga_ ?_ | intro _)
    refine AW_ret ?_
    repeat (first | refine ⟨0, rfl, ?_⟩ | refine ⟨1, rfl, ?_⟩ | refine ⟨2, rfl, ?_⟩ | refine ⟨3, rfl, ?_⟩ | refine ⟨4, rfl, ?_⟩ | refine ⟨5, rfl, ?_⟩ | refine ⟨6, rfl, ?_⟩)
    refine ⟨_, R, AVle.eq ?_, (by repeat (first | exact SLe.rfl | refine SLe.tail ?_)), rfl, rfl⟩
    exact congrArg AV.bool (decide_eq_true rfl)
end Go.Proofs.YtgcoomicgdbmbaaGreatDoor
