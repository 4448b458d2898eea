/-
  A line's relation and row, the book's. Own work.
-/
import Derived.Test.YtgkjbpnmeeibbaaGreatDoorQ10
import Derived.Test.YtgkjbpnmeeibbaaGreatDoorDrawA
set_option linter.all false
namespace Go.Proofs.YtgkjbpnmeeibbaaGreatDoor
open Go.Aw Go.RowKit Tree
set_option maxHeartbeats 4000000
set_option maxRecDepth 4000
open Rel (V encV encR)

end Go.Proofs.YtgkjbpnmeeibbaaGreatDoor
/-
  The lines of a stream: the generator. Own work.
-/
namespace Go.Proofs.YtgkjbpnmeeibbaaGreatDoor
open Go.Aw Go.RowKit Tree
set_option maxHeartbeats 4000000
set_option maxRecDepth 4000
open Rel (V encV encR)

def lastL : List (List UInt8) → List (List UInt8 × Bool)
  | [] => []
  | [l] => if l = [] then [] else [(l, false)]
  | l :: m :: r => (l, true) :: lastL (m :: r)
/-- the lines; false: one that no end follows -/
def linesL (s : List UInt8) : List (List UInt8 × Bool) := lastL (splitC 10 s)
theorem linesL_nil : linesL [] = [] := rfl
theorem linesL_no {s : List UInt8} (h : (10 : UInt8) ∉ s) (hs : s ≠ []) : linesL s = [(s, false)] := by rw [linesL, splitC_no h, lastL, if_neg hs]
theorem linesL_at {w r : List UInt8} (h : (10 : UInt8) ∉ w) : linesL (w ++ 10 :: r) = (w, true) :: linesL r := by
  rw [linesL, linesL, splitC_at r h]
  cases hs : splitC 10 r with
  | nil => exact absurd hs (splitC_ne 10 r)
  | cons m l => rfl
def lineAV (x : List UInt8 × Bool) : List AV := [.str x.1, .bool x.2]
theorem drop_headL {α : Type} {l r : List α} {x : α} {i : Nat} (h : l.drop i = x :: r) : l[i]? = some x ∧ l.drop (i + 1) = r ∧ i < l.length := by
  have hi : i < l.length := by
    by_cases hc : i < l.length
    · exact hc
    · rw [List.drop_eq_nil_of_le (by omega)] at h; cases h
  rw [← List.getElem_cons_drop hi] at h
  cases h
  exact ⟨List.getElem?_eq_getElem hi, rfl, hi⟩
theorem lines_gen (s : List UInt8) (p : Nat) (hs : s.length ≤ 16777216) : AGen Tryz.prog (.fn (.func 83) [] [.ptr p 0]) [.cells p [.str s]] ((linesL s).map lineAV) := by
  intro l J Z Sc hY h0
  refine ⟨⟨_, Tryz.func83, rfl, rfl⟩, ?_⟩
  show ACall Tryz.prog 83 [.fn (.yield l) [] [], .ptr p 0] (.cells p [.str s] :: Sc) _
  refine ACall_body tab_ok Tryz.func83 rfl rfl rfl (by kernel_rfl) (Nat.le_of_ble_eq_true rfl) ?_
  repeat (first | refine go_ ?_ | intro _)
  refine AW_for (α := Nat × List UInt8 × List En) (fun z => ⟨[(0, .fn (.yield l) [] []), (1, .ptr p 0)], []⟩) (fun z => .cells p [.str z.2.1] :: z.2.2) (fun z => z.2.1.length) (fun z => (linesL s).drop z.1 = linesL z.2.1 ∧ z.1 ≤ (linesL s).length ∧ J z.1 z.2.2 ∧ z.2.1.length ≤ s.length) ((0, s, Sc)) ?_ (weak_of ?_ rfl ?_) (fun z hz => ?_)
  · exact ⟨rfl, Nat.zero_le _, h0, Nat.le_refl _⟩
  · repeat (first | exact trivial | refine env_ ?_)
  · repeat (first | exact SLe.rfl | refine SLe.tail ?_ | refine SLe.full ?_)
  obtain ⟨i, t, Sc'⟩ := z
  obtain ⟨h1, h2, h3, h4⟩ : (linesL s).drop i = linesL t ∧ i ≤ (linesL s).length ∧ J i Sc' ∧ t.length ≤ s.length := hz
  show AW _ _ _ _ ⟨[(0, .fn (.yield l) [] []), (1, .ptr p 0)], []⟩ (.cells p [.str t] :: Sc') _
  repeat (first | refine go_ ?_ | intro _)
  by_cases ht : t = []
  · subst ht
    have hi : i = (linesL s).length := by
      have := congrArg List.length h1
      rw [linesL_nil] at this; simp at this; omega
    refine AW_false (b := !decide (([] : List UInt8) = [])) rfl (by rfl) ?_
    repeat (first | refine go_ ?_ | intro _)
    refine ⟨.tup [], Sc', AVle.refl _, fun w0 K w h => h.sub (List.sublist_append_right [_] Sc'), Sc', SLe.rfl, .inl ?_⟩
    rw [List.length_map, ← hi]; exact h3
  refine AW_true (b := !decide (t = [])) rfl (by rw [decide_eq_false ht]; rfl) ?_
  rcases byte_at 10 t with hc | ⟨w, r, hw, hc⟩
  · rw [linesL_no hc ht] at h1
    obtain ⟨g1, g2, g3⟩ := drop_headL h1
    have he : (linesL s).length = i + 1 := by
      have := congrArg List.length g2
      simp at this; omega
    have kc := fun R => strCut_ok t 10 R (by omega)
    rw [cutAV_no hc] at kc
    repeat (first | refine go_ ?_ | intro _)
    refine Or.inl ⟨⟨_, Tryz.func84, rfl, rfl⟩, ACall.mono ?_ (kc _)⟩
    rintro _ S1 ⟨rfl, hS1⟩
    subst S1
    repeat (first | refine go_ ?_ | intro _)
    refine AYield.mono ?_ (AYield_args (hY [.cells p [.str t]] i (lineAV (t, false)) Sc' (by rw [List.getElem?_map, g1]; rfl) h3) ⟨AVle.refl _, AVle.refl _, trivial⟩)
    rintro _ S1 ⟨w, Sc1, rfl, rfl, hj, hz⟩
    cases w with
    | false =>
      repeat (first | refine ga_ ?_ | intro _)
      refine AW_ret ?_
      refine ⟨.tup [], Sc1, AVle.refl _, fun w0 K w h => h.sub (List.sublist_append_right [_] Sc1), Sc1, SLe.rfl, .inr (hz rfl)⟩
    | true =>
      repeat (first | refine ga_ ?_ | intro _)
      refine ⟨((i + 1, [], Sc1) : Nat × List UInt8 × List En), ?_, ?_, weak_of ?_ rfl ?_⟩
      · show 0 < t.length; exact List.length_pos_iff.2 ht
      · exact ⟨by rw [g2]; rfl, by show i + 1 ≤ _; omega, hj rfl, Nat.zero_le _⟩
      · repeat (first | exact trivial | refine env_ ?_)
      · repeat (first | exact SLe.rfl | refine SLe.tail ?_ | refine SLe.full ?_)
  · subst hw
    rw [linesL_at hc] at h1
    obtain ⟨g1, g2, g3⟩ := drop_headL h1
    have kc := fun R => strCut_ok (w ++ 10 :: r) 10 R (by omega)
    rw [cutAV_at hc] at kc
    simp only [List.length_append, List.length_cons] at h4
    repeat (first | refine go_ ?_ | intro _)
    refine Or.inl ⟨⟨_, Tryz.func84, rfl, rfl⟩, ACall.mono ?_ (kc _)⟩
    rintro _ S1 ⟨rfl, hS1⟩
    subst S1
    repeat (first | refine go_ ?_ | intro _)
    refine AYield.mono ?_ (AYield_args (hY [.cells p [.str (w ++ 10 :: r)]] i (lineAV (w, true)) Sc' (by rw [List.getElem?_map, g1]; rfl) h3) ⟨AVle.refl _, AVle.refl _, trivial⟩)
    rintro _ S1 ⟨w', Sc1, rfl, rfl, hj, hz⟩
    cases w' with
    | false =>
      repeat (first | refine ga_ ?_ | intro _)
      refine AW_ret ?_
      refine ⟨.tup [], Sc1, AVle.refl _, fun w0 K w h => h.sub (List.sublist_append_right [_] Sc1), Sc1, SLe.rfl, .inr (hz rfl)⟩
    | true =>
      repeat (first | refine ga_ ?_ | intro _)
      refine ⟨((i + 1, r, Sc1) : Nat × List UInt8 × List En), ?_, ?_, weak_of ?_ rfl ?_⟩
      · show r.length < (w ++ 10 :: r).length; simp; omega
      · exact ⟨g2, by show i + 1 ≤ _; omega, hj rfl, by show r.length ≤ s.length; omega⟩
      · repeat (first | exact trivial | refine env_ ?_)
      · repeat (first | exact SLe.rfl | refine SLe.tail ?_ | refine SLe.full ?_)
theorem lines_ok (s : List UInt8) (R : List En) : ACall Tryz.prog 52 [.str s] R (fun r S => ∃ p, r = .fn (.func 83) [] [.ptr p 0] ∧ S = .cells p [.str s] :: R) := by
  refine ACall_body tab_ok Tryz.func52 rfl rfl rfl (by kernel_rfl) (Nat.le_of_ble_eq_true rfl) ?_
  repeat (first | refine go_ ?_ | intro _)
  refine AW_ret ?_
  repeat refine mk_ ?_
  refine ⟨_, _, AVle.refl _, SLe.rfl, ?_⟩
  exact ⟨_, rfl, rfl⟩
end Go.Proofs.YtgkjbpnmeeibbaaGreatDoor
/-
  Rows of relations, as they are read: plain. Own work.
-/
namespace Go.Proofs.YtgkjbpnmeeibbaaGreatDoor
open Go.Aw Go.RowKit Tree
open Rel (V encV encR)

theorem rowL_at {p : Pr} {s : List UInt8} (h : (rowL p s).2.2 = 0) : (rowL p s).1 < p.decls.length := by
  cases hf : p.decls.findIdx? (namedB ((splitC 9 s).headD [])) with
  | none => rw [rowL_none hf] at h; simp at h
  | some n =>
    obtain ⟨hn, _, _⟩ := List.findIdx?_eq_some_iff_getElem.1 hf
    have hd : p.decls[n]? = some p.decls[n] := List.getElem?_eq_getElem hn
    rw [rowL_some hf hd] at h ⊢
    split at h
    · split at h
      · split at h
        · rename_i h1 h2 h3
          rw [if_pos h1, if_pos h2, if_pos h3]; exact hn
        · rename_i h1 h2 h3
          exact absurd h h3
      · simp at h
    · simp at h
/-- a line's fault -/
def codeX (p : Pr) (x : List UInt8 × Bool) : Int := if x.2 = true then (rowL p x.1).2.2 else 92
abbrev Rows := List (List (List V))
def putX (o : Rows) (i : Nat) (t : List V) : Rows := o.set i ((o[i]?.getD []) ++ [t])
theorem putX_len (o : Rows) (i : Nat) (t : List V) : (putX o i t).length = o.length := by simp [putX]
def addX (p : Pr) (o : Rows) (x : List UInt8 × Bool) : Rows := putX o (rowL p x.1).1 (rowL p x.1).2.1
def outX (p : Pr) (xs : List (List UInt8 × Bool)) : Rows := xs.foldl (addX p) (List.replicate p.decls.length [])
theorem outX_snoc (p : Pr) (xs : List (List UInt8 × Bool)) (x : List UInt8 × Bool) : outX p (xs ++ [x]) = addX p (outX p xs) x := by simp [outX]
theorem outX_len (p : Pr) (xs : List (List UInt8 × Bool)) : (outX p xs).length = p.decls.length := by
  unfold outX
  generalize ho : List.replicate p.decls.length ([] : List (List V)) = o
  have : o.length = p.decls.length := by rw [← ho]; simp
  clear ho
  induction xs generalizing o with
  | nil => exact this
  | cons x xs ih => exact ih _ (by rw [addX, putX_len]; exact this)
/-- what a stream's reading gives ahead of sorting -/
def readX (p : Pr) (s : List UInt8) : Rows × Int × Int := match (linesL s).findIdx? (fun x => !decide (codeX p x = 0)) with
  | some i => ([], ((i + 1 : Nat) : Int), codeX p ((linesL s)[i]?.getD ([], false)))
  | none => (outX p (linesL s), 0, 0)

/-! ### the slices of slices -/
def rowsAV : Rows → List Tk → List AV
  | r :: rs, t :: ts => .sl 1 (r.map encR) t :: rowsAV rs ts
  | _, _ => []
theorem rowsAV_len : ∀ {o : Rows} {ts : List Tk}, ts.length = o.length → (rowsAV o ts).length = o.length
  | [], [], _ => rfl
  | [], _ :: _, h => by simp at h
  | _ :: _, [], h => by simp at h
  | _ :: o, _ :: ts, h => by simp only [rowsAV, List.length_cons]; rw [rowsAV_len (by simpa using h)]
theorem rowsAV_get : ∀ {o : Rows} {ts : List Tk} {i : Nat} {r : List (List V)} {t : Tk}, o[i]? = some r → ts[i]? = some t → (rowsAV o ts)[i]? = some (.sl 1 (r.map encR) t)
  | [], _, i, _, _, h, _ => by simp at h
  | _ :: _, [], i, _, _, _, h => by simp at h
  | a :: o, b :: ts, 0, r, t, h1, h2 => by simp at h1 h2; subst h1; subst h2; rfl
  | a :: o, b :: ts, i + 1, r, t, h1, h2 => by simp only [rowsAV, List.getElem?_cons_succ]; exact rowsAV_get (by simpa using h1) (by simpa using h2)
theorem rowsAV_set : ∀ {o : Rows} {ts : List Tk} {i : Nat} {r : List (List V)} {t : Tk}, ts.length = o.length → (rowsAV o ts).set i (.sl 1 (r.map encR) t) = rowsAV (o.set i r) (ts.set i t)
  | [], [], i, _, _, _ => by simp [rowsAV]
  | [], _ :: _, i, _, _, h => by simp at h
  | _ :: _, [], i, _, _, h => by simp at h
  | a :: o, b :: ts, 0, r, t, _ => rfl
  | a :: o, b :: ts, i + 1, r, t, h => by simp only [rowsAV, List.set_cons_succ]; rw [rowsAV_set (by simpa using h)]
theorem setCells_one {l : List AV} {i : Nat} {v : AV} (hi : i < l.length) : setCells l i [v] = l.set i v := by
  unfold setCells
  rw [List.set_eq_take_append_cons_drop, if_pos hi]; simp
theorem grows_get {ts : List Tk} {i : Nat} {t : Tk} {R : List En} (h : ts[i]? = some t) : (ts.map En.grow ++ R)[i]? = some (.grow t) := by
  have hi := (List.getElem?_eq_some_iff.1 h).1
  rw [List.getElem?_append_left (by simpa using hi), List.getElem?_map, h]; rfl
theorem grows_set {ts : List Tk} {i : Nat} {t : Tk} {R : List En} (hi : i < ts.length) : (ts.map En.grow ++ R).set i (.grow t) = (ts.set i t).map En.grow ++ R := by
  rw [List.set_append_left _ _ (by simpa using hi), List.map_set]
theorem zerosAV_rep (z : AV) (n : Nat) : zerosAV [z] n = List.replicate n z := by
  unfold zerosAV
  apply List.ext_getElem
  · simp
  · intro i h1 h2
    simp [Nat.mod_one]
theorem rows_rep : ∀ n : Nat, AVleL (List.replicate n (.sl 0 [] .full)) (rowsAV (List.replicate n []) (List.replicate n .full))
  | 0 => trivial
  | n + 1 => ⟨AVle.nilFull, rows_rep n⟩
theorem rows_start (n : Nat) : AVleL (zerosAV [.sl 0 [] .full] n) (rowsAV (List.replicate n []) (List.replicate n .full)) := by
  rw [zerosAV_rep]; exact rows_rep n
theorem rows_one : ∀ (o : Rows) (ts : List Tk), (rowsAV o ts).all AV.one = true
  | [], _ => rfl
  | _ :: _, [] => rfl
  | a :: o, b :: ts => by simp only [rowsAV, List.all_cons, rows_one o ts]; rfl
theorem SLe.fulls : ∀ (n : Nat) (S : List En), SLe S ((List.replicate n Tk.full).map En.grow ++ S)
  | 0, _ => SLe.rfl
  | n + 1, S => SLe.full (SLe.fulls n S)
end Go.Proofs.YtgkjbpnmeeibbaaGreatDoor
