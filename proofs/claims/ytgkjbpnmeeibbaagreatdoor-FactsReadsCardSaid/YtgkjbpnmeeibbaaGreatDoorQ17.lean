/-
  Read, the book's. Own work.
-/
import Derived.Test.YtgkjbpnmeeibbaaGreatDoorQ15
import Derived.Test.YtgkjbpnmeeibbaaGreatDoorQ16
set_option linter.all false
namespace Go.Proofs.YtgkjbpnmeeibbaaGreatDoor
open Go.Aw Go.RowKit Tree
set_option maxHeartbeats 4000000
set_option maxRecDepth 4000
open Rel (V encV encR foldPut Cl riseB)

theorem lastL_end : ∀ (A : List (List UInt8)) (w : List UInt8), lastL (A ++ [w]) = A.map (fun l => (l, true)) ++ if w = [] then [] else [(w, false)]
  | [], w => rfl
  | [a], w => by rw [List.cons_append, List.nil_append, lastL, lastL]; rfl
  | a :: b :: A, w => by
    rw [List.cons_append, List.cons_append, lastL, ← List.cons_append, lastL_end (b :: A) w]; rfl
theorem snoc_of {α : Type} {l : List α} (h : l ≠ []) : ∃ A x, l = A ++ [x] := ⟨l.dropLast, l.getLast h, (List.dropLast_concat_getLast h).symm⟩
theorem resX_at {p : Pr} {s : List UInt8} {i : Nat} {x : List UInt8 × Bool} (hr : rightP p = true) (h : ∀ (j : Nat) (x : List UInt8 × Bool), j < i → (linesL s)[j]? = some x → codeX p x = 0) (hx : (linesL s)[i]? = some x) (hc : codeX p x ≠ 0) : resX p s = ([], ((i + 1 : Nat) : Int), codeX p x) := by
  rw [resX_bad hr (bad_at h hx hc), hx]; rfl
theorem refRead_ok (p : Pr) (s : List UInt8) (R : List En) (hs : s.length ≤ 100000) : ACall Tryz.prog 14 [encP p, .str s] R (fun r S => r = resAV (resX p s) ∧ S = R) := by
  have kr := fun R => refRight_ok p R
  by_cases hr : rightP p = true
  rotate_left
  · have hr : rightP p = false := by simpa using hr
    rw [hr] at kr
    refine ACall_body tab_ok Tryz.func14 rfl rfl rfl (by kernel_rfl) (Nat.le_of_ble_eq_true rfl) ?_
    repeat (first | refine go_ ?_ | intro _)
    refine Or.inl ⟨⟨_, Tryz.func30, rfl, rfl⟩, ACall.mono ?_ (kr _)⟩
    rintro _ S1 ⟨rfl, hS1⟩
    subst S1
    repeat (first | refine ga_ ?_ | intro _)
    refine AW_ret ?_
    refine ⟨_, R, AVle.tup (bs := [.sl 1 [] .no, .int .i64 0, .int .i64 30]) ⟨AVle.nil, AVle.refl _, AVle.refl _, trivial⟩, (by repeat (first | exact SLe.rfl | refine SLe.tail ?_)), ?_, rfl⟩
    rw [resX_no hr]; rfl
  rw [hr] at kr
  obtain ⟨hd, hD⟩ := right_D hr
  have hD' : ∀ d ∈ p.decls, d.types.length ≤ 1000 := fun d h => by have := (hD d h).1; omega
  obtain ⟨A, w, hW⟩ := snoc_of (splitC_ne 10 s)
  have hL : linesL s = A.map (fun l => (l, true)) ++ if w = [] then [] else [(w, false)] := by rw [linesL, hW, lastL_end]
  have hAl : A.length ≤ s.length := by
    have h1 := splitC_len 10 s
    have h2 := cntC_len 10 s
    rw [hW] at h1; simp only [List.length_append, List.length_cons, List.length_nil] at h1; omega
  have hpt : ∀ x ∈ A ++ [w], x.length ≤ s.length := fun x hx => splitC_part (hW ▸ hx)
  have kc := fun R => refCut_ok s 10 R (by omega)
  rw [hW] at kc
  refine ACall_body tab_ok Tryz.func14 rfl rfl rfl (by kernel_rfl) (Nat.le_of_ble_eq_true rfl) ?_
  repeat (first | refine go_ ?_ | intro _)
  rename_i b2
  refine Or.inl ⟨⟨_, Tryz.func30, rfl, rfl⟩, ACall.mono ?_ (kr _)⟩
  rintro _ S1 ⟨rfl, hS1⟩
  subst S1
  repeat (first | refine ga_ ?_ | intro _)
  refine ⟨p.decls.length, p.decls.length, by rw [List.length_map], by rw [List.length_map], Nat.le_refl _, room (by first | omega | (simp; omega)) rfl, .inr fun b1 => ?_⟩
  repeat (first | refine ga_ ?_ | intro _)
  refine Or.inl ⟨⟨_, Tryz.func31, rfl, rfl⟩, ACall.mono ?_ (kc _)⟩
  rintro _ S1 ⟨rfl, hS1⟩
  subst S1
  repeat (first | refine ga_ ?_ | intro _)
  refine AW_for (α := Nat × List Tk) (fun z => ⟨[(2, .ptr b2 0), (8, .msl b1 0 p.decls.length p.decls.length), (9, .sl 1 ((A ++ [w]).map AV.str) .no), (10, .int .i64 (z.1 : Nat))], []⟩) (fun z => .cells b1 (rowsAV (outX p ((linesL s).take z.1)) z.2) :: .cells b2 [.sl 6 (p.decls.map encD) .no, .sl 4 (p.rules.map encRu) .no] :: (z.2.map .grow ++ R)) (fun z => A.length + 1 - z.1) (fun z => z.1 ≤ A.length ∧ z.2.length = p.decls.length ∧ ∀ (j : Nat) (x : List UInt8 × Bool), j < z.1 → (linesL s)[j]? = some x → codeX p x = 0) ((0, List.replicate p.decls.length .full)) ?_ (weak_of ?_ rfl ?_) (fun z hz => ?_)
  · exact ⟨Nat.zero_le _, by simp, fun j x h => absurd h (Nat.not_lt_zero _)⟩
  · repeat (first | exact trivial | refine env_ ?_)
  · refine SLe.trans (SW.le (SW.cells (rows_start _) (rows_one _ _) SW.nil)) ?_
    exact SLe.mid [.cells b1 (rowsAV (List.replicate p.decls.length []) (List.replicate p.decls.length .full)), .cells b2 [.sl 6 (p.decls.map encD) .no, .sl 4 (p.rules.map encRu) .no]] ((List.replicate p.decls.length Tk.full).map .grow) R (SLe.fulls _ _)
  obtain ⟨i, z⟩ := z
  obtain ⟨i1, i2, i3⟩ : i ≤ A.length ∧ z.length = p.decls.length ∧ ∀ (j : Nat) (x : List UInt8 × Bool), j < i → (linesL s)[j]? = some x → codeX p x = 0 := hz
  obtain ⟨O, hO⟩ : ∃ O, O = outX p ((linesL s).take i) := ⟨_, rfl⟩
  have hOl : O.length = p.decls.length := by rw [hO, outX_len]
  have hw : IntKind.i64.wrap ((i : Nat) + 1 : Int) = ((i + 1 : Nat) : Int) := by rw [wrap_i64 (by omega)]; rfl
  have hwl : IntKind.i64.wrap ((((A ++ [w]).map AV.str).length : Nat) - 1 : Int) = ((A.length : Nat) : Int) := by
    rw [List.length_map, List.length_append, List.length_cons, List.length_nil, wrap_i64 (by omega)]; omega
  show AW _ _ _ _ ⟨[(2, .ptr b2 0), (8, .msl b1 0 p.decls.length p.decls.length), (9, .sl 1 ((A ++ [w]).map AV.str) .no), (10, .int .i64 (i : Nat))], []⟩ (.cells b1 (rowsAV (outX p ((linesL s).take i)) z) :: .cells b2 [.sl 6 (p.decls.map encD) .no, .sl 4 (p.rules.map encRu) .no] :: (z.map .grow ++ R)) _
  repeat (first | refine go_ ?_ | intro _)
  refine AW_true (b := decide ((i : Int) < (((A ++ [w]).map AV.str).length : Nat))) rfl (decide_eq_true (by simp; omega)) ?_
  repeat (first | refine go_ ?_ | intro _)
  by_cases hi : i < A.length
  · obtain ⟨a, ha⟩ : ∃ a, a = A[i] := ⟨_, rfl⟩
    have hga : ((A ++ [w]).map AV.str)[i]? = some (.str a) := by rw [List.getElem?_map, List.getElem?_append_left hi, List.getElem?_eq_getElem hi, ← ha]; rfl
    have hgl : (linesL s)[i]? = some (a, true) := by
      rw [hL, List.getElem?_append_left (by rw [List.length_map]; exact hi), List.getElem?_map, List.getElem?_eq_getElem hi, ← ha]; rfl
    have hal : a.length ≤ s.length := hpt a (List.mem_append_left _ (ha ▸ List.getElem_mem hi))
    have ko := fun R => refOne_ok p a R (by omega) (by omega) hD'
    refine AW_false (b := decide ((i : Int) = IntKind.i64.wrap ((((A ++ [w]).map AV.str).length : Nat) - 1 : Int))) rfl (by rw [hwl]; exact decide_eq_false (by omega)) ?_
    repeat (first | refine ga_ ?_ | intro _)
    refine AW_draw tab_ok mixed 13 (by first | rfl | kernel_rfl) ?_
    repeat (first | refine go_ ?_ | intro _)
    refine at_get (i) (AV.str a) (by first | rfl | omega | (rw [wrap_i64 (by omega)]; omega)) (by exact hga) ?_
    repeat (first | refine go_ ?_ | intro _)
    apply call_step
    · rfl
    · exact Or.inl ⟨⟨_, Tryz.func32, rfl, rfl⟩, ko _⟩
    repeat (first | refine go_ ?_ | intro _)
    by_cases hc : (rowL p a).2.2 = 0
    · have hat := rowL_at hc
      have hst := outX_step (p := p) hgl
      have hnx := next_row i3 hgl (show codeX p (a, true) = 0 by rw [codeX, if_pos rfl]; exact hc)
      obtain ⟨n, hn⟩ : ∃ n, n = (rowL p a).1 := ⟨_, rfl⟩
      obtain ⟨t, ht⟩ : ∃ t, t = (rowL p a).2.1 := ⟨_, rfl⟩
      rw [← hO] at hst
      rw [← hn] at hat
      simp only [] at hst
      rw [← hn, ← ht] at hst
      obtain ⟨r, hr'⟩ : ∃ r, O[n]? = some r := ⟨O[n]'(by omega), List.getElem?_eq_getElem _⟩
      obtain ⟨tk, htk⟩ : ∃ t, z[n]? = some t := ⟨z[n]'(by omega), List.getElem?_eq_getElem _⟩
      have hg := rowsAV_get hr' htk
      have hrl : r.length ≤ A.length := by
        have h1 := (outX_rows hD' ((linesL s).take i) r (hO ▸ List.mem_of_getElem? hr')).1
        rw [List.length_take] at h1; omega
      have hgr : (z.map En.grow ++ R)[n]? = some (.grow tk) := grows_get htk
      have hgs : ∀ t, (z.map En.grow ++ R).set n (.grow t) = (z.set n t).map En.grow ++ R := fun t => grows_set (by omega)
      have hrs : ∀ tk', (rowsAV O z).set n (.sl 1 ((r ++ [t]).map encR) tk') = rowsAV (outX p ((linesL s).take (i + 1))) (z.set n tk') := fun tk' => by
        rw [rowsAV_set (by omega), hst, putX, hr']; rfl
      rw [← hO, ← hn, ← ht]
      refine AW_false (b := !decide ((rowL p a).2.2 = 0)) rfl (by rw [hc]; rfl) ?_
      repeat (first | refine go_ ?_ | intro _)
      refine at_msl (n) (n) (by first | rfl | omega | (rw [wrap_i64 (by first | omega | (simp; omega))]; first | rfl | omega | (simp; omega))) (by first | assumption | omega) (by show _ + _ * 1 = _; omega) ?_
      repeat (first | refine go_ ?_ | intro _)
      refine load_one (.sl 1 (r.map encR) tk) rfl rfl hg ?_
      repeat (first | refine go_ ?_ | intro _)
      refine ⟨room (by rw [List.length_map]; simp; omega) rfl, .inl rfl, .inr (.inl ⟨rfl, n + 2, hgr, (r ++ [t]).map encR, (List.map_append (f := encR) (l₁ := r) (l₂ := [t])).symm, fun t1 => ?_⟩)⟩
      repeat (first | refine go_ ?_ | intro _)
      refine at_msl (n) (n) (by first | rfl | omega | (rw [wrap_i64 (by first | omega | (simp; omega))]; first | rfl | omega | (simp; omega))) (by first | assumption | omega) (by show _ + _ * 1 = _; omega) ?_
      repeat (first | refine go_ ?_ | intro _)
      refine store_one (.sl 1 ((r ++ [t]).map encR) t1) _ rfl rfl (by rw [rowsAV_len (by omega)]; omega) (hrs t1) ?_
      repeat (first | refine go_ ?_ | intro _)
      refine ⟨((i + 1, z.set n t1) : Nat × List Tk), ?_, ?_, weak_of ?_ rfl ?_⟩
      · show A.length + 1 - (i + 1) < A.length + 1 - i; omega
      · exact ⟨hi, by rw [List.length_set]; exact i2, hnx⟩
      · repeat (first | exact trivial | refine env_ ?_)
      · exact SLe.of_eq (congrArg (fun x => _ :: _ :: x) (hgs t1))
    · refine AW_true (b := !decide ((rowL p a).2.2 = 0)) rfl (by rw [decide_eq_false hc]; rfl) ?_
      repeat (first | refine go_ ?_ | intro _)
      refine AW_ret ?_
      refine ⟨_, R, AVle.tup (bs := [.sl 1 [] .no, .int .i64 (((i + 1 : Nat) : Int)), .int .i64 ((rowL p a).2.2)]) ⟨AVle.nil, AVle.eq (congrArg (AV.int .i64) (by first | rfl | exact hw)), AVle.refl _, trivial⟩, ?_, ?_, rfl⟩
      · exact (SLe.tail (SLe.tail fun w0 K w h => h.sub (List.sublist_append_right _ _)))
      · rw [resX_at hr i3 hgl (by simpa [codeX] using hc)]
        simp only [codeX, if_pos]; rfl
  obtain rfl : i = A.length := by omega
  have hga : ((A ++ [w]).map AV.str)[A.length]? = some (.str w) := by simp
  refine AW_true (b := decide (((A.length : Nat) : Int) = IntKind.i64.wrap ((((A ++ [w]).map AV.str).length : Nat) - 1 : Int))) rfl (by rw [hwl]; exact decide_eq_true rfl) ?_
  repeat (first | refine go_ ?_ | intro _)
  refine at_get (A.length) (AV.str w) (by first | rfl | omega | (rw [wrap_i64 (by omega)]; omega)) (by exact hga) ?_
  repeat (first | refine go_ ?_ | intro _)
  by_cases hwn : w = []
  rotate_left
  · refine AW_true (b := !decide (w = [])) rfl (by rw [decide_eq_false hwn]; rfl) ?_
    repeat (first | refine go_ ?_ | intro _)
    refine AW_ret ?_
    refine ⟨_, R, AVle.tup (bs := [.sl 1 [] .no, .int .i64 (((A.length + 1 : Nat) : Int)), .int .i64 (92)]) ⟨AVle.nil, AVle.eq (congrArg (AV.int .i64) (by first | rfl | exact hw)), AVle.refl _, trivial⟩, ?_, ?_, rfl⟩
    · exact (SLe.tail (SLe.tail fun w0 K w h => h.sub (List.sublist_append_right _ _)))
    · have hgl : (linesL s)[A.length]? = some (w, false) := by
        rw [hL, if_neg hwn, List.getElem?_append_right (by rw [List.length_map]; omega), List.length_map, Nat.sub_self]; rfl
      rw [resX_at hr i3 hgl (by rw [codeX_open]; decide), codeX_open]; rfl
  · refine AW_false (b := !decide (w = [])) rfl (by rw [hwn]; rfl) ?_
    have hLl : (linesL s).length = A.length := by rw [hL, if_pos hwn, List.append_nil, List.length_map]
    have hb : badX p s = none := bad_no (by rw [hLl]; exact i3)
    have hcl := bad_none hb
    have hO' : O = outX p (linesL s) := by rw [hO, List.take_of_length_le (by omega)]
    have hrow : ∀ l ∈ O, l.length ≤ 1000000 := fun l hl => by
      rw [hO'] at hl
      have h1 := outX_rows hD' (linesL s) l hl
      omega
    rw [resX_ok hr hb, ← hO', ← hO]
    repeat (first | refine go_ ?_ | intro _)
    refine AW_for (α := Nat) (fun z => ⟨[(8, .msl b1 0 p.decls.length p.decls.length), (14, .int .i64 (z : Nat))], []⟩) (fun z => .cells b1 ((midX O z).map Rel.encL) :: R) (fun z => p.decls.length - z) (fun z => z ≤ p.decls.length) (0) ?_ (weak_of ?_ rfl ?_) (fun z hz => ?_)
    · exact Nat.zero_le _
    · repeat (first | exact trivial | refine env_ ?_)
    · exact (SW.le (SW.cells (rows_le O z (by omega)) (encL_all O) (SW.drop SW.nil))).trans fun w0 K w h => h.sub (List.Sublist.cons_cons _ (List.sublist_append_right _ _))
    rename_i z
    replace hz : z ≤ p.decls.length := hz
    repeat (first | refine go_ ?_ | intro _)
    refine AW_iff (z < p.decls.length) rfl (by first | (simp; done) | (simp <;> omega) | decide) (fun h => ?_) (fun h => ?_)
    · have hlt := h
      have hlo : z < O.length := by omega
      obtain ⟨l, hl⟩ : ∃ l, l = O[z] := ⟨_, rfl⟩
      have h2 := hrow l (hl ▸ List.getElem_mem hlo)
      have hg : ((midX O z).map Rel.encL)[z]? = some (Rel.encL l) := by rw [List.getElem?_map, midX_get hlo, ← hl]; rfl
      have hset : ((midX O z).map Rel.encL).set z (Rel.encL (foldPut [] l)) = (midX O (z + 1)).map Rel.encL := by rw [← midX_set hlo, ← hl, List.map_set]
      repeat (first | refine go_ ?_ | intro _)
      refine at_msl (z) (z) (by first | rfl | omega | (rw [wrap_i64 (by first | omega | (simp; omega))]; first | rfl | omega | (simp; omega))) (by first | assumption | omega) (by show _ + _ * 1 = _; omega) ?_
      repeat (first | refine go_ ?_ | intro _)
      refine load_one (Rel.encL l) rfl rfl hg ?_
      repeat (first | refine go_ ?_ | intro _)
      refine Or.inl ⟨⟨_, Tryz.func33, rfl, rfl⟩, ACall.mono ?_ (Rel.refSort_ok l .no _ h2)⟩
      rintro _ S1 ⟨rfl, hS1⟩
      subst S1
      repeat (first | refine go_ ?_ | intro _)
      refine at_msl (z) (z) (by first | rfl | omega | (rw [wrap_i64 (by first | omega | (simp; omega))]; first | rfl | omega | (simp; omega))) (by first | assumption | omega) (by show _ + _ * 1 = _; omega) ?_
      repeat (first | refine go_ ?_ | intro _)
      refine store_one (Rel.encL (foldPut [] l)) ((midX O (z + 1)).map Rel.encL) rfl rfl (by rw [List.length_map, midX_len]; omega) hset ?_
      repeat (first | refine go_ ?_ | intro _)
      refine ⟨z + 1, ?_, ?_, weak_of ?_ rfl ?_⟩
      · omega
      · omega
      · repeat (first | exact trivial | refine env_ ?_)
      · repeat (first | exact SLe.rfl | refine SLe.tail ?_ | refine SLe.full ?_)
    · have hz : z = O.length := by omega
      have he : midX O z = sortX O := by rw [hz, midX, List.take_length, List.drop_length, List.append_nil]; rfl
      rw [he]
      repeat (first | refine go_ ?_ | intro _)
      refine AW_freeze (R := R) 4 (n' := 1) (es := (sortX O).map Rel.encL) (sz := 1) (fun h => nomatch h) rfl (by rw [List.length_map, sortX, List.length_map]; omega) (encL_sz _) (by rw [encL_flat, List.drop_zero, List.take_of_length_le (by rw [List.length_map, sortX, List.length_map]; omega)]) ?_
      repeat (first | refine go_ ?_ | intro _)
      refine AW_ret ?_
      exact ⟨_, R, AVle.refl _, SLe.rfl, rfl, rfl⟩
end Go.Proofs.YtgkjbpnmeeibbaaGreatDoor
/-
  Lists of rows held against each other; what the laws ask first. Own work.
-/
namespace Go.Proofs.YtgkjbpnmeeibbaaGreatDoor
open Go.Aw Go.RowKit Tree
set_option maxHeartbeats 4000000
set_option maxRecDepth 4000
open Rel (V encV encR foldPut Cl riseB)

theorem resX_fault {p : Pr} {s : List UInt8} (hr : rightP p = true) : resX p s = (match faultX p s with | some y => ([], ((y.1 + 1 : Nat) : Int), y.2) | none => (sortX (outX p (linesL s)), 0, 0)) := by
  rw [resX, if_pos hr, readX_first, faultX]
  cases hf : firstX p (linesL s) with
  | none => rfl
  | some y => exact if_neg (firstX_some hf).1
theorem get_encL {a : Rows} {z : Nat} (h : z < a.length) : (a.map Rel.encL)[z]? = some (Rel.encL a[z]) := by rw [List.getElem?_map, List.getElem?_eq_getElem h]; rfl
theorem same3_ok (a b : Rows) (ta tb : Tk) (R : List En) (ha : a.length ≤ 16777216) : ACall Tryz.prog 15 [.sl 1 (a.map Rel.encL) ta, .sl 1 (b.map Rel.encL) tb] R (fun r S => r = .bool (decide (a = b)) ∧ S = R) := by
  by_cases hl : a.length = b.length
  rotate_left
  · refine ACall_body tab_ok Tryz.func15 rfl rfl rfl (by kernel_rfl) (Nat.le_of_ble_eq_true rfl) ?_
    repeat (first | refine go_ ?_ | intro _)
    refine AW_true (b := !decide (((a.map Rel.encL).length : Int) = ((b.map Rel.encL).length : Int))) rfl (by rw [List.length_map, List.length_map, decide_eq_false (by omega)]; rfl) ?_
    repeat (first | refine go_ ?_ | intro _)
    refine AW_ret ?_
    repeat (first | refine ⟨0, rfl, ?_⟩ | refine ⟨1, rfl, ?_⟩ | refine ⟨2, rfl, ?_⟩ | refine ⟨3, rfl, ?_⟩ | refine ⟨4, rfl, ?_⟩ | refine ⟨5, rfl, ?_⟩ | refine ⟨6, rfl, ?_⟩)
    refine ⟨_, R, AVle.eq ?_, (by repeat (first | exact SLe.rfl | refine SLe.tail ?_)), rfl, rfl⟩
    rw [decide_eq_false (fun e => hl (congrArg List.length e))]; rfl
  refine ACall_body tab_ok Tryz.func15 rfl rfl rfl (by kernel_rfl) (Nat.le_of_ble_eq_true rfl) ?_
  repeat (first | refine go_ ?_ | intro _)
  refine AW_false (b := !decide (((a.map Rel.encL).length : Int) = ((b.map Rel.encL).length : Int))) rfl (by rw [List.length_map, List.length_map, decide_eq_true (by omega)]; rfl) ?_
  repeat (first | refine go_ ?_ | intro _)
  refine AW_for (α := Nat) (fun z => ⟨[(0, .sl 1 (a.map Rel.encL) ta), (1, .sl 1 (b.map Rel.encL) tb), (5, .int .i64 (z : Nat))], []⟩) (fun z => R) (fun z => a.length - z) (fun z => z ≤ a.length ∧ a.take z = b.take z) (0) ?_ (weak_of ?_ rfl ?_) (fun z hz => ?_)
  · exact ⟨Nat.zero_le _, by simp⟩
  · repeat (first | exact trivial | refine env_ ?_)
  · repeat (first | exact SLe.rfl | refine SLe.tail ?_ | refine SLe.full ?_)
  obtain ⟨i1, i2⟩ := hz
  repeat (first | refine go_ ?_ | intro _)
  refine AW_iff (z < a.length) rfl (by rw [decide_eq_true_eq, List.length_map]; omega) (fun h => ?_) (fun h => ?_)
  · have hlt := h
    have hlt2 : z < b.length := by omega
    obtain ⟨x, hx⟩ : ∃ x, x = a[z] := ⟨_, rfl⟩
    obtain ⟨y, hy⟩ : ∃ y, y = b[z] := ⟨_, rfl⟩
    have hga := get_encL hlt
    have hgb := get_encL hlt2
    rw [← hx] at hga
    rw [← hy] at hgb
    have ks := fun R => Rel.same_ok x y .no .no R
    repeat (first | refine go_ ?_ | intro _)
    refine AW_draw tab_ok mixed 10 (by first | rfl | kernel_rfl) ?_
    repeat (first | refine go_ ?_ | intro _)
    refine at_get (z) (Rel.encL x) (by first | rfl | omega | (rw [wrap_i64 (by omega)]; omega)) (by exact hga) ?_
    repeat (first | refine go_ ?_ | intro _)
    refine at_get (z) (Rel.encL y) (by first | rfl | omega | (rw [wrap_i64 (by omega)]; omega)) (by exact hgb) ?_
    repeat (first | refine go_ ?_ | intro _)
    apply call_step
    · rfl
    · exact Or.inl ⟨⟨_, Tryz.func34, rfl, rfl⟩, ks _⟩
    repeat (first | refine go_ ?_ | intro _)
    by_cases he : x = y
    · refine AW_false (b := !decide (x = y)) rfl (by rw [decide_eq_true he]; rfl) ?_
      repeat (first | refine go_ ?_ | intro _)
      refine ⟨z + 1, ?_, ?_, weak_of ?_ rfl ?_⟩
      · omega
      · refine ⟨by omega, ?_⟩
        rw [List.take_succ_eq_append_getElem hlt, List.take_succ_eq_append_getElem hlt2, i2, ← hx, ← hy, he]
      · repeat (first | exact trivial | refine env_ ?_)
      · repeat (first | exact SLe.rfl | refine SLe.tail ?_ | refine SLe.full ?_)
    · refine AW_true (b := !decide (x = y)) rfl (by rw [decide_eq_false he]; rfl) ?_
      repeat (first | refine go_ ?_ | intro _)
      refine AW_ret ?_
      repeat (first | refine ⟨0, rfl, ?_⟩ | refine ⟨1, rfl, ?_⟩ | refine ⟨2, rfl, ?_⟩ | refine ⟨3, rfl, ?_⟩ | refine ⟨4, rfl, ?_⟩ | refine ⟨5, rfl, ?_⟩ | refine ⟨6, rfl, ?_⟩)
      refine ⟨_, R, AVle.eq ?_, (by repeat (first | exact SLe.rfl | refine SLe.tail ?_)), rfl, rfl⟩
      have : a ≠ b := fun e => he (by subst e; rw [hx, hy])
      rw [decide_eq_false this]; rfl
  · have : a = b := by rw [List.take_of_length_le (by omega), List.take_of_length_le (by omega)] at i2; exact i2
    repeat (first | refine go_ ?_ | intro _)
    refine AW_ret ?_
    repeat (first | refine ⟨0, rfl, ?_⟩ | refine ⟨1, rfl, ?_⟩ | refine ⟨2, rfl, ?_⟩ | refine ⟨3, rfl, ?_⟩ | refine ⟨4, rfl, ?_⟩ | refine ⟨5, rfl, ?_⟩ | refine ⟨6, rfl, ?_⟩)
    refine ⟨_, R, AVle.eq ?_, (by repeat (first | exact SLe.rfl | refine SLe.tail ?_)), rfl, rfl⟩
    rw [decide_eq_true this]; rfl
theorem cut_ok (s : List UInt8) (R : List En) : ACall Tryz.prog 12 [.str s] R (fun r S => r = .str (s.take 2000) ∧ S = R) := by
  refine ACall_body tab_ok Tryz.func12 rfl rfl rfl (by kernel_rfl) (Nat.le_of_ble_eq_true rfl) ?_
  repeat (first | refine go_ ?_ | intro _)
  refine at_ss 0 (min s.length 2000) (s.take 2000) rfl (by show min (s.length : Int) 2000 = _; omega) (by omega) (by omega) (by rw [List.drop_zero, List.take_eq_take_iff]; omega) ?_
  repeat (first | refine go_ ?_ | intro _)
  refine AW_ret ?_
  repeat (first | refine ⟨0, rfl, ?_⟩ | refine ⟨1, rfl, ?_⟩ | refine ⟨2, rfl, ?_⟩ | refine ⟨3, rfl, ?_⟩ | refine ⟨4, rfl, ?_⟩ | refine ⟨5, rfl, ?_⟩ | refine ⟨6, rfl, ?_⟩)
  refine ⟨_, R, AVle.eq ?_, (by repeat (first | exact SLe.rfl | refine SLe.tail ?_)), rfl, rfl⟩
  rfl
theorem take_le (s : List UInt8) (n : Nat) : (s.take n).length ≤ n := by rw [List.length_take]; omega

/-! ### what is shown -/
def oneF : Pr := ⟨[⟨[101], [[97], [98]], [1, 2], true, true, 0⟩], []⟩
def rowF : List V := [⟨false, 1, []⟩, ⟨true, 0, [97]⟩]
theorem itoa_one : Lib.itoa 1 = [49] := by
  have := Lib.itoa_nonneg 1
  rw [show (1 : Int) = ((1 : Nat) : Int) from rfl, this, Lib.decDigits_one (by decide)]; decide
theorem pn_01 : (pnL [48, 49]).2 ≠ 0 := by
  have h : Lib.parseIntB 64 [48, 49] = .ok 1 := by decide
  have e : Lib.itoa 1 ≠ [48, 49] := by rw [itoa_one]; decide
  simp [pnL, h, e]
theorem oneF_right : rightP oneF = true := by decide
def sF1 : List UInt8 := [101, 9, 49, 9, 34, 97, 34, 10]
def sF2 : List UInt8 := [101, 9, 48, 49, 9, 34, 97, 34, 10]
theorem sF1_eq : sF1 = tellAll [[rowF]] oneF.decls := by
  have h1 : wordL ⟨false, 1, []⟩ = [49] := itoa_one
  have h2 : wordL ⟨true, 0, [97]⟩ = [34, 97, 34] := by decide
  have h3 : rowF.flatMap fieldL = [9, 49, 9, 34, 97, 34] := by
    show fieldL _ ++ (fieldL _ ++ []) = _
    rw [fieldL, fieldL, h1, h2]; rfl
  show sF1 = ((oneF.decls.headD ⟨[], [], [], false, false, 0⟩).rel ++ rowF.flatMap fieldL ++ [10] ++ []) ++ []
  rw [h3]; rfl
theorem oneF_apart : apartD oneF.decls := fun i j hi hj _ => by
  have h1 : i < 1 := hi
  have h2 : j < 1 := hj
  omega
theorem sF1_back : faultX oneF sF1 = none ∧ sortX (outX oneF (linesL sF1)) = [[rowF]] := by
  rw [sF1_eq]
  refine tell_back oneF_apart (by decide) (by decide) (by decide) (by decide) fun l hl t ht v hv => ?_
  obtain rfl := List.mem_singleton.1 hl
  obtain rfl := List.mem_singleton.1 ht
  simp only [rowF, List.mem_cons, List.not_mem_nil, or_false] at hv
  rcases hv with rfl | rfl <;> (show inR64 _; unfold inR64; decide)
theorem sF2_fault : faultX oneF sF2 = some (0, 95) := by
  have hl : linesL sF2 = [([101, 9, 48, 49, 9, 34, 97, 34], true)] := linesL_at (w := [101, 9, 48, 49, 9, 34, 97, 34]) (r := []) (by decide)
  have hv : valL [48, 49] 1 = (⟨false, 0, []⟩, 95) := by rw [valL, if_pos rfl, if_neg pn_01]
  have hr : rowL oneF [101, 9, 48, 49, 9, 34, 97, 34] = (0, [], 95) := by
    rw [rowL_some (n := 0) (d := ⟨[101], [[97], [98]], [1, 2], true, true, 0⟩) (by decide) rfl, if_pos rfl, if_pos (by decide)]
    have : valsL (List.drop 1 (splitC 9 [101, 9, 48, 49, 9, 34, 97, 34])) [1, 2] = ([], 95) := by
      rw [show List.drop 1 (splitC 9 [101, 9, 48, 49, 9, 34, 97, 34]) = [[48, 49], [34, 97, 34]] by decide, valsL, hv]; rfl
    show (if (valsL (List.drop 1 (splitC 9 [101, 9, 48, 49, 9, 34, 97, 34])) [1, 2]).2 = 0 then _ else _) = _
    rw [this]; rfl
  have hc : codeX oneF ([101, 9, 48, 49, 9, 34, 97, 34], true) = 95 := by rw [codeX, if_pos rfl, hr]
  rw [faultX, hl, firstX, hc]; rfl
theorem res_F1 : resX oneF sF1 = ([[rowF]], 0, 0) := by rw [resX_fault oneF_right, sF1_back.1, sF1_back.2]
theorem res_F2 : resX oneF (sF1 ++ sF2) = ([], 2, 95) := by
  have he : EndsL sF1 := .inr ⟨[101, 9, 49, 9, 34, 97, 34], rfl⟩
  have hll : (linesL sF1).length = 1 := by rw [show linesL sF1 = [([101, 9, 49, 9, 34, 97, 34], true)] from linesL_at (w := [101, 9, 49, 9, 34, 97, 34]) (r := []) (by decide)]; rfl
  rw [resX_fault oneF_right, fault_app he, sF1_back.1, sF2_fault, hll]; rfl
theorem AVle.slFlat {sz : Nat} {es es' : List AV} {t : Tk} (hl : es.length = es'.length) (hf : AVleL (flat es) (flat es')) (hz : ∀ e ∈ es', e.cells.length = sz) (h1 : ∀ c ∈ flat es', c.one = true) : AVle (.sl sz es t) (.sl sz es' .no) := by
  intro K v hv
  rcases sl_cases hv with ⟨a0, rfl, rfl, ht⟩ | ⟨b, o, c, vs, ha, ht⟩
  · have : es' = [] := by simpa using hl.symm
    subst this; exact .slnil _ _ _ trivial
  · rw [ha.eq, hl]
    have h3 := hf.rel (show RelL K (flat es) vs from ha.rel)
    exact .sl (by rw [← hl]; exact ha.hcap) ha.hmax hz h1 h3.1 h3.2 ha.known trivial
theorem AVle.agg {es bs : List AV} (h : AVleL es bs) (h1 : ∀ c ∈ bs, c.one = true) : AVle (.agg es) (.agg bs) := by
  intro K v hv
  cases hv with
  | agg _ hl h' =>
    have := h.rel (K := K) ⟨hl, h'⟩
    exact .agg h1 this.1 this.2
theorem oneF_ok (R : List En) : ACall Tryz.prog 23 [] R (fun v S => v = encP oneF ∧ S = R) := by
  refine ACall_body tab_ok Tryz.func23 rfl rfl rfl (by kernel_rfl) (Nat.le_of_ble_eq_true rfl) ?_
  repeat (first | refine go_ ?_ | intro _)
  refine AW_ret ?_
  refine ⟨rfl, 0, _, rfl, ⟨Nat.le_of_ble_eq_true rfl, Nat.le_of_ble_eq_true rfl⟩, _, R, ?_, (by repeat (first | exact SLe.rfl | refine SLe.tail ?_)), rfl, rfl⟩
  show AVle (.agg [.sl 6 [.agg [.str [101], .sl 1 [.str [97], .str [98]] .full, .sl 1 [.int .i64 1, .int .i64 2] .full, .bool true, .bool true, .int .i64 0]] .full, .sl 0 [] .full]) (encP oneF)
  refine AVle.agg ⟨AVle.slFlat rfl ⟨AVle.refl _, AVle.tk, AVle.tk, AVle.refl _, AVle.refl _, AVle.refl _, trivial⟩ (by decide) (by decide), AVle.nil, trivial⟩ (by decide)
theorem shown_ok (R : List En) (hG : FactG R) : ACall Tryz.prog 10 [] R (fun r S => r = .bool true ∧ S = R) := by
  have hok : ∀ r ∈ oneF.rules, okR r := fun r hr => by cases hr
  have k1 := readP_ok oneF sF1 R hG (by decide) hok
  have k2 := readP_ok oneF (sF1 ++ sF2) R hG (by decide) hok
  rw [res_F1] at k1
  rw [res_F2] at k2
  refine ACall_body tab_ok Tryz.func10 rfl rfl rfl (by kernel_rfl) (Nat.le_of_ble_eq_true rfl) ?_
  repeat (first | refine go_ ?_ | intro _)
  refine Or.inl ⟨⟨_, Tryz.func23, rfl, rfl⟩, ACall.mono ?_ (oneF_ok R)⟩
  rintro _ S1 ⟨rfl, hS1⟩
  subst S1
  repeat (first | refine go_ ?_ | intro _)
  refine Or.inl ⟨⟨_, Tryz.func13, rfl, rfl⟩, ACall.mono ?_ (k1)⟩
  rintro _ S1 ⟨rfl, hS1⟩
  subst S1
  repeat (first | refine go_ ?_ | intro _)
  refine Or.inl ⟨⟨_, Tryz.func23, rfl, rfl⟩, ACall.mono ?_ (oneF_ok R)⟩
  rintro _ S1 ⟨rfl, hS1⟩
  subst S1
  repeat (first | refine go_ ?_ | intro _)
  refine Or.inl ⟨⟨_, Tryz.func13, rfl, rfl⟩, ACall.mono ?_ (k2)⟩
  rintro _ S1 ⟨rfl, hS1⟩
  subst S1
  repeat (first | refine ga_ ?_ | intro _)
  refine ⟨(by decide), _, rfl, ?_⟩
  repeat (first | refine ga_ ?_ | intro _)
  refine ⟨(by decide), _, rfl, ?_⟩
  repeat (first | refine ga_ ?_ | intro _)
  refine ⟨(by decide), _, rfl, ?_⟩
  repeat (first | refine ga_ ?_ | intro _)
  refine ⟨(by decide), _, rfl, ?_⟩
  repeat (first | refine ga_ ?_ | intro _)
  refine ⟨(by decide), _, rfl, ?_⟩
  repeat (first | refine ga_ ?_ | intro _)
  refine ⟨(by decide), _, rfl, ?_⟩
  repeat (first | refine ga_ ?_ | intro _)
  refine ⟨(by decide), _, rfl, ?_⟩
  repeat (first | refine ga_ ?_ | intro _)
  refine ⟨(by decide), _, rfl, ?_⟩
  repeat (first | refine ga_ ?_ | intro _)
  refine ⟨(by decide), _, rfl, ?_⟩
  repeat (first | refine ga_ ?_ | intro _)
  refine AW_ret ?_
  repeat (first | refine ⟨0, rfl, ?_⟩ | refine ⟨1, rfl, ?_⟩ | refine ⟨2, rfl, ?_⟩ | refine ⟨3, rfl, ?_⟩ | refine ⟨4, rfl, ?_⟩ | refine ⟨5, rfl, ?_⟩ | refine ⟨6, rfl, ?_⟩)
  refine ⟨_, R, AVle.eq ?_, (by repeat (first | exact SLe.rfl | refine SLe.tail ?_)), rfl, rfl⟩
  rfl
end Go.Proofs.YtgkjbpnmeeibbaaGreatDoor
