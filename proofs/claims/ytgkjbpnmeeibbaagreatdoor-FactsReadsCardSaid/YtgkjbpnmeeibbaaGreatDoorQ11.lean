/-
  A line's relation and row, the book's. Own work.
-/
import Derived.Test.YtgkjbpnmeeibbaaGreatDoorQ10
import Derived.Test.YtgkjbpnmeeibbaaGreatDoorDrawA
set_option linter.all false
namespace Go.Proofs.YtgkjbpnmeeibbaaGreatDoor
open Go.Aw Go.RowKit Tree
set_option maxHeartbeats 4000000
set_option maxRecDepth 4000
open Rel (V encV encR)

theorem refOne_ok (p : Pr) (s : List UInt8) (R : List En) (hs : s.length ≤ 1000000) (hp : p.decls.length ≤ 1000) (hD : ∀ d ∈ p.decls, d.types.length ≤ 1000) : ACall Tryz.prog 32 [encP p, .str s] R (fun r S => r = rowAV (rowL p s) ∧ S = R) := by
  obtain ⟨W, hW⟩ : ∃ W, W = splitC 9 s := ⟨_, rfl⟩
  have hne := splitC_ne 9 s
  have hwl := splitC_len 9 s
  have hcl := cntC_len 9 s
  have hpt : ∀ x ∈ W, x.length ≤ s.length := fun x hx => splitC_part (hW ▸ hx)
  have ksp := fun R => refCut_ok s 9 R hs
  rw [← hW] at hne hwl ksp
  obtain ⟨w, V', hwv⟩ : ∃ w r, W = w :: r := by cases W with | nil => exact absurd rfl hne | cons w r => exact ⟨w, r, rfl⟩
  have hhd : (splitC 9 s).headD [] = w := by rw [← hW, hwv]; rfl
  have hg0 : (W.map AV.str)[0]? = some (.str w) := by rw [hwv]; rfl
  have kf := fun R => refFind_ok w p.decls R hp
  have hgW : ∀ (j : Nat) (h : j < W.length), (W.map AV.str)[j]? = some (.str W[j]) := fun j h => by rw [List.getElem?_map, List.getElem?_eq_getElem h]; rfl
  cases hf : p.decls.findIdx? (namedB w) with
  | none =>
    have e := rowL_none (p := p) (s := s) (by rw [hhd]; exact hf)
    rw [findAV, hf] at kf
    refine ACall_body tab_ok Tryz.func32 rfl rfl rfl (by kernel_rfl) (Nat.le_of_ble_eq_true rfl) ?_
    repeat (first | refine go_ ?_ | intro _)
    rename_i q
    refine Or.inl ⟨⟨_, Tryz.func31, rfl, rfl⟩, ACall.mono ?_ (ksp _)⟩
    rintro _ S1 ⟨rfl, hS1⟩
    subst S1
    repeat (first | refine det_step rfl ?_ | refine ⟨rfl, ?_⟩ | refine ⟨⟨_, rfl⟩, ?_⟩ | refine ⟨⟨_, rfl, rfl⟩, ?_⟩ | refine ⟨⟨rfl, rfl⟩, ?_⟩ | refine ⟨⟨Nat.le_of_ble_eq_true rfl, Nat.le_of_ble_eq_true rfl⟩, ?_⟩ | refine ⟨Nat.le_of_ble_eq_true rfl, ?_⟩ | refine ⟨_, _, rfl, ?_⟩ | refine ⟨0, _, rfl, ?_⟩ | refine ⟨1, _, rfl, ?_⟩ | refine ⟨2, _, rfl, ?_⟩ | refine ⟨3, _, rfl, ?_⟩ | refine ⟨4, _, rfl, ?_⟩ | refine ⟨5, _, rfl, ?_⟩ | refine ⟨_, rfl, ?_⟩ | intro _)
    refine AW_weak (weak_of (l := [(2, .ptr q 0), (7, .sl 1 (W.map AV.str) .no)]) (m := []) (S' := .cells q [.sl 6 (p.decls.map encD) .no, .sl 4 (p.rules.map encRu) .no] :: R) ?_ rfl ?_) ?_
    · repeat (first | exact trivial | refine env_ ?_)
    · refine SW.le ?_
      repeat (first | exact SW.nil | refine sw_ ?_)
    repeat (first | refine go_ ?_ | intro _)
    refine AW_draw tab_ok mixed 11 (by first | rfl | kernel_rfl) ?_
    repeat (first | refine go_ ?_ | intro _)
    refine at_get (0) (AV.str w) (by first | rfl | omega | (rw [wrap_i64 (by omega)]; omega)) (by exact hg0) ?_
    repeat (first | refine go_ ?_ | intro _)
    apply call_step
    · rfl
    · exact Or.inl ⟨⟨_, Tryz.func67, rfl, rfl⟩, kf _⟩
    repeat (first | refine ga_ ?_ | intro _)
    refine AW_ret ?_
    refine ⟨_, R, AVle.tup (bs := [.int .i64 0, .sl 3 [] .no, .int .i64 (93)]) ⟨AVle.refl _, AVle.nil, AVle.refl _, trivial⟩, (by repeat (first | exact SLe.rfl | refine SLe.tail ?_)), ?_, rfl⟩
    rw [e]; rfl
  | some n =>
    obtain ⟨hn, _, _⟩ := List.findIdx?_eq_some_iff_getElem.1 hf
    obtain ⟨d, hd⟩ : ∃ d, d = p.decls[n] := ⟨_, rfl⟩
    have hgd : p.decls[n]? = some d := by rw [List.getElem?_eq_getElem hn, hd]
    have hg1 : (p.decls.map encD)[n]? = some (encD d) := by rw [List.getElem?_map, hgd]; rfl
    have hdt := hD d (hd ▸ List.getElem_mem hn)
    have e := rowL_some (p := p) (s := s) (by rw [hhd]; exact hf) hgd
    rw [← hW] at e
    rw [findAV, hf] at kf
    refine ACall_body tab_ok Tryz.func32 rfl rfl rfl (by kernel_rfl) (Nat.le_of_ble_eq_true rfl) ?_
    repeat (first | refine go_ ?_ | intro _)
    rename_i q
    refine Or.inl ⟨⟨_, Tryz.func31, rfl, rfl⟩, ACall.mono ?_ (ksp _)⟩
    rintro _ S1 ⟨rfl, hS1⟩
    subst S1
    repeat (first | refine det_step rfl ?_ | refine ⟨rfl, ?_⟩ | refine ⟨⟨_, rfl⟩, ?_⟩ | refine ⟨⟨_, rfl, rfl⟩, ?_⟩ | refine ⟨⟨rfl, rfl⟩, ?_⟩ | refine ⟨⟨Nat.le_of_ble_eq_true rfl, Nat.le_of_ble_eq_true rfl⟩, ?_⟩ | refine ⟨Nat.le_of_ble_eq_true rfl, ?_⟩ | refine ⟨_, _, rfl, ?_⟩ | refine ⟨0, _, rfl, ?_⟩ | refine ⟨1, _, rfl, ?_⟩ | refine ⟨2, _, rfl, ?_⟩ | refine ⟨3, _, rfl, ?_⟩ | refine ⟨4, _, rfl, ?_⟩ | refine ⟨5, _, rfl, ?_⟩ | refine ⟨_, rfl, ?_⟩ | intro _)
    refine AW_weak (weak_of (l := [(2, .ptr q 0), (7, .sl 1 (W.map AV.str) .no)]) (m := []) (S' := .cells q [.sl 6 (p.decls.map encD) .no, .sl 4 (p.rules.map encRu) .no] :: R) ?_ rfl ?_) ?_
    · repeat (first | exact trivial | refine env_ ?_)
    · refine SW.le ?_
      repeat (first | exact SW.nil | refine sw_ ?_)
    repeat (first | refine go_ ?_ | intro _)
    refine AW_draw tab_ok mixed 11 (by first | rfl | kernel_rfl) ?_
    repeat (first | refine go_ ?_ | intro _)
    refine at_get (0) (AV.str w) (by first | rfl | omega | (rw [wrap_i64 (by omega)]; omega)) (by exact hg0) ?_
    repeat (first | refine go_ ?_ | intro _)
    apply call_step
    · rfl
    · exact Or.inl ⟨⟨_, Tryz.func67, rfl, rfl⟩, kf _⟩
    repeat (first | refine det_step rfl ?_ | refine ⟨rfl, ?_⟩ | refine ⟨⟨_, rfl⟩, ?_⟩ | refine ⟨⟨_, rfl, rfl⟩, ?_⟩ | refine ⟨⟨rfl, rfl⟩, ?_⟩ | refine ⟨⟨Nat.le_of_ble_eq_true rfl, Nat.le_of_ble_eq_true rfl⟩, ?_⟩ | refine ⟨Nat.le_of_ble_eq_true rfl, ?_⟩ | refine ⟨_, _, rfl, ?_⟩ | refine ⟨0, _, rfl, ?_⟩ | refine ⟨1, _, rfl, ?_⟩ | refine ⟨2, _, rfl, ?_⟩ | refine ⟨3, _, rfl, ?_⟩ | refine ⟨4, _, rfl, ?_⟩ | refine ⟨5, _, rfl, ?_⟩ | refine ⟨_, rfl, ?_⟩ | intro _)
    refine AW_weak (weak_of (l := [(2, .ptr q 0), (7, .sl 1 (W.map AV.str) .no), (8, .int .i64 (n : Nat)), (9, .bool true)]) (m := []) (S' := .cells q [.sl 6 (p.decls.map encD) .no, .sl 4 (p.rules.map encRu) .no] :: R) ?_ rfl ?_) ?_
    · repeat (first | exact trivial | refine env_ ?_)
    · refine SW.le ?_
      repeat (first | exact SW.nil | refine sw_ ?_)
    repeat (first | refine ga_ ?_ | intro _)
    refine at_get (n) (encD d) (by first | rfl | omega | (rw [wrap_i64 (by omega)]; omega)) (by exact hg1) ?_
    repeat (first | refine ga_ ?_ | intro _)
    by_cases hin : d.inp = true
    rotate_left
    · rw [if_neg hin] at e
      refine AW_true (b := !d.inp) rfl (by rw [show d.inp = false by simpa using hin]; rfl) ?_
      repeat (first | refine go_ ?_ | intro _)
      refine AW_ret ?_
      refine ⟨_, R, AVle.tup (bs := [.int .i64 0, .sl 3 [] .no, .int .i64 (93)]) ⟨AVle.refl _, AVle.nil, AVle.refl _, trivial⟩, (by repeat (first | exact SLe.rfl | refine SLe.tail ?_)), ?_, rfl⟩
      rw [e]; rfl
    rw [if_pos hin] at e
    refine AW_false (b := !d.inp) rfl (by rw [hin]; rfl) ?_
    repeat (first | refine go_ ?_ | intro _)
    refine at_get (n) (encD d) (by first | rfl | omega | (rw [wrap_i64 (by omega)]; omega)) (by exact hg1) ?_
    repeat (first | refine go_ ?_ | intro _)
    have hwr : IntKind.i64.wrap (((W.map AV.str).length : Nat) - 1 : Int) = ((W.length : Nat) : Int) - 1 := by rw [List.length_map, wrap_i64 (by omega)]
    by_cases hlen : W.length = d.types.length + 1
    rotate_left
    · rw [if_neg hlen] at e
      refine AW_true (b := !decide (IntKind.i64.wrap (((W.map AV.str).length : Nat) - 1 : Int) = ((d.types.map encI).length : Nat))) rfl (by rw [hwr, List.length_map, decide_eq_false (by omega)]; rfl) ?_
      repeat (first | refine go_ ?_ | intro _)
      refine AW_ret ?_
      refine ⟨_, R, AVle.tup (bs := [.int .i64 0, .sl 3 [] .no, .int .i64 (94)]) ⟨AVle.refl _, AVle.nil, AVle.refl _, trivial⟩, (by repeat (first | exact SLe.rfl | refine SLe.tail ?_)), ?_, rfl⟩
      rw [e]; rfl
    rw [if_pos hlen] at e
    refine AW_false (b := !decide (IntKind.i64.wrap (((W.map AV.str).length : Nat) - 1 : Int) = ((d.types.map encI).length : Nat))) rfl (by rw [hwr, List.length_map, decide_eq_true (by omega)]; rfl) ?_
    refine AW_weak (weak_of (l := [(2, .ptr q 0), (7, .sl 1 (W.map AV.str) .no), (8, .int .i64 (n : Nat))]) (m := []) (S' := .cells q [.sl 6 (p.decls.map encD) .no, .sl 4 (p.rules.map encRu) .no] :: R) ?_ rfl ?_) ?_
    · repeat (first | exact trivial | refine env_ ?_)
    · refine SW.le ?_
      repeat (first | exact SW.nil | refine sw_ ?_)
    repeat (first | refine go_ ?_ | intro _)
    obtain ⟨F, hF⟩ : ∃ F, F = W.drop 1 := ⟨_, rfl⟩
    rw [← hF] at e
    have hFl : F.length = d.types.length := by rw [hF, List.length_drop]; omega
    have hea : addV [] (valsL F d.types) = valsL F d.types := addV_nil _ (valsL_err F d.types)
    refine AW_for (α := Nat × List V × Tk) (fun z => ⟨[(2, .ptr q 0), (7, .sl 1 (W.map AV.str) .no), (8, .int .i64 (n : Nat)), (10, .sl 3 (z.2.1.map encV) z.2.2), (11, .int .i64 (z.1 : Nat))], []⟩) (fun z => .grow z.2.2 :: .cells q [.sl 6 (p.decls.map encD) .no, .sl 4 (p.rules.map encRu) .no] :: R) (fun z => d.types.length - z.1) (fun z => z.1 ≤ d.types.length ∧ z.2.1.length = z.1 ∧ valsL F d.types = addV z.2.1 (valsL (F.drop z.1) (d.types.drop z.1))) ((0, [], .full)) ?_ (weak_of ?_ rfl ?_) (fun z hz => ?_)
    · exact ⟨Nat.zero_le _, rfl, hea.symm⟩
    · repeat (first | exact trivial | refine env_ ?_)
    · exact SLe.full SLe.rfl
    obtain ⟨z, o, tk⟩ := z
    obtain ⟨i1, i2, i3⟩ : z ≤ d.types.length ∧ o.length = z ∧ valsL F d.types = addV o (valsL (F.drop z) (d.types.drop z)) := hz
    show AW _ _ _ _ ⟨[(2, .ptr q 0), (7, .sl 1 (W.map AV.str) .no), (8, .int .i64 (n : Nat)), (10, .sl 3 (o.map encV) tk), (11, .int .i64 (z : Nat))], []⟩ (.grow tk :: .cells q [.sl 6 (p.decls.map encD) .no, .sl 4 (p.rules.map encRu) .no] :: R) _
    repeat (first | refine go_ ?_ | intro _)
    refine at_get (n) (encD d) (by first | rfl | omega | (rw [wrap_i64 (by omega)]; omega)) (by exact hg1) ?_
    repeat (first | refine go_ ?_ | intro _)
    refine AW_iff (z < d.types.length) rfl (by rw [decide_eq_true_eq, List.length_map]; omega) (fun h => ?_) (fun h => ?_)
    · have hlt := h
      obtain ⟨kd, hkd⟩ : ∃ k, k = d.types[z] := ⟨_, rfl⟩
      have hgk : (d.types.map encI)[z]? = some (encI kd) := by rw [List.getElem?_map, List.getElem?_eq_getElem hlt, hkd]; rfl
      obtain ⟨x, hx⟩ : ∃ x, x = F[z]'(by omega) := ⟨_, rfl⟩
      have hxW : x = W[z + 1]'(by omega) := by
        subst hF
        rw [hx, List.getElem_drop]; congr 1; omega
      have hxl : x.length ≤ s.length := hpt x (hxW ▸ List.getElem_mem _)
      have hgx : (W.map AV.str)[z + 1]? = some (.str x) := by rw [hgW (z + 1) (by omega), hxW]
      obtain ⟨d1, d2⟩ := valsL_drop (ss := F) (ks := d.types) (i := z) (by omega) hlt
      rw [d1, d2, ← hx, ← hkd, addV_step] at i3
      have kv := fun R => refValue_ok x kd R (by omega)
      refine AW_weak (weak_of (l := [(2, .ptr q 0), (7, .sl 1 (W.map AV.str) .no), (8, .int .i64 (n : Nat)), (10, .sl 3 (o.map encV) tk), (11, .int .i64 (z : Nat))]) (m := []) (S' := .grow tk :: .cells q [.sl 6 (p.decls.map encD) .no, .sl 4 (p.rules.map encRu) .no] :: R) ?_ rfl ?_) ?_
      · repeat (first | exact trivial | refine env_ ?_)
      · refine SW.le ?_
        repeat (first | exact SW.nil | refine sw_ ?_)
      repeat (first | refine go_ ?_ | intro _)
      refine AW_drawA tab_ok mixed 18 [17] (by first | rfl | kernel_rfl) rfl ?_
      repeat (first | refine det_stepX rfl ?_ | refine go_ ?_ | intro _)
      refine at_get (z + 1) (AV.str x) (by first | rfl | omega | (rw [wrap_i64 (by omega)]; omega)) (by exact hgx) ?_
      repeat (first | refine det_stepX rfl ?_ | refine go_ ?_ | intro _)
      refine at_get (n) (encD d) (by first | rfl | omega | (rw [wrap_i64 (by omega)]; omega)) (by exact hg1) ?_
      repeat (first | refine det_stepX rfl ?_ | refine go_ ?_ | intro _)
      refine at_get (z) (encI kd) (by first | rfl | omega | (rw [wrap_i64 (by omega)]; omega)) (by exact hgk) ?_
      repeat (first | refine det_stepX rfl ?_ | refine go_ ?_ | intro _)
      apply call_stepX
      · rfl
      · exact fun X => Or.inl ⟨⟨_, Tryz.func68, rfl, rfl⟩, kv _⟩
      repeat (first | refine det_stepX rfl ?_ | refine go_ ?_ | intro _)
      rename_i b13
      refine ⟨perm_new, ?_⟩
      repeat (first | refine go_ ?_ | intro _)
      by_cases hv : (valL x kd).2 = 0
      · rw [if_pos hv] at i3
        refine AW_false (b := !decide ((valL x kd).2 = 0)) rfl (by rw [hv]; rfl) ?_
        repeat (first | refine go_ ?_ | intro _)
        refine ⟨room (by first | omega | (simp; done) | (simp; omega) | (simp at *; done) | (simp at *; omega)) rfl, .inl rfl, .inr (.inl ⟨rfl, 1, rfl, (o ++ [(valL x kd).1]).map encV, (by rw [List.map_append]; rfl), fun t1 => ?_⟩)⟩
        repeat (first | refine go_ ?_ | intro _)
        refine ⟨((z + 1, o ++ [(valL x kd).1], t1) : Nat × List V × Tk), ?_, ?_, weak_of ?_ rfl ?_⟩
        · show d.types.length - (z + 1) < d.types.length - z; omega
        · exact ⟨hlt, by show (o ++ _).length = z + 1; simp; omega, i3⟩
        · repeat (first | exact trivial | refine env_ ?_)
        · repeat (first | exact SLe.rfl | refine SLe.tail ?_ | refine SLe.full ?_)
      · rw [if_neg hv] at i3
        have e2 : rowL p s = (0, [], (valL x kd).2) := by rw [e, i3, if_neg hv]
        refine AW_true (b := !decide ((valL x kd).2 = 0)) rfl (by rw [decide_eq_false hv]; rfl) ?_
        repeat (first | refine go_ ?_ | intro _)
        refine AW_ret ?_
        refine ⟨_, R, AVle.tup (bs := [.int .i64 0, .sl 3 [] .no, .int .i64 ((valL x kd).2)]) ⟨AVle.refl _, AVle.nil, AVle.refl _, trivial⟩, (by repeat (first | exact SLe.rfl | refine SLe.tail ?_)), ?_, rfl⟩
        rw [e2]; rfl
    · have hz : z = d.types.length := by omega
      rw [List.drop_of_length_le (by omega), List.drop_of_length_le (by omega), addV_end] at i3
      have e2 : rowL p s = (n, o, 0) := by rw [e, i3, if_pos rfl]
      repeat (first | refine go_ ?_ | intro _)
      refine AW_ret ?_
      refine ⟨_, R, AVle.tup (bs := [.int .i64 (n : Nat), .sl 3 (o.map encV) .no, .int .i64 0]) ⟨AVle.refl _, AVle.tk, AVle.refl _, trivial⟩, (by repeat (first | exact SLe.rfl | refine SLe.tail ?_)), ?_, rfl⟩
      rw [e2]; rfl
end Go.Proofs.YtgkjbpnmeeibbaaGreatDoor
/-
  The lines of a stream: the generator. Own work.
-/
namespace Go.Proofs.YtgkjbpnmeeibbaaGreatDoor
open Go.Aw Go.RowKit Tree
set_option maxHeartbeats 4000000
set_option maxRecDepth 4000
open Rel (V encV encR)

def lastL : List (List UInt8) → List (List UInt8 × Bool)
  | [] => []
  | [l] => if l = [] then [] else [(l, false)]
  | l :: m :: r => (l, true) :: lastL (m :: r)
/-- the lines; false: one that no end follows -/
def linesL (s : List UInt8) : List (List UInt8 × Bool) := lastL (splitC 10 s)
theorem linesL_nil : linesL [] = [] := rfl
theorem linesL_no {s : List UInt8} (h : (10 : UInt8) ∉ s) (hs : s ≠ []) : linesL s = [(s, false)] := by rw [linesL, splitC_no h, lastL, if_neg hs]
theorem linesL_at {w r : List UInt8} (h : (10 : UInt8) ∉ w) : linesL (w ++ 10 :: r) = (w, true) :: linesL r := by
  rw [linesL, linesL, splitC_at r h]
  cases hs : splitC 10 r with
  | nil => exact absurd hs (splitC_ne 10 r)
  | cons m l => rfl
def lineAV (x : List UInt8 × Bool) : List AV := [.str x.1, .bool x.2]
theorem drop_headL {α : Type} {l r : List α} {x : α} {i : Nat} (h : l.drop i = x :: r) : l[i]? = some x ∧ l.drop (i + 1) = r ∧ i < l.length := by
  have hi : i < l.length := by
    by_cases hc : i < l.length
    · exact hc
    · rw [List.drop_eq_nil_of_le (by omega)] at h; cases h
  rw [← List.getElem_cons_drop hi] at h
  cases h
  exact ⟨List.getElem?_eq_getElem hi, rfl, hi⟩
theorem lines_gen (s : List UInt8) (p : Nat) (hs : s.length ≤ 16777216) : AGen Tryz.prog (.fn (.func 83) [] [.ptr p 0]) [.cells p [.str s]] ((linesL s).map lineAV) := by
  intro l J Z Sc hY h0
  refine ⟨⟨_, Tryz.func83, rfl, rfl⟩, ?_⟩
  show ACall Tryz.prog 83 [.fn (.yield l) [] [], .ptr p 0] (.cells p [.str s] :: Sc) _
  refine ACall_body tab_ok Tryz.func83 rfl rfl rfl (by kernel_rfl) (Nat.le_of_ble_eq_true rfl) ?_
  repeat (first | refine go_ ?_ | intro _)
  refine AW_for (α := Nat × List UInt8 × List En) (fun z => ⟨[(0, .fn (.yield l) [] []), (1, .ptr p 0)], []⟩) (fun z => .cells p [.str z.2.1] :: z.2.2) (fun z => z.2.1.length) (fun z => (linesL s).drop z.1 = linesL z.2.1 ∧ z.1 ≤ (linesL s).length ∧ J z.1 z.2.2 ∧ z.2.1.length ≤ s.length) ((0, s, Sc)) ?_ (weak_of ?_ rfl ?_) (fun z hz => ?_)
  · exact ⟨rfl, Nat.zero_le _, h0, Nat.le_refl _⟩
  · repeat (first | exact trivial | refine env_ ?_)
  · repeat (first | exact SLe.rfl | refine SLe.tail ?_ | refine SLe.full ?_)
  obtain ⟨i, t, Sc'⟩ := z
  obtain ⟨h1, h2, h3, h4⟩ : (linesL s).drop i = linesL t ∧ i ≤ (linesL s).length ∧ J i Sc' ∧ t.length ≤ s.length := hz
  show AW _ _ _ _ ⟨[(0, .fn (.yield l) [] []), (1, .ptr p 0)], []⟩ (.cells p [.str t] :: Sc') _
  repeat (first | refine go_ ?_ | intro _)
  by_cases ht : t = []
  · subst ht
    have hi : i = (linesL s).length := by
      have := congrArg List.length h1
      rw [linesL_nil] at this; simp at this; omega
    refine AW_false (b := !decide (([] : List UInt8) = [])) rfl (by rfl) ?_
    repeat (first | refine go_ ?_ | intro _)
    refine ⟨.tup [], Sc', AVle.refl _, fun w0 K w h => h.sub (List.sublist_append_right [_] Sc'), Sc', SLe.rfl, .inl ?_⟩
    rw [List.length_map, ← hi]; exact h3
  refine AW_true (b := !decide (t = [])) rfl (by rw [decide_eq_false ht]; rfl) ?_
  rcases byte_at 10 t with hc | ⟨w, r, hw, hc⟩
  · rw [linesL_no hc ht] at h1
    obtain ⟨g1, g2, g3⟩ := drop_headL h1
    have he : (linesL s).length = i + 1 := by
      have := congrArg List.length g2
      simp at this; omega
    have kc := fun R => strCut_ok t 10 R (by omega)
    rw [cutAV_no hc] at kc
    repeat (first | refine go_ ?_ | intro _)
    refine Or.inl ⟨⟨_, Tryz.func84, rfl, rfl⟩, ACall.mono ?_ (kc _)⟩
    rintro _ S1 ⟨rfl, hS1⟩
    subst S1
    repeat (first | refine go_ ?_ | intro _)
    refine AYield.mono ?_ (AYield_args (hY [.cells p [.str t]] i (lineAV (t, false)) Sc' (by rw [List.getElem?_map, g1]; rfl) h3) ⟨AVle.refl _, AVle.refl _, trivial⟩)
    rintro _ S1 ⟨w, Sc1, rfl, rfl, hj, hz⟩
    cases w with
    | false =>
      repeat (first | refine ga_ ?_ | intro _)
      refine AW_ret ?_
      refine ⟨.tup [], Sc1, AVle.refl _, fun w0 K w h => h.sub (List.sublist_append_right [_] Sc1), Sc1, SLe.rfl, .inr (hz rfl)⟩
    | true =>
      repeat (first | refine ga_ ?_ | intro _)
      refine ⟨((i + 1, [], Sc1) : Nat × List UInt8 × List En), ?_, ?_, weak_of ?_ rfl ?_⟩
      · show 0 < t.length; exact List.length_pos_iff.2 ht
      · exact ⟨by rw [g2]; rfl, by show i + 1 ≤ _; omega, hj rfl, Nat.zero_le _⟩
      · repeat (first | exact trivial | refine env_ ?_)
      · repeat (first | exact SLe.rfl | refine SLe.tail ?_ | refine SLe.full ?_)
  · subst hw
    rw [linesL_at hc] at h1
    obtain ⟨g1, g2, g3⟩ := drop_headL h1
    have kc := fun R => strCut_ok (w ++ 10 :: r) 10 R (by omega)
    rw [cutAV_at hc] at kc
    simp only [List.length_append, List.length_cons] at h4
    repeat (first | refine go_ ?_ | intro _)
    refine Or.inl ⟨⟨_, Tryz.func84, rfl, rfl⟩, ACall.mono ?_ (kc _)⟩
    rintro _ S1 ⟨rfl, hS1⟩
    subst S1
    repeat (first | refine go_ ?_ | intro _)
    refine AYield.mono ?_ (AYield_args (hY [.cells p [.str (w ++ 10 :: r)]] i (lineAV (w, true)) Sc' (by rw [List.getElem?_map, g1]; rfl) h3) ⟨AVle.refl _, AVle.refl _, trivial⟩)
    rintro _ S1 ⟨w', Sc1, rfl, rfl, hj, hz⟩
    cases w' with
    | false =>
      repeat (first | refine ga_ ?_ | intro _)
      refine AW_ret ?_
      refine ⟨.tup [], Sc1, AVle.refl _, fun w0 K w h => h.sub (List.sublist_append_right [_] Sc1), Sc1, SLe.rfl, .inr (hz rfl)⟩
    | true =>
      repeat (first | refine ga_ ?_ | intro _)
      refine ⟨((i + 1, r, Sc1) : Nat × List UInt8 × List En), ?_, ?_, weak_of ?_ rfl ?_⟩
      · show r.length < (w ++ 10 :: r).length; simp; omega
      · exact ⟨g2, by show i + 1 ≤ _; omega, hj rfl, by show r.length ≤ s.length; omega⟩
      · repeat (first | exact trivial | refine env_ ?_)
      · repeat (first | exact SLe.rfl | refine SLe.tail ?_ | refine SLe.full ?_)
theorem lines_ok (s : List UInt8) (R : List En) : ACall Tryz.prog 52 [.str s] R (fun r S => ∃ p, r = .fn (.func 83) [] [.ptr p 0] ∧ S = .cells p [.str s] :: R) := by
  refine ACall_body tab_ok Tryz.func52 rfl rfl rfl (by kernel_rfl) (Nat.le_of_ble_eq_true rfl) ?_
  repeat (first | refine go_ ?_ | intro _)
  refine AW_ret ?_
  repeat (first | refine ⟨0, rfl, ?_⟩ | refine ⟨1, rfl, ?_⟩ | refine ⟨2, rfl, ?_⟩ | refine ⟨3, rfl, ?_⟩ | refine ⟨4, rfl, ?_⟩ | refine ⟨5, rfl, ?_⟩ | refine ⟨6, rfl, ?_⟩)
  refine ⟨_, _, AVle.refl _, SLe.rfl, ?_⟩
  exact ⟨_, rfl, rfl⟩
end Go.Proofs.YtgkjbpnmeeibbaaGreatDoor
/-
  Rows of relations, as they are read: plain. Own work.
-/
namespace Go.Proofs.YtgkjbpnmeeibbaaGreatDoor
open Go.Aw Go.RowKit Tree
open Rel (V encV encR)

theorem rowL_at {p : Pr} {s : List UInt8} (h : (rowL p s).2.2 = 0) : (rowL p s).1 < p.decls.length := by
  cases hf : p.decls.findIdx? (namedB ((splitC 9 s).headD [])) with
  | none => rw [rowL_none hf] at h; simp at h
  | some n =>
    obtain ⟨hn, _, _⟩ := List.findIdx?_eq_some_iff_getElem.1 hf
    have hd : p.decls[n]? = some p.decls[n] := List.getElem?_eq_getElem hn
    rw [rowL_some hf hd] at h ⊢
    split at h
    · split at h
      · split at h
        · rename_i h1 h2 h3
          rw [if_pos h1, if_pos h2, if_pos h3]; exact hn
        · rename_i h1 h2 h3
          exact absurd h h3
      · simp at h
    · simp at h
/-- a line's fault -/
def codeX (p : Pr) (x : List UInt8 × Bool) : Int := if x.2 = true then (rowL p x.1).2.2 else 92
abbrev Rows := List (List (List V))
def putX (o : Rows) (i : Nat) (t : List V) : Rows := o.set i ((o[i]?.getD []) ++ [t])
theorem putX_len (o : Rows) (i : Nat) (t : List V) : (putX o i t).length = o.length := by simp [putX]
def addX (p : Pr) (o : Rows) (x : List UInt8 × Bool) : Rows := putX o (rowL p x.1).1 (rowL p x.1).2.1
def outX (p : Pr) (xs : List (List UInt8 × Bool)) : Rows := xs.foldl (addX p) (List.replicate p.decls.length [])
theorem outX_snoc (p : Pr) (xs : List (List UInt8 × Bool)) (x : List UInt8 × Bool) : outX p (xs ++ [x]) = addX p (outX p xs) x := by simp [outX]
theorem outX_len (p : Pr) (xs : List (List UInt8 × Bool)) : (outX p xs).length = p.decls.length := by
  unfold outX
  generalize ho : List.replicate p.decls.length ([] : List (List V)) = o
  have : o.length = p.decls.length := by rw [← ho]; simp
  clear ho
  induction xs generalizing o with
  | nil => exact this
  | cons x xs ih => exact ih _ (by rw [addX, putX_len]; exact this)
/-- what a stream's reading gives ahead of sorting -/
def readX (p : Pr) (s : List UInt8) : Rows × Int × Int := match (linesL s).findIdx? (fun x => !decide (codeX p x = 0)) with
  | some i => ([], ((i + 1 : Nat) : Int), codeX p ((linesL s)[i]?.getD ([], false)))
  | none => (outX p (linesL s), 0, 0)

/-! ### the slices of slices -/
def rowsAV : Rows → List Tk → List AV
  | r :: rs, t :: ts => .sl 1 (r.map encR) t :: rowsAV rs ts
  | _, _ => []
theorem rowsAV_len : ∀ {o : Rows} {ts : List Tk}, ts.length = o.length → (rowsAV o ts).length = o.length
  | [], [], _ => rfl
  | [], _ :: _, h => by simp at h
  | _ :: _, [], h => by simp at h
  | _ :: o, _ :: ts, h => by simp only [rowsAV, List.length_cons]; rw [rowsAV_len (by simpa using h)]
theorem rowsAV_get : ∀ {o : Rows} {ts : List Tk} {i : Nat} {r : List (List V)} {t : Tk}, o[i]? = some r → ts[i]? = some t → (rowsAV o ts)[i]? = some (.sl 1 (r.map encR) t)
  | [], _, i, _, _, h, _ => by simp at h
  | _ :: _, [], i, _, _, _, h => by simp at h
  | a :: o, b :: ts, 0, r, t, h1, h2 => by simp at h1 h2; subst h1; subst h2; rfl
  | a :: o, b :: ts, i + 1, r, t, h1, h2 => by simp only [rowsAV, List.getElem?_cons_succ]; exact rowsAV_get (by simpa using h1) (by simpa using h2)
theorem rowsAV_set : ∀ {o : Rows} {ts : List Tk} {i : Nat} {r : List (List V)} {t : Tk}, ts.length = o.length → (rowsAV o ts).set i (.sl 1 (r.map encR) t) = rowsAV (o.set i r) (ts.set i t)
  | [], [], i, _, _, _ => by simp [rowsAV]
  | [], _ :: _, i, _, _, h => by simp at h
  | _ :: _, [], i, _, _, h => by simp at h
  | a :: o, b :: ts, 0, r, t, _ => rfl
  | a :: o, b :: ts, i + 1, r, t, h => by simp only [rowsAV, List.set_cons_succ]; rw [rowsAV_set (by simpa using h)]
theorem setCells_one {l : List AV} {i : Nat} {v : AV} (hi : i < l.length) : setCells l i [v] = l.set i v := by
  unfold setCells
  rw [List.set_eq_take_append_cons_drop, if_pos hi]; simp
theorem grows_get {ts : List Tk} {i : Nat} {t : Tk} {R : List En} (h : ts[i]? = some t) : (ts.map En.grow ++ R)[i]? = some (.grow t) := by
  have hi := (List.getElem?_eq_some_iff.1 h).1
  rw [List.getElem?_append_left (by simpa using hi), List.getElem?_map, h]; rfl
theorem grows_set {ts : List Tk} {i : Nat} {t : Tk} {R : List En} (hi : i < ts.length) : (ts.map En.grow ++ R).set i (.grow t) = (ts.set i t).map En.grow ++ R := by
  rw [List.set_append_left _ _ (by simpa using hi), List.map_set]
theorem zerosAV_rep (z : AV) (n : Nat) : zerosAV [z] n = List.replicate n z := by
  unfold zerosAV
  apply List.ext_getElem
  · simp
  · intro i h1 h2
    simp [Nat.mod_one]
theorem rows_rep : ∀ n : Nat, AVleL (List.replicate n (.sl 0 [] .full)) (rowsAV (List.replicate n []) (List.replicate n .full))
  | 0 => trivial
  | n + 1 => ⟨AVle.nilFull, rows_rep n⟩
theorem rows_start (n : Nat) : AVleL (zerosAV [.sl 0 [] .full] n) (rowsAV (List.replicate n []) (List.replicate n .full)) := by
  rw [zerosAV_rep]; exact rows_rep n
theorem rows_one : ∀ (o : Rows) (ts : List Tk), (rowsAV o ts).all AV.one = true
  | [], _ => rfl
  | _ :: _, [] => rfl
  | a :: o, b :: ts => by simp only [rowsAV, List.all_cons, rows_one o ts]; rfl
theorem SLe.fulls : ∀ (n : Nat) (S : List En), SLe S ((List.replicate n Tk.full).map En.grow ++ S)
  | 0, _ => SLe.rfl
  | n + 1, S => SLe.full (SLe.fulls n S)
end Go.Proofs.YtgkjbpnmeeibbaaGreatDoor
