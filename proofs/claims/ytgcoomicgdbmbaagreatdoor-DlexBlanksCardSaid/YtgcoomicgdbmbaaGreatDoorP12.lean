/-
  Lex, the book's. Own work.
-/
import Derived.Test.YtgcoomicgdbmbaaGreatDoorP11
import Derived.Test.YtgcoomicgdbmbaaGreatDoorP9
set_option linter.all false
namespace Go.Proofs.YtgcoomicgdbmbaaGreatDoor
open Go.Aw Go.RowKit
set_option maxHeartbeats 4000000

theorem cnt_zero {l : List UInt8} (h : (10 : UInt8) ∉ l) : cnt l = 0 := by
  rw [cnt, List.countP_eq_zero]
  intro c hc
  rw [decide_eq_true_eq]
  intro e
  exact h ((UInt8.toNat_inj.1 e : c = 10) ▸ hc)
theorem tw_nomem {p : UInt8 → Bool} (hp : p 10 = false) (l : List UInt8) : (10 : UInt8) ∉ l.takeWhile p := by
  intro h
  have := List.all_eq_true.1 (List.all_takeWhile (p := p) (l := l)) _ h
  rw [hp] at this; cases this
theorem oneT_cnt {s w r : List UInt8} {k : Nat} (h : oneT s = some (k, w, r)) : cnt r = cnt s := by
  have hz : cnt (txt k w) = 0 := by
    obtain ⟨c, l, rfl, _, _, _, h3⟩ := oneT_cases h
    rcases h3 with ⟨_, rfl, rfl, _⟩ | ⟨_, _, rfl, rfl, _⟩ | ⟨_, rfl, _⟩ | ⟨_, rfl, rfl, _, _, h4⟩ | ⟨_, _, _, _, rfl, h1, rfl, _⟩
    · exact cnt_zero (tw_nomem (by decide) _)
    · exact cnt_zero (tw_nomem (by decide) _)
    · rw [txt, if_pos rfl]
      refine cnt_zero ?_
      rw [quoteL]
      intro hm
      rcases List.mem_append.1 hm with hm | hm
      · rcases List.mem_cons.1 hm with hm | hm
        · revert hm; decide
        · exact flat_nl w (List.mem_append_left _ hm)
      · revert hm; decide
    · rw [txt, if_neg (by decide)]
      rcases h4 with h4 | h4 | h4 <;> rw [h4] <;> decide
    · rw [txt, if_neg (by decide)]
      unfold signN at h1 ⊢
      split
      · rename_i h2
        rw [twoS_in, decide_eq_true_eq] at h2
        have : ∀ x ∈ twos, cnt x = 0 := by decide
        exact this _ h2
      · rename_i h2
        rw [if_neg h2] at h1
        by_cases hs : c ∈ signs
        · rw [if_pos hs]
          have : ∀ x ∈ signs, cnt [x] = 0 := by decide
          exact this _ hs
        · rw [if_neg hs] at h1; exact absurd rfl h1
  rw [oneT_txt h, cnt_app, hz]; omega
theorem suf_drop {s t : List UInt8} (h : t <:+ s) : s.drop (s.length - t.length) = t := by
  obtain ⟨x, rfl⟩ := h
  rw [List.length_append, Nat.add_sub_cancel, List.drop_left]
theorem lexS_end {s : List UInt8} {L : List (Nat × List UInt8 × Nat)} (h0 : ¬ 65536 < s.length) (h1 : (rawL (skipL s)).1 = L) (h2 : (rawL (skipL s)).2 = none) (h3 : L.length ≤ 20000) : lexS s = (L.map (tokL (cnt s)), 0, 0) := by
  rw [lexS, if_neg h0, h1, h2, List.getElem?_eq_none h3]
theorem lexS_bad {s : List UInt8} {L : List (Nat × List UInt8 × Nat)} {q : Nat} (h0 : ¬ 65536 < s.length) (h1 : (rawL (skipL s)).1 = L) (h2 : (rawL (skipL s)).2 = some q) (h3 : L.length ≤ 20000) : lexS s = ([], ((1 + cnt s - q : Nat) : Int), 20) := by
  rw [lexS, if_neg h0, h1, h2, List.getElem?_eq_none h3]
theorem lexS_long {s : List UInt8} {L M : List (Nat × List UInt8 × Nat)} {x : Nat × List UInt8 × Nat} (h0 : ¬ 65536 < s.length) (h1 : (rawL (skipL s)).1 = L ++ x :: M) (h3 : L.length = 20000) : lexS s = ([], ((1 + cnt s - x.2.2 : Nat) : Int), 21) := by
  rw [lexS, if_neg h0, h1, List.getElem?_append_right (by omega), h3]; rfl
theorem refLex_ok (s : List UInt8) (R : List En) (hE : ErrG R) (hs : s.length ≤ 16777214) : ACall Tryz.prog 12 [.str s] R (fun r S => r = lexAV (lexS s) ∧ S = R) := by
  have hcs := cnt_len s
  refine ACall_body tab_ok Tryz.func12 rfl rfl rfl (by kernel_rfl) (Nat.le_of_ble_eq_true rfl) ?_
  repeat (first | refine go_ ?_ | intro _)
  by_cases hlen : 65536 < s.length
  · refine AW_true (b := decide ((65536 : Int) < s.length)) rfl (by exact decide_eq_true (by omega)) ?_
    repeat (first | refine go_ ?_ | intro _)
    refine AW_ret ?_
    refine ⟨_, R, AVle.tup (bs := [.sl 3 [] .no, .int .i64 0, .int .i64 21]) ⟨AVle.nil, AVle.refl _, AVle.refl _, trivial⟩, (by repeat (first | exact SLe.rfl | refine SLe.tail ?_)), ?_, rfl⟩
    rw [lexS, if_pos hlen]; rfl
  refine AW_false (b := decide ((65536 : Int) < s.length)) rfl (by exact decide_eq_false (by omega)) ?_
  repeat (first | refine go_ ?_ | intro _)
  refine Or.inl ⟨⟨_, Tryz.func20, rfl, rfl⟩, ACall.mono ?_ (skipped_ok s 0 _ (by omega) (by omega))⟩
  rintro _ S1 ⟨rfl, hS1⟩
  subst S1
  repeat (first | refine go_ ?_ | intro _)
  have hsk := skipL_suf s
  have hskl := hsk.length_le
  have hskc := cnt_suf hsk
  have d0 : s.drop (s.length - (skipL s).length) = skipL s := suf_drop hsk
  have e0 : IntKind.i64.wrap (1 + ((cnt (s.drop 0) - cnt (skipL (s.drop 0)) : Nat) : Int)) = ((1 + cnt s - cnt (s.drop (s.length - (skipL s).length)) : Nat) : Int) := by
    rw [d0, List.drop_zero, wrap_i64 (by omega)]; omega
  refine AW_for (α := Nat × List (Nat × List UInt8 × Nat) × Tk) (fun z => ⟨[(0, .str s), (5, .sl 3 ((z.2.1.map (tokL (cnt s))).map encT) z.2.2), (6, .int .i64 ((1 + cnt s - cnt (s.drop z.1) : Nat) : Int)), (7, .int .i64 (z.1 : Nat))], []⟩) (fun z => .grow z.2.2 :: R) (fun z => s.length - z.1) (fun z => z.1 ≤ s.length ∧ (rawL (skipL s)).1 = z.2.1 ++ (rawL (s.drop z.1)).1 ∧ (rawL (skipL s)).2 = (rawL (s.drop z.1)).2 ∧ z.2.1.length ≤ 20000) ((s.length - (skipL s).length, [], .full)) ?_ (weak_of ?_ rfl ?_) (fun z hz => ?_)
  · refine ⟨by show s.length - _ ≤ _; omega, ?_, ?_, by simp⟩
    · show _ = [] ++ (rawL (s.drop (s.length - (skipL s).length))).1
      rw [d0]; rfl
    · show _ = (rawL (s.drop (s.length - (skipL s).length))).2
      rw [d0]
  · repeat (first | exact trivial | refine ⟨(AVle.eq (congrArg (AV.int .i64) e0)), ?_⟩ | refine ⟨AVle.refl _, ?_⟩ | refine ⟨AVle.tk, ?_⟩ | refine ⟨AVle.nil, ?_⟩ | refine ⟨AVle.nilFull, ?_⟩ | refine ⟨AVle.eq (congrArg (AV.int .i64) (by first | (simp; done) | (simp; omega) | (rw [wrap_i64 (by first | omega | (simp; omega))]; first | rfl | omega | (simp; done) | (simp; omega)))), ?_⟩)
  · repeat (first | exact SLe.rfl | refine SLe.tail ?_ | refine SLe.full ?_)
  obtain ⟨z, L, tk⟩ := z
  obtain ⟨i1, i2, i3, i4⟩ : z ≤ s.length ∧ (rawL (skipL s)).1 = L ++ (rawL (s.drop z)).1 ∧ (rawL (skipL s)).2 = (rawL (s.drop z)).2 ∧ L.length ≤ 20000 := hz
  show AW _ _ _ _ ⟨[(0, .str s), (5, .sl 3 ((L.map (tokL (cnt s))).map encT) tk), (6, .int .i64 ((1 + cnt s - cnt (s.drop z) : Nat) : Int)), (7, .int .i64 (z : Nat))], []⟩ (.grow tk :: R) _
  have hzc := cnt_suf (List.drop_suffix z s)
  repeat (first | refine go_ ?_ | intro _)
  refine AW_iff (z < s.length) rfl (by first | (simp; done) | (simp <;> omega) | decide) (fun h => ?_) (fun h => ?_)
  rotate_left
  · have hd : s.drop z = [] := List.drop_of_length_le (by omega)
    rw [hd, rawL_nil] at i2 i3
    simp only [List.append_nil] at i2
    repeat (first | refine go_ ?_ | intro _)
    refine AW_ret ?_
    refine ⟨_, R, AVle.tup (bs := [.sl 3 ((L.map (tokL (cnt s))).map encT) .no, .int .i64 0, .int .i64 0]) ⟨AVle.tk, AVle.refl _, AVle.refl _, trivial⟩, (by repeat (first | exact SLe.rfl | refine SLe.tail ?_)), ?_, rfl⟩
    rw [lexS_end hlen i2 i3 i4]; rfl
  have hlt := h
  obtain ⟨c, l, hd⟩ : ∃ c l, s.drop z = c :: l := ⟨_, _, drop_one hlt⟩
  repeat (first | refine go_ ?_ | intro _)
  refine Or.inl ⟨⟨_, Tryz.func21, rfl, rfl⟩, ACall.mono ?_ (one_tok_ok s z c l _ hE.cons hd hs)⟩
  rintro _ S1 ⟨rfl, hS1⟩
  subst S1
  cases hT : oneT (c :: l) with
  | none =>
    rw [hd, rawL_none (by simp) hT] at i2 i3
    simp only [List.append_nil] at i2
    repeat (first | refine go_ ?_ | intro _)
    refine AW_true (b := true) rfl (by first | rfl | (simp; done) | (simp; omega) | decide) ?_
    repeat (first | refine go_ ?_ | intro _)
    refine AW_ret ?_
    refine ⟨_, R, AVle.tup (bs := [.sl 3 [] .no, .int .i64 ((1 + cnt s - cnt (s.drop z) : Nat) : Int), .int .i64 20]) ⟨AVle.nil, AVle.refl _, AVle.refl _, trivial⟩, (by repeat (first | exact SLe.rfl | refine SLe.tail ?_)), ?_, rfl⟩
    rw [lexS_bad hlen i2 i3 i4, hd]; rfl
  | some q =>
    obtain ⟨k, w, r⟩ := q
    have hrl := oneT_len hT
    have hzl : (s.drop z).length = s.length - z := List.length_drop
    rw [hd] at hzl
    have hc := oneT_cnt hT
    rw [hd, rawL_some hT] at i2 i3
    simp only [] at i2 i3
    rw [← hd] at i2 hc
    have hr : r <:+ s := by
      have h1 : r <:+ c :: l := ⟨txt k w, (oneT_txt hT).symm⟩
      rw [← hd] at h1
      exact h1.trans (List.drop_suffix z s)
    have hdr := suf_drop hr
    have hrs := hr.length_le
    have hk2 := skipL_suf r
    have hk2l := hk2.length_le
    have hk2c := cnt_suf hk2
    have hd2 := suf_drop (hk2.trans hr)
    repeat (first | refine go_ ?_ | intro _)
    refine AW_false (b := decide (((s.length - r.length : Nat) : Int) = 0)) rfl (by exact decide_eq_false (by omega)) ?_
    repeat (first | refine go_ ?_ | intro _)
    refine AW_iff (L.length = 20000) rfl (by rw [decide_eq_true_eq]; simp; omega) (fun h => ?_) (fun h => ?_)
    · repeat (first | refine go_ ?_ | intro _)
      refine AW_ret ?_
      refine ⟨_, R, AVle.tup (bs := [.sl 3 [] .no, .int .i64 ((1 + cnt s - cnt (s.drop z) : Nat) : Int), .int .i64 21]) ⟨AVle.nil, AVle.refl _, AVle.refl _, trivial⟩, (by repeat (first | exact SLe.rfl | refine SLe.tail ?_)), ?_, rfl⟩
      rw [lexS_long hlen i2 h]; rfl
    have hL : L.length < 20000 := by omega
    have e3 : IntKind.i64.wrap (((1 + cnt s - cnt (s.drop z) : Nat) : Int) + ((cnt (s.drop (s.length - r.length)) - cnt (skipL (s.drop (s.length - r.length))) : Nat) : Int)) = ((1 + cnt s - cnt (s.drop (s.length - (skipL r).length)) : Nat) : Int) := by
      rw [hdr, hd2, wrap_i64 (by omega)]; omega
    have e4 : ((s.length - (skipL (s.drop (s.length - r.length))).length : Nat) : Int) = ((s.length - (skipL r).length : Nat) : Int) := by rw [hdr]
    repeat (first | refine go_ ?_ | intro _)
    refine ⟨room (by first | omega | (simp; done) | (simp; omega) | (simp at *; done) | (simp at *; omega)) rfl, .inl rfl, .inr (.inl ⟨rfl, 1, rfl, ((L ++ [(k, w, cnt (s.drop z))]).map (tokL (cnt s))).map encT, (by rw [List.map_append, List.map_append]; rfl), fun t1 => ?_⟩)⟩
    repeat (first | refine go_ ?_ | intro _)
    refine Or.inl ⟨⟨_, Tryz.func20, rfl, rfl⟩, ACall.mono ?_ (skipped_ok s (s.length - r.length) _ (by omega) hs)⟩
    rintro _ S1 ⟨rfl, hS1⟩
    subst S1
    repeat (first | refine go_ ?_ | intro _)
    refine ⟨((s.length - (skipL r).length, L ++ [(k, w, cnt (s.drop z))], t1) : Nat × List (Nat × List UInt8 × Nat) × Tk), ?_, ?_, weak_of ?_ rfl ?_⟩
    · show s.length - (s.length - (skipL r).length) < s.length - z; omega
    · refine ⟨by show s.length - _ ≤ _; omega, ?_, ?_, by show (L ++ _).length ≤ _; simp; omega⟩
      · show _ = (L ++ _) ++ (rawL (s.drop (s.length - (skipL r).length))).1
        rw [hd2, i2]; simp
      · show _ = (rawL (s.drop (s.length - (skipL r).length))).2
        rw [hd2, i3]
    · repeat (first | exact trivial | refine ⟨(AVle.eq (congrArg (AV.int .i64) e3)), ?_⟩ | refine ⟨(AVle.eq (congrArg (AV.int .i64) e4)), ?_⟩ | refine ⟨AVle.refl _, ?_⟩ | refine ⟨AVle.tk, ?_⟩ | refine ⟨AVle.nil, ?_⟩ | refine ⟨AVle.nilFull, ?_⟩ | refine ⟨AVle.eq (congrArg (AV.int .i64) (by first | (simp; done) | (simp; omega) | (rw [wrap_i64 (by first | omega | (simp; omega))]; first | rfl | omega | (simp; done) | (simp; omega)))), ?_⟩)
    · repeat (first | exact SLe.rfl | refine SLe.tail ?_ | refine SLe.full ?_)
end Go.Proofs.YtgcoomicgdbmbaaGreatDoor
/-
  Lists of tokens held against each other; what is shown. Own work.
-/
namespace Go.Proofs.YtgcoomicgdbmbaaGreatDoor
open Go.Aw Go.RowKit
set_option maxHeartbeats 4000000

theorem eqk_tok : EqK Tryz.prog 34 [.int .i64, .str, .int .i64] := ⟨⟨by kernel_rfl, by kernel_rfl, by kernel_rfl, by kernel_rfl⟩, by kernel_rfl⟩
theorem get_encT {l : List Tok} {z : Nat} (h : z < l.length) : (l.map encT)[z]? = some (encT l[z]) := by rw [List.getElem?_map, List.getElem?_eq_getElem h]; rfl
theorem sameT_ok (a : List Tok) (R : List En) (ha : a.length ≤ 16777216) : ACall Tryz.prog 13 [.sl 3 (a.map encT) .no, .sl 3 (a.map encT) .no] R (fun r S => r = .bool true ∧ S = R) := by
  refine ACall_body tab_ok Tryz.func13 rfl rfl rfl (by kernel_rfl) (Nat.le_of_ble_eq_true rfl) ?_
  repeat (first | refine go_ ?_ | intro _)
  refine AW_false (b := !decide (((a.map encT).length : Int) = ((a.map encT).length : Int))) rfl (by rw [decide_eq_true rfl]; rfl) ?_
  repeat (first | refine go_ ?_ | intro _)
  refine AW_for (α := Nat) (fun z => ⟨[(0, .sl 3 (a.map encT) .no), (1, .sl 3 (a.map encT) .no), (5, .int .i64 (z : Nat))], []⟩) (fun z => R) (fun z => a.length - z) (fun z => z ≤ a.length) (0) ?_ (weak_of ?_ rfl ?_) (fun z hz => ?_)
  · omega
  · repeat (first | exact trivial | refine ⟨AVle.refl _, ?_⟩ | refine ⟨AVle.tk, ?_⟩ | refine ⟨AVle.nil, ?_⟩ | refine ⟨AVle.nilFull, ?_⟩ | refine ⟨AVle.eq (congrArg (AV.int .i64) (by first | (simp; done) | (simp; omega) | (rw [wrap_i64 (by first | omega | (simp; omega))]; first | rfl | omega | (simp; done) | (simp; omega)))), ?_⟩)
  · repeat (first | exact SLe.rfl | refine SLe.tail ?_ | refine SLe.full ?_)
  repeat (first | refine go_ ?_ | intro _)
  refine AW_iff (z < a.length) rfl (by rw [decide_eq_true_eq, List.length_map]; omega) (fun h => ?_) (fun h => ?_)
  · have hlt := h
    obtain ⟨x, hx⟩ : ∃ x, x = a[z] := ⟨_, rfl⟩
    have hg := get_encT hlt
    rw [← hx] at hg
    repeat (first | refine go_ ?_ | intro _)
    refine AW_draw tab_ok mixed 9 (by first | rfl | kernel_rfl) ?_
    repeat (first | refine go_ ?_ | intro _)
    refine at_get (z) (encT x) (by first | rfl | omega | (rw [wrap_i64 (by omega)]; omega)) (by exact hg) ?_
    repeat (first | refine go_ ?_ | intro _)
    refine at_get (z) (encT x) (by first | rfl | omega | (rw [wrap_i64 (by omega)]; omega)) (by exact hg) ?_
    repeat (first | refine go_ ?_ | intro _)
    refine ⟨⟨_, eqk_tok, rfl⟩, true, congrArg some (by simp), ?_⟩
    repeat (first | refine go_ ?_ | intro _)
    refine AW_false (b := false) rfl (by first | rfl | (simp; done) | (simp; omega) | decide) ?_
    repeat (first | refine go_ ?_ | intro _)
    refine ⟨z + 1, ?_, ?_, weak_of ?_ rfl ?_⟩
    · omega
    · omega
    · repeat (first | exact trivial | refine ⟨AVle.refl _, ?_⟩ | refine ⟨AVle.tk, ?_⟩ | refine ⟨AVle.nil, ?_⟩ | refine ⟨AVle.nilFull, ?_⟩ | refine ⟨AVle.eq (congrArg (AV.int .i64) (by first | (simp; done) | (simp; omega) | (rw [wrap_i64 (by first | omega | (simp; omega))]; first | rfl | omega | (simp; done) | (simp; omega)))), ?_⟩)
    · repeat (first | exact SLe.rfl | refine SLe.tail ?_ | refine SLe.full ?_)
  · repeat (first | refine go_ ?_ | intro _)
    refine AW_ret ?_
    repeat (first | refine ⟨0, rfl, ?_⟩ | refine ⟨1, rfl, ?_⟩ | refine ⟨2, rfl, ?_⟩ | refine ⟨3, rfl, ?_⟩ | refine ⟨4, rfl, ?_⟩ | refine ⟨5, rfl, ?_⟩ | refine ⟨6, rfl, ?_⟩)
    refine ⟨_, R, AVle.eq ?_, (by repeat (first | exact SLe.rfl | refine SLe.tail ?_)), rfl, rfl⟩
    rfl
theorem alike_ok (a b : List Tok) (hl : a.length = b.length) (h : ∀ (i : Nat) (h1 : i < a.length) (h2 : i < b.length), a[i].kind = b[i].kind ∧ a[i].s = b[i].s) (R : List En) (ha : a.length ≤ 16777216) (tk tk' : Tk) : ACall Tryz.prog 14 [.sl 3 (a.map encT) tk, .sl 3 (b.map encT) tk'] R (fun r S => r = .bool true ∧ S = R) := by
  refine ACall_body tab_ok Tryz.func14 rfl rfl rfl (by kernel_rfl) (Nat.le_of_ble_eq_true rfl) ?_
  repeat (first | refine go_ ?_ | intro _)
  refine AW_false (b := !decide (((a.map encT).length : Int) = ((b.map encT).length : Int))) rfl (by rw [List.length_map, List.length_map, hl, decide_eq_true rfl]; rfl) ?_
  repeat (first | refine go_ ?_ | intro _)
  refine AW_for (α := Nat) (fun z => ⟨[(0, .sl 3 (a.map encT) tk), (1, .sl 3 (b.map encT) tk'), (5, .int .i64 (z : Nat))], []⟩) (fun z => R) (fun z => a.length - z) (fun z => z ≤ a.length) (0) ?_ (weak_of ?_ rfl ?_) (fun z hz => ?_)
  · omega
  · repeat (first | exact trivial | refine ⟨AVle.refl _, ?_⟩ | refine ⟨AVle.tk, ?_⟩ | refine ⟨AVle.nil, ?_⟩ | refine ⟨AVle.nilFull, ?_⟩ | refine ⟨AVle.eq (congrArg (AV.int .i64) (by first | (simp; done) | (simp; omega) | (rw [wrap_i64 (by first | omega | (simp; omega))]; first | rfl | omega | (simp; done) | (simp; omega)))), ?_⟩)
  · repeat (first | exact SLe.rfl | refine SLe.tail ?_ | refine SLe.full ?_)
  repeat (first | refine go_ ?_ | intro _)
  refine AW_iff (z < a.length) rfl (by rw [decide_eq_true_eq, List.length_map]; omega) (fun h' => ?_) (fun h' => ?_)
  · obtain ⟨x, hx⟩ : ∃ x, x = a[z] := ⟨_, rfl⟩
    obtain ⟨y, hy⟩ : ∃ x, x = b[z]'(by omega) := ⟨_, rfl⟩
    have hg := get_encT h'
    have hg2 := get_encT (l := b) (z := z) (by omega)
    obtain ⟨e1, e2⟩ := h z h' (by omega)
    rw [← hx, ← hy] at e1 e2
    rw [← hx] at hg
    rw [← hy] at hg2
    repeat (first | refine go_ ?_ | intro _)
    refine AW_draw tab_ok mixed 24 (by first | rfl | kernel_rfl) ?_
    repeat (first | refine go_ ?_ | intro _)
    refine at_get (z) (encT x) (by first | rfl | omega | (rw [wrap_i64 (by omega)]; omega)) (by exact hg) ?_
    repeat (first | refine go_ ?_ | intro _)
    refine at_get (z) (encT y) (by first | rfl | omega | (rw [wrap_i64 (by omega)]; omega)) (by exact hg2) ?_
    repeat (first | refine go_ ?_ | intro _)
    refine known_false (b := !decide (x.kind = y.kind)) (by rw [e1, decide_eq_true rfl]; rfl) ?_
    repeat (first | refine ga_ ?_ | intro _)
    refine at_get (z) (encT x) (by first | rfl | omega | (rw [wrap_i64 (by omega)]; omega)) (by exact hg) ?_
    repeat (first | refine ga_ ?_ | intro _)
    refine at_get (z) (encT y) (by first | rfl | omega | (rw [wrap_i64 (by omega)]; omega)) (by exact hg2) ?_
    repeat (first | refine ga_ ?_ | intro _)
    refine AW_false (b := !decide (x.s = y.s)) rfl (by rw [e2, decide_eq_true rfl]; rfl) ?_
    repeat (first | refine ga_ ?_ | intro _)
    refine ⟨z + 1, ?_, ?_, weak_of ?_ rfl ?_⟩
    · omega
    · omega
    · repeat (first | exact trivial | refine ⟨AVle.refl _, ?_⟩ | refine ⟨AVle.tk, ?_⟩ | refine ⟨AVle.nil, ?_⟩ | refine ⟨AVle.nilFull, ?_⟩ | refine ⟨AVle.eq (congrArg (AV.int .i64) (by first | (simp; done) | (simp; omega) | (rw [wrap_i64 (by first | omega | (simp; omega))]; first | rfl | omega | (simp; done) | (simp; omega)))), ?_⟩)
    · repeat (first | exact SLe.rfl | refine SLe.tail ?_ | refine SLe.full ?_)
  · repeat (first | refine go_ ?_ | intro _)
    refine AW_ret ?_
    repeat (first | refine ⟨0, rfl, ?_⟩ | refine ⟨1, rfl, ?_⟩ | refine ⟨2, rfl, ?_⟩ | refine ⟨3, rfl, ?_⟩ | refine ⟨4, rfl, ?_⟩ | refine ⟨5, rfl, ?_⟩ | refine ⟨6, rfl, ?_⟩)
    refine ⟨_, R, AVle.eq ?_, (by repeat (first | exact SLe.rfl | refine SLe.tail ?_)), rfl, rfl⟩
    rfl
end Go.Proofs.YtgcoomicgdbmbaaGreatDoor
/-
  What is shown; the tokens of a text. Own work.
-/
namespace Go.Proofs.YtgcoomicgdbmbaaGreatDoor
open Go.Aw Go.RowKit
set_option maxHeartbeats 4000000

theorem rawL_step {s w r t : List UInt8} {k : Nat} (h : oneT s = some (k, w, r)) (h2 : skipL r = t) : rawL s = ((k, w, cnt s) :: (rawL t).1, (rawL t).2) := by
  rw [rawL_some h, h2]
theorem skip_one {c d : UInt8} {r : List UInt8} (h : blankB c = true) (h2 : blankB d = false) (h3 : d.toNat ≠ 47) : skipL (c :: d :: r) = d :: r := by
  rw [skipL_blank h, skipL_stop h2 (fun x => h3 x.1)]
theorem skip_none {d : UInt8} {r : List UInt8} (h2 : blankB d = false) (h3 : d.toNat ≠ 47) : skipL (d :: r) = d :: r := skipL_stop h2 (fun x => h3 x.1)
def s1 : List UInt8 := [112, 40, 120, 41, 32, 58, 45, 32, 113, 40, 120, 41, 46, 32, 47, 47, 32, 99]
def s2 : List UInt8 := [10, 49, 97]
def l1 : List Tok := [⟨1, [112], 1⟩, ⟨4, [40], 1⟩, ⟨1, [120], 1⟩, ⟨4, [41], 1⟩, ⟨4, [58, 45], 1⟩, ⟨1, [113], 1⟩, ⟨4, [40], 1⟩, ⟨1, [120], 1⟩, ⟨4, [41], 1⟩, ⟨4, [46], 1⟩]
theorem raw1 : rawL s1 = ([(1, [112], 0), (4, [40], 0), (1, [120], 0), (4, [41], 0), (4, [58, 45], 0), (1, [113], 0), (4, [40], 0), (1, [120], 0), (4, [41], 0), (4, [46], 0)], none) := by
  unfold s1
  rw [rawL_step (k := 1) (w := [112]) (r := [40, 120, 41, 32, 58, 45, 32, 113, 40, 120, 41, 46, 32, 47, 47, 32, 99]) (by decide) (skip_none (by decide) (by decide))]
  rw [rawL_step (k := 4) (w := [40]) (r := [120, 41, 32, 58, 45, 32, 113, 40, 120, 41, 46, 32, 47, 47, 32, 99]) (by decide) (skip_none (by decide) (by decide))]
  rw [rawL_step (k := 1) (w := [120]) (r := [41, 32, 58, 45, 32, 113, 40, 120, 41, 46, 32, 47, 47, 32, 99]) (by decide) (skip_none (by decide) (by decide))]
  rw [rawL_step (k := 4) (w := [41]) (r := [32, 58, 45, 32, 113, 40, 120, 41, 46, 32, 47, 47, 32, 99]) (by decide) (skip_one (by decide) (by decide) (by decide))]
  rw [rawL_step (k := 4) (w := [58, 45]) (r := [32, 113, 40, 120, 41, 46, 32, 47, 47, 32, 99]) (by decide) (skip_one (by decide) (by decide) (by decide))]
  rw [rawL_step (k := 1) (w := [113]) (r := [40, 120, 41, 46, 32, 47, 47, 32, 99]) (by decide) (skip_none (by decide) (by decide))]
  rw [rawL_step (k := 4) (w := [40]) (r := [120, 41, 46, 32, 47, 47, 32, 99]) (by decide) (skip_none (by decide) (by decide))]
  rw [rawL_step (k := 1) (w := [120]) (r := [41, 46, 32, 47, 47, 32, 99]) (by decide) (skip_none (by decide) (by decide))]
  rw [rawL_step (k := 4) (w := [41]) (r := [46, 32, 47, 47, 32, 99]) (by decide) (skip_none (by decide) (by decide))]
  rw [rawL_step (k := 4) (w := [46]) (r := [32, 47, 47, 32, 99]) (t := []) (by decide) (by rw [skipL_blank (by decide), skipL_comm]; exact skipL_nil)]
  rw [rawL_nil]
  rfl
theorem lex1 : lexS s1 = (l1, 0, 0) := by
  rw [lexS, if_neg (by decide), show skipL s1 = s1 from skip_none (by decide) (by decide), raw1]
  rfl
theorem pn1a : (pnL [49, 97]).2 ≠ 0 := by
  intro h
  have := (pn_ok h).2
  obtain ⟨c, r, h1, _, h2⟩ := dd_cons (pnL [49, 97]).1.toNat
  have h3 := dd_dig (pnL [49, 97]).1.toNat
  have h4 : (97 : UInt8) ∈ Lib.itoa (pnL [49, 97]).1 := by rw [this]; simp
  rw [Lib.itoa] at h4
  split at h4
  · rcases List.mem_cons.1 h4 with h4 | h4
    · revert h4; decide
    · have := dd_dig _ _ h4
      revert this; decide
  · have := dd_dig _ _ h4
    revert this; decide
theorem lex2 : lexS s2 = ([], 2, 20) := by
  have h1 : skipL s2 = [49, 97] := by unfold s2; rw [skipL_blank (by decide)]; exact skip_none (by decide) (by decide)
  have h2 : oneT [49, 97] = none := by
    rw [oneT, if_neg (by decide), if_pos (by decide), if_neg (show ¬ (pnL (List.takeWhile wordB [49, 97])).2 = 0 from pn1a)]
  rw [lexS, if_neg (by decide), h1, rawL_none (by simp) h2]
  rfl
/-- what every law of this layer reads -/
def LexG (R : List En) : Prop := NumG R ∧ ErrG R ∧ AsG R
theorem LexG.cons {R : List En} (h : LexG R) {e : En} : LexG (e :: R) := ⟨h.1.cons, h.2.1.cons, .tail _ h.2.2⟩
theorem shown_ok (R : List En) (hG : LexG R) : ACall Tryz.prog 9 [] R (fun r S => r = .bool true ∧ S = R) := by
  have k1 := lex_ok s1 R hG.1 hG.2.1 hG.2.2 (by decide)
  have k2 := lex_ok s2 R hG.1 hG.2.1 hG.2.2 (by decide)
  rw [lex1] at k1
  rw [lex2] at k2
  refine ACall_body tab_ok Tryz.func9 rfl rfl rfl (by kernel_rfl) (Nat.le_of_ble_eq_true rfl) ?_
  repeat (first | refine go_ ?_ | intro _)
  refine Or.inl ⟨⟨_, Tryz.func11, rfl, rfl⟩, ACall.mono ?_ (k1)⟩
  rintro _ S1 ⟨rfl, hS1⟩
  subst S1
  repeat (first | refine go_ ?_ | intro _)
  refine Or.inl ⟨⟨_, Tryz.func11, rfl, rfl⟩, ACall.mono ?_ (k2)⟩
  rintro _ S1 ⟨rfl, hS1⟩
  subst S1
  repeat (first | refine ga_ ?_ | intro _)
  refine ⟨(by decide), _, rfl, ?_⟩
  repeat (first | refine ga_ ?_ | intro _)
  refine ⟨(by decide), _, rfl, ?_⟩
  repeat (first | refine ga_ ?_ | intro _)
  refine AW_ret ?_
  repeat (first | refine ⟨0, rfl, ?_⟩ | refine ⟨1, rfl, ?_⟩ | refine ⟨2, rfl, ?_⟩ | refine ⟨3, rfl, ?_⟩ | refine ⟨4, rfl, ?_⟩ | refine ⟨5, rfl, ?_⟩ | refine ⟨6, rfl, ?_⟩)
  refine ⟨_, R, AVle.eq ?_, (by repeat (first | exact SLe.rfl | refine SLe.tail ?_)), rfl, rfl⟩
  rfl
theorem cut_ok (s : List UInt8) (R : List En) : ACall Tryz.prog 10 [.str s] R (fun r S => r = .str (s.take 3000) ∧ S = R) := by
  refine ACall_body tab_ok Tryz.func10 rfl rfl rfl (by kernel_rfl) (Nat.le_of_ble_eq_true rfl) ?_
  repeat (first | refine go_ ?_ | intro _)
  refine at_ss 0 (min s.length 3000) (s.take 3000) rfl (by show min (s.length : Int) 3000 = _; omega) (by omega) (by omega) (by rw [List.drop_zero, List.take_eq_take_iff]; omega) ?_
  repeat (first | refine go_ ?_ | intro _)
  refine AW_ret ?_
  repeat (first | refine ⟨0, rfl, ?_⟩ | refine ⟨1, rfl, ?_⟩ | refine ⟨2, rfl, ?_⟩ | refine ⟨3, rfl, ?_⟩ | refine ⟨4, rfl, ?_⟩ | refine ⟨5, rfl, ?_⟩ | refine ⟨6, rfl, ?_⟩)
  refine ⟨_, R, AVle.eq ?_, (by repeat (first | exact SLe.rfl | refine SLe.tail ?_)), rfl, rfl⟩
  rfl
theorem take_le (s : List UInt8) (n : Nat) : (s.take n).length ≤ n := by rw [List.length_take]; omega
theorem lexS_len (s : List UInt8) : (lexS s).1.length ≤ s.length := by
  by_cases h : 65536 < s.length
  · rw [lexS, if_pos h]; simp
  · obtain ⟨L, B, _, h1, h2⟩ := lex_parts s h
    rw [h2]
    cases B with
    | none => simpa using h1
    | some b => simp
theorem dlexLexes_ok (s : List UInt8) (R : List En) (hG : LexG R) : ACall Tryz.prog 3 [.str s] R (fun r S => r = .bool true ∧ S = R) := by
  obtain ⟨t, ht⟩ : ∃ t, t = s.take 3000 := ⟨_, rfl⟩
  have htl : t.length ≤ 3000 := ht ▸ take_le s 3000
  have kc := cut_ok s
  rw [← ht] at kc
  have k1 := lex_ok t R hG.1 hG.2.1 hG.2.2 (by omega)
  have k2 := refLex_ok t R hG.2.1 (by omega)
  have hll := lexS_len t
  obtain ⟨x, hx⟩ : ∃ x, x = lexS t := ⟨_, rfl⟩
  rw [← hx] at k1 k2 hll
  obtain ⟨l, i, e⟩ := x
  have k3 := sameT_ok l R (by simp at hll; omega)
  refine ACall_body tab_ok Tryz.func3 rfl rfl rfl (by kernel_rfl) (Nat.le_of_ble_eq_true rfl) ?_
  repeat (first | refine go_ ?_ | intro _)
  refine Or.inl ⟨⟨_, Tryz.func9, rfl, rfl⟩, ACall.mono ?_ (shown_ok R hG)⟩
  rintro _ S1 ⟨rfl, hS1⟩
  subst S1
  repeat (first | refine go_ ?_ | intro _)
  refine Or.inl ⟨⟨_, Tryz.func10, rfl, rfl⟩, ACall.mono ?_ (kc _)⟩
  rintro _ S1 ⟨rfl, hS1⟩
  subst S1
  repeat (first | refine go_ ?_ | intro _)
  refine Or.inl ⟨⟨_, Tryz.func11, rfl, rfl⟩, ACall.mono ?_ (k1)⟩
  rintro _ S1 ⟨rfl, hS1⟩
  subst S1
  repeat (first | refine go_ ?_ | intro _)
  refine Or.inl ⟨⟨_, Tryz.func12, rfl, rfl⟩, ACall.mono ?_ (k2)⟩
  rintro _ S1 ⟨rfl, hS1⟩
  subst S1
  repeat (first | refine ga_ ?_ | intro _)
  refine Or.inl ⟨⟨_, Tryz.func13, rfl, rfl⟩, ACall.mono ?_ (k3)⟩
  rintro _ S1 ⟨rfl, hS1⟩
  subst S1
  repeat (first | refine ga_ ?_ | intro _)
  refine known_true (b := decide (i = i)) (by exact decide_eq_true rfl) ?_
  repeat (first | refine ga_ ?_ | intro _)
  refine AW_ret ?_
  repeat (first | refine ⟨0, rfl, ?_⟩ | refine ⟨1, rfl, ?_⟩ | refine ⟨2, rfl, ?_⟩ | refine ⟨3, rfl, ?_⟩ | refine ⟨4, rfl, ?_⟩ | refine ⟨5, rfl, ?_⟩ | refine ⟨6, rfl, ?_⟩)
  refine ⟨_, R, AVle.eq ?_, (by repeat (first | exact SLe.rfl | refine SLe.tail ?_)), rfl, rfl⟩
  exact congrArg AV.bool (decide_eq_true rfl)
end Go.Proofs.YtgcoomicgdbmbaaGreatDoor
