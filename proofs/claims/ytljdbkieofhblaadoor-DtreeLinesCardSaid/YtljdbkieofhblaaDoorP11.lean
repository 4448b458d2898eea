/-
  DtreeLines: the walk. Own work.
-/
import Derived.Test.YtljdbkieofhblaaDoorP10
namespace Go.Proofs.YtljdbkieofhblaaDoor
open Go.Aw Go.ChangeShapes Go.WideShapes Go.ChangeAt Go.RowKit
set_option maxHeartbeats 4000000

def setD (n : Int) (d : De) : De := ⟨d.rel, d.names, d.types, d.inp, d.out, n⟩
def setR (n : Int) (r : Ru) : Ru := ⟨r.head, r.body, n⟩
def setP (n : Int) (p : Pr) : Pr := ⟨p.decls.map (setD n), p.rules.map (setR n)⟩
theorem like_setD (n : Int) : ∀ l : List De, likeDs l (l.map (setD n))
  | [] => trivial
  | d :: l => ⟨⟨rfl, rfl, rfl, rfl, rfl⟩, like_setD n l⟩
theorem like_setR (n : Int) : ∀ l : List Ru, likeRs l (l.map (setR n))
  | [] => trivial
  | d :: l => ⟨⟨rfl, rfl⟩, like_setR n l⟩
theorem like_setP (n : Int) (p : Pr) : likeP p (setP n p) := ⟨like_setD n _, like_setR n _⟩
theorem cntRs_set (n : Int) : ∀ l : List Ru, cntRs (l.map (setR n)) = cntRs l
  | [] => rfl
  | r :: l => by rw [List.map_cons, cntRs, cntRs, cntRs_set n l]; rfl
theorem okS_set {n : Int} {p : Pr} (h : okS p) : okS (setP n p) := by
  refine ⟨fun d hd => ?_, fun r hr => ?_, ?_⟩
  · obtain ⟨e, he, rfl⟩ := List.mem_map.1 hd
    exact h.1 e he
  · obtain ⟨e, he, rfl⟩ := List.mem_map.1 hr
    exact h.2.1 e he
  · show cntRs (p.rules.map (setR n)) ≤ 2000
    rw [cntRs_set]; exact h.2.2
theorem rightP_set {n : Int} {p : Pr} : rightP (setP n p) = rightP p := by
  have h1 : (p.decls.map (setD n)).all rightD = p.decls.all rightD := by rw [List.all_map]; rfl
  have h2 : (p.rules.map (setR n)).all rightR = p.rules.all rightR := by rw [List.all_map]; rfl
  unfold rightP setP
  simp only [List.length_map, h1, h2]
theorem shownP_set {n : Int} {p : Pr} : shownP (setP n p) = shownP p := by
  unfold shownP
  rw [rightP_set, ← like_showP (like_setP n p)]
theorem set_take {α β : Type} {f : α → α} {g : α → β} {l : List α} {z : Nat} {x : α} (h : z < l.length) (hx : x = l[z]) : ((l.take (z + 1)).map f).map g = ((l.take z).map f).map g ++ [g (f x)] := by
  rw [take_snoc h hx, List.map_append]; rfl
theorem dtreeLines_ok (p : Pr) (n : Int) (R : List En) (hG : NumG R) (b o : Nat) (hE : En.glob 0 [errE b o] ∈ R) : ACall Tryd.prog 8 [encP p, .int .i64 n] R (fun r S => r = .bool true ∧ S = R) := by
  refine ACall_sat fun hs => ?_
  have hs := hs _ (.head _)
  have hP := okP_of p hs
  have hn := nP_of p hs
  have ks := fun R => small_ok p R hP
  by_cases hb : smallB p = true
  · rw [smallI_1 hb] at ks
    obtain ⟨hS, _, h3⟩ := small_S hb hn
    have k1 := fun R hE hG => show_ok b o p R hE hS hG
    have k2 := fun R hE hG => show_ok b o (setP n p) R hE (okS_set hS) hG
    have k3 := fun R => same_ok p (setP n p) R hP hS h3
    have k4 := fun R hE => right_ok b o p R hE (okS_R hS)
    have k5 := fun R hE => right_ok b o (setP n p) R hE (okS_R (okS_set hS))
    rw [shownP_set] at k2
    rw [rightP_set] at k5
    rw [isB_t (like_setP n p)] at k3
    obtain ⟨s, e, hse⟩ : ∃ s e, shownP p = .tup [.str s, .int .i64 e] := ⟨_, _, rfl⟩
    rw [hse] at k1 k2
    refine ACall_body tab_ok Tryd.func8 rfl rfl rfl (by kernel_rfl) (Nat.le_of_ble_eq_true rfl) ?_
    repeat (first | refine go_ ?_ | intro _)
    rename_i a
    refine Or.inl ⟨⟨_, Tryd.func9, rfl, rfl⟩, ACall.mono ?_ (shown_ok b o _ (.tail _ hE) hG.cons)⟩
    rintro _ S1 ⟨rfl, hS1⟩
    subst S1
    repeat (first | refine go_ ?_ | intro _)
    refine Or.inl ⟨⟨_, Tryd.func10, rfl, rfl⟩, ACall.mono ?_ (ks _)⟩
    rintro _ S1 ⟨rfl, hS1⟩
    subst S1
    repeat (first | refine ga_ ?_ | intro _)
    rename_i c
    refine AW_for (α := Nat × Tk) (fun z => ⟨[(1, .int .i64 n), (2, .ptr a 0), (5, .bool true), (6, .ptr c 0), (7, .int .i64 (z.1 : Nat))], []⟩) (fun z => .grow z.2 :: .cells c [.sl 6 (((p.decls.take z.1).map (setD n)).map encD) z.2, .sl 0 [] .full] :: .cells a [.sl 6 (p.decls.map encD) .no, .sl 4 (p.rules.map encRu) .no] :: R) (fun z => p.decls.length - z.1) (fun z => z.1 ≤ p.decls.length) ((0, .full)) ?_ (weak_of ?_ rfl ?_) (fun z hz => ?_)
    · exact Nat.zero_le _
    · repeat (first | exact trivial | refine ⟨AVle.refl _, ?_⟩ | refine ⟨AVle.tk, ?_⟩ | refine ⟨AVle.nil, ?_⟩ | refine ⟨AVle.nilFull, ?_⟩ | refine ⟨AVle.eq (congrArg (AV.int .i64) (by first | (simp; done) | (simp; omega) | (rw [wrap_i64 (by first | omega | (simp; omega))]; first | rfl | omega | (simp; done) | (simp; omega)))), ?_⟩)
    · refine SW.le ?_
      repeat (first | exact SW.nil | refine SW.cons ?_ | refine SW.cells (by repeat (first | exact trivial | refine ⟨AVle.refl _, ?_⟩ | refine ⟨AVle.nilFull, ?_⟩ | refine ⟨AVle.tk, ?_⟩ | refine ⟨AVle.nil, ?_⟩)) rfl ?_ | refine SW.full ?_ | refine SW.drop ?_)
    obtain ⟨z, tk⟩ := z
    replace hz : z ≤ p.decls.length := hz
    repeat (first | refine go_ ?_ | intro _)
    refine AW_iff (z < p.decls.length) rfl (by first | (simp; done) | (simp <;> omega) | decide) (fun h => ?_) (fun h => ?_)
    · have hlt := h
      obtain ⟨d, hd⟩ : ∃ x, x = p.decls[z] := ⟨_, rfl⟩
      repeat (first | refine go_ ?_ | intro _)
      refine at_get (z) (encD d) (by first | rfl | omega | (rw [wrap_i64 (by omega)]; omega)) (by rw [List.getElem?_map, List.getElem?_eq_getElem hlt, hd]; rfl) ?_
      repeat (first | refine go_ ?_ | intro _)
      refine ⟨room (by first | omega | (simp; done) | (simp; omega) | (simp at *; done) | (simp at *; omega)) rfl, .inl rfl, .inr (.inl ⟨rfl, 1, rfl, ((p.decls.take (z + 1)).map (setD n)).map encD, by rw [set_take hlt hd]; rfl, fun t1 => ?_⟩)⟩
      repeat (first | refine go_ ?_ | intro _)
      refine ⟨(z + 1, t1), ?_, ?_, weak_of ?_ rfl ?_⟩
      · exact Nat.sub_lt_sub_left hlt (Nat.lt_succ_self z)
      · exact hlt
      · repeat (first | exact trivial | refine ⟨AVle.refl _, ?_⟩ | refine ⟨AVle.tk, ?_⟩ | refine ⟨AVle.nil, ?_⟩ | refine ⟨AVle.nilFull, ?_⟩ | refine ⟨AVle.eq (congrArg (AV.int .i64) (by first | (simp; done) | (simp; omega) | (rw [wrap_i64 (by first | omega | (simp; omega))]; first | rfl | omega | (simp; done) | (simp; omega)))), ?_⟩)
      · refine SW.le ?_
        repeat (first | exact SW.nil | refine SW.cons ?_ | refine SW.cells (by repeat (first | exact trivial | refine ⟨AVle.refl _, ?_⟩ | refine ⟨AVle.nilFull, ?_⟩ | refine ⟨AVle.tk, ?_⟩ | refine ⟨AVle.nil, ?_⟩)) rfl ?_ | refine SW.full ?_ | refine SW.drop ?_)
    have hz1 : z = p.decls.length := by omega
    repeat (first | refine go_ ?_ | intro _)
    refine AW_for (α := Nat × Tk) (fun z => ⟨[(1, .int .i64 n), (2, .ptr a 0), (5, .bool true), (6, .ptr c 0), (9, .int .i64 (z.1 : Nat))], []⟩) (fun z => .grow z.2 :: .cells c [.sl 6 ((p.decls.map (setD n)).map encD) .no, .sl 4 (((p.rules.take z.1).map (setR n)).map encRu) z.2] :: .cells a [.sl 6 (p.decls.map encD) .no, .sl 4 (p.rules.map encRu) .no] :: R) (fun z => p.rules.length - z.1) (fun z => z.1 ≤ p.rules.length) ((0, .full)) ?_ (weak_of ?_ rfl ?_) (fun z hz => ?_)
    · exact Nat.zero_le _
    · repeat (first | exact trivial | refine ⟨AVle.refl _, ?_⟩ | refine ⟨AVle.tk, ?_⟩ | refine ⟨AVle.nil, ?_⟩ | refine ⟨AVle.nilFull, ?_⟩ | refine ⟨AVle.eq (congrArg (AV.int .i64) (by first | (simp; done) | (simp; omega) | (rw [wrap_i64 (by first | omega | (simp; omega))]; first | rfl | omega | (simp; done) | (simp; omega)))), ?_⟩)
    · refine SW.le ?_
      refine SW.full ?_
      refine SW.drop ?_
      refine SW.cells ⟨AVle.slEq (by show ((p.decls.take z).map (setD n)).map encD = _; rw [hz1, List.take_length]), AVle.nilFull, trivial⟩ rfl ?_
      refine SW.cons ?_
      exact SW.nil
    obtain ⟨z, tk⟩ := z
    replace hz : z ≤ p.rules.length := hz
    repeat (first | refine go_ ?_ | intro _)
    refine AW_iff (z < p.rules.length) rfl (by first | (simp; done) | (simp <;> omega) | decide) (fun h => ?_) (fun h => ?_)
    · have hlt := h
      obtain ⟨d, hd⟩ : ∃ x, x = p.rules[z] := ⟨_, rfl⟩
      repeat (first | refine go_ ?_ | intro _)
      refine at_get (z) (encRu d) (by first | rfl | omega | (rw [wrap_i64 (by omega)]; omega)) (by rw [List.getElem?_map, List.getElem?_eq_getElem hlt, hd]; rfl) ?_
      repeat (first | refine go_ ?_ | intro _)
      refine ⟨room (by first | omega | (simp; done) | (simp; omega) | (simp at *; done) | (simp at *; omega)) rfl, .inl rfl, .inr (.inl ⟨rfl, 1, rfl, ((p.rules.take (z + 1)).map (setR n)).map encRu, by rw [set_take hlt hd]; rfl, fun t1 => ?_⟩)⟩
      repeat (first | refine go_ ?_ | intro _)
      refine ⟨(z + 1, t1), ?_, ?_, weak_of ?_ rfl ?_⟩
      · exact Nat.sub_lt_sub_left hlt (Nat.lt_succ_self z)
      · exact hlt
      · repeat (first | exact trivial | refine ⟨AVle.refl _, ?_⟩ | refine ⟨AVle.tk, ?_⟩ | refine ⟨AVle.nil, ?_⟩ | refine ⟨AVle.nilFull, ?_⟩ | refine ⟨AVle.eq (congrArg (AV.int .i64) (by first | (simp; done) | (simp; omega) | (rw [wrap_i64 (by first | omega | (simp; omega))]; first | rfl | omega | (simp; done) | (simp; omega)))), ?_⟩)
      · refine SW.le ?_
        repeat (first | exact SW.nil | refine SW.cons ?_ | refine SW.cells (by repeat (first | exact trivial | refine ⟨AVle.refl _, ?_⟩ | refine ⟨AVle.nilFull, ?_⟩ | refine ⟨AVle.tk, ?_⟩ | refine ⟨AVle.nil, ?_⟩)) rfl ?_ | refine SW.full ?_ | refine SW.drop ?_)
    have hz2 : z = p.rules.length := by omega
    refine AW_weak (weak_of (l := [(2, .ptr a 0), (5, .bool true), (6, .ptr c 0)]) (m := []) (S' := .cells c [.sl 6 ((p.decls.map (setD n)).map encD) .no, .sl 4 ((p.rules.map (setR n)).map encRu) .no] :: .cells a [.sl 6 (p.decls.map encD) .no, .sl 4 (p.rules.map encRu) .no] :: R) ?_ rfl ?_) ?_
    · repeat (first | exact trivial | refine ⟨AVle.refl _, ?_⟩ | refine ⟨AVle.tk, ?_⟩ | refine ⟨AVle.nil, ?_⟩ | refine ⟨AVle.nilFull, ?_⟩ | refine ⟨AVle.eq (congrArg (AV.int .i64) (by first | (simp; done) | (simp; omega) | (rw [wrap_i64 (by first | omega | (simp; omega))]; first | rfl | omega | (simp; done) | (simp; omega)))), ?_⟩)
    · refine SW.le ?_
      refine SW.drop ?_
      refine SW.cells ⟨AVle.refl _, AVle.slEq (by show ((p.rules.take z).map (setR n)).map encRu = _; rw [hz2, List.take_length]), trivial⟩ rfl ?_
      refine SW.cons ?_
      exact SW.nil
    repeat (first | refine go_ ?_ | intro _)
    refine Or.inl ⟨⟨_, Tryd.func18, rfl, rfl⟩, ACall.mono ?_ (k1 _ (.tail _ (.tail _ hE)) hG.cons.cons)⟩
    rintro _ S1 ⟨rfl, hS1⟩
    subst S1
    repeat (first | refine go_ ?_ | intro _)
    refine Or.inl ⟨⟨_, Tryd.func18, rfl, rfl⟩, ACall.mono ?_ (k2 _ (.tail _ (.tail _ hE)) hG.cons.cons)⟩
    rintro _ S1 ⟨rfl, hS1⟩
    subst S1
    repeat (first | refine ga_ ?_ | intro _)
    refine AW_draw tab_ok mixed 24 (by first | rfl | kernel_rfl) ?_
    repeat (first | refine ga_ ?_ | intro _)
    apply call_step
    · rfl
    · exact Or.inl ⟨⟨_, Tryd.func19, rfl, rfl⟩, k3 _⟩
    repeat (first | refine ga_ ?_ | intro _)
    apply call_step
    · rfl
    · exact Or.inl ⟨⟨_, Tryd.func11, rfl, rfl⟩, k4 _ (.tail _ (.tail _ hE))⟩
    repeat (first | refine ga_ ?_ | intro _)
    apply call_step
    · rfl
    · exact Or.inl ⟨⟨_, Tryd.func11, rfl, rfl⟩, k5 _ (.tail _ (.tail _ hE))⟩
    repeat (first | refine ga_ ?_ | intro _)
    refine known_true (b := rightP p == rightP p) (by first | rfl | (simp; done) | (simp; omega) | decide) ?_
    repeat (first | refine ga_ ?_ | intro _)
    refine known_true (b := decide (s = s)) (by first | rfl | (simp; done) | (simp; omega) | decide) ?_
    repeat (first | refine ga_ ?_ | intro _)
    refine AW_ret ?_
    repeat (first | refine ⟨0, rfl, ?_⟩ | refine ⟨1, rfl, ?_⟩ | refine ⟨2, rfl, ?_⟩ | refine ⟨3, rfl, ?_⟩ | refine ⟨4, rfl, ?_⟩ | refine ⟨5, rfl, ?_⟩ | refine ⟨6, rfl, ?_⟩)
    refine ⟨_, R, AVle.eq ?_, (by repeat (first | exact SLe.rfl | refine SLe.tail ?_)), rfl, rfl⟩
    exact congrArg AV.bool (by simp)
  · rw [smallI_0 (by simpa using hb)] at ks
    refine ACall_body tab_ok Tryd.func8 rfl rfl rfl (by kernel_rfl) (Nat.le_of_ble_eq_true rfl) ?_
    repeat (first | refine go_ ?_ | intro _)
    refine Or.inl ⟨⟨_, Tryd.func9, rfl, rfl⟩, ACall.mono ?_ (shown_ok b o _ (.tail _ hE) hG.cons)⟩
    rintro _ S1 ⟨rfl, hS1⟩
    subst S1
    repeat (first | refine go_ ?_ | intro _)
    refine Or.inl ⟨⟨_, Tryd.func10, rfl, rfl⟩, ACall.mono ?_ (ks _)⟩
    rintro _ S1 ⟨rfl, hS1⟩
    subst S1
    repeat (first | refine ga_ ?_ | intro _)
    refine AW_ret ?_
    repeat (first | refine ⟨0, rfl, ?_⟩ | refine ⟨1, rfl, ?_⟩ | refine ⟨2, rfl, ?_⟩ | refine ⟨3, rfl, ?_⟩ | refine ⟨4, rfl, ?_⟩ | refine ⟨5, rfl, ?_⟩ | refine ⟨6, rfl, ?_⟩)
    refine ⟨_, R, AVle.eq ?_, (by repeat (first | exact SLe.rfl | refine SLe.tail ?_)), rfl, rfl⟩
    rfl
end Go.Proofs.YtljdbkieofhblaaDoor
