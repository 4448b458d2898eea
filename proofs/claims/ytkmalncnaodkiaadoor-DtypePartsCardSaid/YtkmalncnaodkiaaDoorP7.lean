/-
  A rule's variables, by the book; lists held against each other. Own work.
-/
import Derived.Test.YtkmalncnaodkiaaDoorP6
import Derived.Test.YtkmalncnaodkiaaDoorP4
import Derived.Test.YtkmalncnaodkiaaDoorErrIs2
set_option linter.all false
namespace Go.Proofs.YtkmalncnaodkiaaDoor
open Go.Aw Go.RowKit
set_option maxHeartbeats 4000000

/-! ### right terms -/
def goodT (t : T) : Prop := noT t = true ∨ ∃ h, rightT t h = true
theorem goodT.leaf {t : T} (h : goodT t) (h2 : twoB t.op = false) : t.l = [] := by
  rcases h with h | ⟨n, h⟩
  · unfold noT at h
    simp only [Bool.and_eq_true, decide_eq_true_eq] at h
    exact List.length_eq_zero_iff.1 h.2.2
  · cases n with
    | zero => cases h
    | succ n =>
      rw [rightT, if_pos h2] at h
      unfold leafB at h
      simp only [Bool.and_eq_true, decide_eq_true_eq] at h
      exact List.length_eq_zero_iff.1 h.2.2
theorem goodT.var {t : T} (h : goodT t) (h1 : t.op = 1) : t.l = [] := h.leaf (by rw [h1]; rfl)
theorem goodT.two {t : T} (h : goodT t) (h2 : twoB t.op = true) : t.l.length = 2 ∧ ∀ x ∈ t.l, x.op ≠ 4 ∧ goodT x := by
  rcases h with h | ⟨n, h⟩
  · unfold noT at h
    simp only [Bool.and_eq_true, decide_eq_true_eq] at h
    rw [h.1] at h2; cases h2
  · cases n with
    | zero => cases h
    | succ n =>
      rw [rightT, if_neg (by rw [h2]; decide)] at h
      simp only [Bool.and_eq_true, decide_eq_true_eq] at h
      refine ⟨h.2.2.1, fun x hx => ?_⟩
      have := List.all_eq_true.1 h.2.2.2 x hx
      simp only [Bool.and_eq_true, Bool.not_eq_true', decide_eq_false_iff_not] at this
      exact ⟨this.2.1, .inr ⟨n, this.2.2⟩⟩
theorem goodT.sub {t : T} (h : goodT t) {x : T} (hx : x ∈ t.l) : goodT x := by
  cases h2 : twoB t.op with
  | false => rw [h.leaf h2] at hx; exact nomatch hx
  | true => exact ((h.two h2).2 x hx).2
theorem rightA_good {a : At} (h : rightA a = true) : ∀ t ∈ a.l, goodT t := fun t ht => by
  unfold rightA at h
  simp only [Bool.and_eq_true] at h
  exact .inr ⟨20, List.all_eq_true.1 h.2.2.2 t ht⟩
theorem rightL_good {l : Li} (h : rightL l = true) : ∀ t ∈ topsL l, goodT t := by
  unfold rightL at h
  have key : goodT l.x → goodT l.y → (∀ t ∈ l.a.l, goodT t) → ∀ t ∈ topsL l, goodT t := fun h1 h2 h3 t ht => by
    unfold topsL at ht
    rcases List.mem_cons.1 ht with rfl | ht
    · exact h1
    rcases List.mem_cons.1 ht with rfl | ht
    · exact h2
    · exact h3 t ht
  split at h
  · simp only [Bool.and_eq_true] at h
    exact key (.inl h.2.1) (.inl h.2.2) (rightA_good h.1)
  split at h
  · simp only [Bool.and_eq_true] at h
    refine key (.inr ⟨20, h.2.1⟩) (.inr ⟨20, h.2.2⟩) fun t ht => ?_
    have := h.1.1
    unfold noA at this
    simp only [Bool.and_eq_true, decide_eq_true_eq] at this
    rw [List.length_eq_zero_iff.1 this.2] at ht
    exact nomatch ht
  split at h
  · simp only [Bool.and_eq_true] at h
    exact key (.inr ⟨20, h.2.2⟩) (.inl h.2.1.2) (rightA_good h.1)
  split at h
  · simp only [Bool.and_eq_true] at h
    exact key (.inr ⟨20, h.2.2.1⟩) (.inr ⟨20, h.2.2.2⟩) (rightA_good h.1)
  · cases h
theorem rightR_top {r : Ru} (h : rightR r = true) : rightA r.head = true := List.all_eq_true.1 h (rightA r.head) (.head _)
theorem tops_good {r : Ru} (h : rightR r = true) : ∀ t ∈ topsR r, goodT t := fun t ht => by
  rcases List.mem_append.1 ht with ht | ht
  · exact rightA_good (rightR_top h) t ht
  · obtain ⟨l, hl, ht⟩ := List.mem_flatMap.1 ht
    exact rightL_good (rightR_lits h l hl) t ht

theorem once_one (s : Key) : once [s] = [s] := by simp [once, addV]
theorem keys_var {t : T} (h : goodT t) (h1 : t.op = 1) : once (keysT (termsT t)) = [t.s] := by
  rw [termsT_eq, h.var h1]
  have e : keysT (t :: termsTs []) = [t.s] := by simp [keysT, termsTs, h1]
  rw [e, once_one]
theorem keys_sub {t : T} (h1 : t.op ≠ 1) : keysT (termsT t) = keysT (termsTs t.l) := by
  rw [termsT_eq]; simp [keysT, h1]
theorem once_with (a b : List Key) : (once b).foldl addV (once a) = once (a ++ b) := by rw [fold_once, once_app]
theorem keys_len2 (l : List T) : (once (keysT l)).length ≤ l.length := Nat.le_trans (once_len _) (keys_len _)

/-! ### walks -/
def placeI (V : List Key) (s : Key) : Int := idxB (fun x => decide (x = s)) V
theorem place_ok (V : List Key) (s : Key) (R : List En) (hV : V.length ≤ 1000000) : ACall Tryd.prog 53 [.sl 1 (V.map AV.str) .no, .str s] R (fun v S => v = .int .i64 (placeI V s) ∧ S = R) := by
  refine ACall_body tab_ok Tryd.func53 rfl rfl rfl (by kernel_rfl) (Nat.le_of_ble_eq_true rfl) ?_
  repeat (first | refine go_ ?_ | intro _)
  refine AW_for (α := Nat) (fun z => ⟨[(0, .sl 1 (V.map AV.str) .no), (1, .str s), (5, .int .i64 (z : Nat))], []⟩) (fun z => R) (fun z => V.length - z) (fun z => z ≤ V.length ∧ ∀ (i : Nat) (hi : i < V.length), i < z → decide (V[i] = s) = false) (0) ?_ (weak_of ?_ rfl ?_) (fun z hz => ?_)
  · exact ⟨by omega, fun i _ h => by omega⟩
  · repeat (first | exact trivial | refine ⟨AVle.refl _, ?_⟩ | refine ⟨AVle.tk, ?_⟩ | refine ⟨AVle.nil, ?_⟩ | refine ⟨AVle.nilFull, ?_⟩ | refine ⟨AVle.eq (congrArg (AV.int .i64) (by first | (simp; done) | (simp; omega) | (rw [wrap_i64 (by first | omega | (simp; omega))]; first | rfl | omega | (simp; done) | (simp; omega)))), ?_⟩)
  · repeat (first | exact SLe.rfl | refine SLe.tail ?_ | refine SLe.full ?_)
  obtain ⟨i1, i2⟩ := hz
  repeat (first | refine go_ ?_ | intro _)
  refine AW_iff (z < V.length) rfl (by first | (simp; done) | (simp <;> omega) | decide) (fun h => ?_) (fun h => ?_)
  · have hlt := h
    obtain ⟨x, hx⟩ : ∃ x, x = V[z] := ⟨_, rfl⟩
    repeat (first | refine go_ ?_ | intro _)
    refine at_map (z) (by first | rfl | omega | (rw [wrap_i64 (by omega)]; omega)) (by first | assumption | omega) ?_
    rw [← hx]
    repeat (first | refine go_ ?_ | intro _)
    refine AW_iff (x = s) rfl (by first | (simp; done) | (simp <;> omega) | decide) (fun h => ?_) (fun h => ?_)
    · repeat (first | refine go_ ?_ | intro _)
      refine AW_ret ?_
      repeat (first | refine ⟨0, rfl, ?_⟩ | refine ⟨1, rfl, ?_⟩ | refine ⟨2, rfl, ?_⟩ | refine ⟨3, rfl, ?_⟩ | refine ⟨4, rfl, ?_⟩ | refine ⟨5, rfl, ?_⟩ | refine ⟨6, rfl, ?_⟩)
      refine ⟨_, R, AVle.eq ?_, (by repeat (first | exact SLe.rfl | refine SLe.tail ?_)), rfl, rfl⟩
      exact congrArg (AV.int .i64) (idxB_some (q := fun x => decide (x = s)) hlt (by rw [← hx]; exact decide_eq_true h) i2).symm
    · have hq := h
      repeat (first | refine go_ ?_ | intro _)
      refine ⟨z + 1, ?_, ?_, weak_of ?_ rfl ?_⟩
      · omega
      · refine ⟨by omega, fun i hi hiz => ?_⟩
        by_cases hc : i < z
        · exact i2 i hi hc
        · obtain rfl : i = z := by omega
          rw [← hx]; exact decide_eq_false hq
      · repeat (first | exact trivial | refine ⟨AVle.refl _, ?_⟩ | refine ⟨AVle.tk, ?_⟩ | refine ⟨AVle.nil, ?_⟩ | refine ⟨AVle.nilFull, ?_⟩ | refine ⟨AVle.eq (congrArg (AV.int .i64) (by first | (simp; done) | (simp; omega) | (rw [wrap_i64 (by first | omega | (simp; omega))]; first | rfl | omega | (simp; done) | (simp; omega)))), ?_⟩)
      · repeat (first | exact SLe.rfl | refine SLe.tail ?_ | refine SLe.full ?_)
  · repeat (first | refine go_ ?_ | intro _)
    refine AW_ret ?_
    repeat (first | refine ⟨0, rfl, ?_⟩ | refine ⟨1, rfl, ?_⟩ | refine ⟨2, rfl, ?_⟩ | refine ⟨3, rfl, ?_⟩ | refine ⟨4, rfl, ?_⟩ | refine ⟨5, rfl, ?_⟩ | refine ⟨6, rfl, ?_⟩)
    refine ⟨_, R, AVle.eq ?_, (by repeat (first | exact SLe.rfl | refine SLe.tail ?_)), rfl, rfl⟩
    exact congrArg (AV.int .i64) (idxB_none (q := fun x => decide (x = s)) (fun i hi => i2 i hi (by omega))).symm
theorem place_mem (V : List Key) (s : Key) : decide (placeI V s < 0) = !decide (s ∈ V) := by
  have := idxB_any (fun x => decide (x = s)) V
  unfold placeI
  have e : V.any (fun x => decide (x = s)) = decide (s ∈ V) := by rw [Bool.eq_iff_iff]; simp
  rw [e] at this
  rw [← this, Bool.eq_iff_iff]; simp
theorem with_take {a b : List Key} {z : Nat} (h : z < b.length) : (b.take (z + 1)).foldl addV a = addV ((b.take z).foldl addV a) b[z] := by
  rw [List.take_add_one, List.getElem?_eq_getElem h, Option.toList_some, List.foldl_append]; rfl
theorem with_ok (a b : List Key) (R : List En) (h : a.length + b.length ≤ 1000000) : ACall Tryd.prog 31 [.sl 1 (a.map AV.str) .no, .sl 1 (b.map AV.str) .no] R (fun v S => v = .sl 1 ((b.foldl addV a).map AV.str) .no ∧ S = R) := by
  refine ACall_body tab_ok Tryd.func31 rfl rfl rfl (by kernel_rfl) (Nat.le_of_ble_eq_true rfl) ?_
  repeat (first | refine go_ ?_ | intro _)
  refine ⟨0, a.length + b.length, rfl, (by rw [wrap_i64 (by simp; omega)]; simp), Nat.zero_le _, room (by first | omega | (simp; omega)) rfl, .inl ⟨rfl, fun t1 => ?_⟩⟩
  repeat (first | refine go_ ?_ | intro _)
  refine ⟨room (by first | omega | (simp; done) | (simp; omega) | (simp at *; done) | (simp at *; omega)) rfl, .inl rfl, .inr (.inl ⟨rfl, 0, rfl, a.map AV.str, rfl, fun t1 => ?_⟩)⟩
  repeat (first | refine go_ ?_ | intro _)
  refine AW_for (α := Nat × Tk) (fun z => ⟨[(1, .sl 1 (b.map AV.str) .no), (5, .sl 1 (((b.take z.1).foldl addV a).map AV.str) z.2), (6, .int .i64 (z.1 : Nat))], []⟩) (fun z => .grow z.2 :: R) (fun z => b.length - z.1) (fun z => z.1 ≤ b.length) ((0, t1)) ?_ (weak_of ?_ rfl ?_) (fun z hz => ?_)
  · exact Nat.zero_le _
  · repeat (first | exact trivial | refine ⟨AVle.refl _, ?_⟩ | refine ⟨AVle.tk, ?_⟩ | refine ⟨AVle.nil, ?_⟩ | refine ⟨AVle.nilFull, ?_⟩ | refine ⟨AVle.eq (congrArg (AV.int .i64) (by first | (simp; done) | (simp; omega) | (rw [wrap_i64 (by first | omega | (simp; omega))]; first | rfl | omega | (simp; done) | (simp; omega)))), ?_⟩)
  · repeat (first | exact SLe.rfl | refine SLe.tail ?_ | refine SLe.full ?_)
  obtain ⟨z, tk⟩ := z
  replace hz : z ≤ b.length := hz
  obtain ⟨out, ho⟩ : ∃ x, x = (b.take z).foldl addV a := ⟨_, rfl⟩
  have hol : out.length ≤ 1000000 := by
    have := addVs_len (b.take z) a
    rw [ho]; rw [List.length_take] at this; omega
  have key := fun h => with_take (a := a) (b := b) (z := z) h
  rw [← ho] at key
  refine AW_weak (weak_of (l := [(1, .sl 1 (b.map AV.str) .no), (5, .sl 1 (out.map AV.str) tk), (6, .int .i64 (z : Nat))]) (m := []) (S' := .grow tk :: R) ?_ rfl ?_) ?_
  · repeat (first | exact trivial | refine ⟨(AVle.slM ho.symm), ?_⟩ | refine ⟨AVle.refl _, ?_⟩ | refine ⟨AVle.tk, ?_⟩ | refine ⟨AVle.nil, ?_⟩ | refine ⟨AVle.nilFull, ?_⟩ | refine ⟨AVle.eq (congrArg (AV.int .i64) (by first | (simp; done) | (simp; omega) | (rw [wrap_i64 (by first | omega | (simp; omega))]; first | rfl | omega | (simp; done) | (simp; omega)))), ?_⟩)
  · refine SW.le ?_
    repeat (first | exact SW.nil | refine SW.cons ?_ | refine SW.cells (by repeat (first | exact trivial | refine ⟨AVle.refl _, ?_⟩ | refine ⟨AVle.nilFull, ?_⟩ | refine ⟨AVle.tk, ?_⟩ | refine ⟨AVle.nil, ?_⟩)) rfl ?_ | refine SW.full ?_ | refine SW.drop ?_)
  repeat (first | refine go_ ?_ | intro _)
  refine AW_iff (z < b.length) rfl (by first | (simp; done) | (simp <;> omega) | decide) (fun h => ?_) (fun h => ?_)
  · have hlt := h
    obtain ⟨x, hx⟩ : ∃ x, x = b[z] := ⟨_, rfl⟩
    have k := key hlt
    rw [← hx] at k
    have hl2 : out.length + 1 ≤ 1000001 := by omega
    repeat (first | refine go_ ?_ | intro _)
    refine at_map (z) (by first | rfl | omega | (rw [wrap_i64 (by omega)]; omega)) (by first | assumption | omega) ?_
    rw [← hx]
    repeat (first | refine go_ ?_ | intro _)
    refine Or.inl ⟨⟨_, Tryd.func53, rfl, rfl⟩, ACall_args (ACall.mono ?_ (place_ok out x _ hol)) ⟨AVle.tk, AVle.refl _, trivial⟩⟩
    rintro _ S1 ⟨rfl, hS1⟩
    subst S1
    repeat (first | refine go_ ?_ | intro _)
    refine AW_cond (b := decide (placeI out x < 0)) rfl (fun h => ?_) (fun h => ?_)
    · have hn : x ∉ out := by rw [place_mem] at h; simpa using h
      have e : addV out x = out ++ [x] := if_neg hn
      repeat (first | refine go_ ?_ | intro _)
      refine at_map (z) (by first | rfl | omega | (rw [wrap_i64 (by omega)]; omega)) (by first | assumption | omega) ?_
      rw [← hx]
      repeat (first | refine go_ ?_ | intro _)
      refine ⟨room (by first | omega | (simp; done) | (simp; omega) | (simp at *; done) | (simp at *; omega)) rfl, .inl rfl, .inr (.inl ⟨rfl, 0, rfl, (out ++ [x]).map AV.str, (by rw [List.map_append]; rfl), fun t1 => ?_⟩)⟩
      repeat (first | refine go_ ?_ | intro _)
      refine ⟨(z + 1, t1), ?_, ?_, weak_of ?_ rfl ?_⟩
      · exact Nat.sub_lt_sub_left hlt (Nat.lt_succ_self z)
      · exact hlt
      · repeat (first | exact trivial | refine ⟨(AVle.slM (k.trans e).symm), ?_⟩ | refine ⟨AVle.refl _, ?_⟩ | refine ⟨AVle.tk, ?_⟩ | refine ⟨AVle.nil, ?_⟩ | refine ⟨AVle.nilFull, ?_⟩ | refine ⟨AVle.eq (congrArg (AV.int .i64) (by first | (simp; done) | (simp; omega) | (rw [wrap_i64 (by first | omega | (simp; omega))]; first | rfl | omega | (simp; done) | (simp; omega)))), ?_⟩)
      · repeat (first | exact SLe.rfl | refine SLe.tail ?_ | refine SLe.full ?_)
    · have hn : x ∈ out := by rw [place_mem] at h; simpa using h
      have e : addV out x = out := if_pos hn
      repeat (first | refine go_ ?_ | intro _)
      refine ⟨(z + 1, tk), ?_, ?_, weak_of ?_ rfl ?_⟩
      · exact Nat.sub_lt_sub_left hlt (Nat.lt_succ_self z)
      · exact hlt
      · repeat (first | exact trivial | refine ⟨(AVle.slM (k.trans e).symm), ?_⟩ | refine ⟨AVle.refl _, ?_⟩ | refine ⟨AVle.tk, ?_⟩ | refine ⟨AVle.nil, ?_⟩ | refine ⟨AVle.nilFull, ?_⟩ | refine ⟨AVle.eq (congrArg (AV.int .i64) (by first | (simp; done) | (simp; omega) | (rw [wrap_i64 (by first | omega | (simp; omega))]; first | rfl | omega | (simp; done) | (simp; omega)))), ?_⟩)
      · repeat (first | exact SLe.rfl | refine SLe.tail ?_ | refine SLe.full ?_)
  · have hz' : z = b.length := by omega
    rw [hz', List.take_length] at ho
    repeat (first | refine go_ ?_ | intro _)
    refine AW_ret ?_
    repeat (first | refine ⟨0, rfl, ?_⟩ | refine ⟨1, rfl, ?_⟩ | refine ⟨2, rfl, ?_⟩ | refine ⟨3, rfl, ?_⟩ | refine ⟨4, rfl, ?_⟩ | refine ⟨5, rfl, ?_⟩ | refine ⟨6, rfl, ?_⟩)
    refine ⟨_, R, ?_, (by repeat (first | exact SLe.rfl | refine SLe.tail ?_)), rfl, rfl⟩
    exact AVle.slEq (congrArg (List.map AV.str) ho)

theorem refTermVars_ok : ∀ (n : Nat), n ≤ 2000 → ∀ (t : T) (R : List En), (termsT t).length ≤ n → goodT t → ACall Tryd.prog 52 [encU t] R (fun v S => v = .sl 1 ((once (keysT (termsT t))).map AV.str) .no ∧ S = R) := by
  intro n
  induction n with
  | zero => intro _ t R h; have := termsT_pos t; omega
  | succ n ih =>
  intro hn t R hc hg
  have hc2 : (termsTs t.l).length ≤ n := by rw [termsT_eq, List.length_cons] at hc; omega
  have hll := termsTs_le t.l
  refine ACall_body tab_ok Tryd.func52 rfl rfl rfl (by kernel_rfl) (Nat.le_of_ble_eq_true rfl) ?_
  repeat (first | refine go_ ?_ | intro _)
  rename_i p
  refine AW_iff (t.op = 1) rfl (by first | (simp; done) | (simp <;> omega) | decide) (fun h => ?_) (fun h => ?_)
  · have e := keys_var hg h
    repeat (first | refine go_ ?_ | intro _)
    refine AW_ret ?_
    repeat (first | refine ⟨0, rfl, ?_⟩ | refine ⟨1, rfl, ?_⟩ | refine ⟨2, rfl, ?_⟩ | refine ⟨3, rfl, ?_⟩ | refine ⟨4, rfl, ?_⟩ | refine ⟨5, rfl, ?_⟩ | refine ⟨6, rfl, ?_⟩)
    refine ⟨_, R, ?_, (by repeat (first | exact SLe.rfl | refine SLe.tail ?_)), rfl, rfl⟩
    exact AVle.slEq (congrArg (List.map AV.str) e.symm)
  · have e := keys_sub h
    repeat (first | refine go_ ?_ | intro _)
    refine AW_for (α := Nat) (fun z => ⟨[(1, .ptr p 0), (3, .sl 1 ((once (keysT (termsTs (t.l.take z)))).map AV.str) .no), (4, .int .i64 (z : Nat))], []⟩) (fun z => .cells p (cT t) :: R) (fun z => t.l.length - z) (fun z => z ≤ t.l.length) (0) ?_ (weak_of ?_ rfl ?_) (fun z hz => ?_)
    · exact Nat.zero_le _
    · repeat (first | exact trivial | refine ⟨(AVle.nil), ?_⟩ | refine ⟨AVle.refl _, ?_⟩ | refine ⟨AVle.tk, ?_⟩ | refine ⟨AVle.nil, ?_⟩ | refine ⟨AVle.nilFull, ?_⟩ | refine ⟨AVle.eq (congrArg (AV.int .i64) (by first | (simp; done) | (simp; omega) | (rw [wrap_i64 (by first | omega | (simp; omega))]; first | rfl | omega | (simp; done) | (simp; omega)))), ?_⟩)
    · repeat (first | exact SLe.rfl | refine SLe.tail ?_ | refine SLe.full ?_)
    replace hz : z ≤ t.l.length := hz
    repeat (first | refine go_ ?_ | intro _)
    refine AW_iff (z < t.l.length) rfl (by first | (simp; done) | (simp <;> omega) | decide) (fun h => ?_) (fun h => ?_)
    · have hlt := h
      obtain ⟨x, hx⟩ : ∃ x, x = t.l[z] := ⟨_, rfl⟩
      have hm : x ∈ t.l := hx ▸ List.getElem_mem hlt
      have h1 := termsTs_at hm
      have h2 := congrArg List.length (take_terms hlt)
      simp only [List.length_append] at h2
      have e2 : (once (keysT (termsT x))).foldl addV (once (keysT (termsTs (t.l.take z)))) = once (keysT (termsTs (t.l.take (z + 1)))) := by
        rw [termsTs_take hlt, ← hx, keysT_app, once_with]
      have k1 := keys_len2 (termsT x)
      have k2 := keys_len2 (termsTs (t.l.take z))
      rw [← hx] at h2
      repeat (first | refine go_ ?_ | intro _)
      refine at_get (z) (encU x) (by first | rfl | omega | (rw [wrap_i64 (by omega)]; omega)) (by rw [hx]; exact encTs_get hlt) ?_
      repeat (first | refine go_ ?_ | intro _)
      refine Or.inl ⟨⟨_, Tryd.func52, rfl, rfl⟩, ACall.mono ?_ (ih (by omega) x _ (by omega) (hg.sub hm))⟩
      rintro _ S1 ⟨rfl, hS1⟩
      subst S1
      repeat (first | refine go_ ?_ | intro _)
      refine Or.inl ⟨⟨_, Tryd.func31, rfl, rfl⟩, ACall.mono ?_ (with_ok (once (keysT (termsTs (t.l.take z)))) (once (keysT (termsT x))) _ (by omega))⟩
      rintro _ S1 ⟨rfl, hS1⟩
      subst S1
      repeat (first | refine go_ ?_ | intro _)
      refine ⟨z + 1, ?_, ?_, weak_of ?_ rfl ?_⟩
      · omega
      · exact hlt
      · repeat (first | exact trivial | refine ⟨(AVle.slM e2), ?_⟩ | refine ⟨AVle.refl _, ?_⟩ | refine ⟨AVle.tk, ?_⟩ | refine ⟨AVle.nil, ?_⟩ | refine ⟨AVle.nilFull, ?_⟩ | refine ⟨AVle.eq (congrArg (AV.int .i64) (by first | (simp; done) | (simp; omega) | (rw [wrap_i64 (by first | omega | (simp; omega))]; first | rfl | omega | (simp; done) | (simp; omega)))), ?_⟩)
      · repeat (first | exact SLe.rfl | refine SLe.tail ?_ | refine SLe.full ?_)
    · have hz' : z = t.l.length := by omega
      repeat (first | refine go_ ?_ | intro _)
      refine AW_ret ?_
      repeat (first | refine ⟨0, rfl, ?_⟩ | refine ⟨1, rfl, ?_⟩ | refine ⟨2, rfl, ?_⟩ | refine ⟨3, rfl, ?_⟩ | refine ⟨4, rfl, ?_⟩ | refine ⟨5, rfl, ?_⟩ | refine ⟨6, rfl, ?_⟩)
      refine ⟨_, R, ?_, (by repeat (first | exact SLe.rfl | refine SLe.tail ?_)), rfl, rfl⟩
      exact AVle.slEq (congrArg (fun l => (once l).map AV.str) (show keysT (termsTs (t.l.take z)) = keysT (termsT t) by rw [e, hz', List.take_length]))
theorem refAtomVars_ok (a : At) (R : List En) (hc : (termsTs a.l).length ≤ 2000) (hg : ∀ t ∈ a.l, goodT t) : ACall Tryd.prog 30 [encA a] R (fun v S => v = .sl 1 ((once (keysT (termsTs a.l))).map AV.str) .no ∧ S = R) := by
  have hll := termsTs_le a.l
  refine ACall_body tab_ok Tryd.func30 rfl rfl rfl (by kernel_rfl) (Nat.le_of_ble_eq_true rfl) ?_
  repeat (first | refine go_ ?_ | intro _)
  rename_i p
  refine AW_for (α := Nat) (fun z => ⟨[(1, .ptr p 0), (3, .sl 1 ((once (keysT (termsTs (a.l.take z)))).map AV.str) .no), (4, .int .i64 (z : Nat))], []⟩) (fun z => .cells p (cA a) :: R) (fun z => a.l.length - z) (fun z => z ≤ a.l.length) (0) ?_ (weak_of ?_ rfl ?_) (fun z hz => ?_)
  · exact Nat.zero_le _
  · repeat (first | exact trivial | refine ⟨(AVle.nil), ?_⟩ | refine ⟨AVle.refl _, ?_⟩ | refine ⟨AVle.tk, ?_⟩ | refine ⟨AVle.nil, ?_⟩ | refine ⟨AVle.nilFull, ?_⟩ | refine ⟨AVle.eq (congrArg (AV.int .i64) (by first | (simp; done) | (simp; omega) | (rw [wrap_i64 (by first | omega | (simp; omega))]; first | rfl | omega | (simp; done) | (simp; omega)))), ?_⟩)
  · repeat (first | exact SLe.rfl | refine SLe.tail ?_ | refine SLe.full ?_)
  replace hz : z ≤ a.l.length := hz
  repeat (first | refine go_ ?_ | intro _)
  refine AW_iff (z < a.l.length) rfl (by first | (simp; done) | (simp <;> omega) | decide) (fun h => ?_) (fun h => ?_)
  · have hlt := h
    obtain ⟨x, hx⟩ : ∃ x, x = a.l[z] := ⟨_, rfl⟩
    have hm : x ∈ a.l := hx ▸ List.getElem_mem hlt
    have h1 := termsTs_at hm
    have h2 := congrArg List.length (take_terms hlt)
    simp only [List.length_append] at h2
    have e2 : (once (keysT (termsT x))).foldl addV (once (keysT (termsTs (a.l.take z)))) = once (keysT (termsTs (a.l.take (z + 1)))) := by
      rw [termsTs_take hlt, ← hx, keysT_app, once_with]
    have k1 := keys_len2 (termsT x)
    have k2 := keys_len2 (termsTs (a.l.take z))
    rw [← hx] at h2
    repeat (first | refine go_ ?_ | intro _)
    refine at_get (z) (encU x) (by first | rfl | omega | (rw [wrap_i64 (by omega)]; omega)) (by rw [hx]; exact encTs_get hlt) ?_
    repeat (first | refine go_ ?_ | intro _)
    refine Or.inl ⟨⟨_, Tryd.func52, rfl, rfl⟩, ACall.mono ?_ (refTermVars_ok 2000 (by decide) x _ (by omega) (hg x hm))⟩
    rintro _ S1 ⟨rfl, hS1⟩
    subst S1
    repeat (first | refine go_ ?_ | intro _)
    refine Or.inl ⟨⟨_, Tryd.func31, rfl, rfl⟩, ACall.mono ?_ (with_ok (once (keysT (termsTs (a.l.take z)))) (once (keysT (termsT x))) _ (by omega))⟩
    rintro _ S1 ⟨rfl, hS1⟩
    subst S1
    repeat (first | refine go_ ?_ | intro _)
    refine ⟨z + 1, ?_, ?_, weak_of ?_ rfl ?_⟩
    · omega
    · exact hlt
    · repeat (first | exact trivial | refine ⟨(AVle.slM e2), ?_⟩ | refine ⟨AVle.refl _, ?_⟩ | refine ⟨AVle.tk, ?_⟩ | refine ⟨AVle.nil, ?_⟩ | refine ⟨AVle.nilFull, ?_⟩ | refine ⟨AVle.eq (congrArg (AV.int .i64) (by first | (simp; done) | (simp; omega) | (rw [wrap_i64 (by first | omega | (simp; omega))]; first | rfl | omega | (simp; done) | (simp; omega)))), ?_⟩)
    · repeat (first | exact SLe.rfl | refine SLe.tail ?_ | refine SLe.full ?_)
  · have hz' : z = a.l.length := by omega
    repeat (first | refine go_ ?_ | intro _)
    refine AW_ret ?_
    repeat (first | refine ⟨0, rfl, ?_⟩ | refine ⟨1, rfl, ?_⟩ | refine ⟨2, rfl, ?_⟩ | refine ⟨3, rfl, ?_⟩ | refine ⟨4, rfl, ?_⟩ | refine ⟨5, rfl, ?_⟩ | refine ⟨6, rfl, ?_⟩)
    refine ⟨_, R, ?_, (by repeat (first | exact SLe.rfl | refine SLe.tail ?_)), rfl, rfl⟩
    exact AVle.slEq (congrArg (fun l => (once (keysT (termsTs l))).map AV.str) (show a.l.take z = a.l by rw [hz', List.take_length]))
theorem refLitVars_ok (l : Li) (R : List En) (hc : (termsTs (topsL l)).length ≤ 2000) (hg : ∀ t ∈ topsL l, goodT t) : ACall Tryd.prog 32 [encL l] R (fun v S => v = .sl 1 ((once (keysT (termsTs (topsL l)))).map AV.str) .no ∧ S = R) := by
  have e : termsTs (topsL l) = termsT l.x ++ (termsT l.y ++ termsTs l.a.l) := by unfold topsL; rw [termsTs_cons, termsTs_cons]
  have hl := congrArg List.length e
  simp only [List.length_append] at hl
  have k1 := keys_len2 (termsT l.x)
  have k2 := keys_len2 (termsT l.y)
  have k3 := keys_len2 (termsTs l.a.l)
  have k4 := once_len (keysT (termsT l.x) ++ keysT (termsT l.y))
  have k5 := keys_len (termsT l.x)
  have k6 := keys_len (termsT l.y)
  rw [List.length_append] at k4
  have w1 := fun R => with_ok (once (keysT (termsT l.x))) (once (keysT (termsT l.y))) R (by omega)
  have w2 := fun R => with_ok (once (keysT (termsT l.x) ++ keysT (termsT l.y))) (once (keysT (termsTs l.a.l))) R (by omega)
  rw [once_with] at w1 w2
  have e2 : once (keysT (termsT l.x) ++ keysT (termsT l.y) ++ keysT (termsTs l.a.l)) = once (keysT (termsTs (topsL l))) := by rw [e, keysT_app, keysT_app, List.append_assoc]
  rw [e2] at w2
  refine ACall_body tab_ok Tryd.func32 rfl rfl rfl (by kernel_rfl) (Nat.le_of_ble_eq_true rfl) ?_
  repeat (first | refine go_ ?_ | intro _)
  refine AW_draw tab_ok mixed 8 (by first | rfl | kernel_rfl) ?_
  repeat (first | refine go_ ?_ | intro _)
  apply call_step
  · rfl
  · exact Or.inl ⟨⟨_, Tryd.func52, rfl, rfl⟩, refTermVars_ok 2000 (by decide) l.x _ (by omega) (hg _ (.head _))⟩
  repeat (first | refine go_ ?_ | intro _)
  apply call_step
  · rfl
  · exact Or.inl ⟨⟨_, Tryd.func52, rfl, rfl⟩, refTermVars_ok 2000 (by decide) l.y _ (by omega) (hg _ (.tail _ (.head _)))⟩
  repeat (first | refine go_ ?_ | intro _)
  apply call_step
  · rfl
  · exact Or.inl ⟨⟨_, Tryd.func31, rfl, rfl⟩, w1 _⟩
  repeat (first | refine go_ ?_ | intro _)
  refine Or.inl ⟨⟨_, Tryd.func30, rfl, rfl⟩, ACall.mono ?_ (refAtomVars_ok l.a _ (by omega) (fun t ht => hg t (.tail _ (.tail _ ht))))⟩
  rintro _ S1 ⟨rfl, hS1⟩
  subst S1
  repeat (first | refine go_ ?_ | intro _)
  refine Or.inl ⟨⟨_, Tryd.func31, rfl, rfl⟩, ACall.mono ?_ (w2 _)⟩
  rintro _ S1 ⟨rfl, hS1⟩
  subst S1
  repeat (first | refine go_ ?_ | intro _)
  refine AW_ret ?_
  repeat (first | refine ⟨0, rfl, ?_⟩ | refine ⟨1, rfl, ?_⟩ | refine ⟨2, rfl, ?_⟩ | refine ⟨3, rfl, ?_⟩ | refine ⟨4, rfl, ?_⟩ | refine ⟨5, rfl, ?_⟩ | refine ⟨6, rfl, ?_⟩)
  refine ⟨_, R, AVle.eq ?_, (by repeat (first | exact SLe.rfl | refine SLe.tail ?_)), rfl, rfl⟩
  rfl
theorem refVars_ok (r : Ru) (R : List En) (hf : few r) : ACall Tryd.prog 15 [encRu r] R (fun v S => v = .sl 1 ((varsR r).map AV.str) .no ∧ S = R) := by
  have hf2 : (termsTs (topsR r)).length + r.body.length ≤ 2000 := hf
  refine ACall_body tab_ok Tryd.func15 rfl rfl rfl (by kernel_rfl) (Nat.le_of_ble_eq_true rfl) ?_
  repeat (first | refine go_ ?_ | intro _)
  rename_i p
  refine Or.inl ⟨⟨_, Tryd.func29, rfl, rfl⟩, ACall.mono ?_ (refRule_ok r _)⟩
  rintro _ S1 ⟨rfl, hS1⟩
  subst S1
  repeat (first | refine go_ ?_ | intro _)
  refine AW_cond (b := !rightR r) rfl (fun h => ?_) (fun h => ?_)
  · have e : varsR r = [] := by unfold varsR; rw [if_neg (by simpa using h)]
    repeat (first | refine go_ ?_ | intro _)
    refine AW_ret ?_
    repeat (first | refine ⟨0, rfl, ?_⟩ | refine ⟨1, rfl, ?_⟩ | refine ⟨2, rfl, ?_⟩ | refine ⟨3, rfl, ?_⟩ | refine ⟨4, rfl, ?_⟩ | refine ⟨5, rfl, ?_⟩ | refine ⟨6, rfl, ?_⟩)
    refine ⟨_, R, ?_, (by repeat (first | exact SLe.rfl | refine SLe.tail ?_)), rfl, rfl⟩
    rw [e]
    exact AVle.nil
  · have hr : rightR r = true := by simpa using h
    have e : varsR r = once (keysR r) := if_pos hr
    repeat (first | refine go_ ?_ | intro _)
    refine Or.inl ⟨⟨_, Tryd.func30, rfl, rfl⟩, ACall.mono ?_ (refAtomVars_ok r.head _ hf.head (rightA_good (rightR_top hr)))⟩
    rintro _ S1 ⟨rfl, hS1⟩
    subst S1
    repeat (first | refine go_ ?_ | intro _)
    refine AW_for (α := Nat) (fun z => ⟨[(1, .ptr p 0), (4, .sl 1 ((once (keysT (termsTs (topsZ r z)))).map AV.str) .no), (5, .int .i64 (z : Nat))], []⟩) (fun z => .cells p (cRu r) :: R) (fun z => r.body.length - z) (fun z => z ≤ r.body.length) (0) ?_ (weak_of ?_ rfl ?_) (fun z hz => ?_)
    · exact Nat.zero_le _
    · repeat (first | exact trivial | refine ⟨(AVle.slM (congrArg (fun l => once (keysT (termsTs l))) (show r.head.l = topsZ r 0 by simp [topsZ]))), ?_⟩ | refine ⟨AVle.refl _, ?_⟩ | refine ⟨AVle.tk, ?_⟩ | refine ⟨AVle.nil, ?_⟩ | refine ⟨AVle.nilFull, ?_⟩ | refine ⟨AVle.eq (congrArg (AV.int .i64) (by first | (simp; done) | (simp; omega) | (rw [wrap_i64 (by first | omega | (simp; omega))]; first | rfl | omega | (simp; done) | (simp; omega)))), ?_⟩)
    · repeat (first | exact SLe.rfl | refine SLe.tail ?_ | refine SLe.full ?_)
    replace hz : z ≤ r.body.length := hz
    repeat (first | refine go_ ?_ | intro _)
    refine AW_iff (z < r.body.length) rfl (by first | (simp; done) | (simp <;> omega) | decide) (fun h => ?_) (fun h => ?_)
    · have hlt := h
      obtain ⟨x, hx⟩ : ∃ x, x = r.body[z] := ⟨_, rfl⟩
      have hm : x ∈ r.body := hx ▸ List.getElem_mem hlt
      have hs := topsZ_succ hlt
      rw [← hx] at hs
      have hb : (termsTs (topsZ r (z + 1))).length ≤ (termsTs (topsR r)).length := by
        have e : r.body = r.body.take (z + 1) ++ r.body.drop (z + 1) := (List.take_append_drop _ r.body).symm
        have : topsR r = topsZ r (z + 1) ++ (r.body.drop (z + 1)).flatMap topsL := by
          unfold topsR topsZ
          conv => lhs; rw [e]
          rw [List.flatMap_append, List.append_assoc]
        rw [this, termsTs_app, List.length_append]; omega
      have hb2 := hb
      rw [hs, termsTs_app, List.length_append] at hb2
      have e2 : (once (keysT (termsTs (topsL x)))).foldl addV (once (keysT (termsTs (topsZ r z)))) = once (keysT (termsTs (topsZ r (z + 1)))) := by
        rw [hs, termsTs_app, keysT_app, once_with]
      have k1 := keys_len2 (termsTs (topsL x))
      have k2 := keys_len2 (termsTs (topsZ r z))
      repeat (first | refine go_ ?_ | intro _)
      refine at_map (z) (by first | rfl | omega | (rw [wrap_i64 (by omega)]; omega)) (by first | assumption | omega) ?_
      rw [← hx]
      repeat (first | refine go_ ?_ | intro _)
      refine Or.inl ⟨⟨_, Tryd.func32, rfl, rfl⟩, ACall.mono ?_ (refLitVars_ok x _ (by omega) (rightL_good (rightR_lits hr x hm)))⟩
      rintro _ S1 ⟨rfl, hS1⟩
      subst S1
      repeat (first | refine go_ ?_ | intro _)
      refine Or.inl ⟨⟨_, Tryd.func31, rfl, rfl⟩, ACall.mono ?_ (with_ok (once (keysT (termsTs (topsZ r z)))) (once (keysT (termsTs (topsL x)))) _ (by omega))⟩
      rintro _ S1 ⟨rfl, hS1⟩
      subst S1
      repeat (first | refine go_ ?_ | intro _)
      refine ⟨z + 1, ?_, ?_, weak_of ?_ rfl ?_⟩
      · omega
      · exact hlt
      · repeat (first | exact trivial | refine ⟨(AVle.slM e2), ?_⟩ | refine ⟨AVle.refl _, ?_⟩ | refine ⟨AVle.tk, ?_⟩ | refine ⟨AVle.nil, ?_⟩ | refine ⟨AVle.nilFull, ?_⟩ | refine ⟨AVle.eq (congrArg (AV.int .i64) (by first | (simp; done) | (simp; omega) | (rw [wrap_i64 (by first | omega | (simp; omega))]; first | rfl | omega | (simp; done) | (simp; omega)))), ?_⟩)
      · repeat (first | exact SLe.rfl | refine SLe.tail ?_ | refine SLe.full ?_)
    · have hz' : z = r.body.length := by omega
      repeat (first | refine go_ ?_ | intro _)
      refine AW_ret ?_
      repeat (first | refine ⟨0, rfl, ?_⟩ | refine ⟨1, rfl, ?_⟩ | refine ⟨2, rfl, ?_⟩ | refine ⟨3, rfl, ?_⟩ | refine ⟨4, rfl, ?_⟩ | refine ⟨5, rfl, ?_⟩ | refine ⟨6, rfl, ?_⟩)
      refine ⟨_, R, ?_, (by repeat (first | exact SLe.rfl | refine SLe.tail ?_)), rfl, rfl⟩
      exact AVle.slEq (congrArg (List.map AV.str) (show once (keysT (termsTs (topsZ r z))) = varsR r by rw [e, hz', topsZ_all]; rfl))

theorem sameTexts_ok (a b : List Key) (R : List En) (ha : a.length ≤ 1000000) (hb : b.length ≤ 1000000) : ACall Tryd.prog 13 [.sl 1 (a.map AV.str) .no, .sl 1 (b.map AV.str) .no] R (fun v S => v = .bool (decide (a = b)) ∧ S = R) := by
  refine ACall_body tab_ok Tryd.func13 rfl rfl rfl (by kernel_rfl) (Nat.le_of_ble_eq_true rfl) ?_
  repeat (first | refine go_ ?_ | intro _)
  refine AW_iff (¬ a.length = b.length) rfl (by first | (simp; done) | (simp <;> omega) | decide) (fun h => ?_) (fun h => ?_)
  · repeat (first | refine go_ ?_ | intro _)
    refine AW_ret ?_
    repeat (first | refine ⟨0, rfl, ?_⟩ | refine ⟨1, rfl, ?_⟩ | refine ⟨2, rfl, ?_⟩ | refine ⟨3, rfl, ?_⟩ | refine ⟨4, rfl, ?_⟩ | refine ⟨5, rfl, ?_⟩ | refine ⟨6, rfl, ?_⟩)
    refine ⟨_, R, AVle.eq ?_, (by repeat (first | exact SLe.rfl | refine SLe.tail ?_)), rfl, rfl⟩
    exact congrArg AV.bool (decide_eq_false (fun e => h (by rw [e]))).symm
  have hl : a.length = b.length := Decidable.not_not.1 h
  repeat (first | refine go_ ?_ | intro _)
  refine AW_for (α := Nat) (fun z => ⟨[(0, .sl 1 (a.map AV.str) .no), (1, .sl 1 (b.map AV.str) .no), (5, .int .i64 (z : Nat))], []⟩) (fun z => R) (fun z => a.length - z) (fun z => z ≤ a.length ∧ ∀ (i : Nat) (h1 : i < a.length) (h2 : i < b.length), i < z → a[i] = b[i]) (0) ?_ (weak_of ?_ rfl ?_) (fun z hz => ?_)
  · exact ⟨by omega, fun i _ _ h => by omega⟩
  · repeat (first | exact trivial | refine ⟨AVle.refl _, ?_⟩ | refine ⟨AVle.tk, ?_⟩ | refine ⟨AVle.nil, ?_⟩ | refine ⟨AVle.nilFull, ?_⟩ | refine ⟨AVle.eq (congrArg (AV.int .i64) (by first | (simp; done) | (simp; omega) | (rw [wrap_i64 (by first | omega | (simp; omega))]; first | rfl | omega | (simp; done) | (simp; omega)))), ?_⟩)
  · repeat (first | exact SLe.rfl | refine SLe.tail ?_ | refine SLe.full ?_)
  obtain ⟨i1, i2⟩ := hz
  repeat (first | refine go_ ?_ | intro _)
  refine AW_iff (z < a.length) rfl (by first | (simp; done) | (simp <;> omega) | decide) (fun h => ?_) (fun h => ?_)
  · have hlt := h
    have hlb : z < b.length := by omega
    obtain ⟨x, hx⟩ : ∃ x, x = a[z] := ⟨_, rfl⟩
    obtain ⟨y, hy⟩ : ∃ x, x = b[z] := ⟨_, rfl⟩
    repeat (first | refine go_ ?_ | intro _)
    refine AW_draw tab_ok mixed 9 (by first | rfl | kernel_rfl) ?_
    repeat (first | refine go_ ?_ | intro _)
    refine at_map (z) (by first | rfl | omega | (rw [wrap_i64 (by omega)]; omega)) (by first | assumption | omega) ?_
    rw [← hx]
    repeat (first | refine go_ ?_ | intro _)
    refine at_map (z) (by first | rfl | omega | (rw [wrap_i64 (by omega)]; omega)) (by first | assumption | omega) ?_
    rw [← hy]
    repeat (first | refine go_ ?_ | intro _)
    refine AW_iff (¬ x = y) rfl (by first | (simp; done) | (simp <;> omega) | decide) (fun h => ?_) (fun h => ?_)
    · repeat (first | refine go_ ?_ | intro _)
      refine AW_ret ?_
      repeat (first | refine ⟨0, rfl, ?_⟩ | refine ⟨1, rfl, ?_⟩ | refine ⟨2, rfl, ?_⟩ | refine ⟨3, rfl, ?_⟩ | refine ⟨4, rfl, ?_⟩ | refine ⟨5, rfl, ?_⟩ | refine ⟨6, rfl, ?_⟩)
      refine ⟨_, R, AVle.eq ?_, (by repeat (first | exact SLe.rfl | refine SLe.tail ?_)), rfl, rfl⟩
      refine congrArg AV.bool (decide_eq_false (fun e => h ?_)).symm
      subst e
      rw [hx, hy]
    · have hq : x = y := Decidable.not_not.1 h
      repeat (first | refine go_ ?_ | intro _)
      refine ⟨z + 1, ?_, ?_, weak_of ?_ rfl ?_⟩
      · omega
      · refine ⟨by omega, fun i h1 h2 hiz => ?_⟩
        by_cases hc : i < z
        · exact i2 i h1 h2 hc
        · obtain rfl : i = z := by omega
          rw [← hx, ← hy]; exact hq
      · repeat (first | exact trivial | refine ⟨AVle.refl _, ?_⟩ | refine ⟨AVle.tk, ?_⟩ | refine ⟨AVle.nil, ?_⟩ | refine ⟨AVle.nilFull, ?_⟩ | refine ⟨AVle.eq (congrArg (AV.int .i64) (by first | (simp; done) | (simp; omega) | (rw [wrap_i64 (by first | omega | (simp; omega))]; first | rfl | omega | (simp; done) | (simp; omega)))), ?_⟩)
      · repeat (first | exact SLe.rfl | refine SLe.tail ?_ | refine SLe.full ?_)
  · repeat (first | refine go_ ?_ | intro _)
    refine AW_ret ?_
    repeat (first | refine ⟨0, rfl, ?_⟩ | refine ⟨1, rfl, ?_⟩ | refine ⟨2, rfl, ?_⟩ | refine ⟨3, rfl, ?_⟩ | refine ⟨4, rfl, ?_⟩ | refine ⟨5, rfl, ?_⟩ | refine ⟨6, rfl, ?_⟩)
    refine ⟨_, R, AVle.eq ?_, (by repeat (first | exact SLe.rfl | refine SLe.tail ?_)), rfl, rfl⟩
    exact congrArg AV.bool (decide_eq_true (List.ext_getElem hl fun i h1 h2 => i2 i h1 h2 (by omega))).symm
theorem sameInts_ok (a b : List Int) (R : List En) (ha : a.length ≤ 1000000) (hb : b.length ≤ 1000000) : ACall Tryd.prog 18 [.sl 1 (a.map encI) .no, .sl 1 (b.map encI) .no] R (fun v S => v = .bool (decide (a = b)) ∧ S = R) := by
  refine ACall_body tab_ok Tryd.func18 rfl rfl rfl (by kernel_rfl) (Nat.le_of_ble_eq_true rfl) ?_
  repeat (first | refine go_ ?_ | intro _)
  refine AW_iff (¬ a.length = b.length) rfl (by first | (simp; done) | (simp <;> omega) | decide) (fun h => ?_) (fun h => ?_)
  · repeat (first | refine go_ ?_ | intro _)
    refine AW_ret ?_
    repeat (first | refine ⟨0, rfl, ?_⟩ | refine ⟨1, rfl, ?_⟩ | refine ⟨2, rfl, ?_⟩ | refine ⟨3, rfl, ?_⟩ | refine ⟨4, rfl, ?_⟩ | refine ⟨5, rfl, ?_⟩ | refine ⟨6, rfl, ?_⟩)
    refine ⟨_, R, AVle.eq ?_, (by repeat (first | exact SLe.rfl | refine SLe.tail ?_)), rfl, rfl⟩
    exact congrArg AV.bool (decide_eq_false (fun e => h (by rw [e]))).symm
  have hl : a.length = b.length := Decidable.not_not.1 h
  repeat (first | refine go_ ?_ | intro _)
  refine AW_for (α := Nat) (fun z => ⟨[(0, .sl 1 (a.map encI) .no), (1, .sl 1 (b.map encI) .no), (5, .int .i64 (z : Nat))], []⟩) (fun z => R) (fun z => a.length - z) (fun z => z ≤ a.length ∧ ∀ (i : Nat) (h1 : i < a.length) (h2 : i < b.length), i < z → a[i] = b[i]) (0) ?_ (weak_of ?_ rfl ?_) (fun z hz => ?_)
  · exact ⟨by omega, fun i _ _ h => by omega⟩
  · repeat (first | exact trivial | refine ⟨AVle.refl _, ?_⟩ | refine ⟨AVle.tk, ?_⟩ | refine ⟨AVle.nil, ?_⟩ | refine ⟨AVle.nilFull, ?_⟩ | refine ⟨AVle.eq (congrArg (AV.int .i64) (by first | (simp; done) | (simp; omega) | (rw [wrap_i64 (by first | omega | (simp; omega))]; first | rfl | omega | (simp; done) | (simp; omega)))), ?_⟩)
  · repeat (first | exact SLe.rfl | refine SLe.tail ?_ | refine SLe.full ?_)
  obtain ⟨i1, i2⟩ := hz
  repeat (first | refine go_ ?_ | intro _)
  refine AW_iff (z < a.length) rfl (by first | (simp; done) | (simp <;> omega) | decide) (fun h => ?_) (fun h => ?_)
  · have hlt := h
    have hlb : z < b.length := by omega
    obtain ⟨x, hx⟩ : ∃ x, x = a[z] := ⟨_, rfl⟩
    obtain ⟨y, hy⟩ : ∃ x, x = b[z] := ⟨_, rfl⟩
    repeat (first | refine go_ ?_ | intro _)
    refine AW_draw tab_ok mixed 9 (by first | rfl | kernel_rfl) ?_
    repeat (first | refine go_ ?_ | intro _)
    refine at_map (z) (by first | rfl | omega | (rw [wrap_i64 (by omega)]; omega)) (by first | assumption | omega) ?_
    rw [← hx]
    repeat (first | refine go_ ?_ | intro _)
    refine at_map (z) (by first | rfl | omega | (rw [wrap_i64 (by omega)]; omega)) (by first | assumption | omega) ?_
    rw [← hy]
    repeat (first | refine go_ ?_ | intro _)
    refine AW_iff (¬ x = y) rfl (by first | (simp; done) | (simp <;> omega) | decide) (fun h => ?_) (fun h => ?_)
    · repeat (first | refine go_ ?_ | intro _)
      refine AW_ret ?_
      repeat (first | refine ⟨0, rfl, ?_⟩ | refine ⟨1, rfl, ?_⟩ | refine ⟨2, rfl, ?_⟩ | refine ⟨3, rfl, ?_⟩ | refine ⟨4, rfl, ?_⟩ | refine ⟨5, rfl, ?_⟩ | refine ⟨6, rfl, ?_⟩)
      refine ⟨_, R, AVle.eq ?_, (by repeat (first | exact SLe.rfl | refine SLe.tail ?_)), rfl, rfl⟩
      refine congrArg AV.bool (decide_eq_false (fun e => h ?_)).symm
      subst e
      rw [hx, hy]
    · have hq : x = y := Decidable.not_not.1 h
      repeat (first | refine go_ ?_ | intro _)
      refine ⟨z + 1, ?_, ?_, weak_of ?_ rfl ?_⟩
      · omega
      · refine ⟨by omega, fun i h1 h2 hiz => ?_⟩
        by_cases hc : i < z
        · exact i2 i h1 h2 hc
        · obtain rfl : i = z := by omega
          rw [← hx, ← hy]; exact hq
      · repeat (first | exact trivial | refine ⟨AVle.refl _, ?_⟩ | refine ⟨AVle.tk, ?_⟩ | refine ⟨AVle.nil, ?_⟩ | refine ⟨AVle.nilFull, ?_⟩ | refine ⟨AVle.eq (congrArg (AV.int .i64) (by first | (simp; done) | (simp; omega) | (rw [wrap_i64 (by first | omega | (simp; omega))]; first | rfl | omega | (simp; done) | (simp; omega)))), ?_⟩)
      · repeat (first | exact SLe.rfl | refine SLe.tail ?_ | refine SLe.full ?_)
  · repeat (first | refine go_ ?_ | intro _)
    refine AW_ret ?_
    repeat (first | refine ⟨0, rfl, ?_⟩ | refine ⟨1, rfl, ?_⟩ | refine ⟨2, rfl, ?_⟩ | refine ⟨3, rfl, ?_⟩ | refine ⟨4, rfl, ?_⟩ | refine ⟨5, rfl, ?_⟩ | refine ⟨6, rfl, ?_⟩)
    refine ⟨_, R, AVle.eq ?_, (by repeat (first | exact SLe.rfl | refine SLe.tail ?_)), rfl, rfl⟩
    exact congrArg AV.bool (decide_eq_true (List.ext_getElem hl fun i h1 h2 => i2 i h1 h2 (by omega))).symm
theorem gB_place (V : List Key) (ts : List Int) (s : Key) : (placeI V s < 0 ∧ gB V ts s = 0) ∨ ∃ i : Nat, placeI V s = (i : Int) ∧ i < V.length ∧ gB V ts s = ts.getD i 0 := by
  unfold placeI gB idxB
  cases h : V.findIdx? (fun x => decide (x = s)) with
  | none => exact .inl ⟨by decide, rfl⟩
  | some n => exact .inr ⟨n, rfl, (List.findIdx?_eq_some_iff_getElem.1 h).1, rfl⟩
theorem typed_ok (V : List Key) (ts : List Int) (s : Key) (R : List En) (hV : V.length ≤ 1000000) (ht : ts.length ≤ 1000000) : ACall Tryd.prog 19 [.sl 1 (V.map AV.str) .no, .sl 1 (ts.map encI) .no, .str s] R (fun v S => v = .int .i64 (gB V ts s) ∧ S = R) := by
  have kp : ∀ R, ACall Tryd.prog 41 [.sl 1 (V.map AV.str) .no, .str s] R (fun v S => v = .int .i64 (placeI V s) ∧ S = R) := fun R => by
    refine ACall_body tab_ok Tryd.func41 rfl rfl rfl (by kernel_rfl) (Nat.le_of_ble_eq_true rfl) ?_
    repeat (first | refine go_ ?_ | intro _)
    refine Or.inl ⟨⟨_, Tryd.func53, rfl, rfl⟩, ACall.mono ?_ (place_ok V s _ hV)⟩
    rintro _ S1 ⟨rfl, hS1⟩
    subst S1
    repeat (first | refine go_ ?_ | intro _)
    refine AW_ret ?_
    repeat (first | refine ⟨0, rfl, ?_⟩ | refine ⟨1, rfl, ?_⟩ | refine ⟨2, rfl, ?_⟩ | refine ⟨3, rfl, ?_⟩ | refine ⟨4, rfl, ?_⟩ | refine ⟨5, rfl, ?_⟩ | refine ⟨6, rfl, ?_⟩)
    refine ⟨_, R, AVle.eq ?_, (by repeat (first | exact SLe.rfl | refine SLe.tail ?_)), rfl, rfl⟩
    rfl
  rcases gB_place V ts s with ⟨h1, h2⟩ | ⟨i, h1, h2, h3⟩
  · refine ACall_body tab_ok Tryd.func19 rfl rfl rfl (by kernel_rfl) (Nat.le_of_ble_eq_true rfl) ?_
    repeat (first | refine go_ ?_ | intro _)
    refine Or.inl ⟨⟨_, Tryd.func41, rfl, rfl⟩, ACall.mono ?_ (kp _)⟩
    rintro _ S1 ⟨rfl, hS1⟩
    subst S1
    repeat (first | refine go_ ?_ | intro _)
    refine known_true (b := decide (placeI V s < 0)) (by exact decide_eq_true h1) ?_
    repeat (first | refine ga_ ?_ | intro _)
    refine AW_ret ?_
    repeat (first | refine ⟨0, rfl, ?_⟩ | refine ⟨1, rfl, ?_⟩ | refine ⟨2, rfl, ?_⟩ | refine ⟨3, rfl, ?_⟩ | refine ⟨4, rfl, ?_⟩ | refine ⟨5, rfl, ?_⟩ | refine ⟨6, rfl, ?_⟩)
    refine ⟨_, R, AVle.eq ?_, (by repeat (first | exact SLe.rfl | refine SLe.tail ?_)), rfl, rfl⟩
    rw [h2]; rfl
  · rw [h1] at kp
    refine ACall_body tab_ok Tryd.func19 rfl rfl rfl (by kernel_rfl) (Nat.le_of_ble_eq_true rfl) ?_
    repeat (first | refine go_ ?_ | intro _)
    refine Or.inl ⟨⟨_, Tryd.func41, rfl, rfl⟩, ACall.mono ?_ (kp _)⟩
    rintro _ S1 ⟨rfl, hS1⟩
    subst S1
    repeat (first | refine go_ ?_ | intro _)
    refine known_false (b := decide ((i : Int) < 0)) (by exact decide_eq_false (by omega)) ?_
    repeat (first | refine ga_ ?_ | intro _)
    refine AW_iff (ts.length ≤ i) rfl (by first | (simp; done) | (simp <;> omega) | decide) (fun h => ?_) (fun h => ?_)
    · repeat (first | refine ga_ ?_ | intro _)
      refine AW_ret ?_
      repeat (first | refine ⟨0, rfl, ?_⟩ | refine ⟨1, rfl, ?_⟩ | refine ⟨2, rfl, ?_⟩ | refine ⟨3, rfl, ?_⟩ | refine ⟨4, rfl, ?_⟩ | refine ⟨5, rfl, ?_⟩ | refine ⟨6, rfl, ?_⟩)
      refine ⟨_, R, AVle.eq ?_, (by repeat (first | exact SLe.rfl | refine SLe.tail ?_)), rfl, rfl⟩
      rw [h3]
      have : ts.getD i 0 = 0 := by simp [List.getD_eq_getElem?_getD, h]
      rw [this]; rfl
    · have hlt : i < ts.length := by omega
      obtain ⟨x, hx⟩ : ∃ x, x = ts[i] := ⟨_, rfl⟩
      repeat (first | refine ga_ ?_ | intro _)
      refine at_map (i) (by first | rfl | omega | (rw [wrap_i64 (by omega)]; omega)) (by first | assumption | omega) ?_
      rw [← hx]
      repeat (first | refine ga_ ?_ | intro _)
      refine AW_ret ?_
      repeat (first | refine ⟨0, rfl, ?_⟩ | refine ⟨1, rfl, ?_⟩ | refine ⟨2, rfl, ?_⟩ | refine ⟨3, rfl, ?_⟩ | refine ⟨4, rfl, ?_⟩ | refine ⟨5, rfl, ?_⟩ | refine ⟨6, rfl, ?_⟩)
      refine ⟨_, R, AVle.eq ?_, (by repeat (first | exact SLe.rfl | refine SLe.tail ?_)), rfl, rfl⟩
      rw [h3]
      have : ts.getD i 0 = x := by rw [hx]; simp [List.getD_eq_getElem?_getD, hlt]
      rw [this]; rfl
end Go.Proofs.YtkmalncnaodkiaaDoor
/-
  The three sentinels; what one term, one atom, one part asks of types. Own work.
-/
namespace Go.Proofs.YtkmalncnaodkiaaDoor
open Go.Aw Go.RowKit
set_option maxHeartbeats 4000000

/-! ### the sentinels -/
structure Es where
  n : Nat × Nat
  a : Nat × Nat
  t : Nat × Nat
def Es.av (e : Es) (c : Int) : AV := if c = 51 then errE e.n.1 e.n.2 else if c = 52 then errE e.a.1 e.a.2 else if c = 53 then errE e.t.1 e.t.2 else .nilif
structure EsIn (e : Es) (R : List En) : Prop where
  gn : En.glob 2 [errE e.n.1 e.n.2] ∈ R
  ga : En.glob 3 [errE e.a.1 e.a.2] ∈ R
  gt : En.glob 1 [errE e.t.1 e.t.2] ∈ R
  sn : En.sen e.n.1 ∈ R
  sa : En.sen e.a.1 ∈ R
  st : En.sen e.t.1 ∈ R
  na : e.n ≠ e.a
  nt : e.n ≠ e.t
  at_ : e.a ≠ e.t
theorem EsIn.cons {e : Es} {R : List En} (h : EsIn e R) {x : En} : EsIn e (x :: R) := ⟨.tail _ h.gn, .tail _ h.ga, .tail _ h.gt, .tail _ h.sn, .tail _ h.sa, .tail _ h.st, h.na, h.nt, h.at_⟩
theorem Es.av0 (e : Es) : e.av 0 = .nilif := rfl
theorem Es.avN (e : Es) : e.av 51 = errE e.n.1 e.n.2 := rfl
theorem Es.avA (e : Es) : e.av 52 = errE e.a.1 e.a.2 := rfl
theorem Es.avT (e : Es) : e.av 53 = errE e.t.1 e.t.2 := rfl

theorem errIsN_ok (x y : Nat × Nat) (R : List En) (hx : En.sen x.1 ∈ R) (hy : En.sen y.1 ∈ R) (hne : x ≠ y) : ACall Tryd.prog 45 [errE x.1 x.2, errE y.1 y.2] R (fun r S => r = .bool false ∧ S = R) := by
  refine ACall_pure fun w0 K w vs hv hS => ?_
  obtain ⟨v1, r, rfl, h1, hr⟩ := hv.cons_inv
  obtain ⟨v2, r', rfl, h2, hr'⟩ := hr.cons_inv
  obtain rfl := hr'.nil_inv
  obtain ⟨_, c1, t1, e1⟩ := hS.ents _ hx
  obtain ⟨_, c2, t2, e2⟩ := hS.ents _ hy
  cases h1 with
  | ifc _ h1 =>
    cases h1
    cases h2 with
    | ifc _ h2 =>
      cases h2
      refine (is_other ⟨x.1, x.2, none⟩ ⟨y.1, y.2, none⟩ c1 c2 t1 t2 w (fun e => hne ?_) e1 e2).mono ?_
      · obtain ⟨x1, x2⟩ := x
        obtain ⟨y1, y2⟩ := y
        simp only [Addr.mk.injEq, and_true] at e
        obtain ⟨rfl, rfl⟩ := e
        rfl
      rintro e w' ⟨rfl, rfl⟩
      exact ⟨_, rfl, .bool _, Below.refl _ _⟩
theorem errIsS_ok (b o : Nat) (R : List En) : ACall Tryd.prog 45 [errE b o, errE b o] R (fun r S => r = .bool true ∧ S = R) := errIs_ok b o false R
theorem errIs0_ok (b o : Nat) (R : List En) : ACall Tryd.prog 45 [.nilif, errE b o] R (fun r S => r = .bool false ∧ S = R) := errIs_ok b o true R
def isE (c : Int) : Prop := c = 0 ∨ c = 51 ∨ c = 52 ∨ c = 53
theorem isN_ok {e : Es} {R : List En} (h : EsIn e R) {c : Int} (hc : isE c) : ACall Tryd.prog 45 [e.av c, errE e.n.1 e.n.2] R (fun r S => r = .bool (decide (c = 51)) ∧ S = R) := by
  rcases hc with rfl | rfl | rfl | rfl
  · exact errIs0_ok _ _ R
  · exact errIsS_ok _ _ R
  · exact errIsN_ok _ _ R h.sa h.sn (Ne.symm h.na)
  · exact errIsN_ok _ _ R h.st h.sn (Ne.symm h.nt)
theorem isA_ok {e : Es} {R : List En} (h : EsIn e R) {c : Int} (hc : isE c) : ACall Tryd.prog 45 [e.av c, errE e.a.1 e.a.2] R (fun r S => r = .bool (decide (c = 52)) ∧ S = R) := by
  rcases hc with rfl | rfl | rfl | rfl
  · exact errIs0_ok _ _ R
  · exact errIsN_ok _ _ R h.sn h.sa h.na
  · exact errIsS_ok _ _ R
  · exact errIsN_ok _ _ R h.st h.sa (Ne.symm h.at_)
theorem isT_ok {e : Es} {R : List En} (h : EsIn e R) {c : Int} (hc : isE c) : ACall Tryd.prog 45 [e.av c, errE e.t.1 e.t.2] R (fun r S => r = .bool (decide (c = 53)) ∧ S = R) := by
  rcases hc with rfl | rfl | rfl | rfl
  · exact errIs0_ok _ _ R
  · exact errIsN_ok _ _ R h.sn h.st h.nt
  · exact errIsN_ok _ _ R h.sa h.st h.at_
  · exact errIsS_ok _ _ R

/-- things that a call lets be, ahead of those that it asks for -/
theorem ACall_at {f : FuncId} {args : List AV} (A : List En) {X Y R : List En} {v0 : AV} (h : ACall Tryd.prog f args (X ++ (A ++ R)) (fun v S => v = v0 ∧ S = Y ++ (A ++ R))) : ACall Tryd.prog f args (A ++ (X ++ R)) (fun v S => v = v0 ∧ S = A ++ (Y ++ R)) := by
  unfold ACall at h ⊢
  intro w0 K w vs hv hS
  refine CallsIn.mono (h w0 K w vs hv (hS.perm (perm3 X A R))) ?_
  rintro e w' ⟨v, K', av, S', he, hK, hr, hS', rfl, rfl⟩
  exact ⟨v, K', _, _, he, hK, hr, hS'.perm (perm3 A Y R), rfl, rfl⟩

/-! ### the typer -/
def encM (m : List (Key × Int)) : List (Key × AV) := m.map fun p => (p.1, encI p.2)
theorem mget_encM (s : Key) : ∀ m : List (Key × Int), mget s (.int .i64 0) (encM m) = (.int .i64 (getM s m), (mget s (.int .i64 0) (encM m)).2)
  | [] => rfl
  | p :: m => by
    have ih := mget_encM s m
    unfold encM at ih ⊢
    rw [List.map_cons, mget, getM]
    by_cases h : p.1 = s
    · rw [if_pos h, if_pos h]; rfl
    · rw [if_neg h, if_neg h]; exact ih
abbrev TY (q mb : Nat) (d : List De) (st : St) (R : List En) : List En := .cells q [.sl 6 (d.map encD) .no, .map mb, .bool st.more] :: .map mb (mkM (encM st.m)) :: R
theorem of_ok (q mb : Nat) (d : List De) (st : St) (t : T) (R : List En) : ACall Tryd.prog 83 [.ptr q 0, encU t] (TY q mb d st R) (fun v S => v = .int .i64 (tyOf st.g t) ∧ S = TY q mb d st R) := by
  refine ACall_body tab_ok Tryd.func83 rfl rfl rfl (by kernel_rfl) (Nat.le_of_ble_eq_true rfl) ?_
  repeat (first | refine go_ ?_ | intro _)
  rename_i p
  refine AW_iff (t.op = 1) rfl (by first | (simp; done) | (simp <;> omega) | decide) (fun h => ?_) (fun h => ?_)
  · repeat (first | refine go_ ?_ | intro _)
    refine AW_draw tab_ok mixed 8 (by first | rfl | kernel_rfl) ?_
    repeat (first | refine go_ ?_ | intro _)
    refine ⟨_, _, _, 2, _, rfl, rfl, zero_int, rfl, _, mget_encM t.s st.m, ?_⟩
    repeat (first | refine go_ ?_ | intro _)
    refine AW_ret ?_
    repeat (first | refine ⟨0, rfl, ?_⟩ | refine ⟨1, rfl, ?_⟩ | refine ⟨2, rfl, ?_⟩ | refine ⟨3, rfl, ?_⟩ | refine ⟨4, rfl, ?_⟩ | refine ⟨5, rfl, ?_⟩ | refine ⟨6, rfl, ?_⟩)
    refine ⟨_, TY q mb d st R, AVle.eq ?_, (by repeat (first | exact SLe.rfl | refine SLe.tail ?_)), rfl, rfl⟩
    exact congrArg (AV.int .i64) (tyOf_var (σ := st.g) h).symm
  have h1 := h
  repeat (first | refine go_ ?_ | intro _)
  refine AW_iff (t.op = 3) rfl (by first | (simp; done) | (simp <;> omega) | decide) (fun h => ?_) (fun h => ?_)
  · repeat (first | refine go_ ?_ | intro _)
    refine AW_ret ?_
    repeat (first | refine ⟨0, rfl, ?_⟩ | refine ⟨1, rfl, ?_⟩ | refine ⟨2, rfl, ?_⟩ | refine ⟨3, rfl, ?_⟩ | refine ⟨4, rfl, ?_⟩ | refine ⟨5, rfl, ?_⟩ | refine ⟨6, rfl, ?_⟩)
    refine ⟨_, TY q mb d st R, AVle.eq ?_, (by repeat (first | exact SLe.rfl | refine SLe.tail ?_)), rfl, rfl⟩
    exact congrArg (AV.int .i64) (show (2 : Int) = tyOf st.g t by rw [tyOf, if_neg h1, if_pos h])
  have h3 := h
  repeat (first | refine go_ ?_ | intro _)
  refine AW_iff (t.op = 4) rfl (by first | (simp; done) | (simp <;> omega) | decide) (fun h => ?_) (fun h => ?_)
  · repeat (first | refine go_ ?_ | intro _)
    refine AW_ret ?_
    repeat (first | refine ⟨0, rfl, ?_⟩ | refine ⟨1, rfl, ?_⟩ | refine ⟨2, rfl, ?_⟩ | refine ⟨3, rfl, ?_⟩ | refine ⟨4, rfl, ?_⟩ | refine ⟨5, rfl, ?_⟩ | refine ⟨6, rfl, ?_⟩)
    refine ⟨_, TY q mb d st R, AVle.eq ?_, (by repeat (first | exact SLe.rfl | refine SLe.tail ?_)), rfl, rfl⟩
    exact congrArg (AV.int .i64) (show (0 : Int) = tyOf st.g t by rw [tyOf, if_neg h1, if_neg h3, if_pos h])
  have h4 := h
  repeat (first | refine go_ ?_ | intro _)
  refine AW_ret ?_
  repeat (first | refine ⟨0, rfl, ?_⟩ | refine ⟨1, rfl, ?_⟩ | refine ⟨2, rfl, ?_⟩ | refine ⟨3, rfl, ?_⟩ | refine ⟨4, rfl, ?_⟩ | refine ⟨5, rfl, ?_⟩ | refine ⟨6, rfl, ?_⟩)
  refine ⟨_, TY q mb d st R, AVle.eq ?_, (by repeat (first | exact SLe.rfl | refine SLe.tail ?_)), rfl, rfl⟩
  exact congrArg (AV.int .i64) (show (1 : Int) = tyOf st.g t by rw [tyOf, if_neg h1, if_neg h3, if_neg h4])

def okC (b : Bool) : Int := if b = true then 0 else 53
theorem okC_in (b : Bool) : isE (okC b) := by cases b <;> simp [okC, isE]
theorem wantsTs_app (a b : List T) : wantsTs (a ++ b) = wantsTs a ++ wantsTs b := by
  induction a with
  | nil => rfl
  | cons x a ih => rw [List.cons_append, wantsTs, wantsTs, ih, List.append_assoc]
theorem wantsTs_take {l : List T} {z : Nat} (h : z < l.length) : wantsTs (l.take (z + 1)) = wantsTs (l.take z) ++ wantsT l[z] 1 := by
  rw [List.take_add_one, List.getElem?_eq_getElem h, Option.toList_some, wantsTs_app]
  show _ ++ (wantsT l[z] 1 ++ []) = _
  rw [List.append_nil]
theorem wants_take {l : List T} {z : Nat} (h : z < l.length) : wantsTs l = wantsTs (l.take z) ++ (wantsT l[z] 1 ++ wantsTs (l.drop (z + 1))) := by
  have e : l = l.take z ++ l[z] :: l.drop (z + 1) := by rw [List.getElem_cons_drop, List.take_append_drop]
  have := congrArg wantsTs e
  rw [wantsTs_app] at this
  exact this
theorem run_snoc {a b : List (T × Int)} {st : St} (h : (runM a st).1 = true) : runM (a ++ b) st = runM b (runM a st).2 := by rw [runM_append, if_pos h]
theorem run_stop {a b : List (T × Int)} {st : St} (h : (runM a st).1 = false) : runM (a ++ b) st = (false, (runM a st).2) := by rw [runM_append, if_neg (by rw [h]; decide)]
/-- what is wanted is of variables of V, and in range -/
def wantOk (V : List Key) (L : List (T × Int)) : Prop := (∀ q ∈ L, 0 ≤ q.2) ∧ ∀ q ∈ L, q.1.op = 1 → q.1.s ∈ V
theorem wantOk.left {V : List Key} {a b : List (T × Int)} (h : wantOk V (a ++ b)) : wantOk V a := ⟨fun q hq => h.1 q (List.mem_append_left _ hq), fun q hq => h.2 q (List.mem_append_left _ hq)⟩
theorem wantOk.right {V : List Key} {a b : List (T × Int)} (h : wantOk V (a ++ b)) : wantOk V b := ⟨fun q hq => h.1 q (List.mem_append_right _ hq), fun q hq => h.2 q (List.mem_append_right _ hq)⟩
theorem wantOk.good {V : List Key} {L : List (T × Int)} (h : wantOk V L) {st : St} (hg : Good V st) : Good V (runM L st).2 := (run_good hg h.1 h.2).1

theorem want_ok (e : Es) (V : List Key) (hV : V.length ≤ 1000000) (q mb : Nat) (d : List De) : ∀ (n : Nat) (R : List En), EsIn e R → n ≤ 2000 → ∀ (t : T) (k : Int) (st : St), (termsT t).length ≤ n → Good V st → wantOk V (wantsT t k) →
    ACall Tryd.prog 82 [.ptr q 0, encU t, .int .i64 k] (TY q mb d st R) (fun v S => v = e.av (okC (runM (wantsT t k) st).1) ∧ S = TY q mb d (runM (wantsT t k) st).2 R) := by
  intro n
  induction n with
  | zero => intro R hE _ t k st h; have := termsT_pos t; omega
  | succ n ih =>
  intro R hEs hn t k st hc hg hw
  have hc2 : (termsTs t.l).length ≤ n := by rw [termsT_eq, List.length_cons] at hc; omega
  have hll := termsTs_le t.l
  have hw' := hw
  rw [wantsT_eq] at hw
  obtain ⟨bF, sF, hF⟩ : ∃ b s, runM (wantsT t k) st = (b, s) := ⟨_, _, rfl⟩
  rw [hF]
  refine ACall_body tab_ok Tryd.func82 rfl rfl rfl (by kernel_rfl) (Nat.le_of_ble_eq_true rfl) ?_
  repeat (first | refine go_ ?_ | intro _)
  rename_i p
  refine AW_for (α := Nat × St) (fun z => ⟨[(0, .ptr q 0), (2, .int .i64 k), (4, .ptr p 0), (12, .sl 4 (encTs t.l) .no), (13, .int .i64 (t.l.length : Nat)), (14, .int .i64 (z.1 : Nat))], []⟩) (fun z => .cells p (cT t) :: TY q mb d z.2 R) (fun z => t.l.length - z.1) (fun z => z.1 ≤ t.l.length ∧ runM (wantsTs (t.l.take z.1)) st = (true, z.2)) ((0, st)) ?_ (weak_of ?_ rfl ?_) (fun z hz => ?_)
  · exact ⟨Nat.zero_le _, rfl⟩
  · repeat (first | exact trivial | refine ⟨(AVle.eq (congrArg (AV.int .i64) (by simp))), ?_⟩ | refine ⟨AVle.refl _, ?_⟩ | refine ⟨AVle.tk, ?_⟩ | refine ⟨AVle.nil, ?_⟩ | refine ⟨AVle.nilFull, ?_⟩ | refine ⟨AVle.eq (congrArg (AV.int .i64) (by first | (simp; done) | (simp; omega) | (rw [wrap_i64 (by first | omega | (simp; omega))]; first | rfl | omega | (simp; done) | (simp; omega)))), ?_⟩)
  · repeat (first | exact SLe.rfl | refine SLe.tail ?_ | refine SLe.full ?_)
  obtain ⟨z, s0⟩ := z
  obtain ⟨i1, i2⟩ : z ≤ t.l.length ∧ runM (wantsTs (t.l.take z)) st = (true, s0) := hz
  repeat (first | refine go_ ?_ | intro _)
  refine AW_iff (z < t.l.length) rfl (by first | (simp; done) | (simp <;> omega) | decide) (fun h => ?_) (fun h => ?_)
  · have hlt := h
    obtain ⟨x, hx⟩ : ∃ x, x = t.l[z] := ⟨_, rfl⟩
    have hm : x ∈ t.l := hx ▸ List.getElem_mem hlt
    have h1 := termsTs_at hm
    have hs := wantsTs_take hlt
    have hw2 := wants_take hlt
    rw [← hx] at hs hw2
    have hwl := hw.left
    rw [hw2] at hwl
    have hg0 : Good V s0 := by have := hwl.left.good hg; rwa [i2] at this
    have kw := fun R hE => ih R hE (by omega) x 1 s0 (by omega) hg0 hwl.right.left
    obtain ⟨b, s1, hr⟩ : ∃ b s, runM (wantsT x 1) s0 = (b, s) := ⟨_, _, rfl⟩
    rw [hr] at kw
    have e1 : runM (wantsTs (t.l.take (z + 1))) st = (b, s1) := by rw [hs, run_snoc (by rw [i2]), i2, hr]
    repeat (first | refine go_ ?_ | intro _)
    refine at_get (z) (encU x) (by first | rfl | omega | (rw [wrap_i64 (by omega)]; omega)) (by rw [hx]; exact encTs_get hlt) ?_
    repeat (first | refine go_ ?_ | intro _)
    rename_i p2
    have kw2 : ACall Tryd.prog 82 [.ptr q 0, encU x, .int .i64 1] (.cells p2 (cT x) :: .cells p (cT t) :: TY q mb d s0 R) (fun v S => v = e.av (okC b) ∧ S = .cells p2 (cT x) :: .cells p (cT t) :: TY q mb d s1 R) :=
      ACall_at [.cells p2 (cT x), .cells p (cT t)] (X := TY q mb d s0 []) (Y := TY q mb d s1 []) (R := R) (kw _ hEs.cons.cons)
    cases b with
    | false =>
      have e2 : runM (wantsT t k) st = (false, s1) := by
        rw [wantsT_eq, show wantsTs t.l ++ [(t, k)] = wantsTs (t.l.take (z + 1)) ++ (wantsTs (t.l.drop (z + 1)) ++ [(t, k)]) by rw [hw2, hs]; simp only [List.append_assoc], run_stop (by rw [e1]), e1]
      cases e2.symm.trans hF
      refine Or.inl ⟨⟨_, Tryd.func82, rfl, rfl⟩, ACall.mono ?_ (kw2)⟩
      rintro _ S1 ⟨rfl, hS1⟩
      subst S1
      repeat (first | refine ga_ ?_ | intro _)
      refine AW_ret ?_
      repeat (first | refine ⟨0, rfl, ?_⟩ | refine ⟨1, rfl, ?_⟩ | refine ⟨2, rfl, ?_⟩ | refine ⟨3, rfl, ?_⟩ | refine ⟨4, rfl, ?_⟩ | refine ⟨5, rfl, ?_⟩ | refine ⟨6, rfl, ?_⟩)
      refine ⟨_, TY q mb d sF R, AVle.eq ?_, (by repeat (first | exact SLe.rfl | refine SLe.tail ?_)), rfl, rfl⟩
      rfl
    | true =>
      refine Or.inl ⟨⟨_, Tryd.func82, rfl, rfl⟩, ACall.mono ?_ (kw2)⟩
      rintro _ S1 ⟨rfl, hS1⟩
      subst S1
      repeat (first | refine ga_ ?_ | intro _)
      refine ⟨(z + 1, s1), ?_, ?_, weak_of ?_ rfl ?_⟩
      · exact Nat.sub_lt_sub_left hlt (Nat.lt_succ_self z)
      · exact ⟨hlt, e1⟩
      · repeat (first | exact trivial | refine ⟨AVle.refl _, ?_⟩ | refine ⟨AVle.tk, ?_⟩ | refine ⟨AVle.nil, ?_⟩ | refine ⟨AVle.nilFull, ?_⟩ | refine ⟨AVle.eq (congrArg (AV.int .i64) (by first | (simp; done) | (simp; omega) | (rw [wrap_i64 (by first | omega | (simp; omega))]; first | rfl | omega | (simp; done) | (simp; omega)))), ?_⟩)
      · repeat (first | exact SLe.rfl | refine SLe.tail ?_ | refine SLe.full ?_)
  · have hz' : z = t.l.length := by omega
    rw [hz', List.take_length] at i2
    have hg0 : Good V s0 := by have := hw.left.good hg; rwa [i2] at this
    have hsV : t.op = 1 → t.s ∈ V := fun h1 => hw.2 (t, k) (by simp) h1
    have e2 : runM (wantsT t k) st = tell (t, k) s0 := by
      rw [wantsT_eq, run_snoc (by rw [i2]), i2, runM]
      obtain ⟨b, s, hb⟩ : ∃ b s, tell (t, k) s0 = (b, s) := ⟨_, _, rfl⟩
      rw [hb]
      cases b <;> rfl
    have ko : ACall Tryd.prog 83 [.ptr q 0, encU t] (.cells p (cT t) :: TY q mb d s0 R) (fun v S => v = .int .i64 (tyOf s0.g t) ∧ S = .cells p (cT t) :: TY q mb d s0 R) :=
      ACall_at [.cells p (cT t)] (X := TY q mb d s0 []) (Y := TY q mb d s0 []) (R := R) (of_ok q mb d s0 t _)
    rw [e2] at hF
    unfold tell at hF
    simp only [] at hF
    repeat (first | refine go_ ?_ | intro _)
    refine Or.inl ⟨⟨_, Tryd.func83, rfl, rfl⟩, ACall.mono ?_ (ko)⟩
    rintro _ S1 ⟨rfl, hS1⟩
    subst S1
    repeat (first | refine go_ ?_ | intro _)
    refine gsplit (k = 0) (by first | (simp; done) | (simp <;> omega) | decide) (fun h => ?_) (fun h => ?_)
    · rw [if_pos (.inl h)] at hF
      cases hF
      repeat (first | refine ga_ ?_ | intro _)
      refine AW_ret ?_
      repeat (first | refine ⟨0, rfl, ?_⟩ | refine ⟨1, rfl, ?_⟩ | refine ⟨2, rfl, ?_⟩ | refine ⟨3, rfl, ?_⟩ | refine ⟨4, rfl, ?_⟩ | refine ⟨5, rfl, ?_⟩ | refine ⟨6, rfl, ?_⟩)
      refine ⟨_, TY q mb d sF R, AVle.eq ?_, (by repeat (first | exact SLe.rfl | refine SLe.tail ?_)), rfl, rfl⟩
      rfl
    have hk := h
    repeat (first | refine go_ ?_ | intro _)
    refine AW_iff (t.op = 4) rfl (by first | (simp; done) | (simp <;> omega) | decide) (fun h => ?_) (fun h => ?_)
    · rw [if_pos (.inr h)] at hF
      cases hF
      repeat (first | refine ga_ ?_ | intro _)
      refine AW_ret ?_
      repeat (first | refine ⟨0, rfl, ?_⟩ | refine ⟨1, rfl, ?_⟩ | refine ⟨2, rfl, ?_⟩ | refine ⟨3, rfl, ?_⟩ | refine ⟨4, rfl, ?_⟩ | refine ⟨5, rfl, ?_⟩ | refine ⟨6, rfl, ?_⟩)
      refine ⟨_, TY q mb d sF R, AVle.eq ?_, (by repeat (first | exact SLe.rfl | refine SLe.tail ?_)), rfl, rfl⟩
      rfl
    have h4 := h
    rw [if_neg (by simp [hk, h4])] at hF
    repeat (first | refine go_ ?_ | intro _)
    refine AW_iff (tyOf s0.g t = 0) rfl (by first | (simp; done) | (simp <;> omega) | decide) (fun h => ?_) (fun h => ?_)
    · rw [if_pos h] at hF
      have h1 : t.op = 1 := by
        by_cases h1 : t.op = 1
        · exact h1
        · exact absurd h (tyOf_ne h1 h4)
      have h0 : getM t.s s0.m = 0 := by have := h; rwa [tyOf_var h1] at this
      obtain ⟨p1, p2⟩ := putM_new (k := k) (fun p hp => Int.ne_of_gt (hg0.1 p hp)) h0
      rw [p1] at hF
      cases hF
      have hml := hg0.len
      have hen : ∀ x ∈ encM s0.m, x.1 ≠ t.s := fun x hx => by
        obtain ⟨y, hy, rfl⟩ := List.mem_map.1 hx
        exact p2 y hy
      have hel : (encM s0.m).length = s0.m.length := List.length_map _
      repeat (first | refine go_ ?_ | intro _)
      refine AW_drawl tab_ok mixed 8 [6, 7] (by first | rfl | kernel_rfl) ?_
      repeat (first | refine ga_ ?_ | intro _)
      refine ⟨_, _, _, 2, _, rfl, rfl, zero_int, rfl, hen, (by omega), ?_⟩
      repeat (first | refine ga_ ?_ | intro _)
      refine ⟨2, _, (encM s0.m).length, (t.s, .int .i64 0), rfl, rfl, (by simp), encM (s0.m ++ [(t.s, k)]), (show (encM s0.m ++ [(t.s, AV.int .i64 0)]).set (encM s0.m).length (t.s, AV.int .i64 k) = encM (s0.m ++ [(t.s, k)]) from (set_last _ _ _).trans (by simp [encM, encI])), ?_⟩
      repeat (first | refine ga_ ?_ | intro _)
      refine AW_ret ?_
      repeat (first | refine ⟨0, rfl, ?_⟩ | refine ⟨1, rfl, ?_⟩ | refine ⟨2, rfl, ?_⟩ | refine ⟨3, rfl, ?_⟩ | refine ⟨4, rfl, ?_⟩ | refine ⟨5, rfl, ?_⟩ | refine ⟨6, rfl, ?_⟩)
      refine ⟨_, TY q mb d ⟨s0.m ++ [(t.s, k)], true⟩ R, AVle.eq ?_, (by repeat (first | exact SLe.rfl | refine SLe.tail ?_)), rfl, rfl⟩
      rfl
    · rw [if_neg h] at hF
      repeat (first | refine go_ ?_ | intro _)
      refine AW_iff (¬ tyOf s0.g t = k) rfl (by first | (simp; done) | (simp <;> omega) | decide) (fun h => ?_) (fun h => ?_)
      · rw [decide_eq_false h] at hF
        cases hF
        have hE := hEs.gt
        repeat (first | refine ga_ ?_ | intro _)
        first | refine ⟨_, hE, ⟨Nat.le_refl 1, Nat.le_refl 1⟩, _, rfl, ?_⟩ | refine ⟨_, (.tail _ hE), ⟨Nat.le_refl 1, Nat.le_refl 1⟩, _, rfl, ?_⟩ | refine ⟨_, (.tail _ (.tail _ hE)), ⟨Nat.le_refl 1, Nat.le_refl 1⟩, _, rfl, ?_⟩ | refine ⟨_, (.tail _ (.tail _ (.tail _ hE))), ⟨Nat.le_refl 1, Nat.le_refl 1⟩, _, rfl, ?_⟩ | refine ⟨_, (.tail _ (.tail _ (.tail _ (.tail _ hE)))), ⟨Nat.le_refl 1, Nat.le_refl 1⟩, _, rfl, ?_⟩ | refine ⟨_, (.tail _ (.tail _ (.tail _ (.tail _ (.tail _ hE))))), ⟨Nat.le_refl 1, Nat.le_refl 1⟩, _, rfl, ?_⟩ | refine ⟨_, (.tail _ (.tail _ (.tail _ (.tail _ (.tail _ (.tail _ hE)))))), ⟨Nat.le_refl 1, Nat.le_refl 1⟩, _, rfl, ?_⟩ | refine ⟨_, (.tail _ (.tail _ (.tail _ (.tail _ (.tail _ (.tail _ (.tail _ hE))))))), ⟨Nat.le_refl 1, Nat.le_refl 1⟩, _, rfl, ?_⟩ | refine ⟨_, (.tail _ (.tail _ (.tail _ (.tail _ (.tail _ (.tail _ (.tail _ (.tail _ hE)))))))), ⟨Nat.le_refl 1, Nat.le_refl 1⟩, _, rfl, ?_⟩
        repeat (first | refine ga_ ?_ | intro _)
        refine AW_ret ?_
        repeat (first | refine ⟨0, rfl, ?_⟩ | refine ⟨1, rfl, ?_⟩ | refine ⟨2, rfl, ?_⟩ | refine ⟨3, rfl, ?_⟩ | refine ⟨4, rfl, ?_⟩ | refine ⟨5, rfl, ?_⟩ | refine ⟨6, rfl, ?_⟩)
        refine ⟨_, TY q mb d sF R, AVle.eq ?_, (by repeat (first | exact SLe.rfl | refine SLe.tail ?_)), rfl, rfl⟩
        rfl
      · rw [decide_eq_true (Decidable.not_not.1 h)] at hF
        cases hF
        repeat (first | refine ga_ ?_ | intro _)
        refine AW_ret ?_
        repeat (first | refine ⟨0, rfl, ?_⟩ | refine ⟨1, rfl, ?_⟩ | refine ⟨2, rfl, ?_⟩ | refine ⟨3, rfl, ?_⟩ | refine ⟨4, rfl, ?_⟩ | refine ⟨5, rfl, ?_⟩ | refine ⟨6, rfl, ?_⟩)
        refine ⟨_, TY q mb d sF R, AVle.eq ?_, (by repeat (first | exact SLe.rfl | refine SLe.tail ?_)), rfl, rfl⟩
        rfl
end Go.Proofs.YtkmalncnaodkiaaDoor
