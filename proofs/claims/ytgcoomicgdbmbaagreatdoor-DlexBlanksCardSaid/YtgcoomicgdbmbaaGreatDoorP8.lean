/-
  The next token, or what is wrong; errors.Join of one error. Own work.
-/
import Derived.Test.YtgcoomicgdbmbaaGreatDoorP7
import Derived.Test.YtgcoomicgdbmbaaGreatDoorP6
set_option linter.all false
namespace Go.Proofs.YtgcoomicgdbmbaaGreatDoor
open Go.Aw Go.RowKit
set_option maxHeartbeats 4000000

theorem AW_freezeI {P : Program} {N : Nat} {rd : Option Nat} {E : Env} {S : List En} {k : Kt} {c : Code} (t : Nat) {T : TypeId} {p b : Nat} {cs : List AV} (he : lk E.l t = .ifc T (.ptr b 0)) (hp : S[p]? = some (.cells b cs)) (h : AW P N rd c ⟨(t, .ifc T (.ref cs)) :: E.l, E.m⟩ (S.eraseIdx p) k) : AW P N rd c E S k := by
  refine AW_weak ?_ h
  intro w0 N K a w hE hS
  have hSp := hS.perm (erase_perm hp)
  obtain ⟨K', hK, h1, vs, e1, hr, ho⟩ := hSp.freeze (p := 0) rfl
  refine ⟨K', hK, ⟨hE.size, fun i => ?_, hE.defers⟩, h1⟩
  simp only [lk]
  by_cases hi : t = i
  · subst hi
    rw [Nat.beq_refl]
    have hv := hE.slot t
    rw [he] at hv
    generalize a.tmps.getD t undef = v at hv
    show Rel K' (.ifc T (.ref cs)) v
    cases hv with
    | ifc _ hv =>
      cases hv
      exact .ifc _ (.ref ho hr.1 hr.2 (fun i v hv => by rw [Nat.zero_add, e1]; exact hv))
  · rw [natBeq_ne hi]
    exact (hE.slot i).mono hK

/-- what is wrong at a line -/
def wrongE (line code : Int) : AV := .ifc 43 (.ref [.int .i64 line, .int .i64 code])
theorem join1_ok (E : AV) (tk : Tk) (hE : E.plain = true ∧ E.cells.length = 1) (R : List En) : ACall Tryz.prog 18 [.sl 1 [.ifc 43 E] tk] R (fun r S => ∃ tk', r = .ifc 65 (.ref [.sl 1 [.ifc 43 E] tk']) ∧ S = R) := by
  refine ACall_body tab_ok Tryz.func18 rfl rfl rfl (by kernel_rfl) (Nat.le_of_ble_eq_true rfl) ?_
  repeat (first | refine go_ ?_ | intro _)
  refine AW_for (α := Nat) (fun z => ⟨[(0, .sl 1 [.ifc 43 E] tk), (3, .int .i64 (z : Nat)), (9, .sl 1 [.ifc 43 E] tk), (10, .int .i64 (1 : Nat)), (11, .int .i64 (z : Nat))], []⟩) (fun z => R) (fun z => 1 - z) (fun z => z ≤ 1) (0) ?_ (weak_of ?_ rfl ?_) (fun z hz => ?_)
  · omega
  · repeat (first | exact trivial | refine ⟨AVle.refl _, ?_⟩ | refine ⟨AVle.tk, ?_⟩ | refine ⟨AVle.nil, ?_⟩ | refine ⟨AVle.nilFull, ?_⟩ | refine ⟨AVle.eq (congrArg (AV.int .i64) (by first | (simp; done) | (simp; omega) | (rw [wrap_i64 (by first | omega | (simp; omega))]; first | rfl | omega | (simp; done) | (simp; omega)))), ?_⟩)
  · repeat (first | exact SLe.rfl | refine SLe.tail ?_ | refine SLe.full ?_)
  repeat (first | refine go_ ?_ | intro _)
  refine AW_iff (z < 1) rfl (by first | (simp; done) | (simp <;> omega) | decide) (fun h => ?_) (fun h => ?_)
  · obtain rfl : z = 0 := by omega
    repeat (first | refine go_ ?_ | intro _)
    refine ⟨by decide, _, rfl, ?_⟩
    repeat (first | refine go_ ?_ | intro _)
    refine AW_true (b := true) rfl (by first | rfl | (simp; done) | (simp; omega) | decide) ?_
    repeat (first | refine go_ ?_ | intro _)
    refine ⟨1, ?_, ?_, weak_of ?_ rfl ?_⟩
    · omega
    · omega
    · repeat (first | exact trivial | refine ⟨AVle.refl _, ?_⟩ | refine ⟨AVle.tk, ?_⟩ | refine ⟨AVle.nil, ?_⟩ | refine ⟨AVle.nilFull, ?_⟩ | refine ⟨AVle.eq (congrArg (AV.int .i64) (by first | (simp; done) | (simp; omega) | (rw [wrap_i64 (by first | omega | (simp; omega))]; first | rfl | omega | (simp; done) | (simp; omega)))), ?_⟩)
    · repeat (first | exact SLe.rfl | refine SLe.tail ?_ | refine SLe.full ?_)
  obtain rfl : z = 1 := by omega
  repeat (first | refine go_ ?_ | intro _)
  refine AW_false (b := false) rfl (by first | rfl | (simp; done) | (simp; omega) | decide) ?_
  repeat (first | refine go_ ?_ | intro _)
  refine ⟨0, 1, rfl, rfl, Nat.zero_le _, room (by first | omega | (simp; omega)) rfl, .inl ⟨rfl, fun t1 => ?_⟩⟩
  repeat (first | refine go_ ?_ | intro _)
  rename_i b
  refine AW_for (α := Nat × List AV × Tk) (fun z => ⟨[(0, .sl 1 [.ifc 43 E] tk), (6, .ptr b 0), (26, .sl 1 [.ifc 43 E] tk), (27, .int .i64 (1 : Nat)), (28, .int .i64 (z.1 : Nat))], []⟩) (fun z => .cells b [.sl 1 z.2.1 z.2.2] :: .grow z.2.2 :: R) (fun z => 1 - z.1) (fun z => (z.1 = 0 ∧ z.2.1 = []) ∨ (z.1 = 1 ∧ z.2.1 = [.ifc 43 E])) ((0, [], t1)) ?_ (weak_of ?_ rfl ?_) (fun z hz => ?_)
  · exact .inl ⟨rfl, rfl⟩
  · repeat (first | exact trivial | refine ⟨AVle.refl _, ?_⟩ | refine ⟨AVle.tk, ?_⟩ | refine ⟨AVle.nil, ?_⟩ | refine ⟨AVle.nilFull, ?_⟩ | refine ⟨AVle.eq (congrArg (AV.int .i64) (by first | (simp; done) | (simp; omega) | (rw [wrap_i64 (by first | omega | (simp; omega))]; first | rfl | omega | (simp; done) | (simp; omega)))), ?_⟩)
  · repeat (first | exact SLe.rfl | refine SLe.tail ?_ | refine SLe.full ?_)
  obtain ⟨z, es, t2⟩ := z
  rcases hz with ⟨z1, z2⟩ | ⟨z1, z2⟩
  · simp only [] at z1 z2
    subst z1 z2
    repeat (first | refine go_ ?_ | intro _)
    refine AW_true (b := true) rfl (by first | rfl | (simp; done) | (simp; omega) | decide) ?_
    repeat (first | refine go_ ?_ | intro _)
    refine ⟨Int.le_refl 0, _, rfl, ?_⟩
    repeat (first | refine go_ ?_ | intro _)
    refine AW_true (b := true) rfl (by first | rfl | (simp; done) | (simp; omega) | decide) ?_
    repeat (first | refine go_ ?_ | intro _)
    refine ⟨room (by first | omega | (simp; done) | (simp; omega) | (simp at *; done) | (simp at *; omega)) rfl, .inl rfl, .inr (.inl ⟨rfl, 1, rfl, _, rfl, fun t1 => ?_⟩)⟩
    repeat (first | refine go_ ?_ | intro _)
    refine ⟨((1, [.ifc 43 E], t1) : Nat × List AV × Tk), ?_, ?_, weak_of ?_ rfl ?_⟩
    · exact Nat.sub_lt_sub_left (show 0 < 1 by decide) (Nat.lt_succ_self 0)
    · exact .inr ⟨rfl, rfl⟩
    · repeat (first | exact trivial | refine ⟨AVle.refl _, ?_⟩ | refine ⟨AVle.tk, ?_⟩ | refine ⟨AVle.nil, ?_⟩ | refine ⟨AVle.nilFull, ?_⟩ | refine ⟨AVle.eq (congrArg (AV.int .i64) (by first | (simp; done) | (simp; omega) | (rw [wrap_i64 (by first | omega | (simp; omega))]; first | rfl | omega | (simp; done) | (simp; omega)))), ?_⟩)
    · repeat (first | exact SLe.rfl | refine SLe.tail ?_ | refine SLe.full ?_)
  · simp only [] at z1 z2
    subst z1 z2
    repeat (first | refine go_ ?_ | intro _)
    refine AW_false (b := false) rfl (by first | rfl | (simp; done) | (simp; omega) | decide) ?_
    repeat (first | refine go_ ?_ | intro _)
    refine AW_freezeI 2 (p := 0) rfl rfl ?_
    refine AW_ret ?_
    exact ⟨_, R, AVle.refl _, SLe.tail SLe.rfl, _, rfl, rfl⟩
end Go.Proofs.YtgcoomicgdbmbaaGreatDoor
/-
  The next token, or what is wrong there. Own work.
-/
namespace Go.Proofs.YtgcoomicgdbmbaaGreatDoor
open Go.Aw Go.RowKit
set_option maxHeartbeats 4000000

theorem oneT_word {c : UInt8} {l w r : List UInt8} {k : Nat} (hc : ¬ c.toNat = 34) (h : oneT (c :: l) = some (k, w, r)) : c :: l = w ++ r ∧ k ≠ 3 := by
  obtain ⟨c', l', e1, e2, _, _, h3⟩ := oneT_cases h
  obtain ⟨rfl, rfl⟩ := List.cons.inj e1
  have hk : k ≠ 3 := by
    rcases h3 with ⟨_, rfl, _⟩ | ⟨_, _, rfl, _⟩ | ⟨rfl, _⟩ | ⟨_, rfl, _⟩ | ⟨_, _, _, _, rfl, _⟩
    · decide
    · decide
    · exact absurd rfl hc
    · decide
    · decide
  rw [txt, if_neg hk] at e2
  exact ⟨e2, hk⟩
theorem oneT_quote (l : List UInt8) : oneT (34 :: l) = (symR l).map fun q => (3, q.1, q.2) := by
  rw [oneT, if_neg (by decide), if_neg (by decide), if_pos (by decide)]
/-- what the reading of the next token hands back, and leaves -/
def nextR (M p : Nat) (s : List UInt8) (R : List En) (r : AV) (S : List En) : Prop := match oneT s with
  | some q => r = .tup [encT ⟨q.1, q.2.1, ((M - cnt s : Nat) : Int)⟩, .nilif] ∧ S = .cells p (scn M q.2.2) :: R
  | none => r = .tup [encT ⟨0, [], 0⟩, wrongE ((M - cnt s : Nat) : Int) 20] ∧ S = .cells p (scn M s) :: R
theorem nextR_some {M p : Nat} {s : List UInt8} {R : List En} {r : AV} {S : List En} {q : Nat × List UInt8 × List UInt8} (h : oneT s = some q) (h1 : r = .tup [encT ⟨q.1, q.2.1, ((M - cnt s : Nat) : Int)⟩, .nilif]) (h2 : S = .cells p (scn M q.2.2) :: R) : nextR M p s R r S := by
  rw [nextR, h]; exact ⟨h1, h2⟩
theorem nextR_none {M p : Nat} {s : List UInt8} {R : List En} {r : AV} {S : List En} (h : oneT s = none) (h1 : r = .tup [encT ⟨0, [], 0⟩, wrongE ((M - cnt s : Nat) : Int) 20]) (h2 : S = .cells p (scn M s) :: R) : nextR M p s R r S := by
  rw [nextR, h]; exact ⟨h1, h2⟩
theorem perm_in {a b c : En} {R : List En} : SLe (a :: b :: c :: R) (c :: a :: b :: R) := fun _ _ _ h => h.perm ((List.perm_middle (l₁ := [a, b])).symm)
theorem perm_out {a b c : En} {R : List En} : SLe (c :: a :: b :: R) (a :: b :: c :: R) := fun _ _ _ h => h.perm (List.perm_middle (l₁ := [a, b]))
theorem next_sym (M p : Nat) (l : List UInt8) (R : List En) (hE : ErrG R) (hl : l.length ≤ 16777215) (hM : cnt (34 :: l) ≤ M) (hM2 : M ≤ 33554432) :
    ACall Tryz.prog 28 [.ptr p 0] (.cells p (scn M (34 :: l)) :: R) (fun r S => nextR M p (34 :: l) R r S) := by
  have ks := symbol_ok M p l
  have hT := oneT_quote l
  refine ACall_body tab_ok Tryz.func28 rfl rfl rfl (by kernel_rfl) (Nat.le_of_ble_eq_true rfl) ?_
  repeat (first | refine go_ ?_ | intro _)
  rename_i b1 b2
  refine at_list 0 rfl (by simp) ?_
  show (fun x : UInt8 => _) 34
  repeat (first | refine go_ ?_ | intro _)
  refine AW_true (b := true) rfl (by first | rfl | (simp; done) | (simp; omega) | decide) ?_
  cases hy : symR l with
  | some q =>
    obtain ⟨t, r⟩ := q
    rw [hy] at ks hT
    simp only [Option.map_some] at ks hT
    repeat (first | refine go_ ?_ | intro _)
    refine Or.inl ⟨⟨_, Tryz.func50, rfl, rfl⟩, ACall_dropX perm_in (ACall.mono ?_ (ks (.cells b2 [.int .i64 0, .str [], .int .i64 0] :: .cells b1 [.int .i64 0, .str [], .int .i64 0] :: R) hE.cons.cons hl hM hM2))⟩
    rintro _ S1 ⟨rfl, hS1⟩
    subst S1
    repeat (first | refine go_ ?_ | intro _)
    refine AW_false (b := false) rfl (by first | rfl | (simp; done) | (simp; omega) | decide) ?_
    repeat (first | refine go_ ?_ | intro _)
    refine AW_ret ?_
    refine ⟨rfl, 2, _, rfl, ⟨Nat.le_of_ble_eq_true rfl, Nat.le_of_ble_eq_true rfl⟩, _, .cells p (scn M r) :: R, AVle.refl _, ?_, nextR_some hT rfl rfl⟩
    exact fun w0 K w h => (h.sub (List.Sublist.cons_cons _ (List.Sublist.cons _ (List.Sublist.cons _ (List.Sublist.refl _)))))
  | none =>
    rw [hy] at ks hT
    simp only [Option.map_none] at ks hT
    repeat (first | refine go_ ?_ | intro _)
    refine Or.inl ⟨⟨_, Tryz.func50, rfl, rfl⟩, ACall_dropX perm_in (ACall.mono ?_ (ks (.cells b2 [.int .i64 0, .str [], .int .i64 0] :: .cells b1 [.int .i64 0, .str [], .int .i64 0] :: R) hE.cons.cons hl hM hM2))⟩
    rintro _ S1 ⟨rfl, hS1⟩
    subst S1
    repeat (first | refine go_ ?_ | intro _)
    refine AW_true (b := true) rfl (by first | rfl | (simp; done) | (simp; omega) | decide) ?_
    repeat (first | refine go_ ?_ | intro _)
    refine AW_freezeI 3 (p := 0) rfl rfl ?_
    refine AW_ret ?_
    refine ⟨rfl, 2, _, rfl, ⟨Nat.le_of_ble_eq_true rfl, Nat.le_of_ble_eq_true rfl⟩, _, .cells p (scn M (34 :: l)) :: R, AVle.refl _, ?_, nextR_none hT rfl rfl⟩
    exact fun w0 K w h => (h.sub (List.Sublist.cons_cons _ (List.Sublist.cons _ (List.Sublist.cons _ (List.Sublist.refl _)))))
theorem next_tok (M p : Nat) (c : UInt8) (l : List UInt8) (R : List En) (hG : NumG R) (hc : ¬ c.toNat = 34) (hl : l.length ≤ 16777214) (hM : cnt (c :: l) ≤ M) (hM2 : M ≤ 33554432) :
    ACall Tryz.prog 28 [.ptr p 0] (.cells p (scn M (c :: l)) :: R) (fun r S => nextR M p (c :: l) R r S) := by
  have ks := token_ok M p c l
  refine ACall_body tab_ok Tryz.func28 rfl rfl rfl (by kernel_rfl) (Nat.le_of_ble_eq_true rfl) ?_
  repeat (first | refine go_ ?_ | intro _)
  rename_i b1 b2
  refine at_list 0 rfl (by simp) ?_
  show (fun x : UInt8 => _) c
  repeat (first | refine go_ ?_ | intro _)
  refine AW_iff (c.toNat = 34) rfl (by first | (simp; done) | (simp <;> omega) | decide) (fun h => ?_) (fun h => ?_)
  · exact absurd h hc
  cases hT : oneT (c :: l) with
  | some q =>
    obtain ⟨k, w, r⟩ := q
    rw [hT] at ks
    obtain ⟨e1, _⟩ := oneT_word hc hT
    have e2 : (c :: l).drop w.length = r := by rw [e1, List.drop_left]
    have e3 : w.length ≤ (c :: l).length := by rw [e1, List.length_append]; omega
    repeat (first | refine go_ ?_ | intro _)
    refine Or.inl ⟨⟨_, Tryz.func51, rfl, rfl⟩, ACall_dropX perm_in (ACall.mono ?_ (ks (.cells b2 [.int .i64 0, .str [], .int .i64 0] :: .cells b1 [.int .i64 0, .str [], .int .i64 0] :: R) hG.cons.cons hc (by omega)))⟩
    rintro _ S1 ⟨hr, hS1⟩
    obtain rfl := hr
    subst S1
    repeat (first | refine go_ ?_ | intro _)
    refine AW_true (b := true) rfl (by first | rfl | (simp; done) | (simp; omega) | decide) ?_
    repeat (first | refine go_ ?_ | intro _)
    refine Or.inl ⟨⟨_, Tryz.func49, rfl, rfl⟩, ACall.mono ?_ (takes_ok M w.length p (c :: l) _ e3 (by simp; omega) hM hM2)⟩
    rintro _ S1 rfl
    rw [e2]
    repeat (first | refine go_ ?_ | intro _)
    refine AW_false (b := false) rfl (by first | rfl | (simp; done) | (simp; omega) | decide) ?_
    repeat (first | refine go_ ?_ | intro _)
    refine AW_ret ?_
    refine ⟨rfl, 2, _, rfl, ⟨Nat.le_of_ble_eq_true rfl, Nat.le_of_ble_eq_true rfl⟩, _, .cells p (scn M r) :: R, AVle.refl _, ?_, nextR_some hT rfl rfl⟩
    exact fun w0 K w h => (h.sub (List.Sublist.cons_cons _ (List.Sublist.cons _ (List.Sublist.cons _ (List.Sublist.refl _)))))
  | none =>
    rw [hT] at ks
    repeat (first | refine go_ ?_ | intro _)
    refine Or.inl ⟨⟨_, Tryz.func51, rfl, rfl⟩, ACall_dropX perm_in (ACall.mono ?_ (ks (.cells b2 [.int .i64 0, .str [], .int .i64 0] :: .cells b1 [.int .i64 0, .str [], .int .i64 0] :: R) hG.cons.cons hc (by omega)))⟩
    rintro _ S1 ⟨⟨k, w, hr⟩, hS1⟩
    obtain rfl := hr
    subst S1
    repeat (first | refine go_ ?_ | intro _)
    refine AW_false (b := false) rfl (by first | rfl | (simp; done) | (simp; omega) | decide) ?_
    repeat (first | refine go_ ?_ | intro _)
    refine AW_true (b := true) rfl (by first | rfl | (simp; done) | (simp; omega) | decide) ?_
    repeat (first | refine go_ ?_ | intro _)
    refine AW_freezeI 3 (p := 0) rfl rfl ?_
    refine AW_ret ?_
    refine ⟨rfl, 2, _, rfl, ⟨Nat.le_of_ble_eq_true rfl, Nat.le_of_ble_eq_true rfl⟩, _, .cells p (scn M (c :: l)) :: R, AVle.refl _, ?_, nextR_none hT rfl rfl⟩
    exact fun w0 K w h => (h.sub (List.Sublist.cons_cons _ (List.Sublist.cons _ (List.Sublist.cons _ (List.Sublist.refl _)))))
theorem scanNext_ok (M p : Nat) (s : List UInt8) (R : List En) (hG : NumG R) (hE : ErrG R) (hs : s ≠ []) (hl : s.length ≤ 16777214) (hM : cnt s ≤ M) (hM2 : M ≤ 33554432) :
    ACall Tryz.prog 28 [.ptr p 0] (.cells p (scn M s) :: R) (fun r S => nextR M p s R r S) := by
  cases s with
  | nil => exact absurd rfl hs
  | cons c l =>
    by_cases hc : c.toNat = 34
    · obtain rfl : c = 34 := UInt8.toNat_inj.1 hc
      exact next_sym M p l R hE (by simp at hl; omega) hM hM2
    · exact next_tok M p c l R hG hc (by simp at hl; omega) hM hM2
end Go.Proofs.YtgcoomicgdbmbaaGreatDoor
