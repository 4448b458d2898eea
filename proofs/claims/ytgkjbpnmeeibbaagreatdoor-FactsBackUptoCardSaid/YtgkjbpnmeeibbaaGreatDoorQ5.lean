/-
  Rows in order (printed from the texts of rel by a program of ours). Own work.
-/
import Derived.Test.YtgkjbpnmeeibbaaGreatDoorQ4
set_option linter.all false
namespace Go.Proofs.YtgkjbpnmeeibbaaGreatDoor.Rel
open Go.Aw Go.RowKit
set_option maxHeartbeats 4000000
set_option maxRecDepth 4000


structure LO {α : Type} (cmp : α → α → Int) : Prop where
  anti : ∀ a b, cmp b a = - cmp a b
  rng : ∀ a b, -1 ≤ cmp a b ∧ cmp a b ≤ 1
  tr : ∀ a b c, cmp a b ≤ 0 → cmp b c ≤ 0 → cmp a c ≤ 0
theorem LO.refl {α : Type} {cmp : α → α → Int} (h : LO cmp) (a : α) : cmp a a = 0 := by have := h.anti a a; omega
theorem LO.lt_le {α : Type} {cmp : α → α → Int} (h : LO cmp) {a b c : α} (h1 : cmp a b < 0) (h2 : cmp b c ≤ 0) : cmp a c < 0 := by
  have a1 := h.anti a c
  have a2 := h.anti a b
  have := h.tr b c a h2
  omega
theorem LO.le_lt {α : Type} {cmp : α → α → Int} (h : LO cmp) {a b c : α} (h1 : cmp a b ≤ 0) (h2 : cmp b c < 0) : cmp a c < 0 := by
  have a1 := h.anti a c
  have a2 := h.anti b c
  have := h.tr c a b
  omega
theorem LO.eq_l {α : Type} {cmp : α → α → Int} (h : LO cmp) {a b : α} (c : α) (h1 : cmp a b = 0) : cmp a c = cmp b c := by
  have a1 := h.anti a b
  have a2 := h.anti a c
  have a3 := h.anti b c
  have r1 := h.rng a c
  have r2 := h.rng b c
  have t1 := h.tr a b c
  have t2 := h.tr b a c
  have t3 := h.tr c a b
  have t4 := h.tr c b a
  omega
theorem lo_int : LO cmpI := by
  constructor
  · intro a b; simp only [cmpI]; repeat' split
    all_goals omega
  · intro a b; simp only [cmpI]; repeat' split
    all_goals omega
  · intro a b c; simp only [cmpI]; repeat' split
    all_goals omega
theorem lo_list {α : Type} {cmp : α → α → Int} (h : LO cmp) : LO (cmpF cmp) := by
  constructor
  · intro a
    induction a with
    | nil => intro b; cases b <;> rfl
    | cons x a ih =>
      intro b
      cases b with
      | nil => rfl
      | cons y b =>
        simp only [cmpF]
        have := h.anti x y
        by_cases hxy : cmp x y = 0
        · rw [if_pos hxy, if_pos (by omega), ih]
        · rw [if_neg hxy, if_neg (by omega), this]
  · intro a
    induction a with
    | nil => intro b; cases b <;> simp [cmpF]
    | cons x a ih =>
      intro b
      cases b with
      | nil => simp [cmpF]
      | cons y b =>
        simp only [cmpF]
        split
        · exact ih b
        · exact h.rng x y
  · intro a
    induction a with
    | nil => intro b c _ _; cases c <;> simp [cmpF]
    | cons x a ih =>
      intro b c h1 h2
      cases b with
      | nil => simp [cmpF] at h1
      | cons y b =>
        cases c with
        | nil => simp [cmpF] at h2
        | cons z c =>
          simp only [cmpF] at h1 h2 ⊢
          by_cases hxy : cmp x y = 0
          · rw [if_pos hxy] at h1
            have e := h.eq_l z hxy
            rw [e]
            split
            · rename_i hyz; rw [if_pos hyz] at h2; exact ih _ _ h1 h2
            · rename_i hyz; rw [if_neg hyz] at h2; exact h2
          · rw [if_neg hxy] at h1
            have hlt : cmp x y < 0 := by omega
            have hle : cmp y z ≤ 0 := by
              split at h2
              · omega
              · exact h2
            have := h.lt_le hlt hle
            rw [if_neg (by omega)]; omega
def cmpB (a b : UInt8) : Int := cmpI a.toNat b.toNat
theorem lo_byte : LO cmpB := ⟨fun a b => lo_int.anti _ _, fun a b => lo_int.rng _ _, fun a b c => lo_int.tr _ _ _⟩
theorem cmpS_list (a b : List UInt8) : cmpS a b = cmpF cmpB a b := by
  rw [← txt_cmpS]
  induction a generalizing b with
  | nil => cases b <;> rfl
  | cons x a ih =>
    cases b with
    | nil => rfl
    | cons y b =>
      simp only [txt, cmpF, cmpB, cmpI]
      rw [ih b]
      by_cases h1 : x.toNat < y.toNat
      · simp [h1]
      · by_cases h2 : y.toNat < x.toNat
        · simp [h1, h2]
        · simp [h1, h2]
theorem lo_str : LO cmpS := by
  have := lo_list lo_byte
  exact ⟨fun a b => by rw [cmpS_list, cmpS_list]; exact this.anti _ _, fun a b => by rw [cmpS_list]; exact this.rng _ _, fun a b c => by rw [cmpS_list, cmpS_list, cmpS_list]; exact this.tr _ _ _⟩
theorem lo_val : LO cmpV := by
  constructor
  · rintro ⟨s, n, t⟩ ⟨s', n', t'⟩
    cases s <;> cases s' <;> simp [cmpV]
    · exact lo_int.anti _ _
    · exact lo_str.anti _ _
  · rintro ⟨s, n, t⟩ ⟨s', n', t'⟩
    cases s <;> cases s' <;> simp [cmpV]
    · exact lo_int.rng _ _
    · exact lo_str.rng _ _
  · rintro ⟨s, n, t⟩ ⟨s', n', t'⟩ ⟨s2, n2, t2⟩
    cases s <;> cases s' <;> cases s2 <;> simp [cmpV]
    · exact lo_int.tr _ _ _
    · exact lo_str.tr _ _ _
theorem lo_row : LO cmpR := lo_list lo_val

def putR (t : List V) : List (List V) → List (List V) × Bool
  | [] => ([t], true)
  | x :: l => if cmpR x t < 0 then (x :: (putR t l).1, (putR t l).2) else if cmpR x t ≠ 0 then (t :: x :: l, true) else (x :: l, false)
def foldPut (a b : List (List V)) : List (List V) := b.foldl (fun o t => (putR t o).1) a
theorem rise_lt {x : List V} : ∀ {l : List (List V)}, riseB (x :: l) = true → ∀ t ∈ l, cmpR x t < 0
  | [], _, t, h => by simp at h
  | y :: l, h, t, ht => by
    simp only [riseB, Bool.and_eq_true, decide_eq_true_eq] at h
    rcases List.mem_cons.1 ht with rfl | ht
    · exact h.1
    · exact lo_row.lt_le h.1 (by have := rise_lt h.2 t ht; omega)
theorem rise_tail {x : List V} {l : List (List V)} (h : riseB (x :: l) = true) : riseB l = true := by
  cases l with
  | nil => rfl
  | cons y l => simp only [riseB, Bool.and_eq_true] at h; exact h.2
def cleanV (v : V) : Bool := bif v.sym then decide (v.n = 0) else decide (v.s = [])
def cleanR (r : List V) : Bool := r.all cleanV
end Go.Proofs.YtgkjbpnmeeibbaaGreatDoor.Rel
/-
  Rows in order (printed from the texts of rel by a program of ours). Own work.
-/
namespace Go.Proofs.YtgkjbpnmeeibbaaGreatDoor.Rel
open Go.Aw Go.RowKit
set_option maxHeartbeats 4000000
set_option maxRecDepth 4000


theorem two_get0 (A B C : List AV) (x y : AV) : (A ++ x :: (B ++ y :: C))[A.length]? = some x := by simp
theorem two_get1 (A B C : List AV) (x y : AV) : (A ++ x :: (B ++ y :: C))[A.length + 1 + B.length]? = some y := by
  rw [List.getElem?_append_right (by omega)]
  rw [show A.length + 1 + B.length - A.length = B.length + 1 by omega]
  simp
theorem two_set0 (A B C : List AV) (x y z : AV) : (A ++ x :: (B ++ y :: C)).set A.length z = A ++ z :: (B ++ y :: C) := by simp
theorem two_set1 (A B C : List AV) (x y z : AV) : (A ++ x :: (B ++ y :: C)).set (A.length + 1 + B.length) z = A ++ x :: (B ++ z :: C) := by
  rw [List.set_append_right _ _ (by omega)]
  rw [show A.length + 1 + B.length - A.length = B.length + 1 by omega]
  simp
theorem swapRange_ok (f : AV) (pre X M Y post : List (List V)) (hXY : X.length = Y.length) (b n cap : Nat) (rest : List AV) (hn : n = (pre ++ X ++ M ++ Y ++ post).length) (a1 b1 k : Nat) (ha : a1 = pre.length) (hb : b1 = pre.length + X.length + M.length) (hk : k = X.length) (hmax : n ≤ 16777216) (R : List En) :
    ACall Tryz.prog 160 [.msl b 0 n cap, .int .i64 a1, .int .i64 b1, .int .i64 k, f] (hold n b ((pre ++ X ++ M ++ Y ++ post).map encR ++ rest) R)
      (fun r S => r = .tup [] ∧ S = hold n b ((pre ++ Y ++ M ++ X ++ post).map encR ++ rest) R) := by
  refine ACall_sat fun hs => ?_
  have hcap := (hs (.msl b 0 n cap) (by simp)).msl
  simp only [List.length_append] at hn
  refine ACall_body tab_ok Tryz.func160 rfl rfl rfl (by kernel_rfl) (Nat.le_of_ble_eq_true rfl) ?_
  repeat (first | refine go_ ?_ | intro _)
  refine AW_for (α := Nat) (fun z => ⟨[(0, .msl b 0 n cap), (1, .int .i64 (a1 : Nat)), (2, .int .i64 (b1 : Nat)), (3, .int .i64 (k : Nat)), (10, .int .i64 (z : Nat))], []⟩) (fun z => hold n b ((pre ++ Y.take z ++ X.drop z ++ M ++ X.take z ++ Y.drop z ++ post).map encR ++ rest) R) (fun z => k - z) (fun z => z ≤ k) (0) ?_ (weak_of ?_ rfl ?_) (fun z hz => ?_)
  · omega
  · repeat (first | exact trivial | refine env_ ?_)
  · refine SLe.of_eq ?_
    simp
  repeat (first | refine go_ ?_ | intro _)
  refine AW_iff (z < k) rfl (by first | (simp; done) | (simp <;> omega) | decide) (fun h => ?_) (fun h => ?_)
  · have hx : z < X.length := by omega
    have hy : z < Y.length := by omega
    rw [hold_pos (by omega)]
    obtain ⟨A, B, C, hA, hB, hC, hD⟩ : ∃ A B C : List AV, A.length = a1 + z ∧ A.length + 1 + B.length = b1 + z ∧ (pre ++ Y.take z ++ X.drop z ++ M ++ X.take z ++ Y.drop z ++ post).map encR ++ rest = A ++ encR X[z] :: (B ++ encR Y[z] :: C) ∧
        (pre ++ Y.take (z + 1) ++ X.drop (z + 1) ++ M ++ X.take (z + 1) ++ Y.drop (z + 1) ++ post).map encR ++ rest = A ++ encR Y[z] :: (B ++ encR X[z] :: C) := by
      refine ⟨(pre ++ Y.take z).map encR, (X.drop (z + 1) ++ M ++ X.take z).map encR, (Y.drop (z + 1) ++ post).map encR ++ rest, ?_, ?_, ?_, ?_⟩
      · simp; omega
      · simp; omega
      · rw [get_drop hx, get_drop hy]; simp only [List.map_append, List.map_cons, List.append_assoc, List.cons_append]
      · rw [List.take_add_one, List.take_add_one, List.getElem?_eq_getElem hx, List.getElem?_eq_getElem hy]
        simp only [Option.toList_some, List.map_append, List.map_cons, List.map_nil, List.append_assoc, List.cons_append, List.nil_append]
    rw [hC]
    repeat (first | refine go_ ?_ | intro _)
    refine AW_drawl tab_ok mixed 20 [4, 5, 6, 7] (by first | rfl | kernel_rfl) ?_
    repeat (first | refine go_ ?_ | intro _)
    refine at_msl (b1 + z) (b1 + z) (by first | rfl | omega | (rw [wrap_i64 (by first | omega | (simp; omega))]; first | rfl | omega | (simp; omega))) (by first | assumption | omega) (by show _ + _ * 1 = _; omega) ?_
    repeat (first | refine go_ ?_ | intro _)
    refine load_one (encR Y[z]) rfl rfl (hB ▸ two_get1 A B C _ _) ?_
    repeat (first | refine go_ ?_ | intro _)
    refine at_msl (a1 + z) (a1 + z) (by first | rfl | omega | (rw [wrap_i64 (by first | omega | (simp; omega))]; first | rfl | omega | (simp; omega))) (by first | assumption | omega) (by show _ + _ * 1 = _; omega) ?_
    repeat (first | refine go_ ?_ | intro _)
    refine load_one (encR X[z]) rfl rfl (hA ▸ two_get0 A B C _ _) ?_
    repeat (first | refine go_ ?_ | intro _)
    refine at_msl (a1 + z) (a1 + z) (by first | rfl | omega | (rw [wrap_i64 (by first | omega | (simp; omega))]; first | rfl | omega | (simp; omega))) (by first | assumption | omega) (by show _ + _ * 1 = _; omega) ?_
    repeat (first | refine go_ ?_ | intro _)
    refine store_one (encR Y[z]) (A ++ encR Y[z] :: (B ++ encR Y[z] :: C)) rfl rfl (by simp; omega) (hA ▸ two_set0 A B C _ _ _) ?_
    repeat (first | refine go_ ?_ | intro _)
    refine at_msl (b1 + z) (b1 + z) (by first | rfl | omega | (rw [wrap_i64 (by first | omega | (simp; omega))]; first | rfl | omega | (simp; omega))) (by first | assumption | omega) (by show _ + _ * 1 = _; omega) ?_
    repeat (first | refine go_ ?_ | intro _)
    refine store_one (encR X[z]) (A ++ encR Y[z] :: (B ++ encR X[z] :: C)) rfl rfl (by simp; omega) (hB ▸ two_set1 A B C _ _ _) ?_
    repeat (first | refine go_ ?_ | intro _)
    refine ⟨z + 1, ?_, ?_, weak_of ?_ rfl ?_⟩
    · omega
    · omega
    · repeat (first | exact trivial | refine env_ ?_)
    · rw [hold_pos (by omega)]
      refine SLe.of_eq ?_
      rw [hD]; rfl
  · repeat (first | refine go_ ?_ | intro _)
    refine ⟨.tup [], _, AVle.refl _, SLe.rfl, rfl, ?_⟩
    have : z = k := by omega
    subst this
    rw [List.take_of_length_le (by omega), List.take_of_length_le (by omega), List.drop_of_length_le (by omega), List.drop_of_length_le (by omega)]
    simp
/-- two neighbours change places -/
theorem rotate_ok (f : AV) (b n cap : Nat) (rest : List AV) (hmax : n ≤ 16777216) (R : List En) : ∀ (k : Nat) (pre X Y post : List (List V)), X.length + Y.length = k → 0 < X.length → 0 < Y.length → n = (pre ++ X ++ Y ++ post).length →
    ∀ (a1 m1 b1 : Nat), a1 = pre.length → m1 = pre.length + X.length → b1 = pre.length + X.length + Y.length →
    ACall Tryz.prog 140 [.msl b 0 n cap, .int .i64 a1, .int .i64 m1, .int .i64 b1, f] (hold n b ((pre ++ X ++ Y ++ post).map encR ++ rest) R)
      (fun r S => r = .tup [] ∧ S = hold n b ((pre ++ Y ++ X ++ post).map encR ++ rest) R) := by
  intro k pre X Y post hk hX0 hY0 hn a1 m1 b1 ha hm hb
  refine ACall_sat fun hs => ?_
  have hcap := (hs (.msl b 0 n cap) (by simp)).msl
  simp only [List.length_append] at hn
  refine ACall_body tab_ok Tryz.func140 rfl rfl rfl (by kernel_rfl) (Nat.le_of_ble_eq_true rfl) ?_
  repeat (first | refine go_ ?_ | intro _)
  refine AW_for (α := List (List V) × List (List V) × List (List V) × List (List V)) (fun z => ⟨[(0, .msl b 0 n cap), (1, .int .i64 (a1 : Nat)), (2, .int .i64 (m1 : Nat)), (3, .int .i64 (b1 : Nat)), (4, f), (10, .int .i64 (z.2.1.length : Nat)), (11, .int .i64 (z.2.2.1.length : Nat))], []⟩) (fun z => hold n b ((z.1 ++ z.2.1 ++ z.2.2.1 ++ z.2.2.2).map encR ++ rest) R) (fun z => z.2.1.length + z.2.2.1.length) (fun z => 0 < z.2.1.length ∧ 0 < z.2.2.1.length ∧ (z.1 ++ z.2.1).length = m1 ∧ (z.1 ++ z.2.1 ++ z.2.2.1 ++ z.2.2.2).length = n ∧ z.1 ++ z.2.2.1 ++ z.2.1 ++ z.2.2.2 = pre ++ Y ++ X ++ post) ((pre, X, Y, post)) ?_ (weak_of ?_ rfl ?_) (fun z hz => ?_)
  · refine ⟨hX0, hY0, by simp; omega, by simp; omega, rfl⟩
  · repeat (first | exact trivial | refine env_ ?_)
  · repeat (first | exact SLe.rfl | refine SLe.tail ?_ | refine SLe.full ?_)
  obtain ⟨p, u, v, q⟩ := z
  obtain ⟨h1, h2, h3, h4, h5⟩ : 0 < u.length ∧ 0 < v.length ∧ (p ++ u).length = m1 ∧ (p ++ u ++ v ++ q).length = n ∧ p ++ v ++ u ++ q = pre ++ Y ++ X ++ post := hz
  simp only [List.length_append] at h3 h4
  repeat (first | refine go_ ?_ | intro _)
  refine AW_iff (u.length ≠ v.length) rfl (by first | (simp; done) | (simp <;> omega) | decide) (fun h => ?_) (fun h => ?_)
  · repeat (first | refine go_ ?_ | intro _)
    refine AW_iff (v.length < u.length) rfl (by first | (simp; done) | (simp <;> omega) | decide) (fun h => ?_) (fun h => ?_)
    · repeat (first | refine go_ ?_ | intro _)
      have e1 : IntKind.i64.wrap ((m1 : Int) - (u.length : Int)) = ((p.length : Nat) : Int) := by rw [wrap_i64 (by omega)]; omega
      have e2 : u = u.take v.length ++ u.drop v.length := (List.take_append_drop _ _).symm
      have e3 : p ++ u ++ v ++ q = p ++ u.take v.length ++ u.drop v.length ++ v ++ q := by rw [List.append_assoc p (u.take v.length), ← e2]
      have e4 : (u.take v.length).length = v.length := by rw [List.length_take]; omega
      have e5 : (u.drop v.length).length = u.length - v.length := List.length_drop
      have hc := swapRange_ok f p (u.take v.length) (u.drop v.length) v q e4 b n cap rest (by simp only [List.length_append, e4, e5]; omega) p.length m1 v.length rfl (by rw [e4, e5]; omega) e4.symm hmax R
      rw [← e3] at hc
      refine Or.inl ⟨⟨_, Tryz.func160, rfl, rfl⟩, ACall_args (ACall.mono ?_ (hc)) ⟨AVle.refl _, AVle.eq (congrArg (AV.int .i64) e1), AVle.refl _, AVle.refl _, AVle.refl _, trivial⟩⟩
      rintro _ S1 ⟨rfl, hS1⟩
      subst S1
      repeat (first | refine go_ ?_ | intro _)
      refine ⟨(p ++ v, u.drop v.length, u.take v.length, q), ?_, ?_, weak_of ?_ rfl ?_⟩
      · show (u.drop v.length).length + (u.take v.length).length < u.length + v.length
        rw [e4, e5]; omega
      · refine ⟨?_, ?_, ?_, ?_, ?_⟩
        · show 0 < (u.drop v.length).length
          rw [e5]; omega
        · show 0 < (u.take v.length).length
          rw [e4]; omega
        · show ((p ++ v) ++ u.drop v.length).length = m1
          simp only [List.length_append, e5]; omega
        · show ((p ++ v) ++ u.drop v.length ++ u.take v.length ++ q).length = n
          simp only [List.length_append, e4, e5]; omega
        · show (p ++ v) ++ u.take v.length ++ u.drop v.length ++ q = _
          rw [← h5, List.append_assoc (p ++ v), ← e2]
      · repeat (first | exact trivial | refine ⟨(AVle.eq (congrArg (AV.int .i64) (show IntKind.i64.wrap ((u.length : Int) - (v.length : Int)) = (((u.drop v.length).length : Nat) : Int) by rw [wrap_i64 (by omega), e5]; omega))), ?_⟩ | refine ⟨(AVle.eq (congrArg (AV.int .i64) (show ((v.length : Nat) : Int) = (((u.take v.length).length : Nat) : Int) by rw [e4]))), ?_⟩ | refine env_ ?_)
      · repeat (first | exact SLe.rfl | refine SLe.tail ?_ | refine SLe.full ?_)
    · repeat (first | refine go_ ?_ | intro _)
      have e1 : IntKind.i64.wrap ((m1 : Int) - (u.length : Int)) = ((p.length : Nat) : Int) := by rw [wrap_i64 (by omega)]; omega
      have e1' : IntKind.i64.wrap (IntKind.i64.wrap ((m1 : Int) + (v.length : Int)) - (u.length : Int)) = ((m1 + v.length - u.length : Nat) : Int) := by rw [wrap_i64 (n := (m1 : Int) + (v.length : Int)) (by omega), wrap_i64 (by omega)]; omega
      have e2 : v = v.take (v.length - u.length) ++ v.drop (v.length - u.length) := (List.take_append_drop _ _).symm
      have e3 : p ++ u ++ v ++ q = p ++ u ++ v.take (v.length - u.length) ++ v.drop (v.length - u.length) ++ q := by rw [List.append_assoc (p ++ u) (v.take (v.length - u.length)), ← e2]
      have e4 : (v.take (v.length - u.length)).length = v.length - u.length := by rw [List.length_take]; omega
      have e5 : (v.drop (v.length - u.length)).length = u.length := by rw [List.length_drop]; omega
      have hc := swapRange_ok f p u (v.take (v.length - u.length)) (v.drop (v.length - u.length)) q e5.symm b n cap rest (by simp only [List.length_append, e4, e5]; omega) p.length (m1 + v.length - u.length) u.length rfl (by rw [e4]; omega) rfl hmax R
      rw [← e3] at hc
      refine Or.inl ⟨⟨_, Tryz.func160, rfl, rfl⟩, ACall_args (ACall.mono ?_ (hc)) ⟨AVle.refl _, AVle.eq (congrArg (AV.int .i64) e1), AVle.eq (congrArg (AV.int .i64) e1'), AVle.refl _, AVle.refl _, trivial⟩⟩
      rintro _ S1 ⟨rfl, hS1⟩
      subst S1
      repeat (first | refine go_ ?_ | intro _)
      refine ⟨(p, v.drop (v.length - u.length), v.take (v.length - u.length), u ++ q), ?_, ?_, weak_of ?_ rfl ?_⟩
      · show (v.drop (v.length - u.length)).length + (v.take (v.length - u.length)).length < u.length + v.length
        rw [e4, e5]; omega
      · refine ⟨?_, ?_, ?_, ?_, ?_⟩
        · show 0 < (v.drop (v.length - u.length)).length
          rw [e5]; omega
        · show 0 < (v.take (v.length - u.length)).length
          rw [e4]; omega
        · show (p ++ v.drop (v.length - u.length)).length = m1
          simp only [List.length_append, e5]; omega
        · show (p ++ v.drop (v.length - u.length) ++ v.take (v.length - u.length) ++ (u ++ q)).length = n
          simp only [List.length_append, e4, e5]; omega
        · show p ++ v.take (v.length - u.length) ++ v.drop (v.length - u.length) ++ (u ++ q) = _
          rw [← h5, List.append_assoc p (v.take _), ← e2, List.append_assoc (p ++ v)]
      · repeat (first | exact trivial | refine ⟨(AVle.eq (congrArg (AV.int .i64) (show ((u.length : Nat) : Int) = (((v.drop (v.length - u.length)).length : Nat) : Int) by rw [e5]))), ?_⟩ | refine ⟨(AVle.eq (congrArg (AV.int .i64) (show IntKind.i64.wrap ((v.length : Int) - (u.length : Int)) = (((v.take (v.length - u.length)).length : Nat) : Int) by rw [wrap_i64 (by omega), e4]; omega))), ?_⟩ | refine env_ ?_)
      · refine SLe.of_eq ?_
        show hold n b ((p ++ v.drop (v.length - u.length) ++ v.take (v.length - u.length) ++ u ++ q).map encR ++ rest) R = hold n b ((p ++ v.drop (v.length - u.length) ++ v.take (v.length - u.length) ++ (u ++ q)).map encR ++ rest) R
        rw [List.append_assoc (p ++ v.drop (v.length - u.length) ++ v.take (v.length - u.length)) u q]
  · have he : u.length = v.length := Classical.not_not.1 h
    repeat (first | refine go_ ?_ | intro _)
    have e1 : IntKind.i64.wrap ((m1 : Int) - (u.length : Int)) = ((p.length : Nat) : Int) := by rw [wrap_i64 (by omega)]; omega
    have hc := swapRange_ok f p u [] v q he b n cap rest (by simp only [List.length_append, List.length_nil]; omega) p.length m1 u.length rfl (by simp; omega) rfl hmax R
    rw [List.append_nil, List.append_nil] at hc
    refine Or.inl ⟨⟨_, Tryz.func160, rfl, rfl⟩, ACall_args (ACall.mono ?_ (hc)) ⟨AVle.refl _, AVle.eq (congrArg (AV.int .i64) e1), AVle.refl _, AVle.refl _, AVle.refl _, trivial⟩⟩
    rintro _ S1 ⟨rfl, hS1⟩
    subst S1
    repeat (first | refine go_ ?_ | intro _)
    refine ⟨.tup [], _, AVle.refl _, SLe.rfl, rfl, ?_⟩
    show hold n b ((p ++ v ++ u ++ q).map encR ++ rest) R = _
    rw [h5]

def Srt (cmp : List V → List V → Int) (l : List (List V)) : Prop := l.Pairwise fun x y => cmp x y ≤ 0
theorem seg_get (pre L post : List (List V)) (rest : List AV) (i : Nat) (h : i < L.length) : ((pre ++ L ++ post).map encR ++ rest)[pre.length + i]? = some (encR L[i]) := by
  rw [List.getElem?_append_left (by simp; omega), List.getElem?_map, List.getElem?_append_left (by simp; omega), List.getElem?_append_right (by omega), Nat.add_sub_cancel_left, List.getElem?_eq_getElem h]; rfl
theorem srt_le {cmp : List V → List V → Int} (hc : LO cmp) {l : List (List V)} (h : Srt cmp l) {i j : Nat} (hij : i ≤ j) (hj : j < l.length) : cmp (l[i]'(by omega)) l[j] ≤ 0 := by
  rcases Nat.lt_or_eq_of_le hij with h1 | rfl
  · exact List.pairwise_iff_getElem.1 h i j (by omega) hj h1
  · rw [hc.refl]; exact Int.le_refl 0
/-- one row put among rows that rise, behind the first c, which are not greater; the others are not less -/
theorem srt_insert {cmp : List V → List V → Int} (hc : LO cmp) {l : List (List V)} (h : Srt cmp l) (x : List V) (c : Nat) (h1 : ∀ y ∈ l.take c, cmp y x ≤ 0) (h2 : ∀ y ∈ l.drop c, cmp x y ≤ 0) : Srt cmp (l.take c ++ [x] ++ l.drop c) := by
  have hs := (List.take_append_drop c l).symm ▸ h
  have hp := List.pairwise_append.1 hs
  unfold Srt
  rw [List.append_assoc, List.pairwise_append]
  refine ⟨hp.1, ?_, ?_⟩
  · rw [List.singleton_append, List.pairwise_cons]
    exact ⟨h2, hp.2.1⟩
  · intro a ha b hb
    rcases List.mem_cons.1 hb with rfl | hb
    · exact h1 a ha
    · exact hp.2.2 a ha b hb
theorem mem_take_get {α : Type} {l : List α} {c : Nat} {y : α} (h : y ∈ l.take c) : ∃ i, ∃ (hi : i < l.length), i < c ∧ l[i] = y := by
  obtain ⟨i, hi, rfl⟩ := List.mem_iff_getElem.1 h
  rw [List.length_take] at hi
  exact ⟨i, by omega, by omega, by simp⟩
theorem mem_drop_get {α : Type} {l : List α} {c : Nat} {y : α} (h : y ∈ l.drop c) : ∃ i, ∃ (hi : i < l.length), c ≤ i ∧ l[i] = y := by
  obtain ⟨i, hi, rfl⟩ := List.mem_iff_getElem.1 h
  rw [List.length_drop] at hi
  exact ⟨c + i, by omega, by omega, by simp⟩
/-- what the two halves give -/
theorem srt_halves {cmp : List V → List V → Int} (hc : LO cmp) {A B : List (List V)} (hA : Srt cmp A) (hB : Srt cmp B) (i j : Nat) {C D : List (List V)} (hi : i ≤ A.length) (hj : j ≤ B.length)
    (hC : C.Perm (A.take i ++ B.take j)) (hCs : Srt cmp C) (hD : D.Perm (A.drop i ++ B.drop j)) (hDs : Srt cmp D)
    (c1 : i = 0 ∨ j = B.length ∨ ∃ (h0 : i - 1 < A.length) (h1 : j < B.length), cmp A[i - 1] B[j] ≤ 0) (c2 : j = 0 ∨ i = A.length ∨ ∃ (h0 : j - 1 < B.length) (h1 : i < A.length), cmp B[j - 1] A[i] ≤ 0) :
    Srt cmp (C ++ D) ∧ (C ++ D).Perm (A ++ B) := by
  constructor
  · unfold Srt
    rw [List.pairwise_append]
    refine ⟨hCs, hDs, ?_⟩
    intro x hx y hy
    rw [hC.mem_iff, List.mem_append] at hx
    rw [hD.mem_iff, List.mem_append] at hy
    rcases hx with hx | hx <;> rcases hy with hy | hy
    · obtain ⟨p, hp, hpc, rfl⟩ := mem_take_get hx
      obtain ⟨q, hq, hqc, rfl⟩ := mem_drop_get hy
      exact srt_le hc hA (by omega) hq
    · obtain ⟨p, hp, hpc, rfl⟩ := mem_take_get hx
      obtain ⟨q, hq, hqc, rfl⟩ := mem_drop_get hy
      rcases c1 with h | h | ⟨h0, h1, h⟩
      · omega
      · omega
      · exact hc.tr _ _ _ (hc.tr _ _ _ (srt_le hc hA (show p ≤ i - 1 by omega) h0) h) (srt_le hc hB hqc hq)
    · obtain ⟨p, hp, hpc, rfl⟩ := mem_take_get hx
      obtain ⟨q, hq, hqc, rfl⟩ := mem_drop_get hy
      rcases c2 with h | h | ⟨h0, h1, h⟩
      · omega
      · omega
      · exact hc.tr _ _ _ (hc.tr _ _ _ (srt_le hc hB (show p ≤ j - 1 by omega) h0) h) (srt_le hc hA hqc hq)
    · obtain ⟨p, hp, hpc, rfl⟩ := mem_take_get hx
      obtain ⟨q, hq, hqc, rfl⟩ := mem_drop_get hy
      exact srt_le hc hB (by omega) hq
  · have e : (A ++ B).Perm (A.take i ++ B.take j ++ (A.drop i ++ B.drop j)) := by
      have e1 : A ++ B = A.take i ++ (A.drop i ++ (B.take j ++ B.drop j)) := by
        rw [List.take_append_drop, ← List.append_assoc, List.take_append_drop]
      rw [e1, List.append_assoc]
      refine List.Perm.append_left _ ?_
      rw [← List.append_assoc, ← List.append_assoc]
      exact List.Perm.append_right _ List.perm_append_comm
    exact (hC.append hD).trans e.symm
theorem symMerge_ok (f : AV) (cmp : List V → List V → Int) (hc : LO cmp) (hf : ∀ a b S k, k (.int .i64 (cmp a b)) S → aCallV Tryz.prog f [encR a, encR b] S k) (b n cap : Nat) (rest : List AV) (hmax : n ≤ 16777216) (R : List En) :
    ∀ (k : Nat) (pre A B post : List (List V)), A.length + B.length = k → 0 < A.length → 0 < B.length → Srt cmp A → Srt cmp B → n = (pre ++ A ++ B ++ post).length → ∀ (a1 m1 b1 : Nat), a1 = pre.length → m1 = pre.length + A.length → b1 = pre.length + A.length + B.length →
    ACall Tryz.prog 116 [.msl b 0 n cap, .int .i64 a1, .int .i64 m1, .int .i64 b1, f] (hold n b ((pre ++ A ++ B ++ post).map encR ++ rest) R)
      (fun r S => ∃ C, C.Perm (A ++ B) ∧ Srt cmp C ∧ r = .tup [] ∧ S = hold n b ((pre ++ C ++ post).map encR ++ rest) R) := by
  intro k
  induction k using Nat.strongRecOn with
  | _ k ih =>
  intro pre A B post hk hA0 hB0 hA hB hn a1 m1 b1 ha hm hb
  refine ACall_sat fun hs => ?_
  have hcap := (hs (.msl b 0 n cap) (by simp)).msl
  simp only [List.length_append] at hn
  have gA : ∀ (i : Nat) (h : i < A.length), ((pre ++ A ++ B ++ post).map encR ++ rest)[a1 + i]? = some (encR A[i]) := by
    intro i h
    have := seg_get pre A (B ++ post) rest i h
    rw [← List.append_assoc, ← ha] at this; exact this
  have gB : ∀ (i : Nat) (h : i < B.length), ((pre ++ A ++ B ++ post).map encR ++ rest)[m1 + i]? = some (encR B[i]) := by
    intro i h
    have := seg_get (pre ++ A) B post rest i h
    rw [List.length_append, ← hm] at this; exact this
  refine ACall_body tab_ok Tryz.func116 rfl rfl rfl (by kernel_rfl) (Nat.le_of_ble_eq_true rfl) ?_
  repeat (first | refine go_ ?_ | intro _)
  rw [hold_pos (by omega)]
  refine AW_iff (m1 = a1 + 1) rfl (by rw [wrap_i64 (by omega)]; simp; omega) (fun h => ?_) (fun h => ?_)
  · -- one row is put among those behind it
    obtain ⟨x, rfl⟩ : ∃ x, A = [x] := List.length_eq_one_iff.1 (by omega)
    have g0 := gA 0 (by simp)
    rw [Nat.add_zero] at g0
    simp only [List.length_singleton] at hm hb hn
    repeat (first | refine go_ ?_ | intro _)
    refine AW_for (α := Nat × Nat) (fun z => ⟨[(0, .msl b 0 n cap), (1, .int .i64 (a1 : Nat)), (4, f), (10, .int .i64 ((m1 + z.1 : Nat) : Int)), (11, .int .i64 ((m1 + z.2 : Nat) : Int))], []⟩) (fun z => .cells b ((pre ++ [x] ++ B ++ post).map encR ++ rest) :: R) (fun z => z.2 - z.1) (fun z => z.1 ≤ z.2 ∧ z.2 ≤ B.length ∧ (∀ (i : Nat) (h : i < B.length), i < z.1 → cmp B[i] x < 0) ∧ (∀ (i : Nat) (h : i < B.length), z.2 ≤ i → ¬ cmp B[i] x < 0)) ((0, B.length)) ?_ (weak_of ?_ rfl ?_) (fun z hz => ?_)
    · refine ⟨by simp, by simp, fun i h h' => absurd h' (by simp), fun i h h' => absurd h' (by simp; omega)⟩
    · repeat (first | exact trivial | refine ⟨(AVle.eq (congrArg (AV.int .i64) (show (b1 : Int) = ((m1 + B.length : Nat) : Int) by omega))), ?_⟩ | refine env_ ?_)
    · repeat (first | exact SLe.rfl | refine SLe.tail ?_ | refine SLe.full ?_)
    obtain ⟨lo, hi⟩ := z
    obtain ⟨h1, h2, h3, h4⟩ : lo ≤ hi ∧ hi ≤ B.length ∧ (∀ (i : Nat) (h : i < B.length), i < lo → cmp B[i] x < 0) ∧ (∀ (i : Nat) (h : i < B.length), hi ≤ i → ¬ cmp B[i] x < 0) := hz
    repeat (first | refine go_ ?_ | intro _)
    refine AW_iff (lo < hi) rfl (by first | (simp; done) | (simp <;> omega) | decide) (fun h => ?_) (fun h => ?_)
    · have hlt : lo < hi := h
      repeat (first | refine go_ ?_ | intro _)
      refine ⟨(by decide), half_has (m1 + lo) (m1 + hi) (by omega), ?_⟩
      repeat (first | refine go_ ?_ | intro _)
      have hh : (lo + hi) / 2 < B.length := by omega
      have ev1 : IntKind.i64.wrap (Int.fdiv (IntKind.u64.wrap (IntKind.i64.wrap (((m1 + lo : Nat) : Int) + ((m1 + hi : Nat) : Int)))) (2 ^ (min (Int.toNat 1) IntKind.u64.bits))) = ((m1 + (lo + hi) / 2 : Nat) : Int) := by
        rw [half_val _ _ (by omega)]; congr 1; omega
      refine AW_weak (weak_of (l := [(0, .msl b 0 n cap), (1, .int .i64 (a1 : Nat)), (4, f), (10, .int .i64 ((m1 + lo : Nat) : Int)), (11, .int .i64 ((m1 + hi : Nat) : Int)), (12, .int .i64 ((m1 + (lo + hi) / 2 : Nat) : Int))]) (m := []) (S' := .cells b ((pre ++ [x] ++ B ++ post).map encR ++ rest) :: R) ?_ rfl ?_) ?_
      · repeat (first | exact trivial | refine ⟨(AVle.eq (congrArg (AV.int .i64) ev1)), ?_⟩ | refine env_ ?_)
      · refine SW.le ?_
        repeat (first | exact SW.nil | refine sw_ ?_)
      refine AW_draw tab_ok mixed 11 (by first | rfl | kernel_rfl) ?_
      repeat (first | refine go_ ?_ | intro _)
      refine at_msl (m1 + (lo + hi) / 2) (m1 + (lo + hi) / 2) (by first | rfl | omega | (rw [wrap_i64 (by first | omega | (simp; omega))]; first | rfl | omega | (simp; omega))) (by first | assumption | omega) (by show _ + _ * 1 = _; omega) ?_
      repeat (first | refine go_ ?_ | intro _)
      refine load_one (encR (B[(lo + hi) / 2]'hh)) rfl rfl (gB _ hh) ?_
      repeat (first | refine go_ ?_ | intro _)
      refine at_msl (a1) (a1) (by first | rfl | omega | (rw [wrap_i64 (by first | omega | (simp; omega))]; first | rfl | omega | (simp; omega))) (by first | assumption | omega) (by show _ + _ * 1 = _; omega) ?_
      repeat (first | refine go_ ?_ | intro _)
      refine load_one (encR x) rfl rfl g0 ?_
      repeat (first | refine go_ ?_ | intro _)
      apply call_step
      · rfl
      · exact hf _ _ _ _ ⟨rfl, rfl⟩
      repeat (first | refine go_ ?_ | intro _)
      refine AW_iff (cmp (B[(lo + hi) / 2]'hh) x < 0) rfl (by first | (simp; done) | (simp <;> omega) | decide) (fun h => ?_) (fun h => ?_)
      · repeat (first | refine go_ ?_ | intro _)
        refine ⟨((lo + hi) / 2 + 1, hi), ?_, ?_, weak_of ?_ rfl ?_⟩
        · show hi - ((lo + hi) / 2 + 1) < hi - lo; omega
        · refine ⟨by show (lo + hi) / 2 + 1 ≤ hi; omega, h2, fun i hi' h' => ?_, h4⟩
          have := srt_le hc hB (show i ≤ (lo + hi) / 2 by simp at h'; omega) hh
          exact hc.le_lt this h
        · repeat (first | exact trivial | refine ⟨(AVle.eq (congrArg (AV.int .i64) (show IntKind.i64.wrap (((m1 + (lo + hi) / 2 : Nat) : Int) + 1) = ((m1 + ((lo + hi) / 2 + 1) : Nat) : Int) by rw [wrap_i64 (by omega)]; omega))), ?_⟩ | refine env_ ?_)
        · repeat (first | exact SLe.rfl | refine SLe.tail ?_ | refine SLe.full ?_)
      · repeat (first | refine go_ ?_ | intro _)
        refine ⟨(lo, (lo + hi) / 2), ?_, ?_, weak_of ?_ rfl ?_⟩
        · show (lo + hi) / 2 - lo < hi - lo; omega
        · refine ⟨by show lo ≤ (lo + hi) / 2; omega, by show (lo + hi) / 2 ≤ _; omega, h3, fun i hi' h' hlt' => h ?_⟩
          have := srt_le hc hB (show (lo + hi) / 2 ≤ i from h') hi'
          exact hc.le_lt this hlt'
        · repeat (first | exact trivial | refine env_ ?_)
        · repeat (first | exact SLe.rfl | refine SLe.tail ?_ | refine SLe.full ?_)
    · have he : lo = hi := by omega
      subst he
      repeat (first | refine go_ ?_ | intro _)
      refine AW_for (α := Nat) (fun z => ⟨[(0, .msl b 0 n cap), (10, .int .i64 ((m1 + lo : Nat) : Int)), (13, .int .i64 ((a1 + z : Nat) : Int))], []⟩) (fun z => .cells b ((pre ++ B.take z ++ [x] ++ B.drop z ++ post).map encR ++ rest) :: R) (fun z => lo - z) (fun z => z ≤ lo) (0) ?_ (weak_of ?_ rfl ?_) (fun z hz => ?_)
      · omega
      · repeat (first | exact trivial | refine env_ ?_)
      · refine SLe.of_eq ?_
        simp
      repeat (first | refine go_ ?_ | intro _)
      refine AW_iff (z < lo) rfl (by rw [wrap_i64 (by omega)]; simp; omega) (fun h => ?_) (fun h => ?_)
      · have hzB : z < B.length := by omega
        obtain ⟨P, Q, hP, hC, hD⟩ : ∃ P Q : List AV, P.length = a1 + z ∧ (pre ++ B.take z ++ [x] ++ B.drop z ++ post).map encR ++ rest = P ++ encR x :: encR B[z] :: Q ∧
            (pre ++ B.take (z + 1) ++ [x] ++ B.drop (z + 1) ++ post).map encR ++ rest = P ++ encR B[z] :: encR x :: Q := by
          refine ⟨(pre ++ B.take z).map encR, (B.drop (z + 1) ++ post).map encR ++ rest, ?_, ?_, ?_⟩
          · simp; omega
          · rw [get_drop hzB]; simp only [List.map_append, List.map_cons, List.map_nil, List.append_assoc, List.cons_append, List.nil_append]
          · rw [List.take_add_one, List.getElem?_eq_getElem hzB]
            simp only [Option.toList_some, List.map_append, List.map_cons, List.map_nil, List.append_assoc, List.cons_append, List.nil_append]
        rw [hC]
        repeat (first | refine go_ ?_ | intro _)
        refine AW_drawl tab_ok mixed 14 [2, 3, 4] (by first | rfl | kernel_rfl) ?_
        repeat (first | refine go_ ?_ | intro _)
        refine at_msl (a1 + z + 1) (a1 + z + 1) (by first | rfl | omega | (rw [wrap_i64 (by first | omega | (simp; omega))]; first | rfl | omega | (simp; omega))) (by first | assumption | omega) (by show _ + _ * 1 = _; omega) ?_
        repeat (first | refine go_ ?_ | intro _)
        refine load_one (encR B[z]) rfl rfl (hP ▸ mid_get1 P Q _ _) ?_
        repeat (first | refine go_ ?_ | intro _)
        refine at_msl (a1 + z) (a1 + z) (by first | rfl | omega | (rw [wrap_i64 (by first | omega | (simp; omega))]; first | rfl | omega | (simp; omega))) (by first | assumption | omega) (by show _ + _ * 1 = _; omega) ?_
        repeat (first | refine go_ ?_ | intro _)
        refine load_one (encR x) rfl rfl (hP ▸ mid_get P _ _) ?_
        repeat (first | refine go_ ?_ | intro _)
        refine at_msl (a1 + z) (a1 + z) (by first | rfl | omega | (rw [wrap_i64 (by first | omega | (simp; omega))]; first | rfl | omega | (simp; omega))) (by first | assumption | omega) (by show _ + _ * 1 = _; omega) ?_
        repeat (first | refine go_ ?_ | intro _)
        refine store_one (encR B[z]) (P ++ encR B[z] :: encR B[z] :: Q) rfl rfl (by simp; omega) (hP ▸ mid_set P _ _ _) ?_
        repeat (first | refine go_ ?_ | intro _)
        refine at_msl (a1 + z + 1) (a1 + z + 1) (by first | rfl | omega | (rw [wrap_i64 (by first | omega | (simp; omega))]; first | rfl | omega | (simp; omega))) (by first | assumption | omega) (by show _ + _ * 1 = _; omega) ?_
        repeat (first | refine go_ ?_ | intro _)
        refine store_one (encR x) (P ++ encR B[z] :: encR x :: Q) rfl rfl (by simp; omega) (hP ▸ mid_set1 P Q _ _ _) ?_
        repeat (first | refine go_ ?_ | intro _)
        refine ⟨z + 1, ?_, ?_, weak_of ?_ rfl ?_⟩
        · omega
        · omega
        · repeat (first | exact trivial | refine env_ ?_)
        · refine SLe.of_eq ?_
          rw [hD]; rfl
      · have hz' : z = lo := by omega
        subst hz'
        repeat (first | refine go_ ?_ | intro _)
        refine AW_ret ⟨.tup [], _, AVle.refl _, SLe.rfl, B.take z ++ [x] ++ B.drop z, ?_, ?_, rfl, ?_⟩
        · have e : B.Perm (B.take z ++ B.drop z) := by rw [List.take_append_drop]
          rw [List.append_assoc]
          exact (List.perm_middle (l₁ := B.take z) (l₂ := B.drop z) (a := x)).trans (e.symm.cons x)
        · refine srt_insert hc hB x z (fun y hy => ?_) (fun y hy => ?_)
          · obtain ⟨i, hi, hlt, rfl⟩ := mem_take_get hy
            have := h3 i hi hlt; omega
          · obtain ⟨i, hi, hle, rfl⟩ := mem_drop_get hy
            have := h4 i hi hle
            have := hc.anti x B[i]
            omega
        · rw [hold_pos (by omega)]
          simp
  repeat (first | refine go_ ?_ | intro _)
  refine AW_iff (b1 = m1 + 1) rfl (by rw [wrap_i64 (by omega)]; simp; omega) (fun h => ?_) (fun h => ?_)
  · -- one row is put among those ahead of it
    obtain ⟨x, rfl⟩ : ∃ x, B = [x] := List.length_eq_one_iff.1 (by omega)
    have g0 := gB 0 (by simp)
    rw [Nat.add_zero] at g0
    simp only [List.length_singleton] at hm hb hn
    repeat (first | refine go_ ?_ | intro _)
    refine AW_for (α := Nat × Nat) (fun z => ⟨[(0, .msl b 0 n cap), (2, .int .i64 (m1 : Nat)), (4, f), (14, .int .i64 ((a1 + z.1 : Nat) : Int)), (15, .int .i64 ((a1 + z.2 : Nat) : Int))], []⟩) (fun z => .cells b ((pre ++ A ++ [x] ++ post).map encR ++ rest) :: R) (fun z => z.2 - z.1) (fun z => z.1 ≤ z.2 ∧ z.2 ≤ A.length ∧ (∀ (i : Nat) (h : i < A.length), i < z.1 → ¬ cmp x A[i] < 0) ∧ (∀ (i : Nat) (h : i < A.length), z.2 ≤ i → cmp x A[i] < 0)) ((0, A.length)) ?_ (weak_of ?_ rfl ?_) (fun z hz => ?_)
    · refine ⟨by simp, by simp, fun i h h' => absurd h' (by simp), fun i h h' => absurd h' (by simp; omega)⟩
    · repeat (first | exact trivial | refine ⟨(AVle.eq (congrArg (AV.int .i64) (show (m1 : Int) = ((a1 + A.length : Nat) : Int) by omega))), ?_⟩ | refine env_ ?_)
    · repeat (first | exact SLe.rfl | refine SLe.tail ?_ | refine SLe.full ?_)
    obtain ⟨lo, hi⟩ := z
    obtain ⟨h1, h2, h3, h4⟩ : lo ≤ hi ∧ hi ≤ A.length ∧ (∀ (i : Nat) (h : i < A.length), i < lo → ¬ cmp x A[i] < 0) ∧ (∀ (i : Nat) (h : i < A.length), hi ≤ i → cmp x A[i] < 0) := hz
    repeat (first | refine go_ ?_ | intro _)
    refine AW_iff (lo < hi) rfl (by first | (simp; done) | (simp <;> omega) | decide) (fun h => ?_) (fun h => ?_)
    · have hlt : lo < hi := h
      repeat (first | refine go_ ?_ | intro _)
      refine ⟨(by decide), half_has (a1 + lo) (a1 + hi) (by omega), ?_⟩
      repeat (first | refine go_ ?_ | intro _)
      have hh : (lo + hi) / 2 < A.length := by omega
      have ev1 : IntKind.i64.wrap (Int.fdiv (IntKind.u64.wrap (IntKind.i64.wrap (((a1 + lo : Nat) : Int) + ((a1 + hi : Nat) : Int)))) (2 ^ (min (Int.toNat 1) IntKind.u64.bits))) = ((a1 + (lo + hi) / 2 : Nat) : Int) := by
        rw [half_val _ _ (by omega)]; congr 1; omega
      refine AW_weak (weak_of (l := [(0, .msl b 0 n cap), (2, .int .i64 (m1 : Nat)), (4, f), (14, .int .i64 ((a1 + lo : Nat) : Int)), (15, .int .i64 ((a1 + hi : Nat) : Int)), (16, .int .i64 ((a1 + (lo + hi) / 2 : Nat) : Int))]) (m := []) (S' := .cells b ((pre ++ A ++ [x] ++ post).map encR ++ rest) :: R) ?_ rfl ?_) ?_
      · repeat (first | exact trivial | refine ⟨(AVle.eq (congrArg (AV.int .i64) ev1)), ?_⟩ | refine env_ ?_)
      · refine SW.le ?_
        repeat (first | exact SW.nil | refine sw_ ?_)
      refine AW_draw tab_ok mixed 12 (by first | rfl | kernel_rfl) ?_
      repeat (first | refine go_ ?_ | intro _)
      refine at_msl (m1) (m1) (by first | rfl | omega | (rw [wrap_i64 (by first | omega | (simp; omega))]; first | rfl | omega | (simp; omega))) (by first | assumption | omega) (by show _ + _ * 1 = _; omega) ?_
      repeat (first | refine go_ ?_ | intro _)
      refine load_one (encR x) rfl rfl g0 ?_
      repeat (first | refine go_ ?_ | intro _)
      refine at_msl (a1 + (lo + hi) / 2) (a1 + (lo + hi) / 2) (by first | rfl | omega | (rw [wrap_i64 (by first | omega | (simp; omega))]; first | rfl | omega | (simp; omega))) (by first | assumption | omega) (by show _ + _ * 1 = _; omega) ?_
      repeat (first | refine go_ ?_ | intro _)
      refine load_one (encR (A[(lo + hi) / 2]'hh)) rfl rfl (gA _ hh) ?_
      repeat (first | refine go_ ?_ | intro _)
      apply call_step
      · rfl
      · exact hf _ _ _ _ ⟨rfl, rfl⟩
      repeat (first | refine go_ ?_ | intro _)
      refine AW_iff (¬ cmp x (A[(lo + hi) / 2]'hh) < 0) rfl (by first | (simp; done) | (simp <;> omega) | decide) (fun h => ?_) (fun h => ?_)
      · repeat (first | refine go_ ?_ | intro _)
        refine ⟨((lo + hi) / 2 + 1, hi), ?_, ?_, weak_of ?_ rfl ?_⟩
        · show hi - ((lo + hi) / 2 + 1) < hi - lo; omega
        · refine ⟨by show (lo + hi) / 2 + 1 ≤ hi; omega, h2, fun i hi' h' hlt' => h ?_, h4⟩
          have := srt_le hc hA (show i ≤ (lo + hi) / 2 by simp at h'; omega) hh
          exact hc.lt_le hlt' this
        · repeat (first | exact trivial | refine ⟨(AVle.eq (congrArg (AV.int .i64) (show IntKind.i64.wrap (((a1 + (lo + hi) / 2 : Nat) : Int) + 1) = ((a1 + ((lo + hi) / 2 + 1) : Nat) : Int) by rw [wrap_i64 (by omega)]; omega))), ?_⟩ | refine env_ ?_)
        · repeat (first | exact SLe.rfl | refine SLe.tail ?_ | refine SLe.full ?_)
      · repeat (first | refine go_ ?_ | intro _)
        refine ⟨(lo, (lo + hi) / 2), ?_, ?_, weak_of ?_ rfl ?_⟩
        · show (lo + hi) / 2 - lo < hi - lo; omega
        · refine ⟨by show lo ≤ (lo + hi) / 2; omega, by show (lo + hi) / 2 ≤ _; omega, h3, fun i hi' h' => ?_⟩
          have := srt_le hc hA (show (lo + hi) / 2 ≤ i from h') hi'
          exact hc.lt_le (Classical.not_not.1 h) this
        · repeat (first | exact trivial | refine env_ ?_)
        · repeat (first | exact SLe.rfl | refine SLe.tail ?_ | refine SLe.full ?_)
    · have he : lo = hi := by omega
      subst he
      repeat (first | refine go_ ?_ | intro _)
      refine AW_for (α := Nat) (fun z => ⟨[(0, .msl b 0 n cap), (14, .int .i64 ((a1 + lo : Nat) : Int)), (17, .int .i64 ((a1 + z : Nat) : Int))], []⟩) (fun z => .cells b ((pre ++ A.take z ++ [x] ++ A.drop z ++ post).map encR ++ rest) :: R) (fun z => z - lo) (fun z => lo ≤ z ∧ z ≤ A.length) (A.length) ?_ (weak_of ?_ rfl ?_) (fun z hz => ?_)
      · exact ⟨h2, Nat.le_refl _⟩
      · repeat (first | exact trivial | refine ⟨(AVle.eq (congrArg (AV.int .i64) (show (m1 : Int) = ((a1 + A.length : Nat) : Int) by omega))), ?_⟩ | refine env_ ?_)
      · refine SLe.of_eq ?_
        simp
      obtain ⟨hz1, hz2⟩ := hz
      repeat (first | refine go_ ?_ | intro _)
      refine AW_iff (lo < z) rfl (by first | (simp; done) | (simp <;> omega) | decide) (fun h => ?_) (fun h => ?_)
      · obtain ⟨w, rfl⟩ : ∃ w, z = w + 1 := ⟨z - 1, by omega⟩
        have hzA : w < A.length := by omega
        obtain ⟨P, Q, hP, hC, hD⟩ : ∃ P Q : List AV, P.length = a1 + w ∧ (pre ++ A.take (w + 1) ++ [x] ++ A.drop (w + 1) ++ post).map encR ++ rest = P ++ encR A[w] :: encR x :: Q ∧
            (pre ++ A.take w ++ [x] ++ A.drop w ++ post).map encR ++ rest = P ++ encR x :: encR A[w] :: Q := by
          refine ⟨(pre ++ A.take w).map encR, (A.drop (w + 1) ++ post).map encR ++ rest, ?_, ?_, ?_⟩
          · simp; omega
          · rw [List.take_add_one, List.getElem?_eq_getElem hzA]
            simp only [Option.toList_some, List.map_append, List.map_cons, List.map_nil, List.append_assoc, List.cons_append, List.nil_append]
          · rw [get_drop hzA]; simp only [List.map_append, List.map_cons, List.map_nil, List.append_assoc, List.cons_append, List.nil_append]
        rw [hC]
        repeat (first | refine go_ ?_ | intro _)
        refine AW_drawl tab_ok mixed 14 [2, 3, 4] (by first | rfl | kernel_rfl) ?_
        repeat (first | refine go_ ?_ | intro _)
        refine at_msl (a1 + w) (a1 + w) (by first | rfl | omega | (rw [wrap_i64 (by first | omega | (simp; omega))]; first | rfl | omega | (simp; omega))) (by first | assumption | omega) (by show _ + _ * 1 = _; omega) ?_
        repeat (first | refine go_ ?_ | intro _)
        refine load_one (encR A[w]) rfl rfl (hP ▸ mid_get P _ _) ?_
        repeat (first | refine go_ ?_ | intro _)
        refine at_msl (a1 + w + 1) (a1 + w + 1) (by first | rfl | omega | (rw [wrap_i64 (by first | omega | (simp; omega))]; first | rfl | omega | (simp; omega))) (by first | assumption | omega) (by show _ + _ * 1 = _; omega) ?_
        repeat (first | refine go_ ?_ | intro _)
        refine load_one (encR x) rfl rfl (hP ▸ mid_get1 P Q _ _) ?_
        repeat (first | refine go_ ?_ | intro _)
        refine at_msl (a1 + w + 1) (a1 + w + 1) (by first | rfl | omega | (rw [wrap_i64 (by first | omega | (simp; omega))]; first | rfl | omega | (simp; omega))) (by first | assumption | omega) (by show _ + _ * 1 = _; omega) ?_
        repeat (first | refine go_ ?_ | intro _)
        refine store_one (encR A[w]) (P ++ encR A[w] :: encR A[w] :: Q) rfl rfl (by simp; omega) (hP ▸ mid_set1 P Q _ _ _) ?_
        repeat (first | refine go_ ?_ | intro _)
        refine at_msl (a1 + w) (a1 + w) (by first | rfl | omega | (rw [wrap_i64 (by first | omega | (simp; omega))]; first | rfl | omega | (simp; omega))) (by first | assumption | omega) (by show _ + _ * 1 = _; omega) ?_
        repeat (first | refine go_ ?_ | intro _)
        refine store_one (encR x) (P ++ encR x :: encR A[w] :: Q) rfl rfl (by simp; omega) (hP ▸ mid_set P _ _ _) ?_
        repeat (first | refine go_ ?_ | intro _)
        refine ⟨w, ?_, ?_, weak_of ?_ rfl ?_⟩
        · omega
        · omega
        · repeat (first | exact trivial | refine env_ ?_)
        · refine SLe.of_eq ?_
          rw [hD]; rfl
      · have hz' : z = lo := by omega
        subst hz'
        repeat (first | refine go_ ?_ | intro _)
        refine AW_ret ⟨.tup [], _, AVle.refl _, SLe.rfl, A.take z ++ [x] ++ A.drop z, ?_, ?_, rfl, ?_⟩
        · have e : A.Perm (A.take z ++ A.drop z) := by rw [List.take_append_drop]
          rw [List.append_assoc]
          exact ((List.perm_middle (l₁ := A.take z) (l₂ := A.drop z) (a := x)).trans (e.symm.cons x)).trans (List.perm_append_singleton x A).symm
        · refine srt_insert hc hA x z (fun y hy => ?_) (fun y hy => ?_)
          · obtain ⟨i, hi, hlt, rfl⟩ := mem_take_get hy
            have := h3 i hi hlt
            have := hc.anti x A[i]
            omega
          · obtain ⟨i, hi, hle, rfl⟩ := mem_drop_get hy
            have := h4 i hi hle; omega
        · rw [hold_pos (by omega)]
          simp
  -- both have more than one row
  have hA2 : 2 ≤ A.length := by omega
  have hB2 : 2 ≤ B.length := by omega
  repeat (first | refine go_ ?_ | intro _)
  refine ⟨(by decide), half_has (a1) (b1) (by omega), ?_⟩
  repeat (first | refine go_ ?_ | intro _)
  obtain ⟨mid, hmid⟩ : ∃ mid, (a1 + b1) / 2 = mid := ⟨_, rfl⟩
  have ev1 : IntKind.i64.wrap (Int.fdiv (IntKind.u64.wrap (IntKind.i64.wrap ((a1 : Int) + (b1 : Int)))) (2 ^ (min (Int.toNat 1) IntKind.u64.bits))) = (mid : Int) := by
    rw [half_val _ _ (by omega), hmid]
  have ev2 : IntKind.i64.wrap (IntKind.i64.wrap (Int.fdiv (IntKind.u64.wrap (IntKind.i64.wrap ((a1 : Int) + (b1 : Int)))) (2 ^ (min (Int.toNat 1) IntKind.u64.bits))) + (m1 : Int)) = ((mid + m1 : Nat) : Int) := by
    rw [ev1, wrap_i64 (by omega)]; simp
  refine AW_weak (weak_of (l := [(0, .msl b 0 n cap), (1, .int .i64 (a1 : Nat)), (2, .int .i64 (m1 : Nat)), (3, .int .i64 (b1 : Nat)), (4, f), (18, .int .i64 (mid : Nat)), (19, .int .i64 ((mid + m1 : Nat) : Int)), (20, .int .i64 0), (21, .int .i64 0), (140, .bool (decide ((mid : Int) < (m1 : Int))))]) (m := []) (S' := .cells b ((pre ++ A ++ B ++ post).map encR ++ rest) :: R) ?_ rfl ?_) ?_
  · repeat (first | exact trivial | refine ⟨(AVle.eq (congrArg (AV.int .i64) ev1)), ?_⟩ | refine ⟨(AVle.eq (congrArg (AV.int .i64) ev2)), ?_⟩ | refine ⟨(AVle.eq (congrArg AV.bool (by show decide (IntKind.i64.wrap _ < (m1 : Int)) = _; rw [ev1]))), ?_⟩ | refine env_ ?_)
  · refine SW.le ?_
    repeat (first | exact SW.nil | refine sw_ ?_)
  clear ev1 ev2
  refine AW_cut (α := Nat × Nat) (fun z => ⟨[(0, .msl b 0 n cap), (1, .int .i64 (a1 : Nat)), (2, .int .i64 (m1 : Nat)), (3, .int .i64 (b1 : Nat)), (4, f), (18, .int .i64 (mid : Nat)), (19, .int .i64 ((mid + m1 : Nat) : Int)), (20, .int .i64 (z.1 : Nat)), (21, .int .i64 (z.2 : Nat))], []⟩) (fun z => .cells b ((pre ++ A ++ B ++ post).map encR ++ rest) :: R) (fun z => a1 ≤ z.1 ∧ z.1 ≤ z.2 ∧ z.2 ≤ mid ∧ z.2 ≤ m1 ∧ mid + m1 ≤ b1 + z.1 ∧ (z.1 = a1 ∨ mid + m1 = b1 + z.1) ∧ (z.2 = m1 ∨ z.2 = mid)) ?_ (fun z hz => ?_)
  · refine AW_iff (mid < m1) rfl (by first | (simp; done) | (simp <;> omega) | decide) (fun h => ?_) (fun h => ?_)
    · repeat (first | refine go_ ?_ | intro _)
      refine ⟨(mid + m1 - b1, mid), ?_, weak_of ?_ rfl ?_⟩
      · refine ⟨?_, ?_, ?_, ?_, ?_, .inr ?_, .inr rfl⟩ <;> (simp only []; omega)
      · repeat (first | exact trivial | refine ⟨(AVle.eq (congrArg (AV.int .i64) (show IntKind.i64.wrap (((mid + m1 : Nat) : Int) - (b1 : Int)) = ((mid + m1 - b1 : Nat) : Int) by rw [wrap_i64 (by omega)]; omega))), ?_⟩ | refine env_ ?_)
      · repeat (first | exact SLe.rfl | refine SLe.tail ?_ | refine SLe.full ?_)
    · repeat (first | refine go_ ?_ | intro _)
      refine ⟨(a1, m1), ?_, weak_of ?_ rfl ?_⟩
      · refine ⟨?_, ?_, ?_, ?_, ?_, .inl rfl, .inl rfl⟩ <;> (simp only []; omega)
      · repeat (first | exact trivial | refine env_ ?_)
      · repeat (first | exact SLe.rfl | refine SLe.tail ?_ | refine SLe.full ?_)
  obtain ⟨s0, r0⟩ := z
  obtain ⟨q1, q2, q3, q4, q5, q6, q7⟩ : a1 ≤ s0 ∧ s0 ≤ r0 ∧ r0 ≤ mid ∧ r0 ≤ m1 ∧ mid + m1 ≤ b1 + s0 ∧ (s0 = a1 ∨ mid + m1 = b1 + s0) ∧ (r0 = m1 ∨ r0 = mid) := hz
  repeat (first | refine go_ ?_ | intro _)
  refine AW_for (α := Nat × Nat) (fun z => ⟨[(0, .msl b 0 n cap), (1, .int .i64 (a1 : Nat)), (2, .int .i64 (m1 : Nat)), (3, .int .i64 (b1 : Nat)), (4, f), (18, .int .i64 (mid : Nat)), (19, .int .i64 ((mid + m1 : Nat) : Int)), (20, .int .i64 (z.1 : Nat)), (21, .int .i64 (z.2 : Nat)), (22, .int .i64 ((mid + m1 - 1 : Nat) : Int))], []⟩) (fun z => .cells b ((pre ++ A ++ B ++ post).map encR ++ rest) :: R) (fun z => z.2 - z.1) (fun z => s0 ≤ z.1 ∧ z.1 ≤ z.2 ∧ z.2 ≤ r0 ∧ (z.1 = s0 ∨ ∃ (h0 : z.1 - a1 - 1 < A.length) (h1 : mid + m1 - z.1 - m1 < B.length), cmp A[z.1 - a1 - 1] B[mid + m1 - z.1 - m1] ≤ 0) ∧ (z.2 = r0 ∨ ∃ (h0 : mid + m1 - z.2 - m1 - 1 < B.length) (h1 : z.2 - a1 < A.length), cmp B[mid + m1 - z.2 - m1 - 1] A[z.2 - a1] ≤ 0)) ((s0, r0)) ?_ (weak_of ?_ rfl ?_) (fun z hz => ?_)
  · exact ⟨Nat.le_refl _, q2, Nat.le_refl _, .inl rfl, .inl rfl⟩
  · repeat (first | exact trivial | refine env_ ?_)
  · repeat (first | exact SLe.rfl | refine SLe.tail ?_ | refine SLe.full ?_)
  obtain ⟨s, r⟩ := z
  obtain ⟨p1, p2, p3, p4, p5⟩ : s0 ≤ s ∧ s ≤ r ∧ r ≤ r0 ∧ (s = s0 ∨ ∃ (h0 : s - a1 - 1 < A.length) (h1 : mid + m1 - s - m1 < B.length), cmp A[s - a1 - 1] B[mid + m1 - s - m1] ≤ 0) ∧ (r = r0 ∨ ∃ (h0 : mid + m1 - r - m1 - 1 < B.length) (h1 : r - a1 < A.length), cmp B[mid + m1 - r - m1 - 1] A[r - a1] ≤ 0) := hz
  repeat (first | refine go_ ?_ | intro _)
  refine AW_iff (s < r) rfl (by first | (simp; done) | (simp <;> omega) | decide) (fun h => ?_) (fun h => ?_)
  · have hlt : s < r := h
    repeat (first | refine go_ ?_ | intro _)
    refine ⟨(by decide), half_has (s) (r) (by omega), ?_⟩
    repeat (first | refine go_ ?_ | intro _)
    obtain ⟨c, hcc⟩ : ∃ c, (s + r) / 2 = c := ⟨_, rfl⟩
    have ev3 : IntKind.i64.wrap (Int.fdiv (IntKind.u64.wrap (IntKind.i64.wrap ((s : Int) + (r : Int)))) (2 ^ (min (Int.toNat 1) IntKind.u64.bits))) = (c : Int) := by
      rw [half_val _ _ (by omega), hcc]
    have hcA : c - a1 < A.length := by omega
    have hcB : mid - 1 - c < B.length := by omega
    have gA' := gA (c - a1) hcA
    have gB' := gB (mid - 1 - c) hcB
    rw [show a1 + (c - a1) = c by omega] at gA'
    rw [show m1 + (mid - 1 - c) = mid + m1 - 1 - c by omega] at gB'
    refine AW_weak (weak_of (l := [(0, .msl b 0 n cap), (1, .int .i64 (a1 : Nat)), (2, .int .i64 (m1 : Nat)), (3, .int .i64 (b1 : Nat)), (4, f), (18, .int .i64 (mid : Nat)), (19, .int .i64 ((mid + m1 : Nat) : Int)), (20, .int .i64 (s : Nat)), (21, .int .i64 (r : Nat)), (22, .int .i64 ((mid + m1 - 1 : Nat) : Int)), (23, .int .i64 (c : Nat))]) (m := []) (S' := .cells b ((pre ++ A ++ B ++ post).map encR ++ rest) :: R) ?_ rfl ?_) ?_
    · repeat (first | exact trivial | refine ⟨(AVle.eq (congrArg (AV.int .i64) ev3)), ?_⟩ | refine env_ ?_)
    · refine SW.le ?_
      repeat (first | exact SW.nil | refine sw_ ?_)
    clear ev3
    refine AW_draw tab_ok mixed 14 (by first | rfl | kernel_rfl) ?_
    repeat (first | refine go_ ?_ | intro _)
    refine at_msl (mid + m1 - 1 - c) (mid + m1 - 1 - c) (by first | rfl | omega | (rw [wrap_i64 (by first | omega | (simp; omega))]; first | rfl | omega | (simp; omega))) (by first | assumption | omega) (by show _ + _ * 1 = _; omega) ?_
    repeat (first | refine go_ ?_ | intro _)
    refine load_one (encR (B[mid - 1 - c]'hcB)) rfl rfl gB' ?_
    repeat (first | refine go_ ?_ | intro _)
    refine at_msl (c) (c) (by first | rfl | omega | (rw [wrap_i64 (by first | omega | (simp; omega))]; first | rfl | omega | (simp; omega))) (by first | assumption | omega) (by show _ + _ * 1 = _; omega) ?_
    repeat (first | refine go_ ?_ | intro _)
    refine load_one (encR (A[c - a1]'hcA)) rfl rfl gA' ?_
    repeat (first | refine go_ ?_ | intro _)
    apply call_step
    · rfl
    · exact hf _ _ _ _ ⟨rfl, rfl⟩
    repeat (first | refine go_ ?_ | intro _)
    refine AW_iff (¬ cmp (B[mid - 1 - c]'hcB) (A[c - a1]'hcA) < 0) rfl (by first | (simp; done) | (simp <;> omega) | decide) (fun h => ?_) (fun h => ?_)
    · repeat (first | refine go_ ?_ | intro _)
      refine ⟨(c + 1, r), ?_, ?_, weak_of ?_ rfl ?_⟩
      · show r - (c + 1) < r - s; omega
      · refine ⟨by show s0 ≤ c + 1; omega, by show c + 1 ≤ r; omega, p3, .inr ?_, p5⟩
        have ia : c + 1 - a1 - 1 = c - a1 := by omega
        have ib : mid + m1 - (c + 1) - m1 = mid - 1 - c := by omega
        refine ⟨by show c + 1 - a1 - 1 < _; omega, by show mid + m1 - (c + 1) - m1 < _; omega, ?_⟩
        have := hc.anti (B[mid - 1 - c]'hcB) (A[c - a1]'hcA)
        simp only [ia, ib]
        omega
      · repeat (first | exact trivial | refine env_ ?_)
      · repeat (first | exact SLe.rfl | refine SLe.tail ?_ | refine SLe.full ?_)
    · repeat (first | refine go_ ?_ | intro _)
      refine ⟨(s, c), ?_, ?_, weak_of ?_ rfl ?_⟩
      · show c - s < r - s; omega
      · refine ⟨p1, by show s ≤ c; omega, by show c ≤ r0; omega, p4, .inr ?_⟩
        have ib : mid + m1 - c - m1 - 1 = mid - 1 - c := by omega
        refine ⟨by show mid + m1 - c - m1 - 1 < _; omega, hcA, ?_⟩
        have := Classical.not_not.1 h
        simp only [ib]
        omega
      · repeat (first | exact trivial | refine env_ ?_)
      · repeat (first | exact SLe.rfl | refine SLe.tail ?_ | refine SLe.full ?_)
  have he : s = r := by omega
  subst he
  obtain ⟨i, hi⟩ : ∃ i, s - a1 = i := ⟨_, rfl⟩
  obtain ⟨j, hj⟩ : ∃ j, mid - s = j := ⟨_, rfl⟩
  have ia1 : s - a1 - 1 = i - 1 := by omega
  have ib1 : mid + m1 - s - m1 = j := by omega
  have ia2 : mid + m1 - s - m1 - 1 = j - 1 := by omega
  have hil : i ≤ A.length := by omega
  have hjl : j ≤ B.length := by omega
  have c1 : i = 0 ∨ j = B.length ∨ ∃ (h0 : i - 1 < A.length) (h1 : j < B.length), cmp A[i - 1] B[j] ≤ 0 := by
    clear p5
    rcases p4 with rfl | ⟨h0, h1, h2⟩
    · rcases q6 with h | h
      · left; omega
      · right; left; omega
    · simp only [ia1, ib1] at h0 h1 h2
      exact .inr (.inr ⟨h0, h1, h2⟩)
  have c2 : j = 0 ∨ i = A.length ∨ ∃ (h0 : j - 1 < B.length) (h1 : i < A.length), cmp B[j - 1] A[i] ≤ 0 := by
    clear c1 p4
    rcases p5 with rfl | ⟨h0, h1, h2⟩
    · rcases q7 with h | h
      · right; left; omega
      · left; omega
    · simp only [ia2, hi] at h0 h1 h2
      exact .inr (.inr ⟨h0, h1, h2⟩)
  have c1' : Go.RowKit.Hid (i = 0 ∨ j = B.length ∨ ∃ (h0 : i - 1 < A.length) (h1 : j < B.length), cmp A[i - 1] B[j] ≤ 0) := c1
  have c2' : Go.RowKit.Hid (j = 0 ∨ i = A.length ∨ ∃ (h0 : j - 1 < B.length) (h1 : i < A.length), cmp B[j - 1] A[i] ≤ 0) := c2
  clear p4 p5 c1 c2
  have eA : A.take i ++ A.drop i = A := List.take_append_drop _ _
  have eB : B.take j ++ B.drop j = B := List.take_append_drop _ _
  have lA : (A.take i).length = i := by rw [List.length_take]; omega
  have lB : (B.take j).length = j := by rw [List.length_take]; omega
  have lA' : (A.drop i).length = A.length - i := List.length_drop
  have lB' : (B.drop j).length = B.length - j := List.length_drop
  have e0 : pre ++ A ++ B ++ post = pre ++ A.take i ++ A.drop i ++ B.take j ++ (B.drop j ++ post) := by
    rw [List.append_assoc pre (A.take i), eA, ← List.append_assoc _ (B.drop j), List.append_assoc (pre ++ A) (B.take j), eB]
  refine AW_exit ?_
  refine AW_cut2 (α := Unit) (fun z => ⟨[(0, .msl b 0 n cap), (1, .int .i64 (a1 : Nat)), (3, .int .i64 (b1 : Nat)), (4, f), (18, .int .i64 (mid : Nat)), (20, .int .i64 (s : Nat)), (24, .int .i64 ((mid + m1 - s : Nat) : Int))], []⟩) (fun z => hold n b ((pre ++ A.take i ++ B.take j ++ A.drop i ++ (B.drop j ++ post)).map encR ++ rest) R) (fun z => True) ?_ (fun z hz => ?_)
  · repeat (first | refine go_ ?_ | intro _)
    refine gsplit (s < m1) (by first | (simp; done) | (simp <;> omega) | decide) (fun h => ?_) (fun h => ?_)
    · have h1 := h
      repeat (first | refine go_ ?_ | intro _)
      refine AW_iff (m1 < mid + m1 - s) rfl (by rw [wrap_i64 (by omega)]; simp; omega) (fun h => ?_) (fun h => ?_)
      · have hrot := rotate_ok f b n cap rest hmax R _ (pre ++ A.take i) (A.drop i) (B.take j) (B.drop j ++ post) rfl (by omega) (by omega) (by simp only [List.length_append, lA, lB, lA', lB']; omega) s m1 (mid + m1 - s) (by rw [List.length_append, lA]; omega) (by rw [List.length_append, lA, lA']; omega) (by rw [List.length_append, lA, lA', lB]; omega)
        rw [← e0, hold_pos (cs := (pre ++ A ++ B ++ post).map encR ++ rest) (by omega)] at hrot
        repeat (first | refine go_ ?_ | intro _)
        refine Or.inl ⟨⟨_, Tryz.func140, rfl, rfl⟩, ACall_args (ACall.mono ?_ (hrot)) ⟨AVle.refl _, AVle.refl _, AVle.refl _, AVle.eq (congrArg (AV.int .i64) (by rw [wrap_i64 (by omega)]; omega)), AVle.refl _, trivial⟩⟩
        rintro _ S1 ⟨rfl, hS1⟩
        subst S1
        repeat (first | refine go_ ?_ | intro _)
        refine ⟨(), ?_, weak_of ?_ rfl ?_⟩
        · trivial
        · repeat (first | exact trivial | refine env_ ?_)
        · repeat (first | exact SLe.rfl | refine SLe.tail ?_ | refine SLe.full ?_)
      · have hB0' : B.take j = [] := List.eq_nil_of_length_eq_zero (by omega)
        repeat (first | refine go_ ?_ | intro _)
        refine ⟨(), ?_, weak_of ?_ rfl ?_⟩
        · trivial
        · repeat (first | exact trivial | refine env_ ?_)
        · rw [hold_pos (by omega), e0, hB0', List.append_nil, List.append_nil]
          repeat (first | exact SLe.rfl | refine SLe.tail ?_ | refine SLe.full ?_)
    · have hA0' : A.drop i = [] := List.eq_nil_of_length_eq_zero (by omega)
      repeat (first | refine go_ ?_ | intro _)
      refine AW_false (b := false) rfl (by first | rfl | (simp; done) | (simp; omega) | decide) ?_
      repeat (first | refine go_ ?_ | intro _)
      refine ⟨(), ?_, weak_of ?_ rfl ?_⟩
      · trivial
      · repeat (first | exact trivial | refine env_ ?_)
      · rw [hold_pos (by omega), e0, hA0', List.append_nil, List.append_nil]
        repeat (first | exact SLe.rfl | refine SLe.tail ?_ | refine SLe.full ?_)
  clear hz
  refine AW_cut1 (α := List (List V)) (fun z => ⟨[(0, .msl b 0 n cap), (3, .int .i64 (b1 : Nat)), (4, f), (18, .int .i64 (mid : Nat)), (24, .int .i64 ((mid + m1 - s : Nat) : Int))], []⟩) (fun z => hold n b ((pre ++ z ++ A.drop i ++ (B.drop j ++ post)).map encR ++ rest) R) (fun z => z.Perm (A.take i ++ B.take j) ∧ Srt cmp z) ?_ (fun z hz => ?_)
  · repeat (first | refine go_ ?_ | intro _)
    refine gsplit (a1 < s) (by first | (simp; done) | (simp <;> omega) | decide) (fun h => ?_) (fun h => ?_)
    · have h1 := h
      repeat (first | refine go_ ?_ | intro _)
      refine AW_iff (s < mid) rfl (by first | (simp; done) | (simp <;> omega) | decide) (fun h => ?_) (fun h => ?_)
      · have hrec := ih _ (by rw [lA, lB]; omega) pre (A.take i) (B.take j) (A.drop i ++ (B.drop j ++ post)) rfl (by omega) (by omega) (hA.sublist (List.take_sublist _ _)) (hB.sublist (List.take_sublist _ _)) (by simp only [List.length_append, lA, lB, lA', lB']; omega) a1 s mid ha (by rw [lA]; omega) (by rw [lA, lB]; omega)
        rw [← List.append_assoc (pre ++ A.take i ++ B.take j)] at hrec
        repeat (first | refine go_ ?_ | intro _)
        refine Or.inl ⟨⟨_, Tryz.func116, rfl, rfl⟩, ACall.mono ?_ (hrec)⟩
        rintro _ S1 ⟨C, hC1, hC2, rfl, hS1⟩
        subst S1
        repeat (first | refine go_ ?_ | intro _)
        refine ⟨C, ?_, weak_of ?_ rfl ?_⟩
        · exact ⟨hC1, hC2⟩
        · repeat (first | exact trivial | refine env_ ?_)
        · rw [← List.append_assoc (pre ++ C)]
          repeat (first | exact SLe.rfl | refine SLe.tail ?_ | refine SLe.full ?_)
      · have hB0' : B.take j = [] := List.eq_nil_of_length_eq_zero (by omega)
        repeat (first | refine go_ ?_ | intro _)
        refine ⟨A.take i, ?_, weak_of ?_ rfl ?_⟩
        · rw [hB0', List.append_nil]
          exact ⟨List.Perm.refl _, hA.sublist (List.take_sublist _ _)⟩
        · repeat (first | exact trivial | refine env_ ?_)
        · rw [hB0', List.append_nil]
          repeat (first | exact SLe.rfl | refine SLe.tail ?_ | refine SLe.full ?_)
    · have hA0' : A.take i = [] := List.eq_nil_of_length_eq_zero (by omega)
      repeat (first | refine go_ ?_ | intro _)
      refine AW_false (b := false) rfl (by first | rfl | (simp; done) | (simp; omega) | decide) ?_
      repeat (first | refine go_ ?_ | intro _)
      refine ⟨B.take j, ?_, weak_of ?_ rfl ?_⟩
      · rw [hA0', List.nil_append]
        exact ⟨List.Perm.refl _, hB.sublist (List.take_sublist _ _)⟩
      · repeat (first | exact trivial | refine env_ ?_)
      · rw [hA0', List.append_nil]
        repeat (first | exact SLe.rfl | refine SLe.tail ?_ | refine SLe.full ?_)
  obtain ⟨hC1, hC2⟩ := hz
  have lz : z.length = i + j := by rw [hC1.length_eq, List.length_append, lA, lB]
  repeat (first | refine go_ ?_ | intro _)
  refine gsplit (mid < mid + m1 - s) (by first | (simp; done) | (simp <;> omega) | decide) (fun h => ?_) (fun h => ?_)
  · have h1 := h
    repeat (first | refine go_ ?_ | intro _)
    refine AW_iff (mid + m1 - s < b1) rfl (by first | (simp; done) | (simp <;> omega) | decide) (fun h => ?_) (fun h => ?_)
    · have hrec := ih _ (by rw [lA', lB']; omega) (pre ++ z) (A.drop i) (B.drop j) post rfl (by omega) (by omega) (hA.sublist (List.drop_sublist _ _)) (hB.sublist (List.drop_sublist _ _)) (by simp only [List.length_append, lz, lA', lB']; omega) mid (mid + m1 - s) b1 (by rw [List.length_append, lz]; omega) (by rw [List.length_append, lz, lA']; omega) (by rw [List.length_append, lz, lA', lB']; omega)
      rw [List.append_assoc (pre ++ z ++ A.drop i)] at hrec
      repeat (first | refine go_ ?_ | intro _)
      refine Or.inl ⟨⟨_, Tryz.func116, rfl, rfl⟩, ACall.mono ?_ (hrec)⟩
      rintro _ S1 ⟨C, hD1, hD2, rfl, hS1⟩
      subst S1
      repeat (first | refine go_ ?_ | intro _)
      obtain ⟨g1, g2⟩ := srt_halves hc hA hB i j hil hjl hC1 hC2 hD1 hD2 c1'.out c2'.out
      refine ⟨.tup [], _, AVle.refl _, SLe.rfl, z ++ C, g2, g1, rfl, ?_⟩
      rw [← List.append_assoc pre z C]
    · have hB0' : B.drop j = [] := List.eq_nil_of_length_eq_zero (by omega)
      repeat (first | refine go_ ?_ | intro _)
      obtain ⟨g1, g2⟩ := srt_halves hc hA hB i j hil hjl hC1 hC2 (D := A.drop i) (by rw [hB0', List.append_nil]) (hA.sublist (List.drop_sublist _ _)) c1'.out c2'.out
      refine ⟨.tup [], _, AVle.refl _, SLe.rfl, z ++ A.drop i, g2, g1, rfl, ?_⟩
      rw [hB0', List.nil_append, ← List.append_assoc pre z]
  · have hA0' : A.drop i = [] := List.eq_nil_of_length_eq_zero (by omega)
    repeat (first | refine go_ ?_ | intro _)
    refine AW_false (b := false) rfl (by first | rfl | (simp; done) | (simp; omega) | decide) ?_
    repeat (first | refine go_ ?_ | intro _)
    obtain ⟨g1, g2⟩ := srt_halves hc hA hB i j hil hjl hC1 hC2 (D := B.drop j) (by rw [hA0', List.nil_append]) (hB.sublist (List.drop_sublist _ _)) c1'.out c2'.out
    refine ⟨.tup [], _, AVle.refl _, SLe.rfl, z ++ B.drop j, g2, g1, rfl, ?_⟩
    rw [hA0', List.append_nil, ← List.append_assoc pre z, List.append_assoc (pre ++ z)]
end Go.Proofs.YtgkjbpnmeeibbaaGreatDoor.Rel
