/-
  How many terms a small rule has. Own work.
-/
import Derived.Test.YtkmalncnaodkiaaDoorP5
import Derived.Test.YtkmalncnaodkiaaDoorP4
set_option linter.all false
namespace Go.Proofs.YtkmalncnaodkiaaDoor
open Go.Aw Go.RowKit

theorem termsT_pos (t : T) : 0 < (termsT t).length := by rw [termsT_eq]; simp
theorem termsTs_app (a b : List T) : termsTs (a ++ b) = termsTs a ++ termsTs b := by simp [termsTs_flat]
theorem termsTs_cons (t : T) (r : List T) : termsTs (t :: r) = termsT t ++ termsTs r := by rw [termsTs]
theorem termsTs_le : ∀ l : List T, l.length ≤ (termsTs l).length
  | [] => Nat.le_refl _
  | t :: r => by
    have := termsTs_le r
    have := termsT_pos t
    rw [termsTs_cons, List.length_append, List.length_cons]; omega
theorem termsTs_at {l : List T} {x : T} (h : x ∈ l) : (termsT x).length ≤ (termsTs l).length := by
  induction l with
  | nil => exact nomatch h
  | cons y r ih =>
    rw [termsTs_cons, List.length_append]
    rcases List.mem_cons.1 h with rfl | h
    · omega
    · have := ih h; omega
theorem termsTs_take {l : List T} {z : Nat} (h : z < l.length) : termsTs (l.take (z + 1)) = termsTs (l.take z) ++ termsT l[z] := by
  rw [List.take_add_one, List.getElem?_eq_getElem h, Option.toList_some, termsTs_app, termsTs_cons]; simp [termsTs]
theorem take_terms {l : List T} {z : Nat} (h : z < l.length) : termsTs l = termsTs (l.take z) ++ (termsT l[z] ++ termsTs (l.drop (z + 1))) := by
  have e : l = l.take z ++ l[z] :: l.drop (z + 1) := by rw [List.getElem_cons_drop, List.take_append_drop]
  have := congrArg termsTs e
  rw [termsTs_app, termsTs_cons] at this
  exact this
mutual
theorem sizeT_len : ∀ (t : T) (k : Int), 0 ≤ k → 0 ≤ sizeT t k → ((termsT t).length : Int) + sizeT t k = k
  | .mk o s n l, k, h0, h => by
    rw [sizeT] at h ⊢
    rw [termsT]
    split at h
    · omega
    rename_i hs
    rw [if_neg hs]
    have := sizeTs_len l (k - 1) h
    simp only [List.length_cons]; omega
theorem sizeTs_len : ∀ (l : List T) (k : Int), 0 ≤ sizeTs l k → ((termsTs l).length : Int) + sizeTs l k = k
  | [], k, h => by rw [sizeTs]; simp [termsTs]
  | t :: r, k, h => by
    rw [sizeTs] at h ⊢
    split at h
    · rename_i h0
      rw [if_pos h0]
      have h1 : 0 ≤ sizeT t k := by
        by_cases hc : 0 ≤ sizeT t k
        · exact hc
        · rw [sizeTs_neg (by omega)] at h; omega
      have := sizeT_len t k h0 h1
      have := sizeTs_len r _ h
      rw [termsTs_cons, List.length_append]; omega
    · omega
end
theorem sizeA_len (a : At) (k : Int) (h : 0 ≤ sizeA a k) : ((termsTs a.l).length : Int) + sizeA a k ≤ k := by
  unfold sizeA at h ⊢
  split at h
  · omega
  · rename_i hs
    rw [if_neg hs]
    have := sizeTs_len a.l k h
    omega
theorem sizeLi_len (l : Li) (k : Int) (h : 0 ≤ sizeLi l k) : ((termsTs (topsL l)).length : Int) + 1 + sizeLi l k ≤ k := by
  unfold sizeLi at h ⊢
  simp only [] at h ⊢
  generalize ha : sizeA l.a (k - 1) = a at *
  have e : ((termsTs (topsL l)).length : Int) = (termsT l.x).length + (termsT l.y).length + (termsTs l.a.l).length := by
    unfold topsL; rw [termsTs_cons, termsTs_cons, List.length_append, List.length_append]; omega
  by_cases h1 : 0 ≤ a
  · rw [if_pos h1] at h ⊢
    have := sizeA_len l.a (k - 1) (by omega)
    by_cases h2 : 0 ≤ sizeT l.x a
    · rw [if_pos h2] at h ⊢
      have := sizeT_len l.x a h1 h2
      have := sizeT_len l.y _ h2 h
      omega
    · rw [if_neg h2] at h; omega
  · rw [if_neg h1] at h
    rw [if_neg h1] at h; omega
theorem sizeLs_len : ∀ (l : List Li) (k : Int), 0 ≤ sizeLs l k → ((termsTs (l.flatMap topsL)).length : Int) + l.length + sizeLs l k ≤ k
  | [], k, h => by rw [sizeLs]; simp [termsTs]
  | x :: r, k, h => by
    rw [sizeLs] at h ⊢
    by_cases h0 : 0 ≤ k
    · rw [if_pos h0] at h ⊢
      have h1 : 0 ≤ sizeLi x k := by
        by_cases hc : 0 ≤ sizeLi x k
        · exact hc
        · rw [sizeLs_neg (by omega)] at h; omega
      have := sizeLi_len x k h1
      have := sizeLs_len r _ h
      rw [List.flatMap_cons, termsTs_app, List.length_append, List.length_cons]; omega
    · rw [if_neg h0] at h; omega
theorem sizeR_len (r : Ru) (k : Int) (h : 0 ≤ sizeR r k) : ((termsTs (topsR r)).length : Int) + r.body.length + 1 ≤ k := by
  unfold sizeR at h
  have h1 : 0 ≤ sizeA r.head (k - 1) := by
    by_cases hc : 0 ≤ sizeA r.head (k - 1)
    · exact hc
    · rw [sizeLs_neg (by omega)] at h; omega
  have := sizeA_len r.head (k - 1) h1
  have := sizeLs_len r.body _ h
  unfold topsR
  rw [termsTs_app, List.length_append]; omega
theorem sizeRs_at {r : Ru} : ∀ {l : List Ru} {k : Int}, r ∈ l → 0 ≤ sizeRs l k → ((termsTs (topsR r)).length : Int) + r.body.length + 1 ≤ k
  | x :: l, k, hm, h => by
    rw [sizeRs] at h
    by_cases h0 : 0 ≤ k
    · rw [if_pos h0] at h
      have h1 : 0 ≤ sizeR x k := by
        by_cases hc : 0 ≤ sizeR x k
        · exact hc
        · have : sizeRs l (sizeR x k) = sizeR x k := by
            cases l with
            | nil => rfl
            | cons y l => rw [sizeRs, if_neg hc]
          omega
      rcases List.mem_cons.1 hm with rfl | hm
      · exact sizeR_len _ k h1
      · have := sizeRs_at hm h
        have := sizeR_le x k h0
        omega
    · rw [if_neg h0] at h; omega
/-- a rule of a few terms and parts -/
def few (r : Ru) : Prop := (termsTs (topsR r)).length + r.body.length ≤ 2000
theorem few_of {p : Pr} (h : smallB p = true) : (∀ r ∈ p.rules, few r) ∧ p.decls.length ≤ 100 ∧ p.rules.length ≤ 300 := by
  unfold smallB at h
  simp only [Bool.and_eq_true, decide_eq_true_eq] at h
  refine ⟨fun r hr => ?_, h.2.2.1, h.2.2.2⟩
  have := sizeRs_at hr h.2.1
  unfold few; omega
theorem few.head {r : Ru} (h : few r) : (termsTs r.head.l).length ≤ 2000 := by
  unfold few topsR at h
  rw [termsTs_app, List.length_append] at h; omega
theorem few.okR {r : Ru} (h : few r) : okR r := by
  have h1 := h.head
  have h2 := termsTs_le r.head.l
  unfold few at h
  exact ⟨by omega, by omega⟩
end Go.Proofs.YtkmalncnaodkiaaDoor
/-
  All terms of a term, and of a rule: two generators. Own work.
-/
namespace Go.Proofs.YtkmalncnaodkiaaDoor
open Go.Aw Go.RowKit
set_option maxHeartbeats 4000000

theorem SLe.swapIn (A M C : List En) : SLe (A ++ (M ++ C)) (A ++ (C ++ M)) := SLe.perm (List.perm_append_comm.append_left A)
theorem unmarks_end {A : List En} {k : List En → Prop} {ds : List Nat} (h : k A) : unmarks ds (A ++ marks ds) k := by
  have := unmarks_all (A := A) (B := []) (ds := ds) (k := k) (by rw [List.append_nil]; exact h)
  rwa [List.append_nil] at this
theorem terms_ok (t : T) (R : List En) : ACall Tryd.prog 48 [encU t] R (fun v S => ∃ p, v = .fn (.func 75) [] [.ptr p 0] ∧ S = .cells p (cT t) :: R) := by
  refine ACall_body tab_ok Tryd.func48 rfl rfl rfl (by kernel_rfl) (Nat.le_of_ble_eq_true rfl) ?_
  repeat (first | refine go_ ?_ | intro _)
  refine AW_ret ?_
  repeat (first | refine ⟨0, rfl, ?_⟩ | refine ⟨1, rfl, ?_⟩ | refine ⟨2, rfl, ?_⟩ | refine ⟨3, rfl, ?_⟩ | refine ⟨4, rfl, ?_⟩ | refine ⟨5, rfl, ?_⟩ | refine ⟨6, rfl, ?_⟩)
  refine ⟨_, _, AVle.refl _, SLe.rfl, ?_⟩
  exact ⟨_, rfl, rfl⟩
def encG (t : T) : List AV := [encU t]

theorem terms_gen : ∀ (n : Nat), n ≤ 1000000 → ∀ (t : T) (p : Nat), (termsT t).length ≤ n → AGen Tryd.prog (.fn (.func 75) [] [.ptr p 0]) [.cells p (cT t)] ((termsT t).map encG) := by
  intro n
  induction n with
  | zero => intro _ t p h; have := termsT_pos t; omega
  | succ n ih =>
  intro hn t p hc l J Z Sc hY h0
  have hc2 : (termsTs t.l).length ≤ n := by rw [termsT_eq, List.length_cons] at hc; omega
  have hll := termsTs_le t.l
  have e0 : ∀ i : Nat, ((termsT t).map encG)[i + 1]? = ((termsTs t.l).map encG)[i]? := fun i => by rw [termsT_eq]; rfl
  refine ⟨⟨_, Tryd.func75, rfl, rfl⟩, ?_⟩
  show ACall Tryd.prog 75 [.fn (.yield l) [] [], .ptr p 0] (.cells p (cT t) :: Sc) _
  refine ACall_body tab_ok Tryd.func75 rfl rfl rfl (by kernel_rfl) (Nat.le_of_ble_eq_true rfl) ?_
  repeat (first | refine go_ ?_ | intro _)
  rename_i q
  refine AYield.mono ?_ (hY [.cells q [.fn (.yield l) [] []], .cells p (cT t)] 0 (encG t) Sc (by rw [List.getElem?_map, termsT_eq]; rfl) h0)
  rintro _ S1 ⟨w, Sc1, rfl, rfl, hj, hz⟩
  cases w with
  | false =>
    repeat (first | refine ga_ ?_ | intro _)
    refine AW_ret ?_
    repeat (first | refine ⟨0, rfl, ?_⟩ | refine ⟨1, rfl, ?_⟩ | refine ⟨2, rfl, ?_⟩ | refine ⟨3, rfl, ?_⟩ | refine ⟨4, rfl, ?_⟩ | refine ⟨5, rfl, ?_⟩ | refine ⟨6, rfl, ?_⟩)
    refine ⟨_, _, AVle.refl _, SLe.rfl, ?_⟩
    exact ⟨Sc1, SLe.tail (SLe.tail SLe.rfl), .inr (hz rfl)⟩
  | true =>
  repeat (first | refine ga_ ?_ | intro _)
  refine AW_for (α := Nat × List Nat × List En) (fun z => ⟨[(1, .ptr p 0), (2, .ptr q 0), (11, .sl 4 (encTs t.l) .no), (12, .int .i64 (t.l.length : Nat)), (13, .int .i64 (z.1 : Nat))], z.2.1⟩) (fun z => .cells q [.fn (.yield l) [] []] :: .cells p (cT t) :: (marks z.2.1 ++ z.2.2)) (fun z => t.l.length - z.1) (fun z => z.1 ≤ t.l.length ∧ J ((termsTs (t.l.take z.1)).length + 1) z.2.2) ((0, [], Sc1)) ?_ (weak_of ?_ rfl ?_) (fun z hz => ?_)
  · exact ⟨by omega, hj rfl⟩
  · repeat (first | exact trivial | refine ⟨(AVle.eq (congrArg (AV.int .i64) (by simp))), ?_⟩ | refine ⟨AVle.refl _, ?_⟩ | refine ⟨AVle.tk, ?_⟩ | refine ⟨AVle.nil, ?_⟩ | refine ⟨AVle.nilFull, ?_⟩ | refine ⟨AVle.eq (congrArg (AV.int .i64) (by first | (simp; done) | (simp; omega) | (rw [wrap_i64 (by first | omega | (simp; omega))]; first | rfl | omega | (simp; done) | (simp; omega)))), ?_⟩)
  · repeat (first | exact SLe.rfl | refine SLe.tail ?_ | refine SLe.full ?_)
  obtain ⟨z, ds, Sc2⟩ := z
  obtain ⟨i1, i2⟩ : z ≤ t.l.length ∧ J ((termsTs (t.l.take z)).length + 1) Sc2 := hz
  repeat (first | refine go_ ?_ | intro _)
  refine AW_iff (z < t.l.length) rfl (by first | (simp; done) | (simp <;> omega) | decide) (fun h => ?_) (fun h => ?_)
  · have hlt := h
    obtain ⟨x, hx⟩ : ∃ x, x = t.l[z] := ⟨_, rfl⟩
    have hxl : (termsT x).length ≤ n := by
      have := termsTs_at (l := t.l) (x := x) (hx ▸ List.getElem_mem hlt); omega
    have e1 : ∀ (i : Nat) (u : T), (termsT x)[i]? = some u → ((termsT t).map encG)[(termsTs (t.l.take z)).length + 1 + i]? = some (encG u) := fun i u hu => by
      have hi := (List.getElem?_eq_some_iff.1 hu).1
      rw [show (termsTs (t.l.take z)).length + 1 + i = ((termsTs (t.l.take z)).length + i) + 1 by omega, e0, List.getElem?_map, take_terms hlt, ← hx]
      rw [List.getElem?_append_right (by omega), Nat.add_sub_cancel_left, List.getElem?_append_left hi, hu]; rfl
    have e2 : (termsTs (t.l.take (z + 1))).length + 1 = (termsTs (t.l.take z)).length + 1 + ((termsT x).map encG).length := by
      rw [termsTs_take hlt, List.length_append, List.length_map, hx]; omega
    repeat (first | refine go_ ?_ | intro _)
    refine at_get (z) (encU x) (by first | rfl | omega | (rw [wrap_i64 (by omega)]; omega)) (by rw [hx]; exact encTs_get hlt) ?_
    repeat (first | refine go_ ?_ | intro _)
    rename_i b
    refine Or.inl ⟨⟨_, Tryd.func48, rfl, rfl⟩, ACall.mono ?_ (terms_ok x _)⟩
    rintro _ S2 ⟨o, rfl, hS2⟩
    subst S2
    repeat (first | refine go_ ?_ | intro _)
    refine AW_rangeOut (xs := (termsT x).map encG) (α := List En) (st := fun i Sc => .cells q [.fn (.yield l) [] []] :: .cells p (cT t) :: Sc) (inv := fun i Sc => J ((termsTs (t.l.take z)).length + 1 + i) Sc) (Q := fun x Sc => x = .ret ∧ Z Sc) ([.cells o (cT x)]) (marks ds) (Sc2) rfl (ih (by omega) x o hxl) ?_ ?_ ?_ ?_ ?_ ?_
    · exact SLe.trans (SLe.sub (((List.Sublist.refl _).cons _).cons_cons _)) (SLe.swapIn [.cells o (cT x), .cells q [.fn (.yield l) [] []], .cells p (cT t)] (marks ds) Sc2)
    · exact i2
    · intro i args h
      rw [List.getElem?_map] at h
      obtain ⟨x, _, rfl⟩ := Option.map_eq_some_iff.1 h
      rfl
    · intro lp R1 i args Sc3 hl hx hz
      rw [List.getElem?_map] at hx
      obtain ⟨u, hu, rfl⟩ := Option.map_eq_some_iff.1 hx
      repeat (first | refine ga_ ?_ | intro _)
      rename_i b2
      refine ⟨.cells b2 (cT u) :: .cells q [.fn (.yield l) [] []] :: .cells p (cT t) :: Sc3, rfl, fun R2 hl2 => ?_⟩
      repeat (first | refine ga_ ?_ | intro _)
      refine AYield_weak (SLe.swapIn [.cells b2 (cT u), .cells q [.fn (.yield l) [] []], .cells p (cT t)] Sc3 R2) ?_
      refine AYield.mono ?_ (hY (.cells b2 (cT u) :: .cells q [.fn (.yield l) [] []] :: .cells p (cT t) :: R2) _ (encG u) Sc3 (e1 i u hu) hz)
      rintro _ S3 ⟨w, Sc4, rfl, rfl, hj4, hz4⟩
      cases w with
      | false =>
        repeat (first | refine ga_ ?_ | intro _)
        exact AW_ret ⟨Sc4, ⟨rfl, hz4 rfl⟩, SLe.tail (SLe.tail (SLe.tail (SLe.perm List.perm_append_comm)))⟩
      | true =>
        repeat (first | refine ga_ ?_ | intro _)
        exact ⟨Sc4, hj4 rfl, SLe.tail (SLe.swapIn [.cells q [.fn (.yield l) [] []], .cells p (cT t)] R2 Sc4)⟩
    · intro d Sc5 hz5
      repeat (first | refine ga_ ?_ | intro _)
      refine ⟨(z + 1, d :: ds, Sc5), ?_, ?_, weak_of ?_ rfl ?_⟩
      · exact Nat.sub_lt_sub_left hlt (Nat.lt_succ_self z)
      · exact ⟨hlt, by rw [e2]; exact hz5⟩
      · repeat (first | exact trivial | refine ⟨AVle.refl _, ?_⟩ | refine ⟨AVle.tk, ?_⟩ | refine ⟨AVle.nil, ?_⟩ | refine ⟨AVle.nilFull, ?_⟩ | refine ⟨AVle.eq (congrArg (AV.int .i64) (by first | (simp; done) | (simp; omega) | (rw [wrap_i64 (by first | omega | (simp; omega))]; first | rfl | omega | (simp; done) | (simp; omega)))), ?_⟩)
      · exact SLe.swapIn [.cells q [.fn (.yield l) [] []], .cells p (cT t)] Sc5 (marks (d :: ds))
    · rintro d x Sc5 ⟨rfl, hz5⟩ _
      repeat (first | refine ga_ ?_ | intro _)
      refine unmarks_end (ds := d :: ds) ?_
      exact ⟨_, _, AVle.refl _, SLe.rfl, Sc5, SLe.rfl, .inr hz5⟩
  · have hz : z = t.l.length := by omega
    subst hz
    rw [List.take_length] at i2
    repeat (first | refine go_ ?_ | intro _)
    refine unmarks_all (A := [.cells q [.fn (.yield l) [] []], .cells p (cT t)]) (B := Sc2) (ds := ds) ?_
    refine ⟨_, _, AVle.refl _, SLe.rfl, Sc2, SLe.tail (SLe.tail SLe.rfl), .inl ?_⟩
    rw [List.length_map, termsT_eq, List.length_cons]
    exact i2
end Go.Proofs.YtkmalncnaodkiaaDoor
/-
  All terms of a rule, as the program goes through them. Own work.
-/
namespace Go.Proofs.YtkmalncnaodkiaaDoor
open Go.Aw Go.RowKit
set_option maxHeartbeats 4000000

theorem cloneT_ok (l : List T) (R : List En) (hl : l.length ≤ 1000000) : ACall Tryd.prog 47 [.sl 4 (encTs l) .no] R (fun r S => ∃ tk, r = .sl 4 (encTs l) tk ∧ S = .grow tk :: R) := by
  have hl2 := encTs_len l
  refine ACall_body tab_ok Tryd.func47 rfl rfl rfl (by kernel_rfl) (Nat.le_of_ble_eq_true rfl) ?_
  repeat (first | refine go_ ?_ | intro _)
  rename_i b hb
  refine AW_cond (b := b) rfl (fun h => ?_) (fun h => ?_)
  · repeat (first | refine go_ ?_ | intro _)
    have : l = [] := by cases l with
      | nil => rfl
      | cons a x => rw [hb (by simp [encTs])] at h; cases h
    subst this
    exact AW_ret ⟨.sl 4 [] .full, .grow .full :: R, AVle.nilFull, SLe.full SLe.rfl, .full, rfl, rfl⟩
  · repeat (first | refine go_ ?_ | intro _)
    refine ⟨room (by first | omega | (simp; done) | (simp; omega) | (simp at *; done) | (simp at *; omega)) rfl, .inl rfl, .inl ⟨rfl, .inl rfl, _, rfl, fun t1 => ?_⟩⟩
    repeat (first | refine go_ ?_ | intro _)
    exact AW_ret ⟨.sl 4 (encTs l) t1, .grow t1 :: R, AVle.refl _, SLe.rfl, t1, rfl, rfl⟩
theorem all_ok (r : Ru) (R : List En) : ACall Tryd.prog 28 [encRu r] R (fun v S => ∃ p, v = .fn (.func 46) [] [.ptr p 0] ∧ S = .cells p (cRu r) :: R) := by
  refine ACall_body tab_ok Tryd.func28 rfl rfl rfl (by kernel_rfl) (Nat.le_of_ble_eq_true rfl) ?_
  repeat (first | refine go_ ?_ | intro _)
  refine AW_ret ?_
  repeat (first | refine ⟨0, rfl, ?_⟩ | refine ⟨1, rfl, ?_⟩ | refine ⟨2, rfl, ?_⟩ | refine ⟨3, rfl, ?_⟩ | refine ⟨4, rfl, ?_⟩ | refine ⟨5, rfl, ?_⟩ | refine ⟨6, rfl, ?_⟩)
  refine ⟨_, _, AVle.refl _, SLe.rfl, ?_⟩
  exact ⟨_, rfl, rfl⟩
theorem encTs_app (a b : List T) : encTs (a ++ b) = encTs a ++ encTs b := by rw [encTs_map, encTs_map, encTs_map, List.map_append]
def topsZ (r : Ru) (z : Nat) : List T := r.head.l ++ (r.body.take z).flatMap topsL
theorem topsZ_succ {r : Ru} {z : Nat} (h : z < r.body.length) : topsZ r (z + 1) = topsZ r z ++ topsL r.body[z] := by
  unfold topsZ
  rw [List.take_add_one, List.getElem?_eq_getElem h, Option.toList_some, List.flatMap_append, List.append_assoc]; simp
theorem topsZ_le (r : Ru) (z : Nat) : (topsZ r z).length ≤ (topsR r).length := by
  have e : r.body = r.body.take z ++ r.body.drop z := (List.take_append_drop z r.body).symm
  have : topsR r = topsZ r z ++ (r.body.drop z).flatMap topsL := by
    unfold topsR topsZ
    conv => lhs; rw [e]
    rw [List.flatMap_append, List.append_assoc]
  rw [this, List.length_append]; omega
theorem topsZ_all (r : Ru) : topsZ r r.body.length = topsR r := by unfold topsZ; rw [List.take_length]; rfl

theorem all_gen (r : Ru) (p : Nat) (hf : few r) : AGen Tryd.prog (.fn (.func 46) [] [.ptr p 0]) [.cells p (cRu r)] ((termsTs (topsR r)).map encG) := by
  intro l J Z Sc hY h0
  have hf2 : (termsTs (topsR r)).length + r.body.length ≤ 2000 := hf
  have hll := termsTs_le (topsR r)
  refine ⟨⟨_, Tryd.func46, rfl, rfl⟩, ?_⟩
  show ACall Tryd.prog 46 [.fn (.yield l) [] [], .ptr p 0] (.cells p (cRu r) :: Sc) _
  refine ACall_body tab_ok Tryd.func46 rfl rfl rfl (by kernel_rfl) (Nat.le_of_ble_eq_true rfl) ?_
  repeat (first | refine go_ ?_ | intro _)
  rename_i q
  refine Or.inl ⟨⟨_, Tryd.func47, rfl, rfl⟩, ACall.mono ?_ (cloneT_ok r.head.l _ (by have := topsZ_le r 0; unfold topsZ at this; simp at this; omega))⟩
  rintro _ S1 ⟨tk, rfl, hS1⟩
  subst S1
  repeat (first | refine go_ ?_ | intro _)
  refine AW_for (α := Nat × Tk) (fun z => ⟨[(1, .ptr p 0), (2, .ptr q 0), (3, .sl 4 (encTs (topsZ r z.1)) z.2), (14, .sl 11 (r.body.map encL) .no), (15, .int .i64 (r.body.length : Nat)), (16, .int .i64 (z.1 : Nat))], []⟩) (fun z => .grow z.2 :: .cells q [.fn (.yield l) [] []] :: .cells p (cRu r) :: Sc) (fun z => r.body.length - z.1) (fun z => z.1 ≤ r.body.length) ((0, tk)) ?_ (weak_of ?_ rfl ?_) (fun z hz => ?_)
  · exact Nat.zero_le _
  · repeat (first | exact trivial | refine ⟨(AVle.eq (congrArg (fun x => AV.sl 4 (encTs x) tk) (show r.head.l = topsZ r 0 by simp [topsZ]))), ?_⟩ | refine ⟨(AVle.eq (congrArg (AV.int .i64) (by simp))), ?_⟩ | refine ⟨AVle.refl _, ?_⟩ | refine ⟨AVle.tk, ?_⟩ | refine ⟨AVle.nil, ?_⟩ | refine ⟨AVle.nilFull, ?_⟩ | refine ⟨AVle.eq (congrArg (AV.int .i64) (by first | (simp; done) | (simp; omega) | (rw [wrap_i64 (by first | omega | (simp; omega))]; first | rfl | omega | (simp; done) | (simp; omega)))), ?_⟩)
  · repeat (first | exact SLe.rfl | refine SLe.tail ?_ | refine SLe.full ?_)
  obtain ⟨z, tk2⟩ := z
  replace hz : z ≤ r.body.length := hz
  have hzl := topsZ_le r z
  repeat (first | refine go_ ?_ | intro _)
  refine AW_iff (z < r.body.length) rfl (by first | (simp; done) | (simp <;> omega) | decide) (fun h => ?_) (fun h => ?_)
  · have hlt := h
    obtain ⟨x, hx⟩ : ∃ x, x = r.body[z] := ⟨_, rfl⟩
    have hs := topsZ_succ hlt
    rw [← hx] at hs
    have hzl2 := topsZ_le r (z + 1)
    rw [hs, List.length_append] at hzl2
    have hxl : (topsL x).length = x.a.l.length + 2 := rfl
    have e5 : encTs (topsZ r z) ++ [encU x.x, encU x.y] = encTs (topsZ r z ++ [x.x, x.y]) := by rw [encTs_app]; show _ = _ ++ [encT x.x, encT x.y]; rw [encT_eq, encT_eq]
    have e6 : encTs (topsZ r z ++ [x.x, x.y]) ++ encTs x.a.l = encTs (topsZ r (z + 1)) := by rw [hs, ← encTs_app, List.append_assoc]; rfl
    repeat (first | refine go_ ?_ | intro _)
    refine at_map (z) (by first | rfl | omega | (rw [wrap_i64 (by omega)]; omega)) (by first | assumption | omega) ?_
    rw [← hx]
    repeat (first | refine go_ ?_ | intro _)
    refine AW_freezeP 5 (p := 0) rfl rfl ?_
    refine AW_drawp tab_ok mixed [0, 1, 2, 3, 4, 5, 7, 8, 9, 6, 10, 11] [0, 1, 2, 3, 4, 5, 9, 6, 7, 8, 10, 11] 9 [6, 7, 8] (by first | rfl | kernel_rfl) (by first | rfl | kernel_rfl) ?_
    repeat (first | refine ga_ ?_ | intro _)
    refine ⟨room (by first | omega | (simp; done) | (simp; omega) | (simp at *; done) | (simp at *; omega)) rfl, .inl rfl, .inr (.inl ⟨rfl, 0, rfl, encTs (topsZ r z ++ [x.x, x.y]), e5, fun t1 => ?_⟩)⟩
    repeat (first | refine ga_ ?_ | intro _)
    refine ⟨room (by first | omega | (simp; done) | (simp; omega) | (simp at *; done) | (simp at *; omega)) rfl, .inl rfl, .inr (.inl ⟨rfl, 0, rfl, encTs (topsZ r (z + 1)), e6, fun t1 => ?_⟩)⟩
    repeat (first | refine ga_ ?_ | intro _)
    refine ⟨(z + 1, t1), ?_, ?_, weak_of ?_ rfl ?_⟩
    · exact Nat.sub_lt_sub_left hlt (Nat.lt_succ_self z)
    · exact hlt
    · repeat (first | exact trivial | refine ⟨AVle.refl _, ?_⟩ | refine ⟨AVle.tk, ?_⟩ | refine ⟨AVle.nil, ?_⟩ | refine ⟨AVle.nilFull, ?_⟩ | refine ⟨AVle.eq (congrArg (AV.int .i64) (by first | (simp; done) | (simp; omega) | (rw [wrap_i64 (by first | omega | (simp; omega))]; first | rfl | omega | (simp; done) | (simp; omega)))), ?_⟩)
    · repeat (first | exact SLe.rfl | refine SLe.tail ?_ | refine SLe.full ?_)
  · have hz' : z = r.body.length := by omega
    subst hz'
    repeat (first | refine go_ ?_ | intro _)
    refine AW_for (α := Nat × List Nat × List En) (fun z => ⟨[(1, .ptr p 0), (2, .ptr q 0), (32, .sl 4 (encTs (topsR r)) .no), (33, .int .i64 ((topsR r).length : Nat)), (34, .int .i64 (z.1 : Nat))], z.2.1⟩) (fun z => .cells q [.fn (.yield l) [] []] :: .cells p (cRu r) :: (marks z.2.1 ++ z.2.2)) (fun z => (topsR r).length - z.1) (fun z => z.1 ≤ (topsR r).length ∧ J (termsTs ((topsR r).take z.1)).length z.2.2) ((0, [], Sc)) ?_ (weak_of ?_ rfl ?_) (fun z hz => ?_)
    · exact ⟨by omega, h0⟩
    · repeat (first | exact trivial | refine ⟨(AVle.slEq (congrArg encTs (topsZ_all r))), ?_⟩ | refine ⟨(AVle.eq (congrArg (AV.int .i64) (by simp [topsZ_all]))), ?_⟩ | refine ⟨AVle.refl _, ?_⟩ | refine ⟨AVle.tk, ?_⟩ | refine ⟨AVle.nil, ?_⟩ | refine ⟨AVle.nilFull, ?_⟩ | refine ⟨AVle.eq (congrArg (AV.int .i64) (by first | (simp; done) | (simp; omega) | (rw [wrap_i64 (by first | omega | (simp; omega))]; first | rfl | omega | (simp; done) | (simp; omega)))), ?_⟩)
    · repeat (first | exact SLe.rfl | refine SLe.tail ?_ | refine SLe.full ?_)
    obtain ⟨z, ds, Sc2⟩ := z
    obtain ⟨i1, i2⟩ : z ≤ (topsR r).length ∧ J (termsTs ((topsR r).take z)).length Sc2 := hz
    repeat (first | refine go_ ?_ | intro _)
    refine AW_iff (z < (topsR r).length) rfl (by first | (simp; done) | (simp <;> omega) | decide) (fun h => ?_) (fun h => ?_)
    · have hlt := h
      obtain ⟨x, hx⟩ : ∃ x, x = (topsR r)[z] := ⟨_, rfl⟩
      have hxl : (termsT x).length ≤ 2000 := by
        have := termsTs_at (l := topsR r) (x := x) (hx ▸ List.getElem_mem hlt); omega
      have e1 : ∀ (i : Nat) (u : T), (termsT x)[i]? = some u → ((termsTs (topsR r)).map encG)[(termsTs ((topsR r).take z)).length + i]? = some (encG u) := fun i u hu => by
        have hi := (List.getElem?_eq_some_iff.1 hu).1
        rw [List.getElem?_map, take_terms hlt, ← hx]
        rw [List.getElem?_append_right (by omega), Nat.add_sub_cancel_left, List.getElem?_append_left hi, hu]; rfl
      have e2 : (termsTs ((topsR r).take (z + 1))).length = (termsTs ((topsR r).take z)).length + ((termsT x).map encG).length := by
        rw [termsTs_take hlt, List.length_append, List.length_map, hx]
      repeat (first | refine go_ ?_ | intro _)
      refine at_get (z) (encU x) (by first | rfl | omega | (rw [wrap_i64 (by omega)]; omega)) (by rw [hx]; exact encTs_get hlt) ?_
      repeat (first | refine go_ ?_ | intro _)
      rename_i b
      refine Or.inl ⟨⟨_, Tryd.func48, rfl, rfl⟩, ACall.mono ?_ (terms_ok x _)⟩
      rintro _ S2 ⟨o, rfl, hS2⟩
      subst S2
      repeat (first | refine go_ ?_ | intro _)
      refine AW_rangeOut (xs := (termsT x).map encG) (α := List En) (st := fun i Sc => .cells q [.fn (.yield l) [] []] :: .cells p (cRu r) :: Sc) (inv := fun i Sc => J ((termsTs ((topsR r).take z)).length + i) Sc) (Q := fun x Sc => x = .ret ∧ Z Sc) ([.cells o (cT x)]) (marks ds) (Sc2) rfl (terms_gen 2000 (by decide) x o hxl) ?_ ?_ ?_ ?_ ?_ ?_
      · exact SLe.trans (SLe.sub (((List.Sublist.refl _).cons _).cons_cons _)) (SLe.swapIn [.cells o (cT x), .cells q [.fn (.yield l) [] []], .cells p (cRu r)] (marks ds) Sc2)
      · exact i2
      · intro i args h
        rw [List.getElem?_map] at h
        obtain ⟨x, _, rfl⟩ := Option.map_eq_some_iff.1 h
        rfl
      · intro lp R1 i args Sc3 hl hx hz
        rw [List.getElem?_map] at hx
        obtain ⟨u, hu, rfl⟩ := Option.map_eq_some_iff.1 hx
        repeat (first | refine ga_ ?_ | intro _)
        rename_i b2
        refine ⟨.cells b2 (cT u) :: .cells q [.fn (.yield l) [] []] :: .cells p (cRu r) :: Sc3, rfl, fun R2 hl2 => ?_⟩
        repeat (first | refine ga_ ?_ | intro _)
        refine AYield_weak (SLe.swapIn [.cells b2 (cT u), .cells q [.fn (.yield l) [] []], .cells p (cRu r)] Sc3 R2) ?_
        refine AYield.mono ?_ (hY (.cells b2 (cT u) :: .cells q [.fn (.yield l) [] []] :: .cells p (cRu r) :: R2) _ (encG u) Sc3 (e1 i u hu) hz)
        rintro _ S3 ⟨w, Sc4, rfl, rfl, hj4, hz4⟩
        cases w with
        | false =>
          repeat (first | refine ga_ ?_ | intro _)
          exact AW_ret ⟨Sc4, ⟨rfl, hz4 rfl⟩, SLe.tail (SLe.tail (SLe.tail (SLe.perm List.perm_append_comm)))⟩
        | true =>
          repeat (first | refine ga_ ?_ | intro _)
          exact ⟨Sc4, hj4 rfl, SLe.tail (SLe.swapIn [.cells q [.fn (.yield l) [] []], .cells p (cRu r)] R2 Sc4)⟩
      · intro d Sc5 hz5
        repeat (first | refine ga_ ?_ | intro _)
        refine ⟨(z + 1, d :: ds, Sc5), ?_, ?_, weak_of ?_ rfl ?_⟩
        · exact Nat.sub_lt_sub_left hlt (Nat.lt_succ_self z)
        · exact ⟨hlt, by rw [e2]; exact hz5⟩
        · repeat (first | exact trivial | refine ⟨AVle.refl _, ?_⟩ | refine ⟨AVle.tk, ?_⟩ | refine ⟨AVle.nil, ?_⟩ | refine ⟨AVle.nilFull, ?_⟩ | refine ⟨AVle.eq (congrArg (AV.int .i64) (by first | (simp; done) | (simp; omega) | (rw [wrap_i64 (by first | omega | (simp; omega))]; first | rfl | omega | (simp; done) | (simp; omega)))), ?_⟩)
        · exact SLe.swapIn [.cells q [.fn (.yield l) [] []], .cells p (cRu r)] Sc5 (marks (d :: ds))
      · rintro d x Sc5 ⟨rfl, hz5⟩ _
        repeat (first | refine ga_ ?_ | intro _)
        refine unmarks_end (ds := d :: ds) ?_
        exact ⟨_, _, AVle.refl _, SLe.rfl, Sc5, SLe.rfl, .inr hz5⟩
    · have hz : z = (topsR r).length := by omega
      subst hz
      rw [List.take_length] at i2
      repeat (first | refine go_ ?_ | intro _)
      refine unmarks_all (A := [.cells q [.fn (.yield l) [] []], .cells p (cRu r)]) (B := Sc2) (ds := ds) ?_
      refine ⟨_, _, AVle.refl _, SLe.rfl, Sc2, SLe.tail (SLe.tail SLe.rfl), .inl ?_⟩
      rw [List.length_map]
      exact i2
end Go.Proofs.YtkmalncnaodkiaaDoor
/-
  A relation's place; a rule's variables. Own work.
-/
namespace Go.Proofs.YtkmalncnaodkiaaDoor
open Go.Aw Go.RowKit
set_option maxHeartbeats 4000000

theorem zero_bool : zeroIs Tryd.prog 4 (.bool false) := by
  obtain ⟨x, h1, h2⟩ := Option.map_eq_some_iff.1 (show ((Tryd.prog).info? 4).map (·.zero) = some (some (.bool false)) by kernel_rfl)
  exact ⟨x, h1, h2⟩
theorem zero_int : zeroIs Tryd.prog 3 (.int .i64 0) := by
  obtain ⟨x, h1, h2⟩ := Option.map_eq_some_iff.1 (show ((Tryd.prog).info? 3).map (·.zero) = some (some (.int .i64 0)) by kernel_rfl)
  exact ⟨by simp [IntKind.has, IntKind.min, IntKind.max, IntKind.bits, IntKind.signed], x, h1, h2⟩
def metL (o : List Key) : List (Key × AV) := o.map fun x => (x, AV.bool true)
theorem mget_met (s : Key) : ∀ o : List Key, mget s (.bool false) (metL o) = (.bool (decide (s ∈ o)), decide (s ∈ o))
  | [] => rfl
  | x :: o => by
    have ih := mget_met s o
    unfold metL at ih ⊢
    rw [List.map_cons, mget]
    by_cases h : x = s
    · simp [h]
    · rw [if_neg h, ih]
      have : (s ∈ x :: o) ↔ s ∈ o := by simp [Ne.symm h]
      simp [this]
theorem mput_met {s : Key} {o : List Key} (h : s ∉ o) : mput s (.bool true) (metL o) = metL (o ++ [s]) := by
  rw [mput_no]
  · simp [metL]
  · intro p hp e
    unfold metL at hp
    obtain ⟨x, hx, rfl⟩ := List.mem_map.1 hp
    exact h (e ▸ hx)
theorem keys_take {l : List T} {i : Nat} {u : T} (h : l[i]? = some u) : once (keysT (l.take (i + 1))) = if u.op = 1 then addV (once (keysT (l.take i))) u.s else once (keysT (l.take i)) := by
  rw [List.take_succ_eq_append_getElem (List.getElem?_eq_some_iff.1 h).1, (List.getElem?_eq_some_iff.1 h).2, keysT_app, once_app]
  by_cases h1 : u.op = 1
  · have e : keysT [u] = [u.s] := by simp [keysT, h1]
    rw [if_pos h1, e]; rfl
  · have e : keysT [u] = [] := by simp [keysT, h1]
    rw [if_neg h1, e]; rfl
theorem addV_len (out : List Key) (s : Key) : (addV out s).length ≤ out.length + 1 := by
  unfold addV; split
  · omega
  · simp
theorem addVs_len : ∀ (l out : List Key), (l.foldl addV out).length ≤ out.length + l.length
  | [], out => Nat.le_refl _
  | x :: l, out => by
    have := addVs_len l (addV out x)
    have := addV_len out x
    rw [List.foldl_cons, List.length_cons]; omega
theorem once_len (l : List Key) : (once l).length ≤ l.length := by have := addVs_len l []; simpa [once] using this
theorem keys_len (l : List T) : (keysT l).length ≤ l.length := by unfold keysT; rw [List.length_map]; exact List.length_filter_le _ _
theorem varsR_len {r : Ru} (h : few r) : (varsR r).length ≤ 2000 := by
  unfold few at h
  unfold varsR; split
  · have h1 := once_len (keysT (termsTs (topsR r)))
    have h2 := keys_len (termsTs (topsR r))
    show (once (keysT (termsTs (topsR r)))).length ≤ 2000
    omega
  · simp

theorem vars_ok (b o : Nat) (r : Ru) (R : List En) (hE : En.glob 0 [errE b o] ∈ R) (hf : few r) : ACall Tryd.prog 14 [encRu r] R (fun v S => v = .sl 1 ((varsR r).map AV.str) .no ∧ S = R) := by
  have hf2 : (termsTs (topsR r)).length + r.body.length ≤ 2000 := hf
  refine ACall_body tab_ok Tryd.func14 rfl rfl rfl (by kernel_rfl) (Nat.le_of_ble_eq_true rfl) ?_
  repeat (first | refine go_ ?_ | intro _)
  rename_i p
  refine Or.inl ⟨⟨_, Tryd.func27, rfl, rfl⟩, ACall.mono ?_ (rightRule_ok b o r _ (.tail _ hE) hf.okR.1 hf.okR.2)⟩
  rintro _ S1 ⟨rfl, hS1⟩
  subst S1
  repeat (first | refine go_ ?_ | intro _)
  refine AW_cond (b := !rightR r) rfl (fun h => ?_) (fun h => ?_)
  · have e : varsR r = [] := by unfold varsR; rw [if_neg (by simpa using h)]
    repeat (first | refine go_ ?_ | intro _)
    refine AW_ret ?_
    repeat (first | refine ⟨0, rfl, ?_⟩ | refine ⟨1, rfl, ?_⟩ | refine ⟨2, rfl, ?_⟩ | refine ⟨3, rfl, ?_⟩ | refine ⟨4, rfl, ?_⟩ | refine ⟨5, rfl, ?_⟩ | refine ⟨6, rfl, ?_⟩)
    refine ⟨_, R, ?_, (by repeat (first | exact SLe.rfl | refine SLe.tail ?_)), rfl, rfl⟩
    rw [e]
    exact AVle.nil
  · have hr : rightR r = true := by simpa using h
    have e : varsR r = once (keysR r) := if_pos hr
    repeat (first | refine go_ ?_ | intro _)
    rename_i c3 mb c4
    refine Or.inl ⟨⟨_, Tryd.func28, rfl, rfl⟩, ACall.mono ?_ (all_ok r _)⟩
    rintro _ S1 ⟨q, rfl, hS1⟩
    subst S1
    repeat (first | refine go_ ?_ | intro _)
    refine AW_rangeOut (xs := (termsTs (topsR r)).map encG) (α := List Key × Tk) (st := fun i z => [.grow z.2, .cells c4 [.map mb], .map mb (mkM (metL z.1)), .cells c3 [.sl 1 (z.1.map AV.str) z.2]]) (inv := fun i z => z.1 = once (keysT ((termsTs (topsR r)).take i))) (Q := fun x Sc => False) ([.cells q (cRu r)]) (.cells p (cRu r) :: R) (([], .full)) rfl (all_gen r q hf) ?_ ?_ ?_ ?_ ?_ ?_
    · refine SW.le ?_
      repeat (first | exact SW.nil | refine SW.cons ?_ | refine SW.cells (by repeat (first | exact trivial | refine ⟨AVle.refl _, ?_⟩ | refine ⟨AVle.nilFull, ?_⟩ | refine ⟨AVle.tk, ?_⟩ | refine ⟨AVle.nil, ?_⟩)) rfl ?_ | refine SW.full ?_ | refine SW.drop ?_)
    · rfl
    · intro i args h
      rw [List.getElem?_map] at h
      obtain ⟨x, _, rfl⟩ := Option.map_eq_some_iff.1 h
      rfl
    · intro lp R1 i args z hl hx hz
      rw [List.getElem?_map] at hx
      obtain ⟨u, hu, rfl⟩ := Option.map_eq_some_iff.1 hx
      obtain ⟨out, tk⟩ := z
      replace hz : out = once (keysT ((termsTs (topsR r)).take i)) := hz
      have hk := keys_take hu
      rw [← hz] at hk
      have hol : out.length ≤ 2000 := by
        have := once_len (keysT ((termsTs (topsR r)).take i))
        have := keys_len ((termsTs (topsR r)).take i)
        rw [hz]
        rw [List.length_take] at this; omega
      repeat (first | refine ga_ ?_ | intro _)
      rename_i b2
      refine ⟨[.cells b2 (cT u), .grow tk, .cells c4 [.map mb], .map mb (mkM (metL out)), .cells c3 [.sl 1 (out.map AV.str) tk]], rfl, fun R2 hl2 => ?_⟩
      repeat (first | refine ga_ ?_ | intro _)
      refine gsplit (¬ u.op = 1) (by first | (simp; done) | (simp <;> omega) | decide) (fun h => ?_) (fun h => ?_)
      · rw [if_neg h] at hk
        repeat (first | refine ga_ ?_ | intro _)
        exact ⟨(out, tk), hk.symm, SLe.tail SLe.rfl⟩
      · have h1 : u.op = 1 := by omega
        rw [if_pos h1] at hk
        repeat (first | refine ga_ ?_ | intro _)
        refine ⟨_, _, _, 3, _, rfl, rfl, zero_bool, rfl, (.bool (decide (u.s ∈ out)), decide (u.s ∈ out)), mget_met u.s out, ?_⟩
        repeat (first | refine ga_ ?_ | intro _)
        refine AW_iff (u.s ∈ out) rfl (by first | (simp; done) | (simp <;> omega) | decide) (fun h => ?_) (fun h => ?_)
        · have e : addV out u.s = out := if_pos h
          rw [e] at hk
          repeat (first | refine ga_ ?_ | intro _)
          exact ⟨(out, tk), hk.symm, SLe.tail SLe.rfl⟩
        · have hn := h
          have e : addV out u.s = out ++ [u.s] := if_neg h
          rw [e] at hk
          repeat (first | refine ga_ ?_ | intro _)
          refine ⟨_, _, 3, _, rfl, rfl, rfl, metL (out ++ [u.s]), mput_met hn, ?_⟩
          repeat (first | refine ga_ ?_ | intro _)
          refine ⟨room (by first | omega | (simp; done) | (simp; omega) | (simp at *; done) | (simp at *; omega)) rfl, .inl rfl, .inr (.inl ⟨rfl, 1, rfl, (out ++ [u.s]).map AV.str, (by rw [List.map_append]; rfl), fun t1 => ?_⟩)⟩
          repeat (first | refine ga_ ?_ | intro _)
          exact ⟨(out ++ [u.s], t1), hk.symm, SLe.tail SLe.rfl⟩
    · intro d z hz
      obtain ⟨out, tk⟩ := z
      replace hz : out = once (keysT ((termsTs (topsR r)).take ((termsTs (topsR r)).map encG).length)) := hz
      rw [List.length_map, List.take_length] at hz
      repeat (first | refine go_ ?_ | intro _)
      refine AW_ret ?_
      repeat (first | refine ⟨0, rfl, ?_⟩ | refine ⟨1, rfl, ?_⟩ | refine ⟨2, rfl, ?_⟩ | refine ⟨3, rfl, ?_⟩ | refine ⟨4, rfl, ?_⟩ | refine ⟨5, rfl, ?_⟩ | refine ⟨6, rfl, ?_⟩)
      refine ⟨_, R, ?_, (by repeat (first | exact SLe.rfl | refine SLe.tail ?_)), rfl, rfl⟩
      exact AVle.slEq (congrArg (List.map AV.str) (hz.trans e.symm))
    · rintro d x Sc hF _
      exact hF.elim

/-! ### a relation's place -/
def findN (d : List De) (rel : Key) : Nat := (findI d rel).getD 0
def findB (d : List De) (rel : Key) : Bool := (findI d rel).isSome
theorem findI_lt {d : List De} {rel : Key} {i : Nat} (h : findI d rel = some i) : i < d.length := (List.findIdx?_eq_some_iff_getElem.1 h).1
theorem idx_find (d : List De) (rel : Key) : max (idxB (fun x => decide (x.rel = rel)) d) 0 = (findN d rel : Nat) ∧ decide (0 ≤ idxB (fun x => decide (x.rel = rel)) d) = findB d rel := by
  unfold idxB findN findB findI
  cases d.findIdx? (fun x => decide (x.rel = rel)) with
  | none => exact ⟨rfl, rfl⟩
  | some n => exact ⟨by simp, by simp⟩
theorem findD_ok (d : De) (q : Nat) (rel : Key) (R : List En) : ACall Tryd.prog 26 [encD d, .ptr q 0] (.cells q [.str rel] :: R) (fun v S => v = .bool (decide (d.rel = rel)) ∧ S = .cells q [.str rel] :: R) := by
  refine ACall_body tab_ok Tryd.func26 rfl rfl rfl (by kernel_rfl) (Nat.le_of_ble_eq_true rfl) ?_
  repeat (first | refine go_ ?_ | intro _)
  refine AW_ret ?_
  repeat (first | refine ⟨0, rfl, ?_⟩ | refine ⟨1, rfl, ?_⟩ | refine ⟨2, rfl, ?_⟩ | refine ⟨3, rfl, ?_⟩ | refine ⟨4, rfl, ?_⟩ | refine ⟨5, rfl, ?_⟩ | refine ⟨6, rfl, ?_⟩)
  refine ⟨_, .cells q [.str rel] :: R, AVle.eq ?_, (by repeat (first | exact SLe.rfl | refine SLe.tail ?_)), rfl, rfl⟩
  rfl
theorem indexF_ok (l : List De) (q : Nat) (rel : Key) (R : List En) (hll : l.length ≤ 1000) : ACall Tryd.prog 25 [.sl 6 (l.map encD) .no, .fn (.func 26) [] [.ptr q 0]] (.cells q [.str rel] :: R)
    (fun v S => v = .int .i64 (idxB (fun x => decide (x.rel = rel)) l) ∧ S = .cells q [.str rel] :: R) := by
  refine ACall_body tab_ok Tryd.func25 rfl rfl rfl (by kernel_rfl) (Nat.le_of_ble_eq_true rfl) ?_
  repeat (first | refine go_ ?_ | intro _)
  refine AW_for (α := Nat) (fun z => ⟨[(0, .sl 6 (l.map encD) .no), (1, .fn (.func 26) [] [.ptr q 0]), (7, .int .i64 (l.length : Nat)), (8, .int .i64 (z : Nat))], []⟩) (fun z => .cells q [.str rel] :: R) (fun z => l.length - z) (fun z => z ≤ l.length ∧ ∀ (i : Nat) (hi : i < l.length), i < z → decide (l[i].rel = rel) = false) (0) ?_ (weak_of ?_ rfl ?_) (fun z hz => ?_)
  · exact ⟨by omega, fun i _ h => by omega⟩
  · repeat (first | exact trivial | refine ⟨(AVle.eq (congrArg (AV.int .i64) (by simp))), ?_⟩ | refine ⟨AVle.refl _, ?_⟩ | refine ⟨AVle.tk, ?_⟩ | refine ⟨AVle.nil, ?_⟩ | refine ⟨AVle.nilFull, ?_⟩ | refine ⟨AVle.eq (congrArg (AV.int .i64) (by first | (simp; done) | (simp; omega) | (rw [wrap_i64 (by first | omega | (simp; omega))]; first | rfl | omega | (simp; done) | (simp; omega)))), ?_⟩)
  · repeat (first | exact SLe.rfl | refine SLe.tail ?_ | refine SLe.full ?_)
  obtain ⟨i1, i2⟩ := hz
  repeat (first | refine go_ ?_ | intro _)
  refine AW_iff (z < l.length) rfl (by first | (simp; done) | (simp <;> omega) | decide) (fun h => ?_) (fun h => ?_)
  · have hlt := h
    obtain ⟨x, hx⟩ : ∃ x, x = l[z] := ⟨_, rfl⟩
    repeat (first | refine go_ ?_ | intro _)
    refine at_map (z) (by first | rfl | omega | (rw [wrap_i64 (by omega)]; omega)) (by first | assumption | omega) ?_
    rw [← hx]
    repeat (first | refine go_ ?_ | intro _)
    refine Or.inl ⟨⟨_, Tryd.func26, rfl, rfl⟩, ACall.mono ?_ (findD_ok x q rel R)⟩
    rintro _ S1 ⟨rfl, hS1⟩
    subst S1
    refine AW_cond (b := decide (x.rel = rel)) rfl (fun h => ?_) (fun h => ?_)
    · repeat (first | refine go_ ?_ | intro _)
      refine AW_ret ?_
      repeat (first | refine ⟨0, rfl, ?_⟩ | refine ⟨1, rfl, ?_⟩ | refine ⟨2, rfl, ?_⟩ | refine ⟨3, rfl, ?_⟩ | refine ⟨4, rfl, ?_⟩ | refine ⟨5, rfl, ?_⟩ | refine ⟨6, rfl, ?_⟩)
      refine ⟨_, .cells q [.str rel] :: R, AVle.eq ?_, (by repeat (first | exact SLe.rfl | refine SLe.tail ?_)), rfl, rfl⟩
      exact congrArg (AV.int .i64) (idxB_some (q := fun x => decide (x.rel = rel)) hlt (by rw [← hx]; exact h) i2).symm
    · have hq := h
      repeat (first | refine go_ ?_ | intro _)
      refine ⟨z + 1, ?_, ?_, weak_of ?_ rfl ?_⟩
      · omega
      · refine ⟨by omega, fun i hi hiz => ?_⟩
        by_cases hc : i < z
        · exact i2 i hi hc
        · obtain rfl : i = z := by omega
          rw [← hx]; exact hq
      · repeat (first | exact trivial | refine ⟨AVle.refl _, ?_⟩ | refine ⟨AVle.tk, ?_⟩ | refine ⟨AVle.nil, ?_⟩ | refine ⟨AVle.nilFull, ?_⟩ | refine ⟨AVle.eq (congrArg (AV.int .i64) (by first | (simp; done) | (simp; omega) | (rw [wrap_i64 (by first | omega | (simp; omega))]; first | rfl | omega | (simp; done) | (simp; omega)))), ?_⟩)
      · repeat (first | exact SLe.rfl | refine SLe.tail ?_ | refine SLe.full ?_)
  · repeat (first | refine go_ ?_ | intro _)
    refine AW_ret ?_
    repeat (first | refine ⟨0, rfl, ?_⟩ | refine ⟨1, rfl, ?_⟩ | refine ⟨2, rfl, ?_⟩ | refine ⟨3, rfl, ?_⟩ | refine ⟨4, rfl, ?_⟩ | refine ⟨5, rfl, ?_⟩ | refine ⟨6, rfl, ?_⟩)
    refine ⟨_, .cells q [.str rel] :: R, AVle.eq ?_, (by repeat (first | exact SLe.rfl | refine SLe.tail ?_)), rfl, rfl⟩
    exact congrArg (AV.int .i64) (idxB_none (q := fun x => decide (x.rel = rel)) (fun i hi => i2 i hi (by omega))).symm
theorem find_ok (l : List De) (rel : Key) (R : List En) (hll : l.length ≤ 1000) : ACall Tryd.prog 11 [.sl 6 (l.map encD) .no, .str rel] R (fun v S => v = .tup [.int .i64 (findN l rel : Nat), .bool (findB l rel)] ∧ S = R) := by
  obtain ⟨e1, e2⟩ := idx_find l rel
  refine ACall_body tab_ok Tryd.func11 rfl rfl rfl (by kernel_rfl) (Nat.le_of_ble_eq_true rfl) ?_
  repeat (first | refine go_ ?_ | intro _)
  rename_i q
  refine Or.inl ⟨⟨_, Tryd.func25, rfl, rfl⟩, ACall.mono ?_ (indexF_ok l q rel R hll)⟩
  rintro _ S1 ⟨rfl, hS1⟩
  subst S1
  repeat (first | refine go_ ?_ | intro _)
  refine AW_ret ?_
  repeat (first | refine ⟨0, rfl, ?_⟩ | refine ⟨1, rfl, ?_⟩ | refine ⟨2, rfl, ?_⟩ | refine ⟨3, rfl, ?_⟩ | refine ⟨4, rfl, ?_⟩ | refine ⟨5, rfl, ?_⟩ | refine ⟨6, rfl, ?_⟩)
  refine ⟨_, R, AVle.eq ?_, (by repeat (first | exact SLe.rfl | refine SLe.tail ?_)), rfl, rfl⟩
  show AV.tup [AV.int .i64 (max (idxB (fun x => decide (x.rel = rel)) l) 0), AV.bool (decide (0 ≤ idxB (fun x => decide (x.rel = rel)) l))] = _
  rw [e1, e2]
theorem refFind_ok (l : List De) (rel : Key) (R : List En) (hll : l.length ≤ 1000) : ACall Tryd.prog 12 [.sl 6 (l.map encD) .no, .str rel] R (fun v S => v = .tup [.int .i64 (findN l rel : Nat), .bool (findB l rel)] ∧ S = R) := by
  refine ACall_body tab_ok Tryd.func12 rfl rfl rfl (by kernel_rfl) (Nat.le_of_ble_eq_true rfl) ?_
  repeat (first | refine go_ ?_ | intro _)
  refine AW_for (α := Nat) (fun z => ⟨[(0, .sl 6 (l.map encD) .no), (1, .str rel), (6, .int .i64 (z : Nat))], []⟩) (fun z => R) (fun z => l.length - z) (fun z => z ≤ l.length ∧ ∀ (i : Nat) (hi : i < l.length), i < z → decide (l[i].rel = rel) = false) (0) ?_ (weak_of ?_ rfl ?_) (fun z hz => ?_)
  · exact ⟨by omega, fun i _ h => by omega⟩
  · repeat (first | exact trivial | refine ⟨AVle.refl _, ?_⟩ | refine ⟨AVle.tk, ?_⟩ | refine ⟨AVle.nil, ?_⟩ | refine ⟨AVle.nilFull, ?_⟩ | refine ⟨AVle.eq (congrArg (AV.int .i64) (by first | (simp; done) | (simp; omega) | (rw [wrap_i64 (by first | omega | (simp; omega))]; first | rfl | omega | (simp; done) | (simp; omega)))), ?_⟩)
  · repeat (first | exact SLe.rfl | refine SLe.tail ?_ | refine SLe.full ?_)
  obtain ⟨i1, i2⟩ := hz
  repeat (first | refine go_ ?_ | intro _)
  refine AW_iff (z < l.length) rfl (by first | (simp; done) | (simp <;> omega) | decide) (fun h => ?_) (fun h => ?_)
  · have hlt := h
    obtain ⟨x, hx⟩ : ∃ x, x = l[z] := ⟨_, rfl⟩
    repeat (first | refine go_ ?_ | intro _)
    refine at_map (z) (by first | rfl | omega | (rw [wrap_i64 (by omega)]; omega)) (by first | assumption | omega) ?_
    rw [← hx]
    repeat (first | refine go_ ?_ | intro _)
    refine AW_iff (x.rel = rel) rfl (by first | (simp; done) | (simp <;> omega) | decide) (fun h => ?_) (fun h => ?_)
    · have hF : findI l rel = some z := List.findIdx?_eq_some_iff_getElem.2 ⟨hlt, by rw [← hx]; exact decide_eq_true h, fun j hj => by simpa using i2 j (by omega) hj⟩
      repeat (first | refine go_ ?_ | intro _)
      refine AW_ret ?_
      repeat (first | refine ⟨0, rfl, ?_⟩ | refine ⟨1, rfl, ?_⟩ | refine ⟨2, rfl, ?_⟩ | refine ⟨3, rfl, ?_⟩ | refine ⟨4, rfl, ?_⟩ | refine ⟨5, rfl, ?_⟩ | refine ⟨6, rfl, ?_⟩)
      refine ⟨_, R, AVle.eq ?_, (by repeat (first | exact SLe.rfl | refine SLe.tail ?_)), rfl, rfl⟩
      show AV.tup [AV.int .i64 (z : Nat), AV.bool true] = _
      unfold findN findB
      rw [hF]; rfl
    · have hq := h
      repeat (first | refine go_ ?_ | intro _)
      refine ⟨z + 1, ?_, ?_, weak_of ?_ rfl ?_⟩
      · omega
      · refine ⟨by omega, fun i hi hiz => ?_⟩
        by_cases hc : i < z
        · exact i2 i hi hc
        · obtain rfl : i = z := by omega
          rw [← hx]; exact decide_eq_false hq
      · repeat (first | exact trivial | refine ⟨AVle.refl _, ?_⟩ | refine ⟨AVle.tk, ?_⟩ | refine ⟨AVle.nil, ?_⟩ | refine ⟨AVle.nilFull, ?_⟩ | refine ⟨AVle.eq (congrArg (AV.int .i64) (by first | (simp; done) | (simp; omega) | (rw [wrap_i64 (by first | omega | (simp; omega))]; first | rfl | omega | (simp; done) | (simp; omega)))), ?_⟩)
      · repeat (first | exact SLe.rfl | refine SLe.tail ?_ | refine SLe.full ?_)
  · have hF : findI l rel = none := by
      unfold findI
      rw [List.findIdx?_eq_none_iff]
      intro x hx
      obtain ⟨i, hi, rfl⟩ := List.mem_iff_getElem.1 hx
      exact i2 i hi (by omega)
    repeat (first | refine go_ ?_ | intro _)
    refine AW_ret ?_
    repeat (first | refine ⟨0, rfl, ?_⟩ | refine ⟨1, rfl, ?_⟩ | refine ⟨2, rfl, ?_⟩ | refine ⟨3, rfl, ?_⟩ | refine ⟨4, rfl, ?_⟩ | refine ⟨5, rfl, ?_⟩ | refine ⟨6, rfl, ?_⟩)
    refine ⟨_, R, AVle.eq ?_, (by repeat (first | exact SLe.rfl | refine SLe.tail ?_)), rfl, rfl⟩
    show AV.tup [AV.int .i64 (0 : Nat), AV.bool false] = _
    unfold findN findB
    rw [hF]; rfl
end Go.Proofs.YtkmalncnaodkiaaDoor
