/-
  What an atom and a part of a body ask of types. Own work.
-/
import Derived.Test.YtkmalncnaodkiaaDoorP7
set_option linter.all false
namespace Go.Proofs.YtkmalncnaodkiaaDoor
open Go.Aw Go.RowKit
set_option maxHeartbeats 4000000

theorem zip_take {α β : Type} : ∀ (l : List α) (k : List β) (z : Nat), (l.zip k).take z = (l.take z).zip (k.take z)
  | [], k, z => by simp
  | x :: l, [], z => by simp
  | x :: l, y :: k, 0 => by simp
  | x :: l, y :: k, z + 1 => by simp [zip_take l k z]
theorem zipW_take {l : List T} {k : List Int} {z : Nat} (h1 : z < l.length) (h2 : z < k.length) : zipW (l.take (z + 1)) (k.take (z + 1)) = zipW (l.take z) (k.take z) ++ wantsT l[z] k[z] := by
  unfold zipW
  rw [← zip_take, ← zip_take, List.take_add_one, List.getElem?_eq_getElem (by rw [List.length_zip]; omega), Option.toList_some, List.flatMap_append]
  simp
theorem zipW_split {l : List T} {k : List Int} {z : Nat} (h1 : z < l.length) (h2 : z < k.length) : ∃ r, zipW l k = zipW (l.take z) (k.take z) ++ (wantsT l[z] k[z] ++ r) := by
  refine ⟨((l.zip k).drop (z + 1)).flatMap fun p => wantsT p.1 p.2, ?_⟩
  rw [← List.append_assoc, ← zipW_take h1 h2]
  unfold zipW
  rw [← zip_take, ← List.flatMap_append, List.take_append_drop]
theorem zipW_all {l : List T} {k : List Int} (h : k.length = l.length) : zipW (l.take l.length) (k.take l.length) = zipW l k := by
  rw [List.take_length, ← h, List.take_length]
theorem typesAt_get {d : List De} {i : Nat} (h : i < d.length) : typesAt d i = d[i].types := by
  unfold typesAt; rw [List.getElem?_eq_getElem h]
theorem atomM_in (d : List De) (a : At) (st : St) : isE (atomM d a st).1 := by
  unfold atomM isE
  split
  · have := codeB_in (runM (hardA d a) st); omega
  · have := knownA_in d a; simp only []; omega
theorem litM_in (d : List De) (l : Li) (st : St) : isE (litM d l st).1 := by
  unfold litM isE
  split
  · have := codeB_in (runM (wantsL d l st.g) st); omega
  · have := knownL_in d l; simp only []; omega

theorem atom_t_ok (e : Es) (V : List Key) (hV : V.length ≤ 1000000) (q mb : Nat) (d : List De) (a : At) (st : St) (R : List En) (hEs : EsIn e R) (hd : d.length ≤ 1000) (hc : (termsTs a.l).length ≤ 2000) (hg : Good V st) (hw : knownA d a = 0 → wantOk V (hardA d a)) :
    ACall Tryd.prog 59 [.ptr q 0, encA a] (TY q mb d st R) (fun v S => v = e.av (atomM d a st).1 ∧ S = TY q mb d (atomM d a st).2 R) := by
  have hll := termsTs_le a.l
  have kf := fun R => find_ok d a.rel R hd
  obtain ⟨cF, sF, hF⟩ : ∃ b s, atomM d a st = (b, s) := ⟨_, _, rfl⟩
  rw [hF]
  cases hi : findI d a.rel with
  | none =>
    have hN : findN d a.rel = 0 := by unfold findN; rw [hi]; rfl
    have hB : findB d a.rel = false := by unfold findB; rw [hi]; rfl
    have hk : knownA d a = 51 := by unfold knownA; rw [hi]
    rw [hN, hB] at kf
    unfold atomM at hF
    rw [if_neg (by rw [hk]; decide), hk] at hF
    cases hF
    have hE := hEs.gn
    refine ACall_body tab_ok Tryd.func59 rfl rfl rfl (by kernel_rfl) (Nat.le_of_ble_eq_true rfl) ?_
    repeat (first | refine go_ ?_ | intro _)
    refine AW_draw tab_ok mixed 12 (by first | rfl | kernel_rfl) ?_
    repeat (first | refine go_ ?_ | intro _)
    apply call_step
    · rfl
    · exact Or.inl ⟨⟨_, Tryd.func11, rfl, rfl⟩, kf _⟩
    repeat (first | refine ga_ ?_ | intro _)
    first | refine ⟨_, hE, ⟨Nat.le_refl 1, Nat.le_refl 1⟩, _, rfl, ?_⟩ | refine ⟨_, (.tail _ hE), ⟨Nat.le_refl 1, Nat.le_refl 1⟩, _, rfl, ?_⟩ | refine ⟨_, (.tail _ (.tail _ hE)), ⟨Nat.le_refl 1, Nat.le_refl 1⟩, _, rfl, ?_⟩ | refine ⟨_, (.tail _ (.tail _ (.tail _ hE))), ⟨Nat.le_refl 1, Nat.le_refl 1⟩, _, rfl, ?_⟩ | refine ⟨_, (.tail _ (.tail _ (.tail _ (.tail _ hE)))), ⟨Nat.le_refl 1, Nat.le_refl 1⟩, _, rfl, ?_⟩ | refine ⟨_, (.tail _ (.tail _ (.tail _ (.tail _ (.tail _ hE))))), ⟨Nat.le_refl 1, Nat.le_refl 1⟩, _, rfl, ?_⟩ | refine ⟨_, (.tail _ (.tail _ (.tail _ (.tail _ (.tail _ (.tail _ hE)))))), ⟨Nat.le_refl 1, Nat.le_refl 1⟩, _, rfl, ?_⟩ | refine ⟨_, (.tail _ (.tail _ (.tail _ (.tail _ (.tail _ (.tail _ (.tail _ hE))))))), ⟨Nat.le_refl 1, Nat.le_refl 1⟩, _, rfl, ?_⟩ | refine ⟨_, (.tail _ (.tail _ (.tail _ (.tail _ (.tail _ (.tail _ (.tail _ (.tail _ hE)))))))), ⟨Nat.le_refl 1, Nat.le_refl 1⟩, _, rfl, ?_⟩
    repeat (first | refine ga_ ?_ | intro _)
    refine AW_ret ?_
    repeat (first | refine ⟨0, rfl, ?_⟩ | refine ⟨1, rfl, ?_⟩ | refine ⟨2, rfl, ?_⟩ | refine ⟨3, rfl, ?_⟩ | refine ⟨4, rfl, ?_⟩ | refine ⟨5, rfl, ?_⟩ | refine ⟨6, rfl, ?_⟩)
    refine ⟨_, TY q mb d _ R, AVle.eq ?_, (by repeat (first | exact SLe.rfl | refine SLe.tail ?_)), rfl, rfl⟩
    rfl
  | some i =>
    have hN : findN d a.rel = i := by unfold findN; rw [hi]; rfl
    have hB : findB d a.rel = true := by unfold findB; rw [hi]; rfl
    have hil := findI_lt hi
    obtain ⟨x, hx⟩ : ∃ x, x = d[i] := ⟨_, rfl⟩
    have hty : typesAt d i = x.types := by rw [typesAt_get hil, hx]
    have hk : knownA d a = if x.types.length = a.l.length then 0 else 52 := by unfold knownA; rw [hi]; simp only []; rw [hty]
    have hcol : hardA d a = zipW a.l x.types := by unfold hardA colsOf; rw [hi]; simp only []; rw [hty]
    rw [hN, hB] at kf
    unfold atomM at hF
    rw [hcol] at hF
    refine ACall_body tab_ok Tryd.func59 rfl rfl rfl (by kernel_rfl) (Nat.le_of_ble_eq_true rfl) ?_
    repeat (first | refine go_ ?_ | intro _)
    rename_i p
    refine AW_draw tab_ok mixed 12 (by first | rfl | kernel_rfl) ?_
    repeat (first | refine go_ ?_ | intro _)
    apply call_step
    · rfl
    · exact Or.inl ⟨⟨_, Tryd.func11, rfl, rfl⟩, kf _⟩
    repeat (first | refine ga_ ?_ | intro _)
    refine AW_draw tab_ok mixed 14 (by first | rfl | kernel_rfl) ?_
    repeat (first | refine ga_ ?_ | intro _)
    refine at_map (i) (by first | rfl | omega | (rw [wrap_i64 (by omega)]; omega)) (by first | assumption | omega) ?_
    rw [← hx]
    repeat (first | refine ga_ ?_ | intro _)
    refine AW_iff (¬ x.types.length = a.l.length) rfl (by first | (simp; done) | (simp <;> omega) | decide) (fun h => ?_) (fun h => ?_)
    · rw [if_neg h] at hk
      rw [if_neg (by rw [hk]; decide), hk] at hF
      cases hF
      have hE := hEs.ga
      repeat (first | refine ga_ ?_ | intro _)
      first | refine ⟨_, hE, ⟨Nat.le_refl 1, Nat.le_refl 1⟩, _, rfl, ?_⟩ | refine ⟨_, (.tail _ hE), ⟨Nat.le_refl 1, Nat.le_refl 1⟩, _, rfl, ?_⟩ | refine ⟨_, (.tail _ (.tail _ hE)), ⟨Nat.le_refl 1, Nat.le_refl 1⟩, _, rfl, ?_⟩ | refine ⟨_, (.tail _ (.tail _ (.tail _ hE))), ⟨Nat.le_refl 1, Nat.le_refl 1⟩, _, rfl, ?_⟩ | refine ⟨_, (.tail _ (.tail _ (.tail _ (.tail _ hE)))), ⟨Nat.le_refl 1, Nat.le_refl 1⟩, _, rfl, ?_⟩ | refine ⟨_, (.tail _ (.tail _ (.tail _ (.tail _ (.tail _ hE))))), ⟨Nat.le_refl 1, Nat.le_refl 1⟩, _, rfl, ?_⟩ | refine ⟨_, (.tail _ (.tail _ (.tail _ (.tail _ (.tail _ (.tail _ hE)))))), ⟨Nat.le_refl 1, Nat.le_refl 1⟩, _, rfl, ?_⟩ | refine ⟨_, (.tail _ (.tail _ (.tail _ (.tail _ (.tail _ (.tail _ (.tail _ hE))))))), ⟨Nat.le_refl 1, Nat.le_refl 1⟩, _, rfl, ?_⟩ | refine ⟨_, (.tail _ (.tail _ (.tail _ (.tail _ (.tail _ (.tail _ (.tail _ (.tail _ hE)))))))), ⟨Nat.le_refl 1, Nat.le_refl 1⟩, _, rfl, ?_⟩
      repeat (first | refine ga_ ?_ | intro _)
      refine AW_ret ?_
      repeat (first | refine ⟨0, rfl, ?_⟩ | refine ⟨1, rfl, ?_⟩ | refine ⟨2, rfl, ?_⟩ | refine ⟨3, rfl, ?_⟩ | refine ⟨4, rfl, ?_⟩ | refine ⟨5, rfl, ?_⟩ | refine ⟨6, rfl, ?_⟩)
      refine ⟨_, TY q mb d _ R, AVle.eq ?_, (by repeat (first | exact SLe.rfl | refine SLe.tail ?_)), rfl, rfl⟩
      rfl
    have hle : x.types.length = a.l.length := Decidable.not_not.1 h
    rw [if_pos hle] at hk
    rw [if_pos hk] at hF
    have hw := hw hk
    rw [hcol] at hw
    repeat (first | refine ga_ ?_ | intro _)
    refine AW_for (α := Nat × St) (fun z => ⟨[(0, .ptr q 0), (3, .ptr p 0), (5, .int .i64 (i : Nat)), (40, .sl 4 (encTs a.l) .no), (41, .int .i64 (a.l.length : Nat)), (42, .int .i64 (z.1 : Nat))], []⟩) (fun z => .cells p (cA a) :: TY q mb d z.2 R) (fun z => a.l.length - z.1) (fun z => z.1 ≤ a.l.length ∧ runM (zipW (a.l.take z.1) (x.types.take z.1)) st = (true, z.2)) ((0, st)) ?_ (weak_of ?_ rfl ?_) (fun z hz => ?_)
    · exact ⟨Nat.zero_le _, rfl⟩
    · repeat (first | exact trivial | refine ⟨(AVle.eq (congrArg (AV.int .i64) (by simp))), ?_⟩ | refine ⟨AVle.refl _, ?_⟩ | refine ⟨AVle.tk, ?_⟩ | refine ⟨AVle.nil, ?_⟩ | refine ⟨AVle.nilFull, ?_⟩ | refine ⟨AVle.eq (congrArg (AV.int .i64) (by first | (simp; done) | (simp; omega) | (rw [wrap_i64 (by first | omega | (simp; omega))]; first | rfl | omega | (simp; done) | (simp; omega)))), ?_⟩)
    · repeat (first | exact SLe.rfl | refine SLe.tail ?_ | refine SLe.full ?_)
    obtain ⟨z, s0⟩ := z
    obtain ⟨i1, i2⟩ : z ≤ a.l.length ∧ runM (zipW (a.l.take z) (x.types.take z)) st = (true, s0) := hz
    repeat (first | refine ga_ ?_ | intro _)
    refine AW_iff (z < a.l.length) rfl (by first | (simp; done) | (simp <;> omega) | decide) (fun h => ?_) (fun h => ?_)
    · have hlt := h
      have hlk : z < x.types.length := by omega
      obtain ⟨u, hu⟩ : ∃ u, u = a.l[z] := ⟨_, rfl⟩
      obtain ⟨k, hk'⟩ : ∃ k, k = x.types[z] := ⟨_, rfl⟩
      have hm : u ∈ a.l := hu ▸ List.getElem_mem hlt
      have h1 := termsTs_at hm
      have hs := zipW_take hlt hlk
      obtain ⟨rest, hw2⟩ := zipW_split hlt hlk
      rw [← hu, ← hk'] at hs hw2
      have hwl := hw
      rw [hw2] at hwl
      have hg0 : Good V s0 := by have := hwl.left.good hg; rwa [i2] at this
      have kw := fun R hE => want_ok e V hV q mb d 2000 R hE (by decide) u k s0 (by omega) hg0 hwl.right.left
      obtain ⟨b, s1, hr⟩ : ∃ b s, runM (wantsT u k) s0 = (b, s) := ⟨_, _, rfl⟩
      rw [hr] at kw
      have e1 : runM (zipW (a.l.take (z + 1)) (x.types.take (z + 1))) st = (b, s1) := by rw [hs, run_snoc (by rw [i2]), i2, hr]
      repeat (first | refine ga_ ?_ | intro _)
      refine at_get (z) (encU u) (by first | rfl | omega | (rw [wrap_i64 (by omega)]; omega)) (by rw [hu]; exact encTs_get hlt) ?_
      repeat (first | refine ga_ ?_ | intro _)
      rename_i p2
      have kw2 : ACall Tryd.prog 82 [.ptr q 0, encU u, .int .i64 k] (.cells p2 (cT u) :: .cells p (cA a) :: TY q mb d s0 R) (fun v S => v = e.av (okC b) ∧ S = .cells p2 (cT u) :: .cells p (cA a) :: TY q mb d s1 R) :=
        ACall_at [.cells p2 (cT u), .cells p (cA a)] (X := TY q mb d s0 []) (Y := TY q mb d s1 []) (R := R) (kw _ hEs.cons.cons)
      refine AW_draw tab_ok mixed 13 (by first | rfl | kernel_rfl) ?_
      repeat (first | refine ga_ ?_ | intro _)
      refine at_map (i) (by first | rfl | omega | (rw [wrap_i64 (by omega)]; omega)) (by first | assumption | omega) ?_
      rw [← hx]
      repeat (first | refine ga_ ?_ | intro _)
      refine at_map (z) (by first | rfl | omega | (rw [wrap_i64 (by omega)]; omega)) (by first | assumption | omega) ?_
      rw [← hk']
      repeat (first | refine ga_ ?_ | intro _)
      cases b with
      | false =>
        have e2 : runM (zipW a.l x.types) st = (false, s1) := by
          rw [hw2, ← List.append_assoc, ← hs, run_stop (by rw [e1]), e1]
        rw [e2] at hF
        cases hF
        refine Or.inl ⟨⟨_, Tryd.func82, rfl, rfl⟩, ACall.mono ?_ (kw2)⟩
        rintro _ S1 ⟨rfl, hS1⟩
        subst S1
        repeat (first | refine ga_ ?_ | intro _)
        refine AW_ret ?_
        repeat (first | refine ⟨0, rfl, ?_⟩ | refine ⟨1, rfl, ?_⟩ | refine ⟨2, rfl, ?_⟩ | refine ⟨3, rfl, ?_⟩ | refine ⟨4, rfl, ?_⟩ | refine ⟨5, rfl, ?_⟩ | refine ⟨6, rfl, ?_⟩)
        refine ⟨_, TY q mb d _ R, AVle.eq ?_, (by repeat (first | exact SLe.rfl | refine SLe.tail ?_)), rfl, rfl⟩
        rfl
      | true =>
        refine Or.inl ⟨⟨_, Tryd.func82, rfl, rfl⟩, ACall.mono ?_ (kw2)⟩
        rintro _ S1 ⟨rfl, hS1⟩
        subst S1
        repeat (first | refine ga_ ?_ | intro _)
        refine ⟨(z + 1, s1), ?_, ?_, weak_of ?_ rfl ?_⟩
        · exact Nat.sub_lt_sub_left hlt (Nat.lt_succ_self z)
        · exact ⟨hlt, e1⟩
        · repeat (first | exact trivial | refine ⟨AVle.refl _, ?_⟩ | refine ⟨AVle.tk, ?_⟩ | refine ⟨AVle.nil, ?_⟩ | refine ⟨AVle.nilFull, ?_⟩ | refine ⟨AVle.eq (congrArg (AV.int .i64) (by first | (simp; done) | (simp; omega) | (rw [wrap_i64 (by first | omega | (simp; omega))]; first | rfl | omega | (simp; done) | (simp; omega)))), ?_⟩)
        · repeat (first | exact SLe.rfl | refine SLe.tail ?_ | refine SLe.full ?_)
    · have hz' : z = a.l.length := by omega
      rw [hz', zipW_all hle] at i2
      rw [i2] at hF
      cases hF
      repeat (first | refine ga_ ?_ | intro _)
      refine AW_ret ?_
      repeat (first | refine ⟨0, rfl, ?_⟩ | refine ⟨1, rfl, ?_⟩ | refine ⟨2, rfl, ?_⟩ | refine ⟨3, rfl, ?_⟩ | refine ⟨4, rfl, ?_⟩ | refine ⟨5, rfl, ?_⟩ | refine ⟨6, rfl, ?_⟩)
      refine ⟨_, TY q mb d _ R, AVle.eq ?_, (by repeat (first | exact SLe.rfl | refine SLe.tail ?_)), rfl, rfl⟩
      rfl
end Go.Proofs.YtkmalncnaodkiaaDoor
/-
  What a part of a body asks of types; an error's number. Own work.
-/
namespace Go.Proofs.YtkmalncnaodkiaaDoor
open Go.Aw Go.RowKit
set_option maxHeartbeats 4000000

theorem lit_t_ok (e : Es) (V : List Key) (hV : V.length ≤ 1000000) (q mb : Nat) (d : List De) (l : Li) (st : St) (R : List En) (hEs : EsIn e R) (hd : d.length ≤ 1000) (hc : (termsTs (topsL l)).length ≤ 2000) (hg : Good V st) (hw : knownL d l = 0 → wantOk V (wantsL d l st.g)) :
    ACall Tryd.prog 60 [.ptr q 0, encL l] (TY q mb d st R) (fun v S => v = e.av (litM d l st).1 ∧ S = TY q mb d (litM d l st).2 R) := by
  have et : termsTs (topsL l) = termsT l.x ++ (termsT l.y ++ termsTs l.a.l) := by unfold topsL; rw [termsTs_cons, termsTs_cons]
  have hl := congrArg List.length et
  simp only [List.length_append] at hl
  obtain ⟨cF, sF, hF⟩ : ∃ b s, litM d l st = (b, s) := ⟨_, _, rfl⟩
  rw [hF]
  refine ACall_body tab_ok Tryd.func60 rfl rfl rfl (by kernel_rfl) (Nat.le_of_ble_eq_true rfl) ?_
  repeat (first | refine go_ ?_ | intro _)
  rename_i p
  by_cases hcm : isCmp l = true
  · have hk : knownL d l = 0 := if_pos hcm
    have hw := hw hk
    rw [litM_0 hk] at hF
    unfold wantsL at hF hw
    rw [if_pos hcm] at hF hw
    have hop : l.op = 3 ∨ l.op = 4 ∨ l.op = 5 ∨ l.op = 6 := by
      unfold isCmp at hcm
      simp only [Bool.and_eq_true, decide_eq_true_eq] at hcm
      omega
    refine AW_cut (α := Unit) (fun z => ⟨[(0, .ptr q 0), (3, .ptr p 0), (10, .int .i64 l.op), (11, .bool true)], []⟩) (fun z => .cells p (cL l) :: TY q mb d st R) (fun z => True) ?_ (fun z hz => ?_)
    · refine AW_iff (l.op = 3) rfl (by first | (simp; done) | (simp <;> omega) | decide) (fun h => ?_) (fun h => ?_)
      · repeat (first | refine ga_ ?_ | intro _)
        refine ⟨(), ?_, weak_of ?_ rfl ?_⟩
        · trivial
        · repeat (first | exact trivial | refine ⟨(AVle.eq (congrArg AV.bool (decide_eq_true h))), ?_⟩ | refine ⟨AVle.refl _, ?_⟩ | refine ⟨AVle.tk, ?_⟩ | refine ⟨AVle.nil, ?_⟩ | refine ⟨AVle.nilFull, ?_⟩ | refine ⟨AVle.eq (congrArg (AV.int .i64) (by first | (simp; done) | (simp; omega) | (rw [wrap_i64 (by first | omega | (simp; omega))]; first | rfl | omega | (simp; done) | (simp; omega)))), ?_⟩)
        · repeat (first | exact SLe.rfl | refine SLe.tail ?_ | refine SLe.full ?_)
      repeat (first | refine ga_ ?_ | intro _)
      refine AW_iff (l.op = 4) rfl (by first | (simp; done) | (simp <;> omega) | decide) (fun h => ?_) (fun h => ?_)
      · repeat (first | refine ga_ ?_ | intro _)
        refine ⟨(), ?_, weak_of ?_ rfl ?_⟩
        · trivial
        · repeat (first | exact trivial | refine ⟨(AVle.eq (congrArg AV.bool (decide_eq_true h))), ?_⟩ | refine ⟨AVle.refl _, ?_⟩ | refine ⟨AVle.tk, ?_⟩ | refine ⟨AVle.nil, ?_⟩ | refine ⟨AVle.nilFull, ?_⟩ | refine ⟨AVle.eq (congrArg (AV.int .i64) (by first | (simp; done) | (simp; omega) | (rw [wrap_i64 (by first | omega | (simp; omega))]; first | rfl | omega | (simp; done) | (simp; omega)))), ?_⟩)
        · repeat (first | exact SLe.rfl | refine SLe.tail ?_ | refine SLe.full ?_)
      repeat (first | refine ga_ ?_ | intro _)
      refine AW_iff (l.op = 5) rfl (by first | (simp; done) | (simp <;> omega) | decide) (fun h => ?_) (fun h => ?_)
      · repeat (first | refine ga_ ?_ | intro _)
        refine ⟨(), ?_, weak_of ?_ rfl ?_⟩
        · trivial
        · repeat (first | exact trivial | refine ⟨(AVle.eq (congrArg AV.bool (decide_eq_true h))), ?_⟩ | refine ⟨AVle.refl _, ?_⟩ | refine ⟨AVle.tk, ?_⟩ | refine ⟨AVle.nil, ?_⟩ | refine ⟨AVle.nilFull, ?_⟩ | refine ⟨AVle.eq (congrArg (AV.int .i64) (by first | (simp; done) | (simp; omega) | (rw [wrap_i64 (by first | omega | (simp; omega))]; first | rfl | omega | (simp; done) | (simp; omega)))), ?_⟩)
        · repeat (first | exact SLe.rfl | refine SLe.tail ?_ | refine SLe.full ?_)
      repeat (first | refine ga_ ?_ | intro _)
      refine ⟨(), ?_, weak_of ?_ rfl ?_⟩
      · trivial
      · repeat (first | exact trivial | refine ⟨(AVle.eq (congrArg AV.bool (decide_eq_true (show l.op = 6 by omega)))), ?_⟩ | refine ⟨AVle.refl _, ?_⟩ | refine ⟨AVle.tk, ?_⟩ | refine ⟨AVle.nil, ?_⟩ | refine ⟨AVle.nilFull, ?_⟩ | refine ⟨AVle.eq (congrArg (AV.int .i64) (by first | (simp; done) | (simp; omega) | (rw [wrap_i64 (by first | omega | (simp; omega))]; first | rfl | omega | (simp; done) | (simp; omega)))), ?_⟩)
      · repeat (first | exact SLe.rfl | refine SLe.tail ?_ | refine SLe.full ?_)
    have kx : ACall Tryd.prog 83 [.ptr q 0, encU l.x] (.cells p (cL l) :: TY q mb d st R) (fun v S => v = .int .i64 (tyOf st.g l.x) ∧ S = .cells p (cL l) :: TY q mb d st R) :=
      ACall_at [.cells p (cL l)] (X := TY q mb d st []) (Y := TY q mb d st []) (R := R) (of_ok q mb d st l.x _)
    have ky : ACall Tryd.prog 83 [.ptr q 0, encU l.y] (.cells p (cL l) :: TY q mb d st R) (fun v S => v = .int .i64 (tyOf st.g l.y) ∧ S = .cells p (cL l) :: TY q mb d st R) :=
      ACall_at [.cells p (cL l)] (X := TY q mb d st []) (Y := TY q mb d st []) (R := R) (of_ok q mb d st l.y _)
    refine AW_true (b := true) rfl (by first | rfl | (simp; done) | (simp; omega) | decide) ?_
    repeat (first | refine ga_ ?_ | intro _)
    refine AW_draw tab_ok mixed 10 (by first | rfl | kernel_rfl) ?_
    repeat (first | refine ga_ ?_ | intro _)
    apply call_step
    · rfl
    · exact Or.inl ⟨⟨_, Tryd.func83, rfl, rfl⟩, kx⟩
    repeat (first | refine ga_ ?_ | intro _)
    apply call_step
    · rfl
    · exact Or.inl ⟨⟨_, Tryd.func83, rfl, rfl⟩, ky⟩
    repeat (first | refine ga_ ?_ | intro _)
    obtain ⟨b, s1, hr⟩ : ∃ b s, runM (wantsT (l.x) (kindL l st.g)) st = (b, s) := ⟨_, _, rfl⟩
    have kw : ACall Tryd.prog 82 [.ptr q 0, encU (l.x), .int .i64 (kindL l st.g)] (.cells p (cL l) :: TY q mb d st R) (fun v S => v = e.av (okC b) ∧ S = .cells p (cL l) :: TY q mb d s1 R) := by
      have := want_ok e V hV q mb d 2000 (.cells p (cL l) :: R) hEs.cons (by decide) (l.x) (kindL l st.g) st (by omega) (hg) (hw.left)
      rw [hr] at this
      exact ACall_at [.cells p (cL l)] (X := TY q mb d st []) (Y := TY q mb d s1 []) (R := R) this
    cases b with
    | false =>
      rw [run_stop (by rw [hr]), hr] at hF
      cases hF
      refine Or.inl ⟨⟨_, Tryd.func82, rfl, rfl⟩, ACall.mono ?_ (kw)⟩
      rintro _ S1 ⟨rfl, hS1⟩
      subst S1
      repeat (first | refine ga_ ?_ | intro _)
      refine AW_ret ?_
      repeat (first | refine ⟨0, rfl, ?_⟩ | refine ⟨1, rfl, ?_⟩ | refine ⟨2, rfl, ?_⟩ | refine ⟨3, rfl, ?_⟩ | refine ⟨4, rfl, ?_⟩ | refine ⟨5, rfl, ?_⟩ | refine ⟨6, rfl, ?_⟩)
      refine ⟨_, TY q mb d _ R, AVle.eq ?_, (by repeat (first | exact SLe.rfl | refine SLe.tail ?_)), rfl, rfl⟩
      rfl
    | true =>
      have hg1 : Good V s1 := by have := hw.left.good hg; rwa [hr] at this
      rw [run_snoc (by rw [hr]), hr] at hF
      have kw1 := kw
      refine Or.inl ⟨⟨_, Tryd.func82, rfl, rfl⟩, ACall.mono ?_ (kw1)⟩
      rintro _ S1 ⟨rfl, hS1⟩
      subst S1
      repeat (first | refine ga_ ?_ | intro _)
      obtain ⟨b, s2, hr⟩ : ∃ b s, runM (wantsT (l.y) (kindL l st.g)) s1 = (b, s) := ⟨_, _, rfl⟩
      have kw : ACall Tryd.prog 82 [.ptr q 0, encU (l.y), .int .i64 (kindL l st.g)] (.cells p (cL l) :: TY q mb d s1 R) (fun v S => v = e.av (okC b) ∧ S = .cells p (cL l) :: TY q mb d s2 R) := by
        have := want_ok e V hV q mb d 2000 (.cells p (cL l) :: R) hEs.cons (by decide) (l.y) (kindL l st.g) s1 (by omega) (hg1) (hw.right)
        rw [hr] at this
        exact ACall_at [.cells p (cL l)] (X := TY q mb d s1 []) (Y := TY q mb d s2 []) (R := R) this
      rw [hr] at hF
      cases hF
      refine Or.inl ⟨⟨_, Tryd.func82, rfl, rfl⟩, ACall.mono ?_ (kw)⟩
      rintro _ S1 ⟨rfl, hS1⟩
      subst S1
      repeat (first | refine ga_ ?_ | intro _)
      refine AW_ret ?_
      repeat (first | refine ⟨0, rfl, ?_⟩ | refine ⟨1, rfl, ?_⟩ | refine ⟨2, rfl, ?_⟩ | refine ⟨3, rfl, ?_⟩ | refine ⟨4, rfl, ?_⟩ | refine ⟨5, rfl, ?_⟩ | refine ⟨6, rfl, ?_⟩)
      refine ⟨_, TY q mb d _ R, AVle.eq ?_, (by repeat (first | exact SLe.rfl | refine SLe.tail ?_)), rfl, rfl⟩
      rfl
  · have hcf : isCmp l = false := by simpa using hcm
    have hk : knownL d l = knownA d l.a := if_neg hcm
    have hop : ¬ l.op = 3 ∧ ¬ l.op = 4 ∧ ¬ l.op = 5 ∧ ¬ l.op = 6 := by
      unfold isCmp at hcf
      simp only [Bool.and_eq_false_iff, decide_eq_false_iff_not] at hcf
      omega
    have hwA : knownL d l = 0 → wantOk V (hardA d l.a) ∧ wantOk V (moreW l) := fun h => by
      have := hw h
      unfold wantsL at this
      rw [if_neg hcm] at this
      exact ⟨this.left, this.right⟩
    have eL : litM d l st = if knownA d l.a = 0 then codeB (runM (hardA d l.a ++ moreW l) st) else (knownA d l.a, st) := by
      unfold litM wantsL
      rw [hk, if_neg hcm]
    rw [eL] at hF
    have ka : ACall Tryd.prog 59 [.ptr q 0, encA l.a] (.cells p (cL l) :: TY q mb d st R) (fun v S => v = e.av (atomM d l.a st).1 ∧ S = .cells p (cL l) :: TY q mb d (atomM d l.a st).2 R) :=
      ACall_at [.cells p (cL l)] (X := TY q mb d st []) (Y := TY q mb d (atomM d l.a st).2 []) (R := R) (atom_t_ok e V hV q mb d l.a st _ hEs.cons hd (by omega) hg (fun h => (hwA (hk.trans h)).1))
    refine AW_cut (α := Unit) (fun z => ⟨[(0, .ptr q 0), (3, .ptr p 0), (10, .int .i64 l.op), (11, .bool false)], []⟩) (fun z => .cells p (cL l) :: TY q mb d st R) (fun z => True) ?_ (fun z hz => ?_)
    · refine AW_false (b := decide (l.op = 3)) rfl (by exact decide_eq_false hop.1) ?_
      repeat (first | refine ga_ ?_ | intro _)
      refine AW_false (b := decide (l.op = 4)) rfl (by exact decide_eq_false hop.2.1) ?_
      repeat (first | refine ga_ ?_ | intro _)
      refine AW_false (b := decide (l.op = 5)) rfl (by exact decide_eq_false hop.2.2.1) ?_
      repeat (first | refine ga_ ?_ | intro _)
      refine ⟨(), ?_, weak_of ?_ rfl ?_⟩
      · trivial
      · repeat (first | exact trivial | refine ⟨(AVle.eq (congrArg AV.bool (decide_eq_false hop.2.2.2))), ?_⟩ | refine ⟨AVle.refl _, ?_⟩ | refine ⟨AVle.tk, ?_⟩ | refine ⟨AVle.nil, ?_⟩ | refine ⟨AVle.nilFull, ?_⟩ | refine ⟨AVle.eq (congrArg (AV.int .i64) (by first | (simp; done) | (simp; omega) | (rw [wrap_i64 (by first | omega | (simp; omega))]; first | rfl | omega | (simp; done) | (simp; omega)))), ?_⟩)
      · repeat (first | exact SLe.rfl | refine SLe.tail ?_ | refine SLe.full ?_)
    refine AW_false (b := false) rfl (by first | rfl | (simp; done) | (simp; omega) | decide) ?_
    repeat (first | refine ga_ ?_ | intro _)
    by_cases ho : l.op = 1 ∨ l.op = 2
    · have hm : moreW l = [] := if_pos ho
      have eA : atomM d l.a st = (cF, sF) := by rw [← hF, hm, List.append_nil]; rfl
      rw [eA] at ka
      refine AW_cut (α := Unit) (fun z => ⟨[(0, .ptr q 0), (3, .ptr p 0), (10, .int .i64 l.op), (38, .bool true)], []⟩) (fun z => .cells p (cL l) :: TY q mb d st R) (fun z => True) ?_ (fun z hz => ?_)
      · refine AW_iff (l.op = 1) rfl (by first | (simp; done) | (simp <;> omega) | decide) (fun h => ?_) (fun h => ?_)
        · repeat (first | refine ga_ ?_ | intro _)
          refine ⟨(), ?_, weak_of ?_ rfl ?_⟩
          · trivial
          · repeat (first | exact trivial | refine ⟨(AVle.eq (congrArg AV.bool (decide_eq_true h))), ?_⟩ | refine ⟨AVle.refl _, ?_⟩ | refine ⟨AVle.tk, ?_⟩ | refine ⟨AVle.nil, ?_⟩ | refine ⟨AVle.nilFull, ?_⟩ | refine ⟨AVle.eq (congrArg (AV.int .i64) (by first | (simp; done) | (simp; omega) | (rw [wrap_i64 (by first | omega | (simp; omega))]; first | rfl | omega | (simp; done) | (simp; omega)))), ?_⟩)
          · repeat (first | exact SLe.rfl | refine SLe.tail ?_ | refine SLe.full ?_)
        repeat (first | refine ga_ ?_ | intro _)
        refine ⟨(), ?_, weak_of ?_ rfl ?_⟩
        · trivial
        · repeat (first | exact trivial | refine ⟨(AVle.eq (congrArg AV.bool (decide_eq_true (show l.op = 2 by omega)))), ?_⟩ | refine ⟨AVle.refl _, ?_⟩ | refine ⟨AVle.tk, ?_⟩ | refine ⟨AVle.nil, ?_⟩ | refine ⟨AVle.nilFull, ?_⟩ | refine ⟨AVle.eq (congrArg (AV.int .i64) (by first | (simp; done) | (simp; omega) | (rw [wrap_i64 (by first | omega | (simp; omega))]; first | rfl | omega | (simp; done) | (simp; omega)))), ?_⟩)
        · repeat (first | exact SLe.rfl | refine SLe.tail ?_ | refine SLe.full ?_)
      refine AW_true (b := true) rfl (by first | rfl | (simp; done) | (simp; omega) | decide) ?_
      repeat (first | refine ga_ ?_ | intro _)
      refine Or.inl ⟨⟨_, Tryd.func59, rfl, rfl⟩, ACall.mono ?_ (ka)⟩
      rintro _ S1 ⟨rfl, hS1⟩
      subst S1
      repeat (first | refine ga_ ?_ | intro _)
      refine AW_ret ?_
      repeat (first | refine ⟨0, rfl, ?_⟩ | refine ⟨1, rfl, ?_⟩ | refine ⟨2, rfl, ?_⟩ | refine ⟨3, rfl, ?_⟩ | refine ⟨4, rfl, ?_⟩ | refine ⟨5, rfl, ?_⟩ | refine ⟨6, rfl, ?_⟩)
      refine ⟨_, TY q mb d sF R, AVle.eq ?_, (by repeat (first | exact SLe.rfl | refine SLe.tail ?_)), rfl, rfl⟩
      rfl
    · have hm : moreW l = wantsT l.x 1 ++ (if l.op = 7 then [] else wantsT l.y 1) := if_neg ho
      rw [hm] at hF hwA
      refine AW_false (b := decide (l.op = 1)) rfl (by exact decide_eq_false (fun h => ho (.inl h))) ?_
      repeat (first | refine ga_ ?_ | intro _)
      refine AW_false (b := decide (l.op = 2)) rfl (by exact decide_eq_false (fun h => ho (.inr h))) ?_
      repeat (first | refine ga_ ?_ | intro _)
      by_cases h0 : knownA d l.a = 0
      · obtain ⟨wA, wM⟩ := hwA (hk.trans h0)
        rw [if_pos h0] at hF
        obtain ⟨b0, s0, hr0⟩ : ∃ b s, runM (hardA d l.a) st = (b, s) := ⟨_, _, rfl⟩
        have eA : atomM d l.a st = (okC b0, s0) := by unfold atomM; rw [if_pos h0, hr0]; rfl
        rw [eA] at ka
        cases b0 with
        | false =>
          rw [run_stop (by rw [hr0]), hr0] at hF
          cases hF
          refine Or.inl ⟨⟨_, Tryd.func59, rfl, rfl⟩, ACall.mono ?_ (ka)⟩
          rintro _ S1 ⟨rfl, hS1⟩
          subst S1
          repeat (first | refine ga_ ?_ | intro _)
          refine AW_ret ?_
          repeat (first | refine ⟨0, rfl, ?_⟩ | refine ⟨1, rfl, ?_⟩ | refine ⟨2, rfl, ?_⟩ | refine ⟨3, rfl, ?_⟩ | refine ⟨4, rfl, ?_⟩ | refine ⟨5, rfl, ?_⟩ | refine ⟨6, rfl, ?_⟩)
          refine ⟨_, TY q mb d _ R, AVle.eq ?_, (by repeat (first | exact SLe.rfl | refine SLe.tail ?_)), rfl, rfl⟩
          rfl
        | true =>
          have hg0 : Good V s0 := by have := wA.good hg; rwa [hr0] at this
          rw [run_snoc (by rw [hr0]), hr0] at hF
          refine Or.inl ⟨⟨_, Tryd.func59, rfl, rfl⟩, ACall.mono ?_ (ka)⟩
          rintro _ S1 ⟨rfl, hS1⟩
          subst S1
          repeat (first | refine ga_ ?_ | intro _)
          obtain ⟨b, s1, hr⟩ : ∃ b s, runM (wantsT (l.x) (1)) s0 = (b, s) := ⟨_, _, rfl⟩
          have kw : ACall Tryd.prog 82 [.ptr q 0, encU (l.x), .int .i64 (1)] (.cells p (cL l) :: TY q mb d s0 R) (fun v S => v = e.av (okC b) ∧ S = .cells p (cL l) :: TY q mb d s1 R) := by
            have := want_ok e V hV q mb d 2000 (.cells p (cL l) :: R) hEs.cons (by decide) (l.x) (1) s0 (by omega) (hg0) (wM.left)
            rw [hr] at this
            exact ACall_at [.cells p (cL l)] (X := TY q mb d s0 []) (Y := TY q mb d s1 []) (R := R) this
          cases b with
          | false =>
            rw [run_stop (by rw [hr]), hr] at hF
            cases hF
            refine Or.inl ⟨⟨_, Tryd.func82, rfl, rfl⟩, ACall.mono ?_ (kw)⟩
            rintro _ S1 ⟨rfl, hS1⟩
            subst S1
            repeat (first | refine ga_ ?_ | intro _)
            refine AW_ret ?_
            repeat (first | refine ⟨0, rfl, ?_⟩ | refine ⟨1, rfl, ?_⟩ | refine ⟨2, rfl, ?_⟩ | refine ⟨3, rfl, ?_⟩ | refine ⟨4, rfl, ?_⟩ | refine ⟨5, rfl, ?_⟩ | refine ⟨6, rfl, ?_⟩)
            refine ⟨_, TY q mb d _ R, AVle.eq ?_, (by repeat (first | exact SLe.rfl | refine SLe.tail ?_)), rfl, rfl⟩
            rfl
          | true =>
            have hg1 : Good V s1 := by have := wM.left.good hg0; rwa [hr] at this
            rw [run_snoc (by rw [hr]), hr] at hF
            have kw1 := kw
            refine Or.inl ⟨⟨_, Tryd.func82, rfl, rfl⟩, ACall.mono ?_ (kw1)⟩
            rintro _ S1 ⟨rfl, hS1⟩
            subst S1
            repeat (first | refine ga_ ?_ | intro _)
            refine AW_iff (l.op = 7) rfl (by first | (simp; done) | (simp <;> omega) | decide) (fun h => ?_) (fun h => ?_)
            · rw [if_pos h] at hF
              cases hF
              repeat (first | refine ga_ ?_ | intro _)
              refine AW_ret ?_
              repeat (first | refine ⟨0, rfl, ?_⟩ | refine ⟨1, rfl, ?_⟩ | refine ⟨2, rfl, ?_⟩ | refine ⟨3, rfl, ?_⟩ | refine ⟨4, rfl, ?_⟩ | refine ⟨5, rfl, ?_⟩ | refine ⟨6, rfl, ?_⟩)
              refine ⟨_, TY q mb d _ R, AVle.eq ?_, (by repeat (first | exact SLe.rfl | refine SLe.tail ?_)), rfl, rfl⟩
              rfl
            · rw [if_neg h] at hF wM
              repeat (first | refine ga_ ?_ | intro _)
              obtain ⟨b, s2, hr⟩ : ∃ b s, runM (wantsT (l.y) (1)) s1 = (b, s) := ⟨_, _, rfl⟩
              have kw : ACall Tryd.prog 82 [.ptr q 0, encU (l.y), .int .i64 (1)] (.cells p (cL l) :: TY q mb d s1 R) (fun v S => v = e.av (okC b) ∧ S = .cells p (cL l) :: TY q mb d s2 R) := by
                have := want_ok e V hV q mb d 2000 (.cells p (cL l) :: R) hEs.cons (by decide) (l.y) (1) s1 (by omega) (hg1) (wM.right)
                rw [hr] at this
                exact ACall_at [.cells p (cL l)] (X := TY q mb d s1 []) (Y := TY q mb d s2 []) (R := R) this
              rw [hr] at hF
              cases hF
              refine Or.inl ⟨⟨_, Tryd.func82, rfl, rfl⟩, ACall.mono ?_ (kw)⟩
              rintro _ S1 ⟨rfl, hS1⟩
              subst S1
              repeat (first | refine ga_ ?_ | intro _)
              refine AW_ret ?_
              repeat (first | refine ⟨0, rfl, ?_⟩ | refine ⟨1, rfl, ?_⟩ | refine ⟨2, rfl, ?_⟩ | refine ⟨3, rfl, ?_⟩ | refine ⟨4, rfl, ?_⟩ | refine ⟨5, rfl, ?_⟩ | refine ⟨6, rfl, ?_⟩)
              refine ⟨_, TY q mb d _ R, AVle.eq ?_, (by repeat (first | exact SLe.rfl | refine SLe.tail ?_)), rfl, rfl⟩
              rfl
      · rw [if_neg h0] at hF
        have eA : atomM d l.a st = (knownA d l.a, st) := if_neg h0
        rw [eA] at ka
        have hkn := knownA_in d l.a
        obtain ⟨k, hk'⟩ : ∃ k, k = knownA d l.a := ⟨_, rfl⟩
        rw [← hk'] at hF ka hkn h0
        have hk2 : k = 51 ∨ k = 52 := by omega
        cases hF
        rcases hk2 with rfl | rfl
        · refine Or.inl ⟨⟨_, Tryd.func59, rfl, rfl⟩, ACall.mono ?_ (ka)⟩
          rintro _ S1 ⟨rfl, hS1⟩
          subst S1
          repeat (first | refine ga_ ?_ | intro _)
          refine AW_ret ?_
          repeat (first | refine ⟨0, rfl, ?_⟩ | refine ⟨1, rfl, ?_⟩ | refine ⟨2, rfl, ?_⟩ | refine ⟨3, rfl, ?_⟩ | refine ⟨4, rfl, ?_⟩ | refine ⟨5, rfl, ?_⟩ | refine ⟨6, rfl, ?_⟩)
          refine ⟨_, TY q mb d _ R, AVle.eq ?_, (by repeat (first | exact SLe.rfl | refine SLe.tail ?_)), rfl, rfl⟩
          rfl
        · refine Or.inl ⟨⟨_, Tryd.func59, rfl, rfl⟩, ACall.mono ?_ (ka)⟩
          rintro _ S1 ⟨rfl, hS1⟩
          subst S1
          repeat (first | refine ga_ ?_ | intro _)
          refine AW_ret ?_
          repeat (first | refine ⟨0, rfl, ?_⟩ | refine ⟨1, rfl, ?_⟩ | refine ⟨2, rfl, ?_⟩ | refine ⟨3, rfl, ?_⟩ | refine ⟨4, rfl, ?_⟩ | refine ⟨5, rfl, ?_⟩ | refine ⟨6, rfl, ?_⟩)
          refine ⟨_, TY q mb d _ R, AVle.eq ?_, (by repeat (first | exact SLe.rfl | refine SLe.tail ?_)), rfl, rfl⟩
          rfl
end Go.Proofs.YtkmalncnaodkiaaDoor
/-
  A rule, gone through once; an error's number. Own work.
-/
namespace Go.Proofs.YtkmalncnaodkiaaDoor
open Go.Aw Go.RowKit
set_option maxHeartbeats 4000000

theorem code_ok (e : Es) (R : List En) (hEs : EsIn e R) {c : Int} (hc : isE c) : ACall Tryd.prog 35 [e.av c] R (fun v S => v = .int .i64 c ∧ S = R) := by
  have kn := isN_ok hEs hc
  have ka := isA_ok hEs hc
  have kt := isT_ok hEs hc
  refine ACall_body tab_ok Tryd.func35 rfl rfl rfl (by kernel_rfl) (Nat.le_of_ble_eq_true rfl) ?_
  repeat (first | refine go_ ?_ | intro _)
  have hE := hEs.gn
  first | refine ⟨_, hE, ⟨Nat.le_refl 1, Nat.le_refl 1⟩, _, rfl, ?_⟩ | refine ⟨_, (.tail _ hE), ⟨Nat.le_refl 1, Nat.le_refl 1⟩, _, rfl, ?_⟩ | refine ⟨_, (.tail _ (.tail _ hE)), ⟨Nat.le_refl 1, Nat.le_refl 1⟩, _, rfl, ?_⟩ | refine ⟨_, (.tail _ (.tail _ (.tail _ hE))), ⟨Nat.le_refl 1, Nat.le_refl 1⟩, _, rfl, ?_⟩ | refine ⟨_, (.tail _ (.tail _ (.tail _ (.tail _ hE)))), ⟨Nat.le_refl 1, Nat.le_refl 1⟩, _, rfl, ?_⟩ | refine ⟨_, (.tail _ (.tail _ (.tail _ (.tail _ (.tail _ hE))))), ⟨Nat.le_refl 1, Nat.le_refl 1⟩, _, rfl, ?_⟩ | refine ⟨_, (.tail _ (.tail _ (.tail _ (.tail _ (.tail _ (.tail _ hE)))))), ⟨Nat.le_refl 1, Nat.le_refl 1⟩, _, rfl, ?_⟩ | refine ⟨_, (.tail _ (.tail _ (.tail _ (.tail _ (.tail _ (.tail _ (.tail _ hE))))))), ⟨Nat.le_refl 1, Nat.le_refl 1⟩, _, rfl, ?_⟩ | refine ⟨_, (.tail _ (.tail _ (.tail _ (.tail _ (.tail _ (.tail _ (.tail _ (.tail _ hE)))))))), ⟨Nat.le_refl 1, Nat.le_refl 1⟩, _, rfl, ?_⟩
  repeat (first | refine go_ ?_ | intro _)
  refine Or.inl ⟨⟨_, Tryd.func45, rfl, rfl⟩, ACall.mono ?_ (kn)⟩
  rintro _ S1 ⟨rfl, hS1⟩
  subst S1
  repeat (first | refine go_ ?_ | intro _)
  refine AW_iff (c = 51) rfl (by first | (simp; done) | (simp <;> omega) | decide) (fun h => ?_) (fun h => ?_)
  · subst h
    repeat (first | refine go_ ?_ | intro _)
    refine AW_ret ?_
    repeat (first | refine ⟨0, rfl, ?_⟩ | refine ⟨1, rfl, ?_⟩ | refine ⟨2, rfl, ?_⟩ | refine ⟨3, rfl, ?_⟩ | refine ⟨4, rfl, ?_⟩ | refine ⟨5, rfl, ?_⟩ | refine ⟨6, rfl, ?_⟩)
    refine ⟨_, R, AVle.eq ?_, (by repeat (first | exact SLe.rfl | refine SLe.tail ?_)), rfl, rfl⟩
    rfl
  have h1 := h
  repeat (first | refine go_ ?_ | intro _)
  have hE := hEs.ga
  first | refine ⟨_, hE, ⟨Nat.le_refl 1, Nat.le_refl 1⟩, _, rfl, ?_⟩ | refine ⟨_, (.tail _ hE), ⟨Nat.le_refl 1, Nat.le_refl 1⟩, _, rfl, ?_⟩ | refine ⟨_, (.tail _ (.tail _ hE)), ⟨Nat.le_refl 1, Nat.le_refl 1⟩, _, rfl, ?_⟩ | refine ⟨_, (.tail _ (.tail _ (.tail _ hE))), ⟨Nat.le_refl 1, Nat.le_refl 1⟩, _, rfl, ?_⟩ | refine ⟨_, (.tail _ (.tail _ (.tail _ (.tail _ hE)))), ⟨Nat.le_refl 1, Nat.le_refl 1⟩, _, rfl, ?_⟩ | refine ⟨_, (.tail _ (.tail _ (.tail _ (.tail _ (.tail _ hE))))), ⟨Nat.le_refl 1, Nat.le_refl 1⟩, _, rfl, ?_⟩ | refine ⟨_, (.tail _ (.tail _ (.tail _ (.tail _ (.tail _ (.tail _ hE)))))), ⟨Nat.le_refl 1, Nat.le_refl 1⟩, _, rfl, ?_⟩ | refine ⟨_, (.tail _ (.tail _ (.tail _ (.tail _ (.tail _ (.tail _ (.tail _ hE))))))), ⟨Nat.le_refl 1, Nat.le_refl 1⟩, _, rfl, ?_⟩ | refine ⟨_, (.tail _ (.tail _ (.tail _ (.tail _ (.tail _ (.tail _ (.tail _ (.tail _ hE)))))))), ⟨Nat.le_refl 1, Nat.le_refl 1⟩, _, rfl, ?_⟩
  repeat (first | refine go_ ?_ | intro _)
  refine Or.inl ⟨⟨_, Tryd.func45, rfl, rfl⟩, ACall.mono ?_ (ka)⟩
  rintro _ S1 ⟨rfl, hS1⟩
  subst S1
  repeat (first | refine go_ ?_ | intro _)
  refine AW_iff (c = 52) rfl (by first | (simp; done) | (simp <;> omega) | decide) (fun h => ?_) (fun h => ?_)
  · subst h
    repeat (first | refine go_ ?_ | intro _)
    refine AW_ret ?_
    repeat (first | refine ⟨0, rfl, ?_⟩ | refine ⟨1, rfl, ?_⟩ | refine ⟨2, rfl, ?_⟩ | refine ⟨3, rfl, ?_⟩ | refine ⟨4, rfl, ?_⟩ | refine ⟨5, rfl, ?_⟩ | refine ⟨6, rfl, ?_⟩)
    refine ⟨_, R, AVle.eq ?_, (by repeat (first | exact SLe.rfl | refine SLe.tail ?_)), rfl, rfl⟩
    rfl
  have h2 := h
  repeat (first | refine go_ ?_ | intro _)
  have hE := hEs.gt
  first | refine ⟨_, hE, ⟨Nat.le_refl 1, Nat.le_refl 1⟩, _, rfl, ?_⟩ | refine ⟨_, (.tail _ hE), ⟨Nat.le_refl 1, Nat.le_refl 1⟩, _, rfl, ?_⟩ | refine ⟨_, (.tail _ (.tail _ hE)), ⟨Nat.le_refl 1, Nat.le_refl 1⟩, _, rfl, ?_⟩ | refine ⟨_, (.tail _ (.tail _ (.tail _ hE))), ⟨Nat.le_refl 1, Nat.le_refl 1⟩, _, rfl, ?_⟩ | refine ⟨_, (.tail _ (.tail _ (.tail _ (.tail _ hE)))), ⟨Nat.le_refl 1, Nat.le_refl 1⟩, _, rfl, ?_⟩ | refine ⟨_, (.tail _ (.tail _ (.tail _ (.tail _ (.tail _ hE))))), ⟨Nat.le_refl 1, Nat.le_refl 1⟩, _, rfl, ?_⟩ | refine ⟨_, (.tail _ (.tail _ (.tail _ (.tail _ (.tail _ (.tail _ hE)))))), ⟨Nat.le_refl 1, Nat.le_refl 1⟩, _, rfl, ?_⟩ | refine ⟨_, (.tail _ (.tail _ (.tail _ (.tail _ (.tail _ (.tail _ (.tail _ hE))))))), ⟨Nat.le_refl 1, Nat.le_refl 1⟩, _, rfl, ?_⟩ | refine ⟨_, (.tail _ (.tail _ (.tail _ (.tail _ (.tail _ (.tail _ (.tail _ (.tail _ hE)))))))), ⟨Nat.le_refl 1, Nat.le_refl 1⟩, _, rfl, ?_⟩
  repeat (first | refine go_ ?_ | intro _)
  refine Or.inl ⟨⟨_, Tryd.func45, rfl, rfl⟩, ACall.mono ?_ (kt)⟩
  rintro _ S1 ⟨rfl, hS1⟩
  subst S1
  repeat (first | refine go_ ?_ | intro _)
  refine AW_iff (c = 53) rfl (by first | (simp; done) | (simp <;> omega) | decide) (fun h => ?_) (fun h => ?_)
  · subst h
    repeat (first | refine go_ ?_ | intro _)
    refine AW_ret ?_
    repeat (first | refine ⟨0, rfl, ?_⟩ | refine ⟨1, rfl, ?_⟩ | refine ⟨2, rfl, ?_⟩ | refine ⟨3, rfl, ?_⟩ | refine ⟨4, rfl, ?_⟩ | refine ⟨5, rfl, ?_⟩ | refine ⟨6, rfl, ?_⟩)
    refine ⟨_, R, AVle.eq ?_, (by repeat (first | exact SLe.rfl | refine SLe.tail ?_)), rfl, rfl⟩
    rfl
  have h3 := h
  repeat (first | refine go_ ?_ | intro _)
  refine AW_ret ?_
  repeat (first | refine ⟨0, rfl, ?_⟩ | refine ⟨1, rfl, ?_⟩ | refine ⟨2, rfl, ?_⟩ | refine ⟨3, rfl, ?_⟩ | refine ⟨4, rfl, ?_⟩ | refine ⟨5, rfl, ?_⟩ | refine ⟨6, rfl, ?_⟩)
  refine ⟨_, R, AVle.eq ?_, (by repeat (first | exact SLe.rfl | refine SLe.tail ?_)), rfl, rfl⟩
  exact congrArg (AV.int .i64) (show (0 : Int) = c by rcases hc with h | h | h | h <;> omega)

theorem wrong_in {w c : Int} (h1 : isE w) (h2 : isE c) : isE (wrong w c) := by unfold wrong; split; exact h2; exact h1

theorem pass_ok (e : Es) (V : List Key) (hV : V.length ≤ 1000000) (q mb : Nat) (d : List De) (r : Ru) (st : St) (R : List En) (hEs : EsIn e R) (hd : d.length ≤ 1000) (hf : few r) (hg : Good V st)
    (hwH : knownA d r.head = 0 → wantOk V (hardA d r.head)) (hwL : ∀ l ∈ r.body, ∀ s, Good V s → knownL d l = 0 → wantOk V (wantsL d l s.g)) :
    ACall Tryd.prog 34 [.ptr q 0, encRu r] (TY q mb d st R) (fun v S => v = e.av (passM d r st).1 ∧ S = TY q mb d (passM d r st).2 R) := by
  have hf2 : (termsTs (topsR r)).length + r.body.length ≤ 2000 := hf
  obtain ⟨cF, sF, hF⟩ : ∃ b s, passM d r st = (b, s) := ⟨_, _, rfl⟩
  rw [hF]
  obtain ⟨c0, s0, h0⟩ : ∃ b s, atomM d r.head st = (b, s) := ⟨_, _, rfl⟩
  have hc0 : isE c0 := by have := atomM_in d r.head st; rwa [h0] at this
  have hg0 : Good V s0 := by
    unfold atomM at h0
    split at h0
    · rename_i hk
      have := (hwH hk).good hg
      have e : s0 = (runM (hardA d r.head) st).2 := (congrArg Prod.snd h0).symm
      rw [e]; exact this
    · cases h0; exact hg
  have hF0 : passL d r.body c0 s0 = (cF, sF) := by rw [← hF]; unfold passM; rw [h0]
  have ka := fun R hE => atom_t_ok e V hV q mb d r.head st R hE hd hf.head hg hwH
  rw [h0] at ka
  refine ACall_body tab_ok Tryd.func34 rfl rfl rfl (by kernel_rfl) (Nat.le_of_ble_eq_true rfl) ?_
  repeat (first | refine go_ ?_ | intro _)
  rename_i p
  have ka2 : ACall Tryd.prog 59 [.ptr q 0, encA r.head] (.cells p (cRu r) :: TY q mb d st R) (fun v S => v = e.av c0 ∧ S = .cells p (cRu r) :: TY q mb d s0 R) :=
    ACall_at [.cells p (cRu r)] (X := TY q mb d st []) (Y := TY q mb d s0 []) (R := R) (ka _ hEs.cons)
  refine Or.inl ⟨⟨_, Tryd.func59, rfl, rfl⟩, ACall.mono ?_ (ka2)⟩
  rintro _ S1 ⟨rfl, hS1⟩
  subst S1
  repeat (first | refine go_ ?_ | intro _)
  refine AW_for (α := Nat × Int × St) (fun z => ⟨[(0, .ptr q 0), (3, .ptr p 0), (5, e.av z.2.1), (14, .sl 11 (r.body.map encL) .no), (15, .int .i64 (r.body.length : Nat)), (16, .int .i64 (z.1 : Nat))], []⟩) (fun z => .cells p (cRu r) :: TY q mb d z.2.2 R) (fun z => r.body.length - z.1) (fun z => z.1 ≤ r.body.length ∧ passL d (r.body.drop z.1) z.2.1 z.2.2 = (cF, sF) ∧ isE z.2.1 ∧ Good V z.2.2) ((0, c0, s0)) ?_ (weak_of ?_ rfl ?_) (fun z hz => ?_)
  · exact ⟨Nat.zero_le _, hF0, hc0, hg0⟩
  · repeat (first | exact trivial | refine ⟨(AVle.eq (congrArg (AV.int .i64) (by simp))), ?_⟩ | refine ⟨AVle.refl _, ?_⟩ | refine ⟨AVle.tk, ?_⟩ | refine ⟨AVle.nil, ?_⟩ | refine ⟨AVle.nilFull, ?_⟩ | refine ⟨AVle.eq (congrArg (AV.int .i64) (by first | (simp; done) | (simp; omega) | (rw [wrap_i64 (by first | omega | (simp; omega))]; first | rfl | omega | (simp; done) | (simp; omega)))), ?_⟩)
  · repeat (first | exact SLe.rfl | refine SLe.tail ?_ | refine SLe.full ?_)
  obtain ⟨j, w, s1⟩ := z
  obtain ⟨i1, i2, i3, i4⟩ : j ≤ r.body.length ∧ passL d (r.body.drop j) w s1 = (cF, sF) ∧ isE w ∧ Good V s1 := hz
  repeat (first | refine go_ ?_ | intro _)
  refine AW_iff (j < r.body.length) rfl (by first | (simp; done) | (simp <;> omega) | decide) (fun h => ?_) (fun h => ?_)
  · have hlt := h
    obtain ⟨x, hx⟩ : ∃ x, x = r.body[j] := ⟨_, rfl⟩
    have hm : x ∈ r.body := hx ▸ List.getElem_mem hlt
    have hdr : r.body.drop j = x :: r.body.drop (j + 1) := by rw [hx]; exact (List.getElem_cons_drop hlt).symm
    rw [hdr, passL] at i2
    have hxl : (termsTs (topsL x)).length ≤ 2000 := by
      have : ∀ {l : List Li} {y : Li}, y ∈ l → (termsTs (topsL y)).length ≤ (termsTs (l.flatMap topsL)).length := by
        intro l
        induction l with
        | nil => exact fun h => nomatch h
        | cons a l ih =>
          intro y hy
          rw [List.flatMap_cons, termsTs_app, List.length_append]
          rcases List.mem_cons.1 hy with rfl | hy
          · omega
          · have := ih hy; omega
      have h1 := this hm
      have h2 : (termsTs (topsR r)).length = (termsTs r.head.l).length + (termsTs (r.body.flatMap topsL)).length := by unfold topsR; rw [termsTs_app, List.length_append]
      omega
    have kl := fun R hE => lit_t_ok e V hV q mb d x s1 R hE hd hxl i4 (hwL x hm s1 i4)
    obtain ⟨c, s2, h2⟩ : ∃ b s, litM d x s1 = (b, s) := ⟨_, _, rfl⟩
    have hc : isE c := by have := litM_in d x s1; rwa [h2] at this
    have hg2 : Good V s2 := by
      unfold litM at h2
      split at h2
      · rename_i hk
        have := (hwL x hm s1 i4 hk).good i4
        have e : s2 = (runM (wantsL d x s1.g) s1).2 := (congrArg Prod.snd h2).symm
        rw [e]; exact this
      · cases h2; exact i4
    rw [h2] at kl i2
    simp only [] at i2
    repeat (first | refine go_ ?_ | intro _)
    refine at_map (j) (by first | rfl | omega | (rw [wrap_i64 (by omega)]; omega)) (by first | assumption | omega) ?_
    rw [← hx]
    repeat (first | refine go_ ?_ | intro _)
    rename_i p2
    have kl2 : ACall Tryd.prog 60 [.ptr q 0, encL x] (.cells p2 (cL x) :: .cells p (cRu r) :: TY q mb d s1 R) (fun v S => v = e.av c ∧ S = .cells p2 (cL x) :: .cells p (cRu r) :: TY q mb d s2 R) :=
      ACall_at [.cells p2 (cL x), .cells p (cRu r)] (X := TY q mb d s1 []) (Y := TY q mb d s2 []) (R := R) (kl _ hEs.cons.cons)
    refine Or.inl ⟨⟨_, Tryd.func60, rfl, rfl⟩, ACall.mono ?_ (kl2)⟩
    rintro _ S1 ⟨rfl, hS1⟩
    subst S1
    have hN := isN_ok (R := .cells p2 (cL x) :: .cells p (cRu r) :: TY q mb d s2 R) hEs.cons.cons.cons.cons hc
    have hA := isA_ok (R := .cells p2 (cL x) :: .cells p (cRu r) :: TY q mb d s2 R) hEs.cons.cons.cons.cons hc
    have hT := isT_ok (R := .cells p2 (cL x) :: .cells p (cRu r) :: TY q mb d s2 R) hEs.cons.cons.cons.cons i3
    refine AW_cut1 (α := Unit) (fun z => ⟨[(0, .ptr q 0), (3, .ptr p 0), (5, e.av (wrong w c)), (14, .sl 11 (r.body.map encL) .no), (15, .int .i64 (r.body.length : Nat)), (16, .int .i64 (j : Nat))], []⟩) (fun z => .cells p (cRu r) :: TY q mb d s2 R) (fun z => True) ?_ (fun z hz => ?_)
    · have mN := hEs.gn
      have mA := hEs.ga
      have mT := hEs.gt
      rcases i3 with rfl | rfl | rfl | rfl
      · repeat (first | refine ga_ ?_ | intro _)
        refine ⟨(), ?_, weak_of ?_ rfl ?_⟩
        · trivial
        · repeat (first | exact trivial | refine ⟨(AVle.eq (congrArg e.av (show c = wrong 0 c from rfl))), ?_⟩ | refine ⟨AVle.refl _, ?_⟩ | refine ⟨AVle.tk, ?_⟩ | refine ⟨AVle.nil, ?_⟩ | refine ⟨AVle.nilFull, ?_⟩ | refine ⟨AVle.eq (congrArg (AV.int .i64) (by first | (simp; done) | (simp; omega) | (rw [wrap_i64 (by first | omega | (simp; omega))]; first | rfl | omega | (simp; done) | (simp; omega)))), ?_⟩)
        · repeat (first | exact SLe.rfl | refine SLe.tail ?_ | refine SLe.full ?_)
      · repeat (first | refine ga_ ?_ | intro _)
        have hE := mT
        first | refine ⟨_, hE, ⟨Nat.le_refl 1, Nat.le_refl 1⟩, _, rfl, ?_⟩ | refine ⟨_, (.tail _ hE), ⟨Nat.le_refl 1, Nat.le_refl 1⟩, _, rfl, ?_⟩ | refine ⟨_, (.tail _ (.tail _ hE)), ⟨Nat.le_refl 1, Nat.le_refl 1⟩, _, rfl, ?_⟩ | refine ⟨_, (.tail _ (.tail _ (.tail _ hE))), ⟨Nat.le_refl 1, Nat.le_refl 1⟩, _, rfl, ?_⟩ | refine ⟨_, (.tail _ (.tail _ (.tail _ (.tail _ hE)))), ⟨Nat.le_refl 1, Nat.le_refl 1⟩, _, rfl, ?_⟩ | refine ⟨_, (.tail _ (.tail _ (.tail _ (.tail _ (.tail _ hE))))), ⟨Nat.le_refl 1, Nat.le_refl 1⟩, _, rfl, ?_⟩ | refine ⟨_, (.tail _ (.tail _ (.tail _ (.tail _ (.tail _ (.tail _ hE)))))), ⟨Nat.le_refl 1, Nat.le_refl 1⟩, _, rfl, ?_⟩ | refine ⟨_, (.tail _ (.tail _ (.tail _ (.tail _ (.tail _ (.tail _ (.tail _ hE))))))), ⟨Nat.le_refl 1, Nat.le_refl 1⟩, _, rfl, ?_⟩ | refine ⟨_, (.tail _ (.tail _ (.tail _ (.tail _ (.tail _ (.tail _ (.tail _ (.tail _ hE)))))))), ⟨Nat.le_refl 1, Nat.le_refl 1⟩, _, rfl, ?_⟩
        repeat (first | refine ga_ ?_ | intro _)
        refine Or.inl ⟨⟨_, Tryd.func45, rfl, rfl⟩, ACall.mono ?_ (hT)⟩
        rintro _ S1 ⟨rfl, hS1⟩
        subst S1
        repeat (first | refine ga_ ?_ | intro _)
        refine ⟨(), ?_, weak_of ?_ rfl ?_⟩
        · trivial
        · repeat (first | exact trivial | refine ⟨(AVle.eq (congrArg e.av (show (51 : Int) = wrong 51 c from rfl))), ?_⟩ | refine ⟨AVle.refl _, ?_⟩ | refine ⟨AVle.tk, ?_⟩ | refine ⟨AVle.nil, ?_⟩ | refine ⟨AVle.nilFull, ?_⟩ | refine ⟨AVle.eq (congrArg (AV.int .i64) (by first | (simp; done) | (simp; omega) | (rw [wrap_i64 (by first | omega | (simp; omega))]; first | rfl | omega | (simp; done) | (simp; omega)))), ?_⟩)
        · repeat (first | exact SLe.rfl | refine SLe.tail ?_ | refine SLe.full ?_)
      · repeat (first | refine ga_ ?_ | intro _)
        have hE := mT
        first | refine ⟨_, hE, ⟨Nat.le_refl 1, Nat.le_refl 1⟩, _, rfl, ?_⟩ | refine ⟨_, (.tail _ hE), ⟨Nat.le_refl 1, Nat.le_refl 1⟩, _, rfl, ?_⟩ | refine ⟨_, (.tail _ (.tail _ hE)), ⟨Nat.le_refl 1, Nat.le_refl 1⟩, _, rfl, ?_⟩ | refine ⟨_, (.tail _ (.tail _ (.tail _ hE))), ⟨Nat.le_refl 1, Nat.le_refl 1⟩, _, rfl, ?_⟩ | refine ⟨_, (.tail _ (.tail _ (.tail _ (.tail _ hE)))), ⟨Nat.le_refl 1, Nat.le_refl 1⟩, _, rfl, ?_⟩ | refine ⟨_, (.tail _ (.tail _ (.tail _ (.tail _ (.tail _ hE))))), ⟨Nat.le_refl 1, Nat.le_refl 1⟩, _, rfl, ?_⟩ | refine ⟨_, (.tail _ (.tail _ (.tail _ (.tail _ (.tail _ (.tail _ hE)))))), ⟨Nat.le_refl 1, Nat.le_refl 1⟩, _, rfl, ?_⟩ | refine ⟨_, (.tail _ (.tail _ (.tail _ (.tail _ (.tail _ (.tail _ (.tail _ hE))))))), ⟨Nat.le_refl 1, Nat.le_refl 1⟩, _, rfl, ?_⟩ | refine ⟨_, (.tail _ (.tail _ (.tail _ (.tail _ (.tail _ (.tail _ (.tail _ (.tail _ hE)))))))), ⟨Nat.le_refl 1, Nat.le_refl 1⟩, _, rfl, ?_⟩
        repeat (first | refine ga_ ?_ | intro _)
        refine Or.inl ⟨⟨_, Tryd.func45, rfl, rfl⟩, ACall.mono ?_ (hT)⟩
        rintro _ S1 ⟨rfl, hS1⟩
        subst S1
        repeat (first | refine ga_ ?_ | intro _)
        refine ⟨(), ?_, weak_of ?_ rfl ?_⟩
        · trivial
        · repeat (first | exact trivial | refine ⟨(AVle.eq (congrArg e.av (show (52 : Int) = wrong 52 c from rfl))), ?_⟩ | refine ⟨AVle.refl _, ?_⟩ | refine ⟨AVle.tk, ?_⟩ | refine ⟨AVle.nil, ?_⟩ | refine ⟨AVle.nilFull, ?_⟩ | refine ⟨AVle.eq (congrArg (AV.int .i64) (by first | (simp; done) | (simp; omega) | (rw [wrap_i64 (by first | omega | (simp; omega))]; first | rfl | omega | (simp; done) | (simp; omega)))), ?_⟩)
        · repeat (first | exact SLe.rfl | refine SLe.tail ?_ | refine SLe.full ?_)
      · repeat (first | refine ga_ ?_ | intro _)
        have hE := mT
        first | refine ⟨_, hE, ⟨Nat.le_refl 1, Nat.le_refl 1⟩, _, rfl, ?_⟩ | refine ⟨_, (.tail _ hE), ⟨Nat.le_refl 1, Nat.le_refl 1⟩, _, rfl, ?_⟩ | refine ⟨_, (.tail _ (.tail _ hE)), ⟨Nat.le_refl 1, Nat.le_refl 1⟩, _, rfl, ?_⟩ | refine ⟨_, (.tail _ (.tail _ (.tail _ hE))), ⟨Nat.le_refl 1, Nat.le_refl 1⟩, _, rfl, ?_⟩ | refine ⟨_, (.tail _ (.tail _ (.tail _ (.tail _ hE)))), ⟨Nat.le_refl 1, Nat.le_refl 1⟩, _, rfl, ?_⟩ | refine ⟨_, (.tail _ (.tail _ (.tail _ (.tail _ (.tail _ hE))))), ⟨Nat.le_refl 1, Nat.le_refl 1⟩, _, rfl, ?_⟩ | refine ⟨_, (.tail _ (.tail _ (.tail _ (.tail _ (.tail _ (.tail _ hE)))))), ⟨Nat.le_refl 1, Nat.le_refl 1⟩, _, rfl, ?_⟩ | refine ⟨_, (.tail _ (.tail _ (.tail _ (.tail _ (.tail _ (.tail _ (.tail _ hE))))))), ⟨Nat.le_refl 1, Nat.le_refl 1⟩, _, rfl, ?_⟩ | refine ⟨_, (.tail _ (.tail _ (.tail _ (.tail _ (.tail _ (.tail _ (.tail _ (.tail _ hE)))))))), ⟨Nat.le_refl 1, Nat.le_refl 1⟩, _, rfl, ?_⟩
        repeat (first | refine ga_ ?_ | intro _)
        refine Or.inl ⟨⟨_, Tryd.func45, rfl, rfl⟩, ACall.mono ?_ (hT)⟩
        rintro _ S1 ⟨rfl, hS1⟩
        subst S1
        repeat (first | refine ga_ ?_ | intro _)
        have hE := mN
        first | refine ⟨_, hE, ⟨Nat.le_refl 1, Nat.le_refl 1⟩, _, rfl, ?_⟩ | refine ⟨_, (.tail _ hE), ⟨Nat.le_refl 1, Nat.le_refl 1⟩, _, rfl, ?_⟩ | refine ⟨_, (.tail _ (.tail _ hE)), ⟨Nat.le_refl 1, Nat.le_refl 1⟩, _, rfl, ?_⟩ | refine ⟨_, (.tail _ (.tail _ (.tail _ hE))), ⟨Nat.le_refl 1, Nat.le_refl 1⟩, _, rfl, ?_⟩ | refine ⟨_, (.tail _ (.tail _ (.tail _ (.tail _ hE)))), ⟨Nat.le_refl 1, Nat.le_refl 1⟩, _, rfl, ?_⟩ | refine ⟨_, (.tail _ (.tail _ (.tail _ (.tail _ (.tail _ hE))))), ⟨Nat.le_refl 1, Nat.le_refl 1⟩, _, rfl, ?_⟩ | refine ⟨_, (.tail _ (.tail _ (.tail _ (.tail _ (.tail _ (.tail _ hE)))))), ⟨Nat.le_refl 1, Nat.le_refl 1⟩, _, rfl, ?_⟩ | refine ⟨_, (.tail _ (.tail _ (.tail _ (.tail _ (.tail _ (.tail _ (.tail _ hE))))))), ⟨Nat.le_refl 1, Nat.le_refl 1⟩, _, rfl, ?_⟩ | refine ⟨_, (.tail _ (.tail _ (.tail _ (.tail _ (.tail _ (.tail _ (.tail _ (.tail _ hE)))))))), ⟨Nat.le_refl 1, Nat.le_refl 1⟩, _, rfl, ?_⟩
        repeat (first | refine ga_ ?_ | intro _)
        refine Or.inl ⟨⟨_, Tryd.func45, rfl, rfl⟩, ACall.mono ?_ (hN)⟩
        rintro _ S1 ⟨rfl, hS1⟩
        subst S1
        repeat (first | refine ga_ ?_ | intro _)
        refine gsplit (c = 51) (by first | (simp; done) | (simp <;> omega) | decide) (fun h => ?_) (fun h => ?_)
        · repeat (first | refine ga_ ?_ | intro _)
          refine ⟨(), ?_, weak_of ?_ rfl ?_⟩
          · trivial
          · repeat (first | exact trivial | refine ⟨(AVle.eq (congrArg e.av (show c = wrong 53 c by rw [h]; rfl))), ?_⟩ | refine ⟨AVle.refl _, ?_⟩ | refine ⟨AVle.tk, ?_⟩ | refine ⟨AVle.nil, ?_⟩ | refine ⟨AVle.nilFull, ?_⟩ | refine ⟨AVle.eq (congrArg (AV.int .i64) (by first | (simp; done) | (simp; omega) | (rw [wrap_i64 (by first | omega | (simp; omega))]; first | rfl | omega | (simp; done) | (simp; omega)))), ?_⟩)
          · repeat (first | exact SLe.rfl | refine SLe.tail ?_ | refine SLe.full ?_)
        have h1 := h
        repeat (first | refine ga_ ?_ | intro _)
        have hE := mA
        first | refine ⟨_, hE, ⟨Nat.le_refl 1, Nat.le_refl 1⟩, _, rfl, ?_⟩ | refine ⟨_, (.tail _ hE), ⟨Nat.le_refl 1, Nat.le_refl 1⟩, _, rfl, ?_⟩ | refine ⟨_, (.tail _ (.tail _ hE)), ⟨Nat.le_refl 1, Nat.le_refl 1⟩, _, rfl, ?_⟩ | refine ⟨_, (.tail _ (.tail _ (.tail _ hE))), ⟨Nat.le_refl 1, Nat.le_refl 1⟩, _, rfl, ?_⟩ | refine ⟨_, (.tail _ (.tail _ (.tail _ (.tail _ hE)))), ⟨Nat.le_refl 1, Nat.le_refl 1⟩, _, rfl, ?_⟩ | refine ⟨_, (.tail _ (.tail _ (.tail _ (.tail _ (.tail _ hE))))), ⟨Nat.le_refl 1, Nat.le_refl 1⟩, _, rfl, ?_⟩ | refine ⟨_, (.tail _ (.tail _ (.tail _ (.tail _ (.tail _ (.tail _ hE)))))), ⟨Nat.le_refl 1, Nat.le_refl 1⟩, _, rfl, ?_⟩ | refine ⟨_, (.tail _ (.tail _ (.tail _ (.tail _ (.tail _ (.tail _ (.tail _ hE))))))), ⟨Nat.le_refl 1, Nat.le_refl 1⟩, _, rfl, ?_⟩ | refine ⟨_, (.tail _ (.tail _ (.tail _ (.tail _ (.tail _ (.tail _ (.tail _ (.tail _ hE)))))))), ⟨Nat.le_refl 1, Nat.le_refl 1⟩, _, rfl, ?_⟩
        repeat (first | refine ga_ ?_ | intro _)
        refine Or.inl ⟨⟨_, Tryd.func45, rfl, rfl⟩, ACall.mono ?_ (hA)⟩
        rintro _ S1 ⟨rfl, hS1⟩
        subst S1
        repeat (first | refine ga_ ?_ | intro _)
        refine AW_iff (c = 52) rfl (by first | (simp; done) | (simp <;> omega) | decide) (fun h => ?_) (fun h => ?_)
        · repeat (first | refine ga_ ?_ | intro _)
          refine ⟨(), ?_, weak_of ?_ rfl ?_⟩
          · trivial
          · repeat (first | exact trivial | refine ⟨(AVle.eq (congrArg e.av (show c = wrong 53 c by rw [h]; rfl))), ?_⟩ | refine ⟨AVle.refl _, ?_⟩ | refine ⟨AVle.tk, ?_⟩ | refine ⟨AVle.nil, ?_⟩ | refine ⟨AVle.nilFull, ?_⟩ | refine ⟨AVle.eq (congrArg (AV.int .i64) (by first | (simp; done) | (simp; omega) | (rw [wrap_i64 (by first | omega | (simp; omega))]; first | rfl | omega | (simp; done) | (simp; omega)))), ?_⟩)
          · repeat (first | exact SLe.rfl | refine SLe.tail ?_ | refine SLe.full ?_)
        repeat (first | refine ga_ ?_ | intro _)
        refine ⟨(), ?_, weak_of ?_ rfl ?_⟩
        · trivial
        · repeat (first | exact trivial | refine ⟨(AVle.eq (congrArg e.av (show (53 : Int) = wrong 53 c by rw [wrong, if_neg (by omega)]))), ?_⟩ | refine ⟨AVle.refl _, ?_⟩ | refine ⟨AVle.tk, ?_⟩ | refine ⟨AVle.nil, ?_⟩ | refine ⟨AVle.nilFull, ?_⟩ | refine ⟨AVle.eq (congrArg (AV.int .i64) (by first | (simp; done) | (simp; omega) | (rw [wrap_i64 (by first | omega | (simp; omega))]; first | rfl | omega | (simp; done) | (simp; omega)))), ?_⟩)
        · repeat (first | exact SLe.rfl | refine SLe.tail ?_ | refine SLe.full ?_)
    have hw3 := wrong_in i3 hc
    obtain ⟨w3, hw4⟩ : ∃ x, x = wrong w c := ⟨_, rfl⟩
    rw [← hw4] at hw3 i2
    refine AW_weak (weak_of (l := [(0, .ptr q 0), (3, .ptr p 0), (5, e.av w3), (14, .sl 11 (r.body.map encL) .no), (15, .int .i64 (r.body.length : Nat)), (16, .int .i64 (j : Nat))]) (m := []) (S' := .cells p (cRu r) :: TY q mb d s2 R) ?_ rfl ?_) ?_
    · repeat (first | exact trivial | refine ⟨(AVle.eq (congrArg e.av hw4.symm)), ?_⟩ | refine ⟨AVle.refl _, ?_⟩ | refine ⟨AVle.tk, ?_⟩ | refine ⟨AVle.nil, ?_⟩ | refine ⟨AVle.nilFull, ?_⟩ | refine ⟨AVle.eq (congrArg (AV.int .i64) (by first | (simp; done) | (simp; omega) | (rw [wrap_i64 (by first | omega | (simp; omega))]; first | rfl | omega | (simp; done) | (simp; omega)))), ?_⟩)
    · refine SW.le ?_
      repeat (first | exact SW.nil | refine SW.cons ?_ | refine SW.cells (by repeat (first | exact trivial | refine ⟨AVle.refl _, ?_⟩ | refine ⟨AVle.nilFull, ?_⟩ | refine ⟨AVle.tk, ?_⟩ | refine ⟨AVle.nil, ?_⟩)) rfl ?_ | refine SW.full ?_ | refine SW.drop ?_)
    have hN3 := isN_ok (R := .cells p (cRu r) :: TY q mb d s2 R) hEs.cons.cons.cons hw3
    have hA3 := isA_ok (R := .cells p (cRu r) :: TY q mb d s2 R) hEs.cons.cons.cons hw3
    repeat (first | refine ga_ ?_ | intro _)
    have hE := hEs.gn
    first | refine ⟨_, hE, ⟨Nat.le_refl 1, Nat.le_refl 1⟩, _, rfl, ?_⟩ | refine ⟨_, (.tail _ hE), ⟨Nat.le_refl 1, Nat.le_refl 1⟩, _, rfl, ?_⟩ | refine ⟨_, (.tail _ (.tail _ hE)), ⟨Nat.le_refl 1, Nat.le_refl 1⟩, _, rfl, ?_⟩ | refine ⟨_, (.tail _ (.tail _ (.tail _ hE))), ⟨Nat.le_refl 1, Nat.le_refl 1⟩, _, rfl, ?_⟩ | refine ⟨_, (.tail _ (.tail _ (.tail _ (.tail _ hE)))), ⟨Nat.le_refl 1, Nat.le_refl 1⟩, _, rfl, ?_⟩ | refine ⟨_, (.tail _ (.tail _ (.tail _ (.tail _ (.tail _ hE))))), ⟨Nat.le_refl 1, Nat.le_refl 1⟩, _, rfl, ?_⟩ | refine ⟨_, (.tail _ (.tail _ (.tail _ (.tail _ (.tail _ (.tail _ hE)))))), ⟨Nat.le_refl 1, Nat.le_refl 1⟩, _, rfl, ?_⟩ | refine ⟨_, (.tail _ (.tail _ (.tail _ (.tail _ (.tail _ (.tail _ (.tail _ hE))))))), ⟨Nat.le_refl 1, Nat.le_refl 1⟩, _, rfl, ?_⟩ | refine ⟨_, (.tail _ (.tail _ (.tail _ (.tail _ (.tail _ (.tail _ (.tail _ (.tail _ hE)))))))), ⟨Nat.le_refl 1, Nat.le_refl 1⟩, _, rfl, ?_⟩
    repeat (first | refine ga_ ?_ | intro _)
    refine Or.inl ⟨⟨_, Tryd.func45, rfl, rfl⟩, ACall.mono ?_ (hN3)⟩
    rintro _ S1 ⟨rfl, hS1⟩
    subst S1
    repeat (first | refine ga_ ?_ | intro _)
    refine gsplit (w3 = 51) (by first | (simp; done) | (simp <;> omega) | decide) (fun h => ?_) (fun h => ?_)
    · rw [if_pos (.inl h)] at i2
      cases i2
      repeat (first | refine ga_ ?_ | intro _)
      refine AW_ret ?_
      repeat (first | refine ⟨0, rfl, ?_⟩ | refine ⟨1, rfl, ?_⟩ | refine ⟨2, rfl, ?_⟩ | refine ⟨3, rfl, ?_⟩ | refine ⟨4, rfl, ?_⟩ | refine ⟨5, rfl, ?_⟩ | refine ⟨6, rfl, ?_⟩)
      refine ⟨_, TY q mb d _ R, AVle.eq ?_, (by repeat (first | exact SLe.rfl | refine SLe.tail ?_)), rfl, rfl⟩
      rfl
    have h1 := h
    repeat (first | refine ga_ ?_ | intro _)
    have hE := hEs.ga
    first | refine ⟨_, hE, ⟨Nat.le_refl 1, Nat.le_refl 1⟩, _, rfl, ?_⟩ | refine ⟨_, (.tail _ hE), ⟨Nat.le_refl 1, Nat.le_refl 1⟩, _, rfl, ?_⟩ | refine ⟨_, (.tail _ (.tail _ hE)), ⟨Nat.le_refl 1, Nat.le_refl 1⟩, _, rfl, ?_⟩ | refine ⟨_, (.tail _ (.tail _ (.tail _ hE))), ⟨Nat.le_refl 1, Nat.le_refl 1⟩, _, rfl, ?_⟩ | refine ⟨_, (.tail _ (.tail _ (.tail _ (.tail _ hE)))), ⟨Nat.le_refl 1, Nat.le_refl 1⟩, _, rfl, ?_⟩ | refine ⟨_, (.tail _ (.tail _ (.tail _ (.tail _ (.tail _ hE))))), ⟨Nat.le_refl 1, Nat.le_refl 1⟩, _, rfl, ?_⟩ | refine ⟨_, (.tail _ (.tail _ (.tail _ (.tail _ (.tail _ (.tail _ hE)))))), ⟨Nat.le_refl 1, Nat.le_refl 1⟩, _, rfl, ?_⟩ | refine ⟨_, (.tail _ (.tail _ (.tail _ (.tail _ (.tail _ (.tail _ (.tail _ hE))))))), ⟨Nat.le_refl 1, Nat.le_refl 1⟩, _, rfl, ?_⟩ | refine ⟨_, (.tail _ (.tail _ (.tail _ (.tail _ (.tail _ (.tail _ (.tail _ (.tail _ hE)))))))), ⟨Nat.le_refl 1, Nat.le_refl 1⟩, _, rfl, ?_⟩
    repeat (first | refine ga_ ?_ | intro _)
    refine Or.inl ⟨⟨_, Tryd.func45, rfl, rfl⟩, ACall.mono ?_ (hA3)⟩
    rintro _ S1 ⟨rfl, hS1⟩
    subst S1
    repeat (first | refine ga_ ?_ | intro _)
    refine AW_iff (w3 = 52) rfl (by first | (simp; done) | (simp <;> omega) | decide) (fun h => ?_) (fun h => ?_)
    · rw [if_pos (.inr h)] at i2
      cases i2
      repeat (first | refine ga_ ?_ | intro _)
      refine AW_ret ?_
      repeat (first | refine ⟨0, rfl, ?_⟩ | refine ⟨1, rfl, ?_⟩ | refine ⟨2, rfl, ?_⟩ | refine ⟨3, rfl, ?_⟩ | refine ⟨4, rfl, ?_⟩ | refine ⟨5, rfl, ?_⟩ | refine ⟨6, rfl, ?_⟩)
      refine ⟨_, TY q mb d _ R, AVle.eq ?_, (by repeat (first | exact SLe.rfl | refine SLe.tail ?_)), rfl, rfl⟩
      rfl
    · rw [if_neg (by omega)] at i2
      repeat (first | refine ga_ ?_ | intro _)
      refine ⟨(j + 1, w3, s2), ?_, ?_, weak_of ?_ rfl ?_⟩
      · exact Nat.sub_lt_sub_left hlt (Nat.lt_succ_self j)
      · exact ⟨hlt, i2, hw3, hg2⟩
      · repeat (first | exact trivial | refine ⟨AVle.refl _, ?_⟩ | refine ⟨AVle.tk, ?_⟩ | refine ⟨AVle.nil, ?_⟩ | refine ⟨AVle.nilFull, ?_⟩ | refine ⟨AVle.eq (congrArg (AV.int .i64) (by first | (simp; done) | (simp; omega) | (rw [wrap_i64 (by first | omega | (simp; omega))]; first | rfl | omega | (simp; done) | (simp; omega)))), ?_⟩)
      · repeat (first | exact SLe.rfl | refine SLe.tail ?_ | refine SLe.full ?_)
  · have hz' : j = r.body.length := by omega
    rw [hz', List.drop_length] at i2
    cases i2
    repeat (first | refine go_ ?_ | intro _)
    refine AW_ret ?_
    repeat (first | refine ⟨0, rfl, ?_⟩ | refine ⟨1, rfl, ?_⟩ | refine ⟨2, rfl, ?_⟩ | refine ⟨3, rfl, ?_⟩ | refine ⟨4, rfl, ?_⟩ | refine ⟨5, rfl, ?_⟩ | refine ⟨6, rfl, ?_⟩)
    refine ⟨_, TY q mb d _ R, AVle.eq ?_, (by repeat (first | exact SLe.rfl | refine SLe.tail ?_)), rfl, rfl⟩
    rfl
end Go.Proofs.YtkmalncnaodkiaaDoor
