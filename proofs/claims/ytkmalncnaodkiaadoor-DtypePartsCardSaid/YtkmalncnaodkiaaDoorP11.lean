/-
  What is wrong with a program, and where. Own work.
-/
import Derived.Test.YtkmalncnaodkiaaDoorP10
import Derived.Test.YtkmalncnaodkiaaDoorFrameT
set_option linter.all false
namespace Go.Proofs.YtkmalncnaodkiaaDoor
open Go.Aw Go.RowKit
set_option maxHeartbeats 4000000

def dupL (all : List De) : Nat → List De → Option Int
  | _, [] => none
  | i, d :: r => if findN all d.rel ≠ i then some d.line else dupL all (i + 1) r
noncomputable def typesE (d : List De) (r : Ru) : Int := (typesV (varsR r) d r).2
noncomputable def ruleL (d : List De) : List Ru → Option (Int × Int)
  | [] => none
  | r :: l => if typesE d r ≠ 0 then some (r.line, typesE d r) else ruleL d l
noncomputable def checkV (p : Pr) : Int × Int := if rightP p = false then (0, 30) else match dupL p.decls 0 p.decls with
  | some l => (l, 50)
  | none => match ruleL p.decls p.rules with
    | some x => x
    | none => (0, 0)
theorem checkV_tree {p : Pr} (h : rightP p = false) : checkV p = (0, 30) := if_pos h
theorem checkV_dup {p : Pr} (h : rightP p = true) {l : Int} (hd : dupL p.decls 0 p.decls = some l) : checkV p = (l, 50) := by unfold checkV; rw [if_neg (by rw [h]; decide), hd]
theorem checkV_rule {p : Pr} (h : rightP p = true) (hd : dupL p.decls 0 p.decls = none) {x : Int × Int} (hr : ruleL p.decls p.rules = some x) : checkV p = x := by unfold checkV; rw [if_neg (by rw [h]; decide), hd, hr]
theorem checkV_ok {p : Pr} (h : rightP p = true) (hd : dupL p.decls 0 p.decls = none) (hr : ruleL p.decls p.rules = none) : checkV p = (0, 0) := by unfold checkV; rw [if_neg (by rw [h]; decide), hd, hr]
def checkA (x : Int × Int) : AV := .tup [.int .i64 x.1, .int .i64 x.2]

theorem check_ok (b o : Nat) (e : Es) (p : Pr) (R : List En) (hE0 : En.glob 0 [errE b o] ∈ R) (hEs : EsIn e R) (hd : p.decls.length ≤ 100) (hrl : p.rules.length ≤ 300) (hf : ∀ r ∈ p.rules, few r) :
    ACall Tryd.prog 21 [encP p] R (fun v S => v = checkA (checkV p) ∧ S = R) := by
  refine ACall_body tab_ok Tryd.func21 rfl rfl rfl (by kernel_rfl) (Nat.le_of_ble_eq_true rfl) ?_
  repeat (first | refine go_ ?_ | intro _)
  rename_i q
  refine Or.inl ⟨⟨_, Tryd.func33, rfl, rfl⟩, ACall.mono ?_ (right_ok b o p _ (.tail _ hE0) (fun r hr => (hf r hr).okR))⟩
  rintro _ S1 ⟨rfl, hS1⟩
  subst S1
  repeat (first | refine go_ ?_ | intro _)
  refine AW_cond (b := !rightP p) rfl (fun h => ?_) (fun h => ?_)
  · have e1 := checkV_tree (p := p) (by simpa using h)
    repeat (first | refine go_ ?_ | intro _)
    refine AW_ret ?_
    repeat (first | refine ⟨0, rfl, ?_⟩ | refine ⟨1, rfl, ?_⟩ | refine ⟨2, rfl, ?_⟩ | refine ⟨3, rfl, ?_⟩ | refine ⟨4, rfl, ?_⟩ | refine ⟨5, rfl, ?_⟩ | refine ⟨6, rfl, ?_⟩)
    refine ⟨_, R, AVle.eq ?_, (by repeat (first | exact SLe.rfl | refine SLe.tail ?_)), rfl, rfl⟩
    rw [e1]; rfl
  have hr : rightP p = true := by simpa using h
  repeat (first | refine go_ ?_ | intro _)
  refine AW_for (α := Nat) (fun z => ⟨[(1, .ptr q 0), (16, .sl 6 (p.decls.map encD) .no), (17, .int .i64 (p.decls.length : Nat)), (18, .int .i64 (z : Nat))], []⟩) (fun z => .cells q [.sl 6 (p.decls.map encD) .no, .sl 4 (p.rules.map encRu) .no] :: R) (fun z => p.decls.length - z) (fun z => z ≤ p.decls.length ∧ dupL p.decls 0 p.decls = dupL p.decls z (p.decls.drop z)) (0) ?_ (weak_of ?_ rfl ?_) (fun z hz => ?_)
  · exact ⟨Nat.zero_le _, rfl⟩
  · repeat (first | exact trivial | refine ⟨(AVle.eq (congrArg (AV.int .i64) (by simp))), ?_⟩ | refine ⟨AVle.refl _, ?_⟩ | refine ⟨AVle.tk, ?_⟩ | refine ⟨AVle.nil, ?_⟩ | refine ⟨AVle.nilFull, ?_⟩ | refine ⟨AVle.eq (congrArg (AV.int .i64) (by first | (simp; done) | (simp; omega) | (rw [wrap_i64 (by first | omega | (simp; omega))]; first | rfl | omega | (simp; done) | (simp; omega)))), ?_⟩)
  · repeat (first | exact SLe.rfl | refine SLe.tail ?_ | refine SLe.full ?_)
  obtain ⟨i1, i2⟩ := hz
  repeat (first | refine go_ ?_ | intro _)
  refine AW_iff (z < p.decls.length) rfl (by first | (simp; done) | (simp <;> omega) | decide) (fun h => ?_) (fun h => ?_)
  · have hlt := h
    obtain ⟨x, hx⟩ : ∃ x, x = p.decls[z] := ⟨_, rfl⟩
    have hdr : p.decls.drop z = x :: p.decls.drop (z + 1) := by rw [hx]; exact (List.getElem_cons_drop hlt).symm
    have kf := fun R => find_ok p.decls x.rel R (by omega)
    have hfn : ∃ n : Nat, n = findN p.decls x.rel := ⟨_, rfl⟩
    obtain ⟨n, hn⟩ := hfn
    rw [← hn] at kf
    rw [hdr, dupL, ← hn] at i2
    repeat (first | refine go_ ?_ | intro _)
    refine at_map (z) (by first | rfl | omega | (rw [wrap_i64 (by omega)]; omega)) (by first | assumption | omega) ?_
    rw [← hx]
    repeat (first | refine go_ ?_ | intro _)
    refine Or.inl ⟨⟨_, Tryd.func11, rfl, rfl⟩, ACall.mono ?_ (kf _)⟩
    rintro _ S1 ⟨rfl, hS1⟩
    subst S1
    repeat (first | refine go_ ?_ | intro _)
    refine AW_iff (¬ n = z) rfl (by first | (simp; done) | (simp <;> omega) | decide) (fun h => ?_) (fun h => ?_)
    · rw [if_pos h] at i2
      repeat (first | refine go_ ?_ | intro _)
      refine AW_ret ?_
      repeat (first | refine ⟨0, rfl, ?_⟩ | refine ⟨1, rfl, ?_⟩ | refine ⟨2, rfl, ?_⟩ | refine ⟨3, rfl, ?_⟩ | refine ⟨4, rfl, ?_⟩ | refine ⟨5, rfl, ?_⟩ | refine ⟨6, rfl, ?_⟩)
      refine ⟨_, R, AVle.eq ?_, (by repeat (first | exact SLe.rfl | refine SLe.tail ?_)), rfl, rfl⟩
      rw [checkV_dup hr i2]; rfl
    · rw [if_neg h] at i2
      repeat (first | refine go_ ?_ | intro _)
      refine ⟨z + 1, ?_, ?_, weak_of ?_ rfl ?_⟩
      · omega
      · exact ⟨hlt, i2⟩
      · repeat (first | exact trivial | refine ⟨AVle.refl _, ?_⟩ | refine ⟨AVle.tk, ?_⟩ | refine ⟨AVle.nil, ?_⟩ | refine ⟨AVle.nilFull, ?_⟩ | refine ⟨AVle.eq (congrArg (AV.int .i64) (by first | (simp; done) | (simp; omega) | (rw [wrap_i64 (by first | omega | (simp; omega))]; first | rfl | omega | (simp; done) | (simp; omega)))), ?_⟩)
      · repeat (first | exact SLe.rfl | refine SLe.tail ?_ | refine SLe.full ?_)
  · have hz' : z = p.decls.length := by omega
    rw [hz', List.drop_length, dupL] at i2
    repeat (first | refine go_ ?_ | intro _)
    refine AW_for (α := Nat) (fun z => ⟨[(1, .ptr q 0), (38, .sl 4 (p.rules.map encRu) .no), (39, .int .i64 (p.rules.length : Nat)), (40, .int .i64 (z : Nat))], []⟩) (fun z => .cells q [.sl 6 (p.decls.map encD) .no, .sl 4 (p.rules.map encRu) .no] :: R) (fun z => p.rules.length - z) (fun z => z ≤ p.rules.length ∧ ruleL p.decls p.rules = ruleL p.decls (p.rules.drop z)) (0) ?_ (weak_of ?_ rfl ?_) (fun z hz => ?_)
    · exact ⟨Nat.zero_le _, rfl⟩
    · repeat (first | exact trivial | refine ⟨(AVle.eq (congrArg (AV.int .i64) (by simp))), ?_⟩ | refine ⟨AVle.refl _, ?_⟩ | refine ⟨AVle.tk, ?_⟩ | refine ⟨AVle.nil, ?_⟩ | refine ⟨AVle.nilFull, ?_⟩ | refine ⟨AVle.eq (congrArg (AV.int .i64) (by first | (simp; done) | (simp; omega) | (rw [wrap_i64 (by first | omega | (simp; omega))]; first | rfl | omega | (simp; done) | (simp; omega)))), ?_⟩)
    · repeat (first | exact SLe.rfl | refine SLe.tail ?_ | refine SLe.full ?_)
    obtain ⟨j1, j2⟩ := hz
    repeat (first | refine go_ ?_ | intro _)
    refine AW_iff (z < p.rules.length) rfl (by first | (simp; done) | (simp <;> omega) | decide) (fun h => ?_) (fun h => ?_)
    · have hlt := h
      obtain ⟨x, hx⟩ : ∃ x, x = p.rules[z] := ⟨_, rfl⟩
      have hm : x ∈ p.rules := hx ▸ List.getElem_mem hlt
      have hdr : p.rules.drop z = x :: p.rules.drop (z + 1) := by rw [hx]; exact (List.getElem_cons_drop hlt).symm
      have kt := fun R h0 hE => types_ok b o e p.decls x R h0 hE hd (hf x hm)
      obtain ⟨l, c, hlc⟩ : ∃ l c, typesV (varsR x) p.decls x = (l, c) := ⟨_, _, rfl⟩
      have hc : typesE p.decls x = c := by unfold typesE; rw [hlc]
      rw [hlc] at kt
      rw [hdr, ruleL, hc] at j2
      unfold typesA at kt
      repeat (first | refine go_ ?_ | intro _)
      refine at_map (z) (by first | rfl | omega | (rw [wrap_i64 (by omega)]; omega)) (by first | assumption | omega) ?_
      rw [← hx]
      repeat (first | refine go_ ?_ | intro _)
      refine Or.inl ⟨⟨_, Tryd.func16, rfl, rfl⟩, ACall.mono ?_ (kt _ (.tail _ (.tail _ hE0)) hEs.cons.cons)⟩
      rintro _ S1 ⟨rfl, hS1⟩
      subst S1
      repeat (first | refine go_ ?_ | intro _)
      refine AW_iff (¬ c = 0) rfl (by first | (simp; done) | (simp <;> omega) | decide) (fun h => ?_) (fun h => ?_)
      · rw [if_pos h] at j2
        repeat (first | refine go_ ?_ | intro _)
        refine AW_ret ?_
        repeat (first | refine ⟨0, rfl, ?_⟩ | refine ⟨1, rfl, ?_⟩ | refine ⟨2, rfl, ?_⟩ | refine ⟨3, rfl, ?_⟩ | refine ⟨4, rfl, ?_⟩ | refine ⟨5, rfl, ?_⟩ | refine ⟨6, rfl, ?_⟩)
        refine ⟨_, R, AVle.eq ?_, (by repeat (first | exact SLe.rfl | refine SLe.tail ?_)), rfl, rfl⟩
        rw [checkV_rule hr i2 j2]; rfl
      · rw [if_neg h] at j2
        repeat (first | refine go_ ?_ | intro _)
        refine ⟨z + 1, ?_, ?_, weak_of ?_ rfl ?_⟩
        · omega
        · exact ⟨hlt, j2⟩
        · repeat (first | exact trivial | refine ⟨AVle.refl _, ?_⟩ | refine ⟨AVle.tk, ?_⟩ | refine ⟨AVle.nil, ?_⟩ | refine ⟨AVle.nilFull, ?_⟩ | refine ⟨AVle.eq (congrArg (AV.int .i64) (by first | (simp; done) | (simp; omega) | (rw [wrap_i64 (by first | omega | (simp; omega))]; first | rfl | omega | (simp; done) | (simp; omega)))), ?_⟩)
        · repeat (first | exact SLe.rfl | refine SLe.tail ?_ | refine SLe.full ?_)
    · have hz' : z = p.rules.length := by omega
      rw [hz', List.drop_length, ruleL] at j2
      repeat (first | refine go_ ?_ | intro _)
      refine AW_ret ?_
      repeat (first | refine ⟨0, rfl, ?_⟩ | refine ⟨1, rfl, ?_⟩ | refine ⟨2, rfl, ?_⟩ | refine ⟨3, rfl, ?_⟩ | refine ⟨4, rfl, ?_⟩ | refine ⟨5, rfl, ?_⟩ | refine ⟨6, rfl, ?_⟩)
      refine ⟨_, R, AVle.eq ?_, (by repeat (first | exact SLe.rfl | refine SLe.tail ?_)), rfl, rfl⟩
      rw [checkV_ok hr i2 j2]; rfl
theorem refCheck_ok (p : Pr) (R : List En) (hd : p.decls.length ≤ 100) (hrl : p.rules.length ≤ 300) (hf : ∀ r ∈ p.rules, few r) :
    ACall Tryd.prog 22 [encP p] R (fun v S => v = checkA (checkV p) ∧ S = R) := by
  refine ACall_body tab_ok Tryd.func22 rfl rfl rfl (by kernel_rfl) (Nat.le_of_ble_eq_true rfl) ?_
  repeat (first | refine go_ ?_ | intro _)
  rename_i q
  refine Or.inl ⟨⟨_, Tryd.func36, rfl, rfl⟩, ACall.mono ?_ (refRight_ok p _)⟩
  rintro _ S1 ⟨rfl, hS1⟩
  subst S1
  repeat (first | refine go_ ?_ | intro _)
  refine AW_cond (b := !rightP p) rfl (fun h => ?_) (fun h => ?_)
  · have e1 := checkV_tree (p := p) (by simpa using h)
    repeat (first | refine go_ ?_ | intro _)
    refine AW_ret ?_
    repeat (first | refine ⟨0, rfl, ?_⟩ | refine ⟨1, rfl, ?_⟩ | refine ⟨2, rfl, ?_⟩ | refine ⟨3, rfl, ?_⟩ | refine ⟨4, rfl, ?_⟩ | refine ⟨5, rfl, ?_⟩ | refine ⟨6, rfl, ?_⟩)
    refine ⟨_, R, AVle.eq ?_, (by repeat (first | exact SLe.rfl | refine SLe.tail ?_)), rfl, rfl⟩
    rw [e1]; rfl
  have hr : rightP p = true := by simpa using h
  repeat (first | refine go_ ?_ | intro _)
  refine AW_for (α := Nat) (fun z => ⟨[(1, .ptr q 0), (5, .int .i64 (z : Nat))], []⟩) (fun z => .cells q [.sl 6 (p.decls.map encD) .no, .sl 4 (p.rules.map encRu) .no] :: R) (fun z => p.decls.length - z) (fun z => z ≤ p.decls.length ∧ dupL p.decls 0 p.decls = dupL p.decls z (p.decls.drop z)) (0) ?_ (weak_of ?_ rfl ?_) (fun z hz => ?_)
  · exact ⟨Nat.zero_le _, rfl⟩
  · repeat (first | exact trivial | refine ⟨AVle.refl _, ?_⟩ | refine ⟨AVle.tk, ?_⟩ | refine ⟨AVle.nil, ?_⟩ | refine ⟨AVle.nilFull, ?_⟩ | refine ⟨AVle.eq (congrArg (AV.int .i64) (by first | (simp; done) | (simp; omega) | (rw [wrap_i64 (by first | omega | (simp; omega))]; first | rfl | omega | (simp; done) | (simp; omega)))), ?_⟩)
  · repeat (first | exact SLe.rfl | refine SLe.tail ?_ | refine SLe.full ?_)
  obtain ⟨i1, i2⟩ := hz
  repeat (first | refine go_ ?_ | intro _)
  refine AW_iff (z < p.decls.length) rfl (by first | (simp; done) | (simp <;> omega) | decide) (fun h => ?_) (fun h => ?_)
  · have hlt := h
    obtain ⟨x, hx⟩ : ∃ x, x = p.decls[z] := ⟨_, rfl⟩
    have hdr : p.decls.drop z = x :: p.decls.drop (z + 1) := by rw [hx]; exact (List.getElem_cons_drop hlt).symm
    have kf := fun R => refFind_ok p.decls x.rel R (by omega)
    have hfn : ∃ n : Nat, n = findN p.decls x.rel := ⟨_, rfl⟩
    obtain ⟨n, hn⟩ := hfn
    rw [← hn] at kf
    rw [hdr, dupL, ← hn] at i2
    repeat (first | refine go_ ?_ | intro _)
    refine AW_draw tab_ok mixed 14 (by first | rfl | kernel_rfl) ?_
    repeat (first | refine go_ ?_ | intro _)
    refine at_map (z) (by first | rfl | omega | (rw [wrap_i64 (by omega)]; omega)) (by first | assumption | omega) ?_
    rw [← hx]
    repeat (first | refine go_ ?_ | intro _)
    apply call_step
    · rfl
    · exact Or.inl ⟨⟨_, Tryd.func12, rfl, rfl⟩, kf _⟩
    repeat (first | refine go_ ?_ | intro _)
    refine AW_iff (¬ n = z) rfl (by first | (simp; done) | (simp <;> omega) | decide) (fun h => ?_) (fun h => ?_)
    · rw [if_pos h] at i2
      repeat (first | refine go_ ?_ | intro _)
      refine at_map (z) (by first | rfl | omega | (rw [wrap_i64 (by omega)]; omega)) (by first | assumption | omega) ?_
      rw [← hx]
      repeat (first | refine go_ ?_ | intro _)
      refine AW_ret ?_
      repeat (first | refine ⟨0, rfl, ?_⟩ | refine ⟨1, rfl, ?_⟩ | refine ⟨2, rfl, ?_⟩ | refine ⟨3, rfl, ?_⟩ | refine ⟨4, rfl, ?_⟩ | refine ⟨5, rfl, ?_⟩ | refine ⟨6, rfl, ?_⟩)
      refine ⟨_, R, AVle.eq ?_, (by repeat (first | exact SLe.rfl | refine SLe.tail ?_)), rfl, rfl⟩
      rw [checkV_dup hr i2]; rfl
    · rw [if_neg h] at i2
      repeat (first | refine go_ ?_ | intro _)
      refine ⟨z + 1, ?_, ?_, weak_of ?_ rfl ?_⟩
      · omega
      · exact ⟨hlt, i2⟩
      · repeat (first | exact trivial | refine ⟨AVle.refl _, ?_⟩ | refine ⟨AVle.tk, ?_⟩ | refine ⟨AVle.nil, ?_⟩ | refine ⟨AVle.nilFull, ?_⟩ | refine ⟨AVle.eq (congrArg (AV.int .i64) (by first | (simp; done) | (simp; omega) | (rw [wrap_i64 (by first | omega | (simp; omega))]; first | rfl | omega | (simp; done) | (simp; omega)))), ?_⟩)
      · repeat (first | exact SLe.rfl | refine SLe.tail ?_ | refine SLe.full ?_)
  · have hz' : z = p.decls.length := by omega
    rw [hz', List.drop_length, dupL] at i2
    repeat (first | refine go_ ?_ | intro _)
    refine AW_for (α := Nat) (fun z => ⟨[(1, .ptr q 0), (8, .int .i64 (z : Nat))], []⟩) (fun z => .cells q [.sl 6 (p.decls.map encD) .no, .sl 4 (p.rules.map encRu) .no] :: R) (fun z => p.rules.length - z) (fun z => z ≤ p.rules.length ∧ ruleL p.decls p.rules = ruleL p.decls (p.rules.drop z)) (0) ?_ (weak_of ?_ rfl ?_) (fun z hz => ?_)
    · exact ⟨Nat.zero_le _, rfl⟩
    · repeat (first | exact trivial | refine ⟨AVle.refl _, ?_⟩ | refine ⟨AVle.tk, ?_⟩ | refine ⟨AVle.nil, ?_⟩ | refine ⟨AVle.nilFull, ?_⟩ | refine ⟨AVle.eq (congrArg (AV.int .i64) (by first | (simp; done) | (simp; omega) | (rw [wrap_i64 (by first | omega | (simp; omega))]; first | rfl | omega | (simp; done) | (simp; omega)))), ?_⟩)
    · repeat (first | exact SLe.rfl | refine SLe.tail ?_ | refine SLe.full ?_)
    obtain ⟨j1, j2⟩ := hz
    repeat (first | refine go_ ?_ | intro _)
    refine AW_iff (z < p.rules.length) rfl (by first | (simp; done) | (simp <;> omega) | decide) (fun h => ?_) (fun h => ?_)
    · have hlt := h
      obtain ⟨x, hx⟩ : ∃ x, x = p.rules[z] := ⟨_, rfl⟩
      have hm : x ∈ p.rules := hx ▸ List.getElem_mem hlt
      have hdr : p.rules.drop z = x :: p.rules.drop (z + 1) := by rw [hx]; exact (List.getElem_cons_drop hlt).symm
      have kt := fun R => refTypes_ok p.decls x R hd (hf x hm)
      obtain ⟨l, c, hlc⟩ : ∃ l c, typesV (varsR x) p.decls x = (l, c) := ⟨_, _, rfl⟩
      have hc : typesE p.decls x = c := by unfold typesE; rw [hlc]
      rw [hlc] at kt
      rw [hdr, ruleL, hc] at j2
      unfold typesA at kt
      repeat (first | refine go_ ?_ | intro _)
      refine AW_draw tab_ok mixed 13 (by first | rfl | kernel_rfl) ?_
      repeat (first | refine go_ ?_ | intro _)
      refine at_map (z) (by first | rfl | omega | (rw [wrap_i64 (by omega)]; omega)) (by first | assumption | omega) ?_
      rw [← hx]
      repeat (first | refine go_ ?_ | intro _)
      apply call_step
      · rfl
      · exact Or.inl ⟨⟨_, Tryd.func17, rfl, rfl⟩, kt _⟩
      repeat (first | refine go_ ?_ | intro _)
      refine AW_iff (¬ c = 0) rfl (by first | (simp; done) | (simp <;> omega) | decide) (fun h => ?_) (fun h => ?_)
      · rw [if_pos h] at j2
        repeat (first | refine go_ ?_ | intro _)
        refine at_map (z) (by first | rfl | omega | (rw [wrap_i64 (by omega)]; omega)) (by first | assumption | omega) ?_
        rw [← hx]
        repeat (first | refine go_ ?_ | intro _)
        refine AW_ret ?_
        repeat (first | refine ⟨0, rfl, ?_⟩ | refine ⟨1, rfl, ?_⟩ | refine ⟨2, rfl, ?_⟩ | refine ⟨3, rfl, ?_⟩ | refine ⟨4, rfl, ?_⟩ | refine ⟨5, rfl, ?_⟩ | refine ⟨6, rfl, ?_⟩)
        refine ⟨_, R, AVle.eq ?_, (by repeat (first | exact SLe.rfl | refine SLe.tail ?_)), rfl, rfl⟩
        rw [checkV_rule hr i2 j2]; rfl
      · rw [if_neg h] at j2
        repeat (first | refine go_ ?_ | intro _)
        refine ⟨z + 1, ?_, ?_, weak_of ?_ rfl ?_⟩
        · omega
        · exact ⟨hlt, j2⟩
        · repeat (first | exact trivial | refine ⟨AVle.refl _, ?_⟩ | refine ⟨AVle.tk, ?_⟩ | refine ⟨AVle.nil, ?_⟩ | refine ⟨AVle.nilFull, ?_⟩ | refine ⟨AVle.eq (congrArg (AV.int .i64) (by first | (simp; done) | (simp; omega) | (rw [wrap_i64 (by first | omega | (simp; omega))]; first | rfl | omega | (simp; done) | (simp; omega)))), ?_⟩)
        · repeat (first | exact SLe.rfl | refine SLe.tail ?_ | refine SLe.full ?_)
    · have hz' : z = p.rules.length := by omega
      rw [hz', List.drop_length, ruleL] at j2
      repeat (first | refine go_ ?_ | intro _)
      refine AW_ret ?_
      repeat (first | refine ⟨0, rfl, ?_⟩ | refine ⟨1, rfl, ?_⟩ | refine ⟨2, rfl, ?_⟩ | refine ⟨3, rfl, ?_⟩ | refine ⟨4, rfl, ?_⟩ | refine ⟨5, rfl, ?_⟩ | refine ⟨6, rfl, ?_⟩)
      refine ⟨_, R, AVle.eq ?_, (by repeat (first | exact SLe.rfl | refine SLe.tail ?_)), rfl, rfl⟩
      rw [checkV_ok hr i2 j2]; rfl
end Go.Proofs.YtkmalncnaodkiaaDoor
/-
  What the laws' calls begin with; DtypeVars, DtypeTypes, DtypeChecks: the walks. Own work.
-/
namespace Go.Proofs.YtkmalncnaodkiaaDoor
open Go.Aw Go.ChangeShapes Go.WideShapes Go.ChangeAt Go.RowKit
set_option maxHeartbeats 4000000

/-! ### the sentinels, as the call begins -/
theorem laid_sentinels3 {P : Program} {n0 n1 n2 nm : String} {text0 text1 text2 : List UInt8} {r : List (String × DataW Unit)} {W : World} {g0 g1 g2 : Nat} {ti tp te ts : TypeId} {ms : Array (String × TypeId)} {f : Field}
    (h : laidMet P ((n0, .iface nm (.ptr (.agg [.lit (.string text0)]))) :: (n1, .iface nm (.ptr (.agg [.lit (.string text1)]))) :: (n2, .iface nm (.ptr (.agg [.lit (.string text2)]))) :: r) W)
    (hg0 : P.globalNamed n0 = some g0) (ht0 : (P.globals[g0]?).map (·.type) = some ti) (hg1 : P.globalNamed n1 = some g1) (ht1 : (P.globals[g1]?).map (·.type) = some ti) (hg2 : P.globalNamed n2 = some g2) (ht2 : (P.globals[g2]?).map (·.type) = some ti)
    (hi : P.underlying ti = some (.interface ms)) (hrow : ∀ u, P.typeName? 3 u = some nm → u = tp)
    (hp : P.underlying tp = some (.pointer te)) (he : P.underlying te = some (.struct #[f])) (hft : f.type = ts) (hfo : f.offset = 0) (hs : P.underlying ts = some .string) (hc : P.cellsOf te = 1) (hcs : P.cellsOf ts = 1) :
    ∃ (a0 a1 a2 : Addr) (s0 s1 s2 : ByteArray) (c0 c1 c2 : Array Value) (t0 t1 t2 : TypeId),
      (W.var? P n0 = some #[.iface tp (.pointer (some a0))] ∧ W.var? P n1 = some #[.iface tp (.pointer (some a1))] ∧ W.var? P n2 = some #[.iface tp (.pointer (some a2))]) ∧
      (W.cell? a0 = some (.string s0) ∧ W.cell? a1 = some (.string s1) ∧ W.cell? a2 = some (.string s2)) ∧ (a0 ≠ a1 ∧ a0 ≠ a2 ∧ a1 ≠ a2) ∧
      W.heap[a0.block]? = some (.cells c0 t0 (0, 0)) ∧ W.heap[a1.block]? = some (.cells c1 t1 (0, 0)) ∧ W.heap[a2.block]? = some (.cells c2 t2 (0, 0)) := by
  obtain ⟨ps, ⟨g0', t0', cs0, f0, p0, q0, hg0', ht0', hv0, hd0, ⟨g1', t1', cs1, f1, p1, q1, hg1', ht1', hv1, hd1, ⟨g2', t2', cs2, f2, p2, q2, hg2', ht2', hv2, hd2, _, e2⟩, e1⟩, e0⟩, hnd, hrows⟩ := h
  obtain rfl := Option.some.inj (hg0.symm.trans hg0')
  obtain rfl := Option.some.inj (hg1.symm.trans hg1')
  obtain rfl := Option.some.inj (hg2.symm.trans hg2')
  obtain rfl := Option.some.inj (ht0.symm.trans ht0')
  obtain rfl := Option.some.inj (ht1.symm.trans ht1')
  obtain rfl := Option.some.inj (ht2.symm.trans ht2')
  subst e2
  subst e1
  subst e0
  obtain ⟨l0⟩ := cs0
  obtain ⟨l1⟩ := cs1
  obtain ⟨l2⟩ := cs2
  have ok0 : ∀ u v, l0 = [.iface u v] → Value.okWide P W .any 0 u v := fun u v e => by
    subst e
    exact (hrows g0 0 (by simp [MemPlace.row])).2 u v (by simpa using World.var?_cell hg0' hv0 0)
  have ok1 : ∀ u v, l1 = [.iface u v] → Value.okWide P W .any 0 u v := fun u v e => by
    subst e
    exact (hrows g1 0 (by simp [MemPlace.row])).2 u v (by simpa using World.var?_cell hg1' hv1 0)
  have ok2 : ∀ u v, l2 = [.iface u v] → Value.okWide P W .any 0 u v := fun u v e => by
    subst e
    exact (hrows g2 0 (by simp [MemPlace.row])).2 u v (by simpa using World.var?_cell hg2' hv2 0)
  obtain ⟨a0, s0, rfl, hc0, hs0, hz0, rfl⟩ := errorString_of_trod hi hrow hp he hft hfo hs hc hcs hd0 ok0
  obtain ⟨a1, s1, rfl, hc1, hs1, hz1, rfl⟩ := errorString_of_trod hi hrow hp he hft hfo hs hc hcs hd1 ok1
  obtain ⟨a2, s2, rfl, hc2, hs2, hz2, rfl⟩ := errorString_of_trod hi hrow hp he hft hfo hs hc hcs hd2 ok2
  obtain ⟨c0, t0, hb0⟩ := (hrows a0.block a0.off (by simp [MemPlace.row])).1
  obtain ⟨c1, t1, hb1⟩ := (hrows a1.block a1.off (by simp [MemPlace.row])).1
  obtain ⟨c2, t2, hb2⟩ := (hrows a2.block a2.off (by simp [MemPlace.row])).1
  refine ⟨a0, a1, a2, s0, s1, s2, c0, c1, c2, t0, t1, t2, ⟨hv0, hv1, hv2⟩, ⟨hc0, hc1, hc2⟩, ⟨?_, ?_, ?_⟩, hb0, hb1, hb2⟩
  · rintro rfl
    simp [MemPlace.row] at hnd
  · rintro rfl
    simp [MemPlace.row] at hnd
  · rintro rfl
    simp [MemPlace.row] at hnd
theorem addr_ne {W : World} {a a' : Addr} {v v' : Value} (h : W.cell? a = some v) (h' : W.cell? a' = some v') (hn : a ≠ a') : (a.block, a.off) ≠ (a'.block, a'.off) := by
  have h1 := (cell_kof h).1
  have h2 := (cell_kof h').1
  obtain ⟨b, o, s⟩ := a
  obtain ⟨b', o', s'⟩ := a'
  simp only at h1 h2
  subst h1; subst h2
  intro e
  simp only [Prod.mk.injEq] at e
  exact hn (by rw [e.1, e.2])
theorem startT {W : World} (h0 : laidMetH Tryd.prog Rows.dtypeVarsRow.laid W) : ∃ S0, ((∃ b o, En.glob 0 [errE b o] ∈ S0) ∧ ∃ e, EsIn e S0) ∧ RelS W (Kof W) S0 W := by
  have h : laidMet Tryd.prog Rows.dtypeVarsRow.laid W := h0
  obtain ⟨a, s, v, c, _⟩ := laid_sentinel (g := 0) (ti := 76) h (by kernel_rfl) (by kernel_rfl) Tryd.underlying76 errRow Tryd.underlying128 Tryd.underlying154 rfl rfl Tryd.underlying9 (by kernel_rfl) (by kernel_rfl)
  obtain ⟨a0, a1, a2, s0, s1, s2, c0, c1, c2, t0, t1, t2, ⟨v0, v1, v2⟩, ⟨k0, k1, k2⟩, ⟨n01, n02, n12⟩, b0, b1, b2⟩ := laid_sentinels3 (g0 := 2) (g1 := 3) (g2 := 1) (ti := 76) (laidMet.tail h) (by kernel_rfl) (by kernel_rfl) (by kernel_rfl) (by kernel_rfl) (by kernel_rfl) (by kernel_rfl) Tryd.underlying76 errRow Tryd.underlying128 Tryd.underlying154 rfl rfl Tryd.underlying9 (by kernel_rfl) (by kernel_rfl)
  have r1 := start_err (relS_start W) (g := 0) (by kernel_rfl) v c
  have r2 := start_err r1 (g := 2) (by kernel_rfl) v0 k0
  have r3 := start_err r2 (g := 3) (by kernel_rfl) v1 k1
  have r4 := start_err r3 (g := 1) (by kernel_rfl) v2 k2
  have r5 := relS_sen r4 b0
  have r6 := relS_sen r5 b1
  have r7 := relS_sen r6 b2
  exact ⟨_, ⟨⟨_, _, .tail _ (.tail _ (.tail _ (.tail _ (.tail _ (.tail _ (.head _))))))⟩, ⟨(a0.block, a0.off), (a1.block, a1.off), (a2.block, a2.off)⟩,
    ⟨.tail _ (.tail _ (.tail _ (.tail _ (.tail _ (.head _))))), .tail _ (.tail _ (.tail _ (.tail _ (.head _)))), .tail _ (.tail _ (.tail _ (.head _))), .tail _ (.tail _ (.head _)), .tail _ (.head _), .head _, addr_ne k0 k1 n01, addr_ne k0 k2 n02, addr_ne k1 k2 n12⟩⟩, r7⟩

/-! ### what is small -/
theorem flat_mem {α : Type} {f : α → AV} {l : List α} {x : α} (hx : x ∈ l) {c : AV} (hc : c ∈ (f x).cells) : c ∈ flat (l.map f) :=
  List.mem_flatMap.2 ⟨f x, List.mem_map.2 ⟨x, hx, rfl⟩, hc⟩
theorem okDs_of {d : List De} (h : Go.Aw.Sat (.sl 6 (d.map encD) .no)) (r : List Ru) : okP ⟨d, r⟩ := by
  refine ⟨by simpa using h.sl, fun x hx => ?_⟩
  have hc : ∀ c ∈ cD x, Go.Aw.Sat c := fun c hc => h.flat (flat_mem hx hc)
  have h1 := (hc (.sl 1 (x.names.map AV.str) .no) (by simp [cD])).sl
  have h2 := (hc (.sl 1 (x.types.map encI) .no) (by simp [cD])).sl
  exact ⟨by simpa using h1, by simpa using h2⟩
theorem okP_of (p : Pr) (h : Go.Aw.Sat (encP p)) : okP p := okDs_of (h.agg (c := .sl 6 (p.decls.map encD) .no) (by simp)) p.rules
theorem small_d_ok (d : List De) (r : Ru) (R : List En) (h : okP ⟨d, [r]⟩) : ACall Tryd.prog 10 [.sl 6 (d.map encD) .no, encRu r] R (fun v S => v = .bool (smallB ⟨d, [r]⟩) ∧ S = R) := by
  refine ACall_body tab_ok Tryd.func10 rfl rfl rfl (by kernel_rfl) (Nat.le_of_ble_eq_true rfl) ?_
  repeat (first | refine go_ ?_ | intro _)
  refine Or.inl ⟨⟨_, Tryd.func20, rfl, rfl⟩, ACall_args (ACall.mono ?_ (small_ok ⟨d, [r]⟩ _ h)) ⟨AVle.agg (bs := [.sl 6 (d.map encD) .no, .sl 4 ([r].map encRu) .no]) ⟨AVle.refl _, AVle.tk, trivial⟩ (by simp [AV.one]), trivial⟩⟩
  rintro _ S1 ⟨rfl, hS1⟩
  subst S1
  repeat (first | refine go_ ?_ | intro _)
  refine AW_ret ?_
  repeat (first | refine ⟨0, rfl, ?_⟩ | refine ⟨1, rfl, ?_⟩ | refine ⟨2, rfl, ?_⟩ | refine ⟨3, rfl, ?_⟩ | refine ⟨4, rfl, ?_⟩ | refine ⟨5, rfl, ?_⟩ | refine ⟨6, rfl, ?_⟩)
  refine ⟨_, R, AVle.eq ?_, (by repeat (first | exact SLe.rfl | refine SLe.tail ?_)), rfl, rfl⟩
  refine congrArg AV.bool ?_
  unfold smallI
  cases smallB ⟨d, [r]⟩ <;> rfl
theorem small_1 {d : List De} {r : Ru} (h : smallB ⟨d, [r]⟩ = true) : few r ∧ d.length ≤ 100 := by
  obtain ⟨h1, h2, _⟩ := few_of h
  exact ⟨h1 r (.head _), h2⟩

/-! ### what the laws look at first -/
theorem AVle.slFlat {sz : Nat} {es es' : List AV} {t : Tk} (hl : es.length = es'.length) (hf : AVleL (flat es) (flat es')) (hz : ∀ e ∈ es', e.cells.length = sz) (h1 : ∀ c ∈ flat es', c.one = true) : AVle (.sl sz es t) (.sl sz es' .no) := by
  intro K v hv
  rcases sl_cases hv with ⟨a0, rfl, rfl, ht⟩ | ⟨b, o, c, vs, ha, ht⟩
  · have : es' = [] := by simpa using hl.symm
    subst this; exact .slnil _ _ _ trivial
  · rw [ha.eq, hl]
    have h3 := hf.rel (show RelL K (flat es) vs from ha.rel)
    exact .sl (by rw [← hl]; exact ha.hcap) ha.hmax hz h1 h3.1 h3.2 ha.known trivial
def vT (s : Key) : T := .mk 1 s 0 []
def zT : T := .mk 0 [] 0 []
def twoD : De := ⟨[112], [[97], [98]], [1, 2], false, false, 0⟩
def atXY : At := ⟨[112], [vT [120], vT [121]]⟩
def atXX : At := ⟨[112], [vT [120], vT [120]]⟩
def litXY : Li := ⟨1, atXY, zT, zT⟩
def ruXY : Ru := ⟨atXY, [litXY], 0⟩
def ruXX : Ru := ⟨atXX, [litXY], 0⟩
theorem v_ok (s : Key) (R : List En) : ACall Tryd.prog 23 [.str s] R (fun v S => v = encU (vT s) ∧ S = R) := by
  refine ACall_body tab_ok Tryd.func23 rfl rfl rfl (by kernel_rfl) (Nat.le_of_ble_eq_true rfl) ?_
  repeat (first | refine go_ ?_ | intro _)
  refine AW_ret ?_
  refine ⟨rfl, 0, _, rfl, ⟨Nat.le_of_ble_eq_true rfl, Nat.le_of_ble_eq_true rfl⟩, _, R, ?_, (by repeat (first | exact SLe.rfl | refine SLe.tail ?_)), rfl, rfl⟩
  exact AVle.agg (bs := cT (vT s)) ⟨AVle.refl _, AVle.refl _, AVle.refl _, AVle.nil, trivial⟩ (by simp [cT, AV.one])
theorem two_ok (R : List En) : ACall Tryd.prog 24 [] R (fun v S => v = .sl 6 ([twoD].map encD) .no ∧ S = R) := by
  refine ACall_body tab_ok Tryd.func24 rfl rfl rfl (by kernel_rfl) (Nat.le_of_ble_eq_true rfl) ?_
  repeat (first | refine go_ ?_ | intro _)
  refine AW_ret ?_
  repeat (first | refine ⟨0, rfl, ?_⟩ | refine ⟨1, rfl, ?_⟩ | refine ⟨2, rfl, ?_⟩ | refine ⟨3, rfl, ?_⟩ | refine ⟨4, rfl, ?_⟩ | refine ⟨5, rfl, ?_⟩ | refine ⟨6, rfl, ?_⟩)
  refine ⟨_, R, ?_, (by repeat (first | exact SLe.rfl | refine SLe.tail ?_)), rfl, rfl⟩
  exact AVle.slFlat rfl ⟨AVle.refl _, AVle.tk, AVle.tk, AVle.refl _, AVle.refl _, AVle.refl _, trivial⟩ (by decide) (by decide)
theorem few_XY : few ruXY := by unfold few; decide +kernel
theorem few_XX : few ruXX := by unfold few; decide +kernel
theorem types_XY : typesV (varsR ruXY) [twoD] ruXY = ([1, 2], 0) := by
  have hv : varsR ruXY = [[120], [121]] := by kernel_rfl
  have hH : (sysOf [twoD] ruXY).H = [(vT [120], 1), (vT [121], 2), (vT [120], 1), (vT [121], 2)] := by kernel_rfl
  have hC : (sysOf [twoD] ruXY).C = [] := by kernel_rfl
  obtain ⟨σ, hσ⟩ : ∃ σ : Key → Int, σ = fun s => if s = [120] then 1 else if s = [121] then 2 else 0 := ⟨_, rfl⟩
  have h0 : σ [120] = 1 := by rw [hσ]; rfl
  have h1 : σ [121] = 2 := by rw [hσ]; rfl
  have h2 : ∀ s, σ s ≠ 0 → s = [120] ∨ s = [121] := fun s h => by
    rw [hσ] at h
    by_cases e : s = [120]
    · exact .inl e
    · by_cases e2 : s = [121]
      · exact .inr e2
      · simp [e, e2] at h
  rw [hv, types_sol (σ := σ) (by kernel_rfl) (by kernel_rfl)]
  · rw [List.map_cons, List.map_cons, List.map_nil, h0, h1]
  · intro s hs
    rcases h2 s hs with rfl | rfl
    · rw [h0]
      exact Dv.hard (t := vT [120]) (k := 1) (by rw [hH]; simp) rfl (by decide)
    · rw [h1]
      exact Dv.hard (t := vT [121]) (k := 2) (by rw [hH]; simp) rfl (by decide)
  · refine ⟨fun q hq _ _ => ?_, fun q hq => by rw [hC] at hq; exact nomatch hq⟩
    rw [hH] at hq
    simp only [List.mem_cons, List.not_mem_nil, or_false] at hq
    rcases hq with rfl | rfl | rfl | rfl <;> (rw [tyOf_var rfl]; first | exact h0 | exact h1)
  · intro s hs
    simp only [List.mem_cons, List.not_mem_nil, or_false] at hs
    rcases hs with rfl | rfl
    · rw [h0]; decide
    · rw [h1]; decide
theorem types_XX : typesV (varsR ruXX) [twoD] ruXX = ([], 53) := by
  have hH : (sysOf [twoD] ruXX).H = [(vT [120], 1), (vT [120], 2), (vT [120], 1), (vT [121], 2)] := by kernel_rfl
  refine types_none (by kernel_rfl) (by kernel_rfl) fun ⟨σ, hs⟩ => ?_
  have h1 := hs.1 (vT [120], 1) (by rw [hH]; simp) (by decide) (by decide)
  have h2 := hs.1 (vT [120], 2) (by rw [hH]; simp) (by decide) (by decide)
  rw [tyOf_var rfl] at h1 h2
  simp only [] at h1 h2
  rw [h1] at h2
  exact absurd h2 (by decide)
theorem shown_ok (b o : Nat) (e : Es) (R : List En) (hE0 : En.glob 0 [errE b o] ∈ R) (hEs : EsIn e R) : ACall Tryd.prog 9 [] R (fun v S => v = .bool true ∧ S = R) := by
  have k1 := fun R h0 hE => types_ok b o e [twoD] ruXY R h0 hE (by decide) few_XY
  have k2 := fun R h0 hE => types_ok b o e [twoD] ruXX R h0 hE (by decide) few_XX
  rw [types_XY] at k1
  rw [types_XX] at k2
  refine ACall_body tab_ok Tryd.func9 rfl rfl rfl (by kernel_rfl) (Nat.le_of_ble_eq_true rfl) ?_
  repeat (first | refine go_ ?_ | intro _)
  refine Or.inl ⟨⟨_, Tryd.func23, rfl, rfl⟩, ACall.mono ?_ (v_ok [120] _)⟩
  rintro _ S1 ⟨rfl, hS1⟩
  subst S1
  repeat (first | refine go_ ?_ | intro _)
  refine Or.inl ⟨⟨_, Tryd.func23, rfl, rfl⟩, ACall.mono ?_ (v_ok [121] _)⟩
  rintro _ S1 ⟨rfl, hS1⟩
  subst S1
  repeat (first | refine go_ ?_ | intro _)
  refine AW_draw tab_ok mixed 12 (by first | rfl | kernel_rfl) ?_
  repeat (first | refine go_ ?_ | intro _)
  apply call_step
  · rfl
  · exact Or.inl ⟨⟨_, Tryd.func24, rfl, rfl⟩, two_ok _⟩
  repeat (first | refine go_ ?_ | intro _)
  apply call_step
  · rfl
  · exact Or.inl ⟨⟨_, Tryd.func16, rfl, rfl⟩, ACall_args (k1 _ (.tail _ hE0) hEs.cons) ⟨AVle.refl _, AVle.agg (bs := cRu ruXY) ⟨AVle.refl _, AVle.tk, AVle.slFlat rfl ⟨AVle.refl _, AVle.refl _, AVle.tk, AVle.refl _, AVle.refl _, AVle.refl _, AVle.nil, AVle.refl _, AVle.refl _, AVle.refl _, AVle.nil, trivial⟩ (by decide) (by decide), AVle.refl _, trivial⟩ (by decide), trivial⟩⟩
  repeat (first | refine go_ ?_ | intro _)
  refine AW_draw tab_ok mixed 15 (by first | rfl | kernel_rfl) ?_
  repeat (first | refine go_ ?_ | intro _)
  apply call_step
  · rfl
  · exact Or.inl ⟨⟨_, Tryd.func24, rfl, rfl⟩, two_ok _⟩
  repeat (first | refine go_ ?_ | intro _)
  apply call_step
  · rfl
  · exact Or.inl ⟨⟨_, Tryd.func23, rfl, rfl⟩, v_ok [120] _⟩
  repeat (first | refine go_ ?_ | intro _)
  apply call_step
  · rfl
  · exact Or.inl ⟨⟨_, Tryd.func23, rfl, rfl⟩, v_ok [120] _⟩
  repeat (first | refine go_ ?_ | intro _)
  apply call_step
  · rfl
  · exact Or.inl ⟨⟨_, Tryd.func16, rfl, rfl⟩, ACall_args (k2 _ (.tail _ hE0) hEs.cons) ⟨AVle.refl _, AVle.agg (bs := cRu ruXX) ⟨AVle.refl _, AVle.tk, AVle.slFlat rfl ⟨AVle.refl _, AVle.refl _, AVle.tk, AVle.refl _, AVle.refl _, AVle.refl _, AVle.nil, AVle.refl _, AVle.refl _, AVle.refl _, AVle.nil, trivial⟩ (by decide) (by decide), AVle.refl _, trivial⟩ (by decide), trivial⟩⟩
  repeat (first | refine ga_ ?_ | intro _)
  refine Or.inl ⟨⟨_, Tryd.func18, rfl, rfl⟩, ACall_args (ACall.mono ?_ (sameInts_ok [1, 2] [1, 2] _ (by decide) (by decide))) ⟨AVle.refl _, AVle.tk, trivial⟩⟩
  rintro _ S1 ⟨rfl, hS1⟩
  subst S1
  repeat (first | refine ga_ ?_ | intro _)
  refine AW_ret ?_
  repeat (first | refine ⟨0, rfl, ?_⟩ | refine ⟨1, rfl, ?_⟩ | refine ⟨2, rfl, ?_⟩ | refine ⟨3, rfl, ?_⟩ | refine ⟨4, rfl, ?_⟩ | refine ⟨5, rfl, ?_⟩ | refine ⟨6, rfl, ?_⟩)
  refine ⟨_, R, AVle.eq ?_, (by repeat (first | exact SLe.rfl | refine SLe.tail ?_)), rfl, rfl⟩
  rfl

/-! ### three laws -/
theorem dtypeVars_ok (r : Ru) (d : List De) (rel : Key) (R : List En) (b o : Nat) (e : Es) (hE0 : En.glob 0 [errE b o] ∈ R) (hEs : EsIn e R) : ACall Tryd.prog 3 [encRu r, .sl 6 (d.map encD) .no, .str rel] R (fun v S => v = .bool true ∧ S = R) := by
  refine ACall_sat fun hs => ?_
  have hP := okDs_of (hs _ (.tail _ (.head _))) [r]
  have ks := fun R => small_d_ok d r R hP
  have kh := fun R h0 hE => shown_ok b o e R h0 hE
  by_cases hb : smallB ⟨d, [r]⟩ = true
  · obtain ⟨hf, hd⟩ := small_1 hb
    have hVl := varsR_len hf
    rw [hb] at ks
    refine ACall_body tab_ok Tryd.func3 rfl rfl rfl (by kernel_rfl) (Nat.le_of_ble_eq_true rfl) ?_
    repeat (first | refine go_ ?_ | intro _)
    refine Or.inl ⟨⟨_, Tryd.func9, rfl, rfl⟩, ACall.mono ?_ (kh _ (.tail _ hE0) hEs.cons)⟩
    rintro _ S1 ⟨rfl, hS1⟩
    subst S1
    repeat (first | refine go_ ?_ | intro _)
    refine Or.inl ⟨⟨_, Tryd.func10, rfl, rfl⟩, ACall.mono ?_ (ks _)⟩
    rintro _ S1 ⟨rfl, hS1⟩
    subst S1
    repeat (first | refine ga_ ?_ | intro _)
    refine Or.inl ⟨⟨_, Tryd.func11, rfl, rfl⟩, ACall.mono ?_ (find_ok d rel _ (by omega))⟩
    rintro _ S1 ⟨rfl, hS1⟩
    subst S1
    repeat (first | refine ga_ ?_ | intro _)
    refine Or.inl ⟨⟨_, Tryd.func12, rfl, rfl⟩, ACall.mono ?_ (refFind_ok d rel _ (by omega))⟩
    rintro _ S1 ⟨rfl, hS1⟩
    subst S1
    repeat (first | refine ga_ ?_ | intro _)
    refine AW_draw tab_ok mixed 19 (by first | rfl | kernel_rfl) ?_
    repeat (first | refine ga_ ?_ | intro _)
    apply call_step
    · rfl
    · exact Or.inl ⟨⟨_, Tryd.func14, rfl, rfl⟩, vars_ok b o r _ (.tail _ hE0) hf⟩
    repeat (first | refine ga_ ?_ | intro _)
    apply call_step
    · rfl
    · exact Or.inl ⟨⟨_, Tryd.func15, rfl, rfl⟩, refVars_ok r _ hf⟩
    repeat (first | refine ga_ ?_ | intro _)
    apply call_step
    · rfl
    · exact Or.inl ⟨⟨_, Tryd.func13, rfl, rfl⟩, sameTexts_ok (varsR r) (varsR r) _ (by omega) (by omega)⟩
    repeat (first | refine ga_ ?_ | intro _)
    refine known_true (b := decide (varsR r = varsR r)) (by first | rfl | (simp; done) | (simp; omega) | decide) ?_
    repeat (first | refine ga_ ?_ | intro _)
    refine known_true (b := decide ((findN d rel : Int) = (findN d rel : Int))) (by first | rfl | (simp; done) | (simp; omega) | decide) ?_
    repeat (first | refine ga_ ?_ | intro _)
    refine AW_ret ?_
    repeat (first | refine ⟨0, rfl, ?_⟩ | refine ⟨1, rfl, ?_⟩ | refine ⟨2, rfl, ?_⟩ | refine ⟨3, rfl, ?_⟩ | refine ⟨4, rfl, ?_⟩ | refine ⟨5, rfl, ?_⟩ | refine ⟨6, rfl, ?_⟩)
    refine ⟨_, R, AVle.eq ?_, (by repeat (first | exact SLe.rfl | refine SLe.tail ?_)), rfl, rfl⟩
    exact congrArg AV.bool (by simp)
  · have hb' : smallB ⟨d, [r]⟩ = false := by simpa using hb
    rw [hb'] at ks
    refine ACall_body tab_ok Tryd.func3 rfl rfl rfl (by kernel_rfl) (Nat.le_of_ble_eq_true rfl) ?_
    repeat (first | refine go_ ?_ | intro _)
    refine Or.inl ⟨⟨_, Tryd.func9, rfl, rfl⟩, ACall.mono ?_ (kh _ (.tail _ hE0) hEs.cons)⟩
    rintro _ S1 ⟨rfl, hS1⟩
    subst S1
    repeat (first | refine go_ ?_ | intro _)
    refine Or.inl ⟨⟨_, Tryd.func10, rfl, rfl⟩, ACall.mono ?_ (ks _)⟩
    rintro _ S1 ⟨rfl, hS1⟩
    subst S1
    repeat (first | refine ga_ ?_ | intro _)
    refine AW_ret ?_
    repeat (first | refine ⟨0, rfl, ?_⟩ | refine ⟨1, rfl, ?_⟩ | refine ⟨2, rfl, ?_⟩ | refine ⟨3, rfl, ?_⟩ | refine ⟨4, rfl, ?_⟩ | refine ⟨5, rfl, ?_⟩ | refine ⟨6, rfl, ?_⟩)
    refine ⟨_, R, AVle.eq ?_, (by repeat (first | exact SLe.rfl | refine SLe.tail ?_)), rfl, rfl⟩
    rfl
theorem dtypeTypes_ok (d : List De) (r : Ru) (R : List En) (b o : Nat) (e : Es) (hE0 : En.glob 0 [errE b o] ∈ R) (hEs : EsIn e R) : ACall Tryd.prog 4 [.sl 6 (d.map encD) .no, encRu r] R (fun v S => v = .bool true ∧ S = R) := by
  refine ACall_sat fun hs => ?_
  have hP := okDs_of (hs _ (.head _)) [r]
  have ks := fun R => small_d_ok d r R hP
  have kh := fun R h0 hE => shown_ok b o e R h0 hE
  by_cases hb : smallB ⟨d, [r]⟩ = true
  · obtain ⟨hf, hd⟩ := small_1 hb
    rw [hb] at ks
    have k1 := fun R h0 hE => types_ok b o e d r R h0 hE hd hf
    have k2 := fun R => refTypes_ok d r R hd hf
    obtain ⟨l, c, hlc⟩ : ∃ l c, typesV (varsR r) d r = (l, c) := ⟨_, _, rfl⟩
    have hll : l.length ≤ 2000 := by
      have hVl := varsR_len hf
      have hc := typesV_cases (varsR r) d r
      rw [hlc] at hc
      rcases hc with ⟨_, h⟩ | ⟨_, _, h⟩ | ⟨_, _, h⟩ | h
      · cases h; exact Nat.zero_le _
      · cases h; exact Nat.zero_le _
      · cases h; exact Nat.zero_le _
      · obtain ⟨_, _, _, e⟩ := typesV_0 (V := varsR r) (d := d) (r := r) (by rw [hlc]; exact h)
        rw [hlc] at e
        have : l = (varsR r).map (dTy (sysOf d r)) := congrArg Prod.fst e
        rw [this, List.length_map]; exact hVl
    rw [hlc] at k1 k2
    unfold typesA at k1 k2
    refine ACall_body tab_ok Tryd.func4 rfl rfl rfl (by kernel_rfl) (Nat.le_of_ble_eq_true rfl) ?_
    repeat (first | refine go_ ?_ | intro _)
    refine Or.inl ⟨⟨_, Tryd.func9, rfl, rfl⟩, ACall.mono ?_ (kh _ (.tail _ hE0) hEs.cons)⟩
    rintro _ S1 ⟨rfl, hS1⟩
    subst S1
    repeat (first | refine go_ ?_ | intro _)
    refine Or.inl ⟨⟨_, Tryd.func10, rfl, rfl⟩, ACall.mono ?_ (ks _)⟩
    rintro _ S1 ⟨rfl, hS1⟩
    subst S1
    repeat (first | refine ga_ ?_ | intro _)
    refine Or.inl ⟨⟨_, Tryd.func16, rfl, rfl⟩, ACall.mono ?_ (k1 _ (.tail _ hE0) hEs.cons)⟩
    rintro _ S1 ⟨rfl, hS1⟩
    subst S1
    repeat (first | refine ga_ ?_ | intro _)
    refine Or.inl ⟨⟨_, Tryd.func17, rfl, rfl⟩, ACall.mono ?_ (k2 _)⟩
    rintro _ S1 ⟨rfl, hS1⟩
    subst S1
    repeat (first | refine ga_ ?_ | intro _)
    refine Or.inl ⟨⟨_, Tryd.func18, rfl, rfl⟩, ACall.mono ?_ (sameInts_ok l l _ (by omega) (by omega))⟩
    rintro _ S1 ⟨rfl, hS1⟩
    subst S1
    repeat (first | refine ga_ ?_ | intro _)
    refine known_true (b := decide (l = l)) (by first | rfl | (simp; done) | (simp; omega) | decide) ?_
    repeat (first | refine ga_ ?_ | intro _)
    refine AW_ret ?_
    repeat (first | refine ⟨0, rfl, ?_⟩ | refine ⟨1, rfl, ?_⟩ | refine ⟨2, rfl, ?_⟩ | refine ⟨3, rfl, ?_⟩ | refine ⟨4, rfl, ?_⟩ | refine ⟨5, rfl, ?_⟩ | refine ⟨6, rfl, ?_⟩)
    refine ⟨_, R, AVle.eq ?_, (by repeat (first | exact SLe.rfl | refine SLe.tail ?_)), rfl, rfl⟩
    exact congrArg AV.bool (by simp)
  · have hb' : smallB ⟨d, [r]⟩ = false := by simpa using hb
    rw [hb'] at ks
    refine ACall_body tab_ok Tryd.func4 rfl rfl rfl (by kernel_rfl) (Nat.le_of_ble_eq_true rfl) ?_
    repeat (first | refine go_ ?_ | intro _)
    refine Or.inl ⟨⟨_, Tryd.func9, rfl, rfl⟩, ACall.mono ?_ (kh _ (.tail _ hE0) hEs.cons)⟩
    rintro _ S1 ⟨rfl, hS1⟩
    subst S1
    repeat (first | refine go_ ?_ | intro _)
    refine Or.inl ⟨⟨_, Tryd.func10, rfl, rfl⟩, ACall.mono ?_ (ks _)⟩
    rintro _ S1 ⟨rfl, hS1⟩
    subst S1
    repeat (first | refine ga_ ?_ | intro _)
    refine AW_ret ?_
    repeat (first | refine ⟨0, rfl, ?_⟩ | refine ⟨1, rfl, ?_⟩ | refine ⟨2, rfl, ?_⟩ | refine ⟨3, rfl, ?_⟩ | refine ⟨4, rfl, ?_⟩ | refine ⟨5, rfl, ?_⟩ | refine ⟨6, rfl, ?_⟩)
    refine ⟨_, R, AVle.eq ?_, (by repeat (first | exact SLe.rfl | refine SLe.tail ?_)), rfl, rfl⟩
    rfl
theorem smallI_0 {p : Pr} (h : smallB p = false) : smallI p = 0 := by rw [smallI, if_neg (by rw [h]; simp)]
theorem smallI_1 {p : Pr} (h : smallB p = true) : smallI p = 1 := by rw [smallI, if_pos h]
theorem dtypeChecks_ok (p : Pr) (R : List En) (b o : Nat) (e : Es) (hE0 : En.glob 0 [errE b o] ∈ R) (hEs : EsIn e R) : ACall Tryd.prog 7 [encP p] R (fun v S => v = .bool true ∧ S = R) := by
  refine ACall_sat fun hs => ?_
  have hP := okP_of p (hs _ (.head _))
  have ks := fun R => small_ok p R hP
  have kh := fun R h0 hE => shown_ok b o e R h0 hE
  by_cases hb : smallB p = true
  · obtain ⟨hf, hd, hr⟩ := few_of hb
    rw [smallI_1 hb] at ks
    have k1 := fun R h0 hE => check_ok b o e p R h0 hE hd hr hf
    have k2 := fun R => refCheck_ok p R hd hr hf
    obtain ⟨l, c, hlc⟩ : ∃ l c, checkV p = (l, c) := ⟨_, _, rfl⟩
    rw [hlc] at k1 k2
    unfold checkA at k1 k2
    refine ACall_body tab_ok Tryd.func7 rfl rfl rfl (by kernel_rfl) (Nat.le_of_ble_eq_true rfl) ?_
    repeat (first | refine go_ ?_ | intro _)
    refine Or.inl ⟨⟨_, Tryd.func9, rfl, rfl⟩, ACall.mono ?_ (kh _ (.tail _ hE0) hEs.cons)⟩
    rintro _ S1 ⟨rfl, hS1⟩
    subst S1
    repeat (first | refine go_ ?_ | intro _)
    refine Or.inl ⟨⟨_, Tryd.func20, rfl, rfl⟩, ACall.mono ?_ (ks _)⟩
    rintro _ S1 ⟨rfl, hS1⟩
    subst S1
    repeat (first | refine ga_ ?_ | intro _)
    refine Or.inl ⟨⟨_, Tryd.func21, rfl, rfl⟩, ACall.mono ?_ (k1 _ (.tail _ hE0) hEs.cons)⟩
    rintro _ S1 ⟨rfl, hS1⟩
    subst S1
    repeat (first | refine ga_ ?_ | intro _)
    refine Or.inl ⟨⟨_, Tryd.func22, rfl, rfl⟩, ACall.mono ?_ (k2 _)⟩
    rintro _ S1 ⟨rfl, hS1⟩
    subst S1
    repeat (first | refine ga_ ?_ | intro _)
    refine known_true (b := decide (l = l)) (by first | rfl | (simp; done) | (simp; omega) | decide) ?_
    repeat (first | refine ga_ ?_ | intro _)
    refine AW_ret ?_
    repeat (first | refine ⟨0, rfl, ?_⟩ | refine ⟨1, rfl, ?_⟩ | refine ⟨2, rfl, ?_⟩ | refine ⟨3, rfl, ?_⟩ | refine ⟨4, rfl, ?_⟩ | refine ⟨5, rfl, ?_⟩ | refine ⟨6, rfl, ?_⟩)
    refine ⟨_, R, AVle.eq ?_, (by repeat (first | exact SLe.rfl | refine SLe.tail ?_)), rfl, rfl⟩
    exact congrArg AV.bool (by simp)
  · rw [smallI_0 (by simpa using hb)] at ks
    refine ACall_body tab_ok Tryd.func7 rfl rfl rfl (by kernel_rfl) (Nat.le_of_ble_eq_true rfl) ?_
    repeat (first | refine go_ ?_ | intro _)
    refine Or.inl ⟨⟨_, Tryd.func9, rfl, rfl⟩, ACall.mono ?_ (kh _ (.tail _ hE0) hEs.cons)⟩
    rintro _ S1 ⟨rfl, hS1⟩
    subst S1
    repeat (first | refine go_ ?_ | intro _)
    refine Or.inl ⟨⟨_, Tryd.func20, rfl, rfl⟩, ACall.mono ?_ (ks _)⟩
    rintro _ S1 ⟨rfl, hS1⟩
    subst S1
    repeat (first | refine ga_ ?_ | intro _)
    refine AW_ret ?_
    repeat (first | refine ⟨0, rfl, ?_⟩ | refine ⟨1, rfl, ?_⟩ | refine ⟨2, rfl, ?_⟩ | refine ⟨3, rfl, ?_⟩ | refine ⟨4, rfl, ?_⟩ | refine ⟨5, rfl, ?_⟩ | refine ⟨6, rfl, ?_⟩)
    refine ⟨_, R, AVle.eq ?_, (by repeat (first | exact SLe.rfl | refine SLe.tail ?_)), rfl, rfl⟩
    rfl
end Go.Proofs.YtkmalncnaodkiaaDoor
