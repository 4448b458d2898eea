/-
  Which files may be; the program. Own work.
-/
import Derived.Test.YtnkmjbjpmocnbaaDoorP13
import Derived.Test.YtnkmjbjpmocnbaaDoorP10
import Derived.Test.YtnkmjbjpmocnbaaDoorP7
set_option linter.all false
namespace Go.Proofs.YtnkmjbjpmocnbaaDoor
open Go.Aw Go.RowKit
set_option maxHeartbeats 4000000

def partsB (names : List (List UInt8)) (types : List Y) : Bool := decide (names.length ≤ 200) && (decide (types.length = names.length) && (names.zip types).all fun x => ownB x.1 && rightY x.2 60)
def rightSc (d : Sc) : Bool := ownB d.s && partsB d.names d.types
def rightFn (g : Fn) : Bool := ownB g.s && (partsB g.names g.types && ((rightY g.ret 60 || noY g.ret) && rightZs g.l 40))
def rightF (f : Fi) : Bool := f.structs.all rightSc && f.funcs.all rightFn
theorem areParts_ok (names : List (List UInt8)) (types : List Y) (R : List En) (hE : spE ∈ R) (hl : names.length ≤ 9223372036854775807) : ACall Tryd.prog 47 [.sl 1 (names.map AV.str) .no, .sl 3 (encYs types) .no] R (fun v S => v = .bool (partsB names types) ∧ S = R) := by
  refine ACall_body tab_ok Tryd.func47 rfl rfl rfl (by kernel_rfl) (Nat.le_of_ble_eq_true rfl) ?_
  repeat (first | refine go_ ?_ | intro _)
  refine gsplit (200 < names.length) (by first | (simp; done) | (simp <;> omega) | decide) (fun h => ?_) (fun h => ?_)
  · repeat (first | refine ga_ ?_ | intro _)
    refine AW_ret ?_
    repeat (first | refine ⟨0, rfl, ?_⟩ | refine ⟨1, rfl, ?_⟩ | refine ⟨2, rfl, ?_⟩ | refine ⟨3, rfl, ?_⟩ | refine ⟨4, rfl, ?_⟩ | refine ⟨5, rfl, ?_⟩ | refine ⟨6, rfl, ?_⟩)
    refine ⟨_, R, AVle.eq ?_, (by repeat (first | exact SLe.rfl | refine SLe.tail ?_)), rfl, rfl⟩
    exact congrArg AV.bool (by rw [partsB, decide_eq_false (by omega)]; rfl)
  have h1 := h
  repeat (first | refine ga_ ?_ | intro _)
  refine AW_iff (¬ types.length = names.length) rfl (by first | (simp; done) | (simp <;> omega) | decide) (fun h => ?_) (fun h => ?_)
  · repeat (first | refine ga_ ?_ | intro _)
    refine AW_ret ?_
    repeat (first | refine ⟨0, rfl, ?_⟩ | refine ⟨1, rfl, ?_⟩ | refine ⟨2, rfl, ?_⟩ | refine ⟨3, rfl, ?_⟩ | refine ⟨4, rfl, ?_⟩ | refine ⟨5, rfl, ?_⟩ | refine ⟨6, rfl, ?_⟩)
    refine ⟨_, R, AVle.eq ?_, (by repeat (first | exact SLe.rfl | refine SLe.tail ?_)), rfl, rfl⟩
    exact congrArg AV.bool (by rw [partsB, decide_eq_false h]; simp)
  have h2 : types.length = names.length := Decidable.not_not.1 h
  have hzl : (names.zip types).length = names.length := by rw [List.length_zip]; omega
  have e : partsB names types = (names.zip types).all fun x => ownB x.1 && rightY x.2 60 := by rw [partsB, decide_eq_true (show names.length ≤ 200 by omega), decide_eq_true h2]; rfl
  repeat (first | refine go_ ?_ | intro _)
  refine AW_for (α := Nat) (fun z => ⟨[(1, .sl 3 (encYs types) .no), (17, .sl 1 (names.map AV.str) .no), (18, .int .i64 (names.length : Nat)), (19, .int .i64 (z : Nat))], []⟩) (fun z => R) (fun z => names.length - z) (fun z => z ≤ names.length ∧ partsB names types = ((names.zip types).drop z).all fun x => ownB x.1 && rightY x.2 60) (0) ?_ (weak_of ?_ rfl ?_) (fun z hz => ?_)
  · exact ⟨Nat.zero_le _, e⟩
  · repeat (first | exact trivial | refine ⟨(AVle.eq (congrArg (AV.int .i64) (by simp))), ?_⟩ | refine ⟨AVle.refl _, ?_⟩ | refine ⟨AVle.tk, ?_⟩ | refine ⟨AVle.nil, ?_⟩ | refine ⟨AVle.nilFull, ?_⟩ | refine ⟨AVle.eq (congrArg (AV.int .i64) (by first | (simp; done) | (simp; omega) | (rw [wrap_i64 (by first | omega | (simp; omega))]; first | rfl | omega | (simp; done) | (simp; omega)))), ?_⟩)
  · repeat (first | exact SLe.rfl | refine SLe.tail ?_ | refine SLe.full ?_)
  obtain ⟨i1, i2⟩ := hz
  repeat (first | refine go_ ?_ | intro _)
  refine AW_iff (z < names.length) rfl (by first | (simp; done) | (simp <;> omega) | decide) (fun h => ?_) (fun h => ?_)
  · have hlt := h
    have hlt2 : z < types.length := by omega
    have hlt3 : z < (names.zip types).length := by omega
    obtain ⟨s, hs⟩ : ∃ x, x = names[z] := ⟨_, rfl⟩
    obtain ⟨t, ht⟩ : ∃ x, x = types[z] := ⟨_, rfl⟩
    have hx : (names.zip types)[z] = (s, t) := by rw [List.getElem_zip, hs, ht]
    rw [dropAt hlt3, hx, List.all_cons] at i2
    replace i2 : partsB names types = ((ownB s && rightY t 60) && ((names.zip types).drop (z + 1)).all fun x => ownB x.1 && rightY x.2 60) := i2
    repeat (first | refine go_ ?_ | intro _)
    refine at_get (z) (.str s) (by first | rfl | omega | (rw [wrap_i64 (by omega)]; omega)) (by rw [List.getElem?_map, List.getElem?_eq_getElem hlt, hs]; rfl) ?_
    repeat (first | refine go_ ?_ | intro _)
    refine Or.inl ⟨⟨_, Tryd.func9, rfl, rfl⟩, ACall.mono ?_ (isName_ok s _ hE)⟩
    rintro _ S1 ⟨rfl, hS1⟩
    subst S1
    repeat (first | refine ga_ ?_ | intro _)
    refine gsplit (¬ ownB s = true) (by first | (simp; done) | (simp <;> omega) | decide) (fun h => ?_) (fun h => ?_)
    · have g1 : ownB s = false := by simpa using h
      repeat (first | refine ga_ ?_ | intro _)
      refine AW_ret ?_
      repeat (first | refine ⟨0, rfl, ?_⟩ | refine ⟨1, rfl, ?_⟩ | refine ⟨2, rfl, ?_⟩ | refine ⟨3, rfl, ?_⟩ | refine ⟨4, rfl, ?_⟩ | refine ⟨5, rfl, ?_⟩ | refine ⟨6, rfl, ?_⟩)
      refine ⟨_, R, AVle.eq ?_, (by repeat (first | exact SLe.rfl | refine SLe.tail ?_)), rfl, rfl⟩
      exact congrArg AV.bool (by rw [i2, g1]; rfl)
    have g1 : ownB s = true := Classical.not_not.1 h
    repeat (first | refine ga_ ?_ | intro _)
    refine at_get (z) (encV t) (by first | rfl | omega | (rw [wrap_i64 (by omega)]; omega)) (by rw [ht]; exact encYs_get hlt2) ?_
    repeat (first | refine ga_ ?_ | intro _)
    refine Or.inl ⟨⟨_, Tryd.func48, rfl, rfl⟩, ACall.mono ?_ (isType_ok 60 t _ hE (by omega))⟩
    rintro _ S1 ⟨rfl, hS1⟩
    subst S1
    repeat (first | refine ga_ ?_ | intro _)
    refine AW_cond (b := !rightY t 60) rfl (fun h => ?_) (fun h => ?_)
    · have g2 : rightY t 60 = false := by simpa using h
      repeat (first | refine ga_ ?_ | intro _)
      refine AW_ret ?_
      repeat (first | refine ⟨0, rfl, ?_⟩ | refine ⟨1, rfl, ?_⟩ | refine ⟨2, rfl, ?_⟩ | refine ⟨3, rfl, ?_⟩ | refine ⟨4, rfl, ?_⟩ | refine ⟨5, rfl, ?_⟩ | refine ⟨6, rfl, ?_⟩)
      refine ⟨_, R, AVle.eq ?_, (by repeat (first | exact SLe.rfl | refine SLe.tail ?_)), rfl, rfl⟩
      exact congrArg AV.bool (by rw [i2, g2]; simp)
    have g2 : rightY t 60 = true := by simpa using h
    repeat (first | refine ga_ ?_ | intro _)
    refine ⟨z + 1, ?_, ?_, weak_of ?_ rfl ?_⟩
    · omega
    · exact ⟨hlt, by rw [i2, g1, g2]; rfl⟩
    · repeat (first | exact trivial | refine ⟨AVle.refl _, ?_⟩ | refine ⟨AVle.tk, ?_⟩ | refine ⟨AVle.nil, ?_⟩ | refine ⟨AVle.nilFull, ?_⟩ | refine ⟨AVle.eq (congrArg (AV.int .i64) (by first | (simp; done) | (simp; omega) | (rw [wrap_i64 (by first | omega | (simp; omega))]; first | rfl | omega | (simp; done) | (simp; omega)))), ?_⟩)
    · repeat (first | exact SLe.rfl | refine SLe.tail ?_ | refine SLe.full ?_)
  · repeat (first | refine go_ ?_ | intro _)
    refine AW_ret ?_
    repeat (first | refine ⟨0, rfl, ?_⟩ | refine ⟨1, rfl, ?_⟩ | refine ⟨2, rfl, ?_⟩ | refine ⟨3, rfl, ?_⟩ | refine ⟨4, rfl, ?_⟩ | refine ⟨5, rfl, ?_⟩ | refine ⟨6, rfl, ?_⟩)
    refine ⟨_, R, AVle.eq ?_, (by repeat (first | exact SLe.rfl | refine SLe.tail ?_)), rfl, rfl⟩
    exact congrArg AV.bool (by rw [i2, List.drop_of_length_le (by omega)]; rfl)
theorem right_ok (f : Fi) (R : List En) (hE : spE ∈ R) (hc : cntFi f ≤ 3000) : ACall Tryd.prog 20 [encFi f] R (fun v S => v = .bool (rightF f) ∧ S = R) := by
  unfold cntFi at hc
  have c1 := len_cntScs f.structs
  have c2 := len_cntFns f.funcs
  refine ACall_body tab_ok Tryd.func20 rfl rfl rfl (by kernel_rfl) (Nat.le_of_ble_eq_true rfl) ?_
  repeat (first | refine go_ ?_ | intro _)
  rename_i p
  refine AW_for (α := Nat) (fun z => ⟨[(1, .ptr p 0), (8, .sl 3 (f.structs.map encSc) .no), (9, .int .i64 (f.structs.length : Nat)), (10, .int .i64 (z : Nat))], []⟩) (fun z => .cells p (cFi f) :: R) (fun z => f.structs.length - z) (fun z => z ≤ f.structs.length ∧ f.structs.all rightSc = (f.structs.drop z).all rightSc) (0) ?_ (weak_of ?_ rfl ?_) (fun z hz => ?_)
  · exact ⟨Nat.zero_le _, rfl⟩
  · repeat (first | exact trivial | refine ⟨(AVle.eq (congrArg (AV.int .i64) (by simp))), ?_⟩ | refine ⟨AVle.refl _, ?_⟩ | refine ⟨AVle.tk, ?_⟩ | refine ⟨AVle.nil, ?_⟩ | refine ⟨AVle.nilFull, ?_⟩ | refine ⟨AVle.eq (congrArg (AV.int .i64) (by first | (simp; done) | (simp; omega) | (rw [wrap_i64 (by first | omega | (simp; omega))]; first | rfl | omega | (simp; done) | (simp; omega)))), ?_⟩)
  · repeat (first | exact SLe.rfl | refine SLe.tail ?_ | refine SLe.full ?_)
  obtain ⟨i1, i2⟩ := hz
  repeat (first | refine go_ ?_ | intro _)
  refine AW_iff (z < f.structs.length) rfl (by first | (simp; done) | (simp <;> omega) | decide) (fun h => ?_) (fun h => ?_)
  · have hlt := h
    obtain ⟨x, hx⟩ : ∃ x, x = f.structs[z] := ⟨_, rfl⟩
    have cx : cntSc x ≤ cntScs f.structs := cntScs_mem (hx ▸ List.getElem_mem hlt)
    unfold cntSc at cx
    rw [dropAt hlt, ← hx, List.all_cons] at i2
    repeat (first | refine go_ ?_ | intro _)
    refine at_get (z) (encSc x) (by first | rfl | omega | (rw [wrap_i64 (by omega)]; omega)) (by exact encScs_get hlt hx) ?_
    repeat (first | refine go_ ?_ | intro _)
    refine Or.inl ⟨⟨_, Tryd.func9, rfl, rfl⟩, ACall.mono ?_ (isName_ok x.s _ (.tail _ (.tail _ hE)))⟩
    rintro _ S1 ⟨rfl, hS1⟩
    subst S1
    repeat (first | refine ga_ ?_ | intro _)
    refine gsplit (¬ ownB x.s = true) (by first | (simp; done) | (simp <;> omega) | decide) (fun h => ?_) (fun h => ?_)
    · have g1 : ownB x.s = false := by simpa using h
      repeat (first | refine ga_ ?_ | intro _)
      refine AW_ret ?_
      repeat (first | refine ⟨0, rfl, ?_⟩ | refine ⟨1, rfl, ?_⟩ | refine ⟨2, rfl, ?_⟩ | refine ⟨3, rfl, ?_⟩ | refine ⟨4, rfl, ?_⟩ | refine ⟨5, rfl, ?_⟩ | refine ⟨6, rfl, ?_⟩)
      refine ⟨_, R, AVle.eq ?_, (by repeat (first | exact SLe.rfl | refine SLe.tail ?_)), rfl, rfl⟩
      exact congrArg AV.bool (by rw [rightF, i2, rightSc, g1]; rfl)
    have g1 : ownB x.s = true := Classical.not_not.1 h
    repeat (first | refine ga_ ?_ | intro _)
    refine Or.inl ⟨⟨_, Tryd.func47, rfl, rfl⟩, ACall.mono ?_ (areParts_ok x.names x.types _ (.tail _ (.tail _ hE)) (by omega))⟩
    rintro _ S1 ⟨rfl, hS1⟩
    subst S1
    repeat (first | refine ga_ ?_ | intro _)
    refine AW_cond (b := !partsB x.names x.types) rfl (fun h => ?_) (fun h => ?_)
    · have g2 : partsB x.names x.types = false := by simpa using h
      repeat (first | refine ga_ ?_ | intro _)
      refine AW_ret ?_
      repeat (first | refine ⟨0, rfl, ?_⟩ | refine ⟨1, rfl, ?_⟩ | refine ⟨2, rfl, ?_⟩ | refine ⟨3, rfl, ?_⟩ | refine ⟨4, rfl, ?_⟩ | refine ⟨5, rfl, ?_⟩ | refine ⟨6, rfl, ?_⟩)
      refine ⟨_, R, AVle.eq ?_, (by repeat (first | exact SLe.rfl | refine SLe.tail ?_)), rfl, rfl⟩
      exact congrArg AV.bool (by rw [rightF, i2, rightSc, g2]; simp)
    have g2 : partsB x.names x.types = true := by simpa using h
    repeat (first | refine ga_ ?_ | intro _)
    refine ⟨z + 1, ?_, ?_, weak_of ?_ rfl ?_⟩
    · omega
    · exact ⟨hlt, by rw [i2, rightSc, g1, g2]; rfl⟩
    · repeat (first | exact trivial | refine ⟨AVle.refl _, ?_⟩ | refine ⟨AVle.tk, ?_⟩ | refine ⟨AVle.nil, ?_⟩ | refine ⟨AVle.nilFull, ?_⟩ | refine ⟨AVle.eq (congrArg (AV.int .i64) (by first | (simp; done) | (simp; omega) | (rw [wrap_i64 (by first | omega | (simp; omega))]; first | rfl | omega | (simp; done) | (simp; omega)))), ?_⟩)
    · refine SW.le ?_
      repeat (first | exact SW.nil | refine SW.cons ?_ | refine SW.cells (by repeat (first | exact trivial | refine ⟨AVle.refl _, ?_⟩ | refine ⟨AVle.nilFull, ?_⟩ | refine ⟨AVle.tk, ?_⟩ | refine ⟨AVle.nil, ?_⟩)) rfl ?_ | refine SW.full ?_ | refine SW.drop ?_)
  have e1 : f.structs.all rightSc = true := by rw [i2, List.drop_of_length_le (by omega)]; rfl
  have e : rightF f = f.funcs.all rightFn := by rw [rightF, e1]; rfl
  clear i1 i2 h
  repeat (first | refine go_ ?_ | intro _)
  refine AW_for (α := Nat) (fun z => ⟨[(1, .ptr p 0), (28, .sl 7 (f.funcs.map encFn) .no), (29, .int .i64 (f.funcs.length : Nat)), (30, .int .i64 (z : Nat))], []⟩) (fun z => .cells p (cFi f) :: R) (fun z => f.funcs.length - z) (fun z => z ≤ f.funcs.length ∧ f.funcs.all rightFn = (f.funcs.drop z).all rightFn) (0) ?_ (weak_of ?_ rfl ?_) (fun z hz => ?_)
  · exact ⟨Nat.zero_le _, rfl⟩
  · repeat (first | exact trivial | refine ⟨(AVle.eq (congrArg (AV.int .i64) (by simp))), ?_⟩ | refine ⟨AVle.refl _, ?_⟩ | refine ⟨AVle.tk, ?_⟩ | refine ⟨AVle.nil, ?_⟩ | refine ⟨AVle.nilFull, ?_⟩ | refine ⟨AVle.eq (congrArg (AV.int .i64) (by first | (simp; done) | (simp; omega) | (rw [wrap_i64 (by first | omega | (simp; omega))]; first | rfl | omega | (simp; done) | (simp; omega)))), ?_⟩)
  · repeat (first | exact SLe.rfl | refine SLe.tail ?_ | refine SLe.full ?_)
  obtain ⟨i1, i2⟩ := hz
  repeat (first | refine go_ ?_ | intro _)
  refine AW_iff (z < f.funcs.length) rfl (by first | (simp; done) | (simp <;> omega) | decide) (fun h => ?_) (fun h => ?_)
  · have hlt := h
    obtain ⟨x, hx⟩ : ∃ x, x = f.funcs[z] := ⟨_, rfl⟩
    have cx : cntFn x ≤ cntFns f.funcs := cntFns_mem (hx ▸ List.getElem_mem hlt)
    unfold cntFn at cx
    rw [dropAt hlt, ← hx, List.all_cons] at i2
    repeat (first | refine go_ ?_ | intro _)
    refine at_get (z) (encFn x) (by first | rfl | omega | (rw [wrap_i64 (by omega)]; omega)) (by exact encFns_get hlt hx) ?_
    repeat (first | refine go_ ?_ | intro _)
    refine Or.inl ⟨⟨_, Tryd.func9, rfl, rfl⟩, ACall.mono ?_ (isName_ok x.s _ (.tail _ (.tail _ hE)))⟩
    rintro _ S1 ⟨rfl, hS1⟩
    subst S1
    repeat (first | refine ga_ ?_ | intro _)
    refine gsplit (¬ ownB x.s = true) (by first | (simp; done) | (simp <;> omega) | decide) (fun h => ?_) (fun h => ?_)
    · have g1 : ownB x.s = false := by simpa using h
      repeat (first | refine ga_ ?_ | intro _)
      refine AW_ret ?_
      repeat (first | refine ⟨0, rfl, ?_⟩ | refine ⟨1, rfl, ?_⟩ | refine ⟨2, rfl, ?_⟩ | refine ⟨3, rfl, ?_⟩ | refine ⟨4, rfl, ?_⟩ | refine ⟨5, rfl, ?_⟩ | refine ⟨6, rfl, ?_⟩)
      refine ⟨_, R, AVle.eq ?_, (by repeat (first | exact SLe.rfl | refine SLe.tail ?_)), rfl, rfl⟩
      exact congrArg AV.bool (by rw [e, i2, rightFn, g1]; rfl)
    have g1 : ownB x.s = true := Classical.not_not.1 h
    repeat (first | refine ga_ ?_ | intro _)
    refine Or.inl ⟨⟨_, Tryd.func47, rfl, rfl⟩, ACall.mono ?_ (areParts_ok x.names x.types _ (.tail _ (.tail _ hE)) (by omega))⟩
    rintro _ S1 ⟨rfl, hS1⟩
    subst S1
    repeat (first | refine ga_ ?_ | intro _)
    refine gsplit (¬ partsB x.names x.types = true) (by first | (simp; done) | (simp <;> omega) | decide) (fun h => ?_) (fun h => ?_)
    · have g2 : partsB x.names x.types = false := by simpa using h
      repeat (first | refine ga_ ?_ | intro _)
      refine AW_ret ?_
      repeat (first | refine ⟨0, rfl, ?_⟩ | refine ⟨1, rfl, ?_⟩ | refine ⟨2, rfl, ?_⟩ | refine ⟨3, rfl, ?_⟩ | refine ⟨4, rfl, ?_⟩ | refine ⟨5, rfl, ?_⟩ | refine ⟨6, rfl, ?_⟩)
      refine ⟨_, R, AVle.eq ?_, (by repeat (first | exact SLe.rfl | refine SLe.tail ?_)), rfl, rfl⟩
      exact congrArg AV.bool (by rw [e, i2, rightFn, g2]; simp)
    have g2 : partsB x.names x.types = true := Classical.not_not.1 h
    repeat (first | refine ga_ ?_ | intro _)
    refine Or.inl ⟨⟨_, Tryd.func48, rfl, rfl⟩, ACall.mono ?_ (isType_ok 60 x.ret _ (.tail _ (.tail _ hE)) (by omega))⟩
    rintro _ S1 ⟨rfl, hS1⟩
    subst S1
    repeat (first | refine ga_ ?_ | intro _)
    have kz := fun R hE => areStmts_ok 40 x.l (by omega) (by omega) R hE
    refine gsplit (¬ rightY x.ret 60 = true) (by first | (simp; done) | (simp <;> omega) | decide) (fun h => ?_) (fun h => ?_)
    · have g3 : rightY x.ret 60 = false := by simpa using h
      repeat (first | refine ga_ ?_ | intro _)
      refine Or.inl ⟨⟨_, Tryd.func49, rfl, rfl⟩, ACall.mono ?_ (noType_ok x.ret _)⟩
      rintro _ S1 ⟨rfl, hS1⟩
      subst S1
      repeat (first | refine ga_ ?_ | intro _)
      refine gsplit (¬ noY x.ret = true) (by first | (simp; done) | (simp <;> omega) | decide) (fun h => ?_) (fun h => ?_)
      · have g4 : noY x.ret = false := by simpa using h
        repeat (first | refine ga_ ?_ | intro _)
        refine AW_ret ?_
        repeat (first | refine ⟨0, rfl, ?_⟩ | refine ⟨1, rfl, ?_⟩ | refine ⟨2, rfl, ?_⟩ | refine ⟨3, rfl, ?_⟩ | refine ⟨4, rfl, ?_⟩ | refine ⟨5, rfl, ?_⟩ | refine ⟨6, rfl, ?_⟩)
        refine ⟨_, R, AVle.eq ?_, (by repeat (first | exact SLe.rfl | refine SLe.tail ?_)), rfl, rfl⟩
        exact congrArg AV.bool (by rw [e, i2, rightFn, g3, g4]; simp)
      have g4 : noY x.ret = true := Classical.not_not.1 h
      have g5 : (rightY x.ret 60 || noY x.ret) = true := by rw [g4]; simp
      repeat (first | refine ga_ ?_ | intro _)
      refine Or.inl ⟨⟨_, Tryd.func50, rfl, rfl⟩, ACall.mono ?_ (kz _ (.tail _ (.tail _ hE)))⟩
      rintro _ S1 ⟨rfl, hS1⟩
      subst S1
      repeat (first | refine ga_ ?_ | intro _)
      refine AW_cond (b := !rightZs x.l 40) rfl (fun h => ?_) (fun h => ?_)
      · have g6 : rightZs x.l 40 = false := by simpa using h
        repeat (first | refine ga_ ?_ | intro _)
        refine AW_ret ?_
        repeat (first | refine ⟨0, rfl, ?_⟩ | refine ⟨1, rfl, ?_⟩ | refine ⟨2, rfl, ?_⟩ | refine ⟨3, rfl, ?_⟩ | refine ⟨4, rfl, ?_⟩ | refine ⟨5, rfl, ?_⟩ | refine ⟨6, rfl, ?_⟩)
        refine ⟨_, R, AVle.eq ?_, (by repeat (first | exact SLe.rfl | refine SLe.tail ?_)), rfl, rfl⟩
        exact congrArg AV.bool (by rw [e, i2, rightFn, g6]; simp)
      · have g6 : rightZs x.l 40 = true := by simpa using h
        repeat (first | refine ga_ ?_ | intro _)
        refine ⟨z + 1, ?_, ?_, weak_of ?_ rfl ?_⟩
        · omega
        · exact ⟨hlt, by rw [i2, rightFn, g1, g2, g5, g6]; rfl⟩
        · repeat (first | exact trivial | refine ⟨AVle.refl _, ?_⟩ | refine ⟨AVle.tk, ?_⟩ | refine ⟨AVle.nil, ?_⟩ | refine ⟨AVle.nilFull, ?_⟩ | refine ⟨AVle.eq (congrArg (AV.int .i64) (by first | (simp; done) | (simp; omega) | (rw [wrap_i64 (by first | omega | (simp; omega))]; first | rfl | omega | (simp; done) | (simp; omega)))), ?_⟩)
        · refine SW.le ?_
          repeat (first | exact SW.nil | refine SW.cons ?_ | refine SW.cells (by repeat (first | exact trivial | refine ⟨AVle.refl _, ?_⟩ | refine ⟨AVle.nilFull, ?_⟩ | refine ⟨AVle.tk, ?_⟩ | refine ⟨AVle.nil, ?_⟩)) rfl ?_ | refine SW.full ?_ | refine SW.drop ?_)
    · have g5 : (rightY x.ret 60 || noY x.ret) = true := by rw [Classical.not_not.1 h]; rfl
      repeat (first | refine ga_ ?_ | intro _)
      refine Or.inl ⟨⟨_, Tryd.func50, rfl, rfl⟩, ACall.mono ?_ (kz _ (.tail _ (.tail _ hE)))⟩
      rintro _ S1 ⟨rfl, hS1⟩
      subst S1
      repeat (first | refine ga_ ?_ | intro _)
      refine AW_cond (b := !rightZs x.l 40) rfl (fun h => ?_) (fun h => ?_)
      · have g6 : rightZs x.l 40 = false := by simpa using h
        repeat (first | refine ga_ ?_ | intro _)
        refine AW_ret ?_
        repeat (first | refine ⟨0, rfl, ?_⟩ | refine ⟨1, rfl, ?_⟩ | refine ⟨2, rfl, ?_⟩ | refine ⟨3, rfl, ?_⟩ | refine ⟨4, rfl, ?_⟩ | refine ⟨5, rfl, ?_⟩ | refine ⟨6, rfl, ?_⟩)
        refine ⟨_, R, AVle.eq ?_, (by repeat (first | exact SLe.rfl | refine SLe.tail ?_)), rfl, rfl⟩
        exact congrArg AV.bool (by rw [e, i2, rightFn, g6]; simp)
      · have g6 : rightZs x.l 40 = true := by simpa using h
        repeat (first | refine ga_ ?_ | intro _)
        refine ⟨z + 1, ?_, ?_, weak_of ?_ rfl ?_⟩
        · omega
        · exact ⟨hlt, by rw [i2, rightFn, g1, g2, g5, g6]; rfl⟩
        · repeat (first | exact trivial | refine ⟨AVle.refl _, ?_⟩ | refine ⟨AVle.tk, ?_⟩ | refine ⟨AVle.nil, ?_⟩ | refine ⟨AVle.nilFull, ?_⟩ | refine ⟨AVle.eq (congrArg (AV.int .i64) (by first | (simp; done) | (simp; omega) | (rw [wrap_i64 (by first | omega | (simp; omega))]; first | rfl | omega | (simp; done) | (simp; omega)))), ?_⟩)
        · refine SW.le ?_
          repeat (first | exact SW.nil | refine SW.cons ?_ | refine SW.cells (by repeat (first | exact trivial | refine ⟨AVle.refl _, ?_⟩ | refine ⟨AVle.nilFull, ?_⟩ | refine ⟨AVle.tk, ?_⟩ | refine ⟨AVle.nil, ?_⟩)) rfl ?_ | refine SW.full ?_ | refine SW.drop ?_)
  · repeat (first | refine go_ ?_ | intro _)
    refine AW_ret ?_
    repeat (first | refine ⟨0, rfl, ?_⟩ | refine ⟨1, rfl, ?_⟩ | refine ⟨2, rfl, ?_⟩ | refine ⟨3, rfl, ?_⟩ | refine ⟨4, rfl, ?_⟩ | refine ⟨5, rfl, ?_⟩ | refine ⟨6, rfl, ?_⟩)
    refine ⟨_, R, AVle.eq ?_, (by repeat (first | exact SLe.rfl | refine SLe.tail ?_)), rfl, rfl⟩
    exact congrArg AV.bool (by rw [e, i2, List.drop_of_length_le (by omega)]; rfl)
end Go.Proofs.YtnkmjbjpmocnbaaDoor
/-
  Texts of types and statements, line by line. Own work.
-/
namespace Go.Proofs.YtnkmjbjpmocnbaaDoor
open Go.Aw Go.RowKit
set_option maxHeartbeats 4000000

def textY (op : Int) (s : List UInt8) (p : List (List UInt8)) : List UInt8 :=
  if op = 1 then [105, 110, 116] else if op = 2 then [115, 116, 114, 105, 110, 103] else if op = 3 then [98, 111, 111, 108] else if op = 4 then s else [91, 93] ++ p.getD 0 []
mutual
def showY : Y → List UInt8
  | .mk op s l => textY op s (showYs l)
def showYs : List Y → List (List UInt8)
  | [] => []
  | t :: r => showY t :: showYs r
end
theorem showY_eq (t : Y) : showY t = textY t.op t.s (showYs t.l) := by cases t; rw [showY]; rfl
theorem showYs_at : ∀ {l : List Y} {i : Nat} (h : i < l.length), (showYs l).getD i [] = showY l[i]
  | t :: r, 0, _ => by rw [showYs]; rfl
  | t :: r, i + 1, h => by rw [showYs]; exact showYs_at (l := r) (i := i) (by simpa using h)
theorem textY_len {op : Int} {s : List UInt8} {p : List (List UInt8)} : (textY op s p).length ≤ s.length + 6 + (p.map List.length).sum := by
  have h : (p.getD 0 []).length ≤ (p.map List.length).sum := by cases p <;> simp
  unfold textY
  repeat' (refine ite_len ?_ ?_)
  all_goals (first | omega | (simp only [List.length_append, List.length_cons, List.length_nil]; omega))
mutual
theorem showY_len : ∀ t : Y, (showY t).length ≤ szY t + 6 * cntY t
  | .mk op s l => by
    have h1 := showYs_len l
    have h2 := textY_len (op := op) (s := s) (p := showYs l)
    rw [showY, szY, cntY]; omega
theorem showYs_len : ∀ l : List Y, ((showYs l).map List.length).sum ≤ szYs l + 6 * cntYs l
  | [] => by simp [showYs]
  | t :: r => by
    have h1 := showY_len t
    have h2 := showYs_len r
    rw [showYs, szYs, cntYs]
    simp only [List.map_cons, List.sum_cons]; omega
end
theorem szYs_mem {x : Y} : ∀ {l : List Y}, x ∈ l → szY x ≤ szYs l
  | t :: r, h => by
    rw [szYs]
    rcases List.mem_cons.1 h with rfl | h
    · omega
    · have := szYs_mem h; omega
theorem szZs_mem {x : Z} : ∀ {l : List Z}, x ∈ l → szZ x ≤ szZs l
  | t :: r, h => by
    rw [szZs]
    rcases List.mem_cons.1 h with rfl | h
    · omega
    · have := szZs_mem h; omega
theorem showType_ok : ∀ (h : Nat) (t : Y) (R : List En), rightY t h = true → szY t ≤ 1048576 → cntY t ≤ 3000 → ACall Tryd.prog 42 [encV t] R (fun v S => v = .str (showY t) ∧ S = R)
  | 0, t, R, hr, _, _ => by cases t; rw [rightY] at hr; cases hr
  | m + 1, t, R, hr, hs, hc => by
    have e := showY_eq t
    rw [rightY_eq] at hr
    unfold textY at e
    refine ACall_body tab_ok Tryd.func42 rfl rfl rfl (by kernel_rfl) (Nat.le_of_ble_eq_true rfl) ?_
    repeat (first | refine ga_ ?_ | intro _)
    by_cases q1 : t.op = 1
    · rw [if_pos q1] at e
      refine AW_true (b := decide (t.op = 1)) rfl (by exact decide_eq_true q1) ?_
      repeat (first | refine ga_ ?_ | intro _)
      refine AW_ret ?_
      repeat (first | refine ⟨0, rfl, ?_⟩ | refine ⟨1, rfl, ?_⟩ | refine ⟨2, rfl, ?_⟩ | refine ⟨3, rfl, ?_⟩ | refine ⟨4, rfl, ?_⟩ | refine ⟨5, rfl, ?_⟩ | refine ⟨6, rfl, ?_⟩)
      refine ⟨_, R, AVle.eq ?_, (by repeat (first | exact SLe.rfl | refine SLe.tail ?_)), rfl, rfl⟩
      rw [e]; rfl
    refine AW_false (b := decide (t.op = 1)) rfl (by exact decide_eq_false q1) ?_
    rw [if_neg q1] at e
    repeat (first | refine ga_ ?_ | intro _)
    by_cases q2 : t.op = 2
    · rw [if_pos q2] at e
      refine AW_true (b := decide (t.op = 2)) rfl (by exact decide_eq_true q2) ?_
      repeat (first | refine ga_ ?_ | intro _)
      refine AW_ret ?_
      repeat (first | refine ⟨0, rfl, ?_⟩ | refine ⟨1, rfl, ?_⟩ | refine ⟨2, rfl, ?_⟩ | refine ⟨3, rfl, ?_⟩ | refine ⟨4, rfl, ?_⟩ | refine ⟨5, rfl, ?_⟩ | refine ⟨6, rfl, ?_⟩)
      refine ⟨_, R, AVle.eq ?_, (by repeat (first | exact SLe.rfl | refine SLe.tail ?_)), rfl, rfl⟩
      rw [e]; rfl
    refine AW_false (b := decide (t.op = 2)) rfl (by exact decide_eq_false q2) ?_
    rw [if_neg q2] at e
    repeat (first | refine ga_ ?_ | intro _)
    by_cases q3 : t.op = 3
    · rw [if_pos q3] at e
      refine AW_true (b := decide (t.op = 3)) rfl (by exact decide_eq_true q3) ?_
      repeat (first | refine ga_ ?_ | intro _)
      refine AW_ret ?_
      repeat (first | refine ⟨0, rfl, ?_⟩ | refine ⟨1, rfl, ?_⟩ | refine ⟨2, rfl, ?_⟩ | refine ⟨3, rfl, ?_⟩ | refine ⟨4, rfl, ?_⟩ | refine ⟨5, rfl, ?_⟩ | refine ⟨6, rfl, ?_⟩)
      refine ⟨_, R, AVle.eq ?_, (by repeat (first | exact SLe.rfl | refine SLe.tail ?_)), rfl, rfl⟩
      rw [e]; rfl
    refine AW_false (b := decide (t.op = 3)) rfl (by exact decide_eq_false q3) ?_
    rw [if_neg q3] at e
    repeat (first | refine ga_ ?_ | intro _)
    by_cases q4 : t.op = 4
    · rw [if_pos q4] at e
      refine AW_true (b := decide (t.op = 4)) rfl (by exact decide_eq_true q4) ?_
      repeat (first | refine ga_ ?_ | intro _)
      refine AW_ret ?_
      repeat (first | refine ⟨0, rfl, ?_⟩ | refine ⟨1, rfl, ?_⟩ | refine ⟨2, rfl, ?_⟩ | refine ⟨3, rfl, ?_⟩ | refine ⟨4, rfl, ?_⟩ | refine ⟨5, rfl, ?_⟩ | refine ⟨6, rfl, ?_⟩)
      refine ⟨_, R, AVle.eq ?_, (by repeat (first | exact SLe.rfl | refine SLe.tail ?_)), rfl, rfl⟩
      rw [e]; rfl
    refine AW_false (b := decide (t.op = 4)) rfl (by exact decide_eq_false q4) ?_
    rw [if_neg q4] at e
    rw [if_neg (by omega), if_neg q4] at hr
    by_cases q5 : t.op = 5
    rotate_left
    · rw [if_neg q5] at hr; cases hr
    rw [if_pos q5] at hr
    simp only [Bool.and_eq_true, decide_eq_true_eq] at hr
    obtain ⟨_, hl, ha⟩ := hr
    obtain ⟨x, hx⟩ : ∃ x, x = t.l[0]'(by omega) := ⟨_, rfl⟩
    have hm : x ∈ t.l := hx ▸ List.getElem_mem _
    rw [rightYs_all] at ha
    have hrx := List.all_eq_true.1 ha x hm
    have e1 : szY t = t.s.length + szYs t.l + 1 := by cases t; rw [szY]; rfl
    have e2 : cntY t = cntYs t.l + 1 := by cases t; rw [cntY]; rfl
    have h1 := szYs_mem hm
    have h2 := cntYs_mem hm
    have h3 := showY_len x
    have k := fun R => showType_ok m x R hrx (by omega) (by omega)
    rw [showYs_at (by omega), ← hx] at e
    repeat (first | refine ga_ ?_ | intro _)
    refine at_get (0) (encV x) (by first | rfl | omega | (rw [wrap_i64 (by omega)]; omega)) (by rw [hx]; exact encYs_get (by omega)) ?_
    repeat (first | refine ga_ ?_ | intro _)
    refine Or.inl ⟨⟨_, Tryd.func42, rfl, rfl⟩, ACall.mono ?_ (k _)⟩
    rintro _ S1 ⟨rfl, hS1⟩
    subst S1
    repeat (first | refine ga_ ?_ | intro _)
    refine cat_ ?_
    repeat (first | refine ga_ ?_ | intro _)
    refine AW_ret ?_
    repeat (first | refine ⟨0, rfl, ?_⟩ | refine ⟨1, rfl, ?_⟩ | refine ⟨2, rfl, ?_⟩ | refine ⟨3, rfl, ?_⟩ | refine ⟨4, rfl, ?_⟩ | refine ⟨5, rfl, ?_⟩ | refine ⟨6, rfl, ?_⟩)
    refine ⟨_, R, AVle.eq ?_, (by repeat (first | exact SLe.rfl | refine SLe.tail ?_)), rfl, rfl⟩
    rw [e]; rfl

/-! ### lines -/
abbrev Ln := Nat × List UInt8
def bodyX (x : T) : List UInt8 := [114, 101, 116, 117, 114, 110] ++ (if 0 < x.op then [32] ++ showG x else [])
mutual
def stmtG : Z → Nat → List Ln
  | .mk op s t x y l m, k =>
    if op = 1 then [(k, [118, 97, 114, 32] ++ (s ++ ([32] ++ showY t)))] else if op = 2 then [(k, s ++ ([32, 58, 61, 32] ++ showG x))] else if op = 3 then [(k, showG x ++ ([32, 61, 32] ++ showG y))]
    else if op = 6 then [(k, bodyX x)] else if op = 7 then [(k, showG x)] else if op = 8 then [(k, [98, 114, 101, 97, 107])]
    else if op = 5 then (k, [102, 111, 114, 32] ++ (showG x ++ [32, 123])) :: (linesG l (k + 1) ++ [(k, [125])])
    else (k, [105, 102, 32] ++ (showG x ++ [32, 123])) :: (linesG l (k + 1) ++ ((if m.length = 0 then [] else (k, [125, 32, 101, 108, 115, 101, 32, 123]) :: linesG m (k + 1)) ++ [(k, [125])]))
def linesG : List Z → Nat → List Ln
  | [], _ => []
  | z :: r, k => stmtG z k ++ linesG r k
end
theorem stmtG_eq (z : Z) (k : Nat) : stmtG z k =
    if z.op = 1 then [(k, [118, 97, 114, 32] ++ (z.s ++ ([32] ++ showY z.t)))] else if z.op = 2 then [(k, z.s ++ ([32, 58, 61, 32] ++ showG z.x))] else if z.op = 3 then [(k, showG z.x ++ ([32, 61, 32] ++ showG z.y))]
    else if z.op = 6 then [(k, bodyX z.x)] else if z.op = 7 then [(k, showG z.x)] else if z.op = 8 then [(k, [98, 114, 101, 97, 107])]
    else if z.op = 5 then (k, [102, 111, 114, 32] ++ (showG z.x ++ [32, 123])) :: (linesG z.l (k + 1) ++ [(k, [125])])
    else (k, [105, 102, 32] ++ (showG z.x ++ [32, 123])) :: (linesG z.l (k + 1) ++ ((if z.m.length = 0 then [] else (k, [125, 32, 101, 108, 115, 101, 32, 123]) :: linesG z.m (k + 1)) ++ [(k, [125])])) := by cases z; rw [stmtG]; rfl
theorem linesG_app (a b : List Z) (k : Nat) : linesG (a ++ b) k = linesG a k ++ linesG b k := by
  induction a with
  | nil => rw [linesG]; rfl
  | cons x a ih => rw [List.cons_append, linesG, linesG, ih, List.append_assoc]
theorem linesG_take {l : List Z} {i : Nat} {k : Nat} {x : Z} (h : i < l.length) (hx : x = l[i]) : linesG (l.take (i + 1)) k = linesG (l.take i) k ++ stmtG x k := by
  rw [take_snoc h hx, linesG_app, linesG, linesG, List.append_nil]
theorem linesG_at {l : List Z} {i : Nat} {k : Nat} {x : Z} (h : i < l.length) (hx : x = l[i]) : linesG l k = linesG (l.take i) k ++ (stmtG x k ++ linesG (l.drop (i + 1)) k) := by
  have : l = l.take i ++ x :: l.drop (i + 1) := by rw [hx, List.getElem_cons_drop, List.take_append_drop]
  conv => lhs; rw [this]
  rw [linesG_app, linesG]
/-! ### the numbers are in range -/
mutual
def okZ : Z → Prop
  | .mk _ _ _ x y l m => okT x ∧ okT y ∧ okZs l ∧ okZs m
def okZs : List Z → Prop
  | [] => True
  | z :: r => okZ z ∧ okZs r
end
theorem okZ_eq (z : Z) : okZ z ↔ okT z.x ∧ okT z.y ∧ okZs z.l ∧ okZs z.m := by cases z; rw [okZ]; exact Iff.rfl
theorem okZs_mem : ∀ {l : List Z} {x : Z}, okZs l → x ∈ l → okZ x
  | t :: r, x, h, hx => by
    rw [okZs] at h
    rcases List.mem_cons.1 hx with rfl | hx
    · exact h.1
    · exact okZs_mem h.2 hx
mutual
theorem okZ_of : ∀ z : Z, (∀ c ∈ cZ z, Sat c) → okZ z
  | .mk op s t x y l m, h => by
    rw [okZ]
    refine ⟨okT_of x fun c hc => h c ?_, okT_of y fun c hc => h c ?_, okZs_of l fun c hc => ?_, okZs_of m fun c hc => ?_⟩
    · simp only [cT, List.mem_cons, List.not_mem_nil, or_false] at hc
      simp only [cZ, Z.x, List.mem_cons]
      rcases hc with h | h | h | h <;> simp [h]
    · simp only [cT, List.mem_cons, List.not_mem_nil, or_false] at hc
      simp only [cZ, Z.y, List.mem_cons]
      rcases hc with h | h | h | h <;> simp [h]
    · exact (h (.sl 15 (encZs l) .no) (by simp [cZ, Z.l])).flat hc
    · exact (h (.sl 15 (encZs m) .no) (by simp [cZ, Z.m])).flat hc
theorem okZs_of : ∀ l : List Z, (∀ c ∈ flat (encZs l), Sat c) → okZs l
  | [], _ => by rw [okZs]; trivial
  | t :: r, h => by
    rw [encZs, encZ_eq, flat_cons] at h
    rw [okZs]
    exact ⟨okZ_of t fun c hc => h c (List.mem_append_left _ hc), okZs_of r fun c hc => h c (List.mem_append_right _ hc)⟩
end
/-! ### how long lines are -/
def textL (ls : List Ln) : List UInt8 := ls.flatMap fun p => List.replicate p.1 9 ++ (p.2 ++ [10])
theorem textL_app (a b : List Ln) : textL (a ++ b) = textL a ++ textL b := by unfold textL; rw [List.flatMap_append]
theorem textL_cons (k : Nat) (s : List UInt8) (b : List Ln) : textL ((k, s) :: b) = (List.replicate k 9 ++ (s ++ [10])) ++ textL b := rfl
theorem textL_one (k : Nat) (s : List UInt8) : (textL [(k, s)]).length = k + s.length + 1 := by simp [textL]; omega
theorem rightZ_lists {z : Z} {h : Nat} (hr : rightZ z h = true) (ho : z.op = 4 ∨ z.op = 5) : rightG z.x 60 = true ∧ rightZs z.l h = true ∧ (z.op = 4 → rightZs z.m h = true) := by
  rw [rightZ_eq] at hr
  unfold stmtB at hr
  rcases ho with ho | ho
  · rw [if_neg (by omega), if_neg (by omega), if_neg (by omega), if_pos ho] at hr
    simp only [Bool.and_eq_true] at hr
    exact ⟨hr.1, hr.2.1, fun _ => hr.2.2.1⟩
  · rw [if_neg (by omega), if_neg (by omega), if_neg (by omega), if_neg (by omega), if_pos ho] at hr
    simp only [Bool.and_eq_true] at hr
    exact ⟨hr.1, hr.2.1, fun h => by omega⟩
theorem rightZ_op {z : Z} {h : Nat} (hr : rightZ z h = true) : 1 ≤ z.op ∧ z.op ≤ 8 := by
  rw [rightZ_eq] at hr
  unfold stmtB at hr
  by_cases q : z.op = 1 ∨ z.op = 2 ∨ z.op = 3 ∨ z.op = 4 ∨ z.op = 5 ∨ z.op = 6 ∨ z.op = 7 ∨ z.op = 8
  · omega
  · rw [if_neg (by omega), if_neg (by omega), if_neg (by omega), if_neg (by omega), if_neg (by omega), if_neg (by omega), if_neg (by omega), if_neg (by omega)] at hr
    cases hr
theorem ite_lines {c : Prop} [Decidable c] {a b : List Ln} {n : Nat} (h1 : c → (textL a).length ≤ n) (h2 : ¬ c → (textL b).length ≤ n) : (textL (if c then a else b)).length ≤ n := by
  split
  · exact h1 (by assumption)
  · exact h2 (by assumption)
mutual
theorem stmtG_len : ∀ (z : Z) (k h : Nat), rightZ z h = true → okZ z → k + h ≤ 40 → (textL (stmtG z k)).length ≤ 4 * szZ z + 300 * cntZ z
  | .mk op s t x y l m, k, h, hr, ho, hk => by
    have hop := rightZ_op hr
    have hlist := fun ho => rightZ_lists hr ho
    rw [okZ] at ho
    have hx := showG_cnt x ho.1
    have hy := showG_cnt y ho.2.1
    have ht := showY_len t
    have hl : op = 4 ∨ op = 5 → (textL (linesG l (k + 1))).length ≤ 4 * szZs l + 300 * cntZs l := fun q => linesG_len l (k + 1) h (hlist q).2.1 ho.2.2.1 (by omega)
    have hm : op = 4 → (textL (linesG m (k + 1))).length ≤ 4 * szZs m + 300 * cntZs m := fun q => linesG_len m (k + 1) h ((hlist (.inl q)).2.2 q) ho.2.2.2 (by omega)
    rw [stmtG, szZ, cntZ]
    refine ite_lines (fun _ => ?_) fun q1 => ite_lines (fun _ => ?_) fun q2 => ite_lines (fun _ => ?_) fun q3 => ite_lines (fun _ => ?_) fun q6 => ite_lines (fun _ => ?_) fun q7 => ite_lines (fun _ => ?_) fun q8 => ite_lines (fun q5 => ?_) fun q5 => ?_
    · rw [textL_one]; simp only [List.length_append, List.length_cons, List.length_nil]; omega
    · rw [textL_one]; simp only [List.length_append, List.length_cons, List.length_nil]; omega
    · rw [textL_one]; simp only [List.length_append, List.length_cons, List.length_nil]; omega
    · rw [textL_one]; unfold bodyX
      have : (if 0 < x.op then [32] ++ showG x else []).length ≤ (showG x).length + 1 := ite_len (by simp) (by simp)
      simp only [List.length_append, List.length_cons, List.length_nil]; omega
    · rw [textL_one]; omega
    · rw [textL_one]; simp; omega
    · have := hl (.inr q5)
      have h1 := textL_one k [125]
      simp only [textL_cons, textL_app, List.length_append, List.length_cons, List.length_nil, List.length_replicate] at h1 ⊢; omega
    · have q4 : op = 4 := by replace hop : 1 ≤ op ∧ op ≤ 8 := hop; omega
      have h1 := hl (.inl q4)
      have h2 := hm q4
      have h3 : (textL (if m.length = 0 then [] else (k, [125, 32, 101, 108, 115, 101, 32, 123]) :: linesG m (k + 1))).length ≤ 4 * szZs m + 300 * cntZs m + 60 := by
        refine ite_lines (fun _ => by simp [textL]) (fun _ => ?_)
        rw [textL_cons, List.length_append]
        simp only [List.length_append, List.length_cons, List.length_nil, List.length_replicate]; omega
      have h4 := textL_one k [125]
      rw [textL_cons, textL_app, textL_app, List.length_append, List.length_append, List.length_append]
      simp only [List.length_append, List.length_cons, List.length_nil, List.length_replicate] at h4 ⊢; omega
theorem linesG_len : ∀ (l : List Z) (k h : Nat), rightZs l h = true → okZs l → k + h ≤ 41 → (textL (linesG l k)).length ≤ 4 * szZs l + 300 * cntZs l
  | [], k, h, _, _, _ => by simp [linesG, textL]
  | z :: r, k, 0, hr, _, _ => by rw [rightZs] at hr; cases hr
  | z :: r, k, h + 1, hr, ho, hk => by
    rw [rightZs, Bool.and_eq_true] at hr
    rw [okZs] at ho
    have h1 := stmtG_len z k h hr.1 ho.1 (by omega)
    have h2 := linesG_len r k (h + 1) hr.2 ho.2 hk
    rw [linesG, textL_app, List.length_append, szZs, cntZs]; omega
end
end Go.Proofs.YtnkmjbjpmocnbaaDoor
