/-
 A program is like itself,by the book. Own work.
-/
import Derived.Test.YtfeknkaioofljaaGreatDoorQ23
set_option linter.all false
set_option maxHeartbeats 4000000
set_option maxRecDepth 4000
namespace Go.Proofs.YtfeknkaioofljaaGreatDoor
open Go.Aw Go.RowKit Tree
theorem selfTerm_ok : ∀ (n : Nat) (t : T),SizeOf.sizeOf t ≤ n → ∀ (R : List En),ACall Tryz.prog 111 [encU t,encU t] R (fun r S => r = .bool true ∧ S = R)
 | 0,t,hn,R => by cases t; simp at hn
 | n + 1,t,hn,R => by
  have hs : ∀ x ∈ t.l,SizeOf.sizeOf x ≤ n := fun x hx => by
   cases t with
   | mk a b c l =>
    have := List.sizeOf_lt_of_mem (show x ∈ l from hx)
    simp at hn; omega
  refine ACall_sat fun hsat => ?_
  have hl : t.l.length ≤ 9223372036854775807 := by
   have := ((hsat _ (.head _)).agg (show AV.sl 4 (encTs t.l) .no ∈ cT t from .tail _ (.tail _ (.tail _ (.head _))))).sl
   simpa using this
  refine ACall_body tab_ok Tryz.func111 rfl rfl rfl (by kernel_rfl) (nb_ rfl) ?_
  repeat first|refine go_ ?_|intro _
  rename_i p q
  refine known_false (b := !decide (t.op = t.op)) (by simp) ?_
  repeat first|refine ga_ ?_|intro _
  refine known_false (b := !decide (t.s = t.s)) (by simp) ?_
  repeat first|refine ga_ ?_|intro _
  refine known_false (b := !decide (t.n = t.n)) (by simp) ?_
  repeat first|refine ga_ ?_|intro _
  refine AW_false (b := !decide ((((encTs t.l).length : Nat) : Int) = ((encTs t.l).length : Nat))) rfl (by simp) ?_
  repeat first|refine go_ ?_|intro _
  refine AW_for (α := Nat) (fun z => ⟨[(2, .ptr p 0),(3, .ptr q 0),(5, .int .i64 (z : Nat))], []⟩) (fun z => .cells q (cT t) :: .cells p (cT t) :: R) (fun z => t.l.length - z) (fun z => z ≤ t.l.length) (0) ?_ (weak_of ?_ rfl ?_) (fun z hz => ?_)
  ·omega
  ·exact e_
  ·exact w_
  repeat first|refine go_ ?_|intro _
  refine AW_iff (z < t.l.length) rfl ib_ (fun h => ?_) (fun h => ?_)
  ·have hlt := h
   obtain ⟨x,hx⟩ : ∃ x,x = t.l[z] := ⟨_,rfl⟩
   repeat first|refine go_ ?_|intro _
   refine AW_draw tab_ok mixed 12 (by first | rfl | kernel_rfl) ?_
   repeat first|refine go_ ?_|intro _
   refine at_get (z) (encU x) (by first | rfl | omega | (rw [wrap_i64 (by omega)]; omega)) (by rw [hx]; exact encTs_get hlt) ?_
   repeat first|refine go_ ?_|intro _
   refine at_get (z) (encU x) (by first | rfl | omega | (rw [wrap_i64 (by omega)]; omega)) (by rw [hx]; exact encTs_get hlt) ?_
   repeat first|refine go_ ?_|intro _
   apply call_step
   ·rfl
   ·exact Or.inl ⟨⟨_,Tryz.func111,rfl,rfl⟩,selfTerm_ok n x (hs x (hx ▸ List.getElem_mem hlt)) _⟩
   repeat first|refine go_ ?_|intro _
   refine AW_false (b := false) rfl (by first | rfl | (simp; done) | (simp; omega) | decide) ?_
   repeat first|refine go_ ?_|intro _
   refine ⟨z + 1,?_,?_,weak_of ?_ rfl ?_⟩
   ·omega
   ·omega
   ·exact e_
   ·exact w_
  ·repeat first|refine go_ ?_|intro _
   refine AW_ret ?_
   repeat refine mk_ ?_
   refine ⟨_,R,AVle.eq ?_,sle_,rfl,rfl⟩
   rfl
theorem selfAtom_ok (a : At) (R : List En) : ACall Tryz.prog 64 [encA a,encA a] R (fun r S => r = .bool true ∧ S = R) := by
 refine ACall_sat fun hsat => ?_
 have hl : a.l.length ≤ 9223372036854775807 := by
  have := ((hsat _ (.head _)).agg (show AV.sl 4 (encTs a.l) .no ∈ cA a from .tail _ (.head _))).sl
  simpa using this
 refine ACall_body tab_ok Tryz.func64 rfl rfl rfl (by kernel_rfl) (nb_ rfl) ?_
 repeat first|refine go_ ?_|intro _
 rename_i p q
 refine known_false (b := !decide (a.rel = a.rel)) (by simp) ?_
 repeat first|refine ga_ ?_|intro _
 refine AW_false (b := !decide ((((encTs a.l).length : Nat) : Int) = ((encTs a.l).length : Nat))) rfl (by simp) ?_
 repeat first|refine go_ ?_|intro _
 refine AW_for (α := Nat) (fun z => ⟨[(2, .ptr p 0),(3, .ptr q 0),(5, .int .i64 (z : Nat))], []⟩) (fun z => .cells q (cA a) :: .cells p (cA a) :: R) (fun z => a.l.length - z) (fun z => z ≤ a.l.length) (0) ?_ (weak_of ?_ rfl ?_) (fun z hz => ?_)
 ·omega
 ·exact e_
 ·exact w_
 repeat first|refine go_ ?_|intro _
 refine AW_iff (z < a.l.length) rfl ib_ (fun h => ?_) (fun h => ?_)
 ·have hlt := h
  obtain ⟨x,hx⟩ : ∃ x,x = a.l[z] := ⟨_,rfl⟩
  repeat first|refine go_ ?_|intro _
  refine AW_draw tab_ok mixed 12 (by first | rfl | kernel_rfl) ?_
  repeat first|refine go_ ?_|intro _
  refine at_get (z) (encU x) (by first | rfl | omega | (rw [wrap_i64 (by omega)]; omega)) (by rw [hx]; exact encTs_get hlt) ?_
  repeat first|refine go_ ?_|intro _
  refine at_get (z) (encU x) (by first | rfl | omega | (rw [wrap_i64 (by omega)]; omega)) (by rw [hx]; exact encTs_get hlt) ?_
  repeat first|refine go_ ?_|intro _
  apply call_step
  ·rfl
  ·exact Or.inl ⟨⟨_,Tryz.func111,rfl,rfl⟩,selfTerm_ok _ x (Nat.le_refl _) _⟩
  repeat first|refine go_ ?_|intro _
  refine AW_false (b := false) rfl (by first | rfl | (simp; done) | (simp; omega) | decide) ?_
  repeat first|refine go_ ?_|intro _
  refine ⟨z + 1,?_,?_,weak_of ?_ rfl ?_⟩
  ·omega
  ·omega
  ·exact e_
  ·exact w_
 ·repeat first|refine go_ ?_|intro _
  refine AW_ret ?_
  repeat refine mk_ ?_
  refine ⟨_,R,AVle.eq ?_,sle_,rfl,rfl⟩
  rfl
theorem selfLit_ok (l : Li) (R : List En) : ACall Tryz.prog 65 [encL l,encL l] R (fun r S => r = .bool true ∧ S = R) := by
 refine ACall_body tab_ok Tryz.func65 rfl rfl rfl (by kernel_rfl) (nb_ rfl) ?_
 repeat first|refine go_ ?_|intro _
 refine Or.inl ⟨⟨_,Tryz.func111,rfl,rfl⟩,ACall.mono ?_ (selfTerm_ok _ l.x (Nat.le_refl _) _)⟩
 rintro _ S1 ⟨rfl,hS1⟩
 subst S1
 repeat first|refine go_ ?_|intro _
 refine Or.inl ⟨⟨_,Tryz.func111,rfl,rfl⟩,ACall.mono ?_ (selfTerm_ok _ l.y (Nat.le_refl _) _)⟩
 rintro _ S1 ⟨rfl,hS1⟩
 subst S1
 repeat first|refine go_ ?_|intro _
 refine Or.inl ⟨⟨_,Tryz.func64,rfl,rfl⟩,ACall.mono ?_ (selfAtom_ok l.a _)⟩
 rintro _ S1 ⟨rfl,hS1⟩
 subst S1
 repeat first|refine go_ ?_|intro _
 refine known_true (b := decide (l.op = l.op)) (by simp) ?_
 repeat first|refine ga_ ?_|intro _
 refine AW_ret ?_
 repeat refine mk_ ?_
 refine ⟨_,R,AVle.eq ?_,sle_,rfl,rfl⟩
 rfl
theorem selfRule_ok (a : Ru) (R : List En) : ACall Tryz.prog 25 [encRu a,encRu a] R (fun r S => r = .bool true ∧ S = R) := by
 refine ACall_sat fun hsat => ?_
 have hl : a.body.length ≤ 9223372036854775807 := by
  have := ((hsat _ (.head _)).agg (show AV.sl 11 (a.body.map encL) .no ∈ cRu a from .tail _ (.tail _ (.head _)))).sl
  simpa using this
 refine ACall_body tab_ok Tryz.func25 rfl rfl rfl (by kernel_rfl) (nb_ rfl) ?_
 repeat first|refine go_ ?_|intro _
 rename_i p q
 refine Or.inl ⟨⟨_,Tryz.func64,rfl,rfl⟩,ACall.mono ?_ (selfAtom_ok a.head _)⟩
 rintro _ S1 ⟨rfl,hS1⟩
 subst S1
 repeat first|refine ga_ ?_|intro _
 refine AW_false (b := !decide ((((a.body.map encL).length : Nat) : Int) = ((a.body.map encL).length : Nat))) rfl (by simp) ?_
 repeat first|refine go_ ?_|intro _
 refine AW_for (α := Nat) (fun z => ⟨[(2, .ptr p 0),(3, .ptr q 0),(6, .int .i64 (z : Nat))], []⟩) (fun z => .cells q (cRu a) :: .cells p (cRu a) :: R) (fun z => a.body.length - z) (fun z => z ≤ a.body.length) (0) ?_ (weak_of ?_ rfl ?_) (fun z hz => ?_)
 ·omega
 ·exact e_
 ·exact w_
 repeat first|refine go_ ?_|intro _
 refine AW_iff (z < a.body.length) rfl ib_ (fun h => ?_) (fun h => ?_)
 ·have hlt := h
  obtain ⟨x,hx⟩ : ∃ x,x = a.body[z] := ⟨_,rfl⟩
  repeat first|refine go_ ?_|intro _
  refine AW_draw tab_ok mixed 12 (by first | rfl | kernel_rfl) ?_
  repeat first|refine go_ ?_|intro _
  refine at_get (z) (encL x) (by first | rfl | omega | (rw [wrap_i64 (by omega)]; omega)) (by rw [List.getElem?_map,List.getElem?_eq_getElem hlt,hx]; rfl) ?_
  repeat first|refine go_ ?_|intro _
  refine at_get (z) (encL x) (by first | rfl | omega | (rw [wrap_i64 (by omega)]; omega)) (by rw [List.getElem?_map,List.getElem?_eq_getElem hlt,hx]; rfl) ?_
  repeat first|refine go_ ?_|intro _
  apply call_step
  ·rfl
  ·exact Or.inl ⟨⟨_,Tryz.func65,rfl,rfl⟩,selfLit_ok x _⟩
  repeat first|refine go_ ?_|intro _
  refine AW_false (b := false) rfl (by first | rfl | (simp; done) | (simp; omega) | decide) ?_
  repeat first|refine go_ ?_|intro _
  refine ⟨z + 1,?_,?_,weak_of ?_ rfl ?_⟩
  ·omega
  ·omega
  ·exact e_
  ·exact w_
 ·repeat first|refine go_ ?_|intro _
  refine AW_ret ?_
  repeat refine mk_ ?_
  refine ⟨_,R,AVle.eq ?_,sle_,rfl,rfl⟩
  rfl
theorem selfDecl_ok (a : De) (R : List En) : ACall Tryz.prog 24 [encD a,encD a] R (fun r S => r = .bool true ∧ S = R) := by
 refine ACall_sat fun hsat => ?_
 have hl : a.names.length ≤ 9223372036854775807 := by
  have := ((hsat _ (.head _)).agg (show AV.sl 1 (a.names.map AV.str) .no ∈ cD a from .tail _ (.head _))).sl
  simpa using this
 have hn := hl
 clear hl
 refine ACall_sat fun hsat => ?_
 have hl : a.types.length ≤ 9223372036854775807 := by
  have := ((hsat _ (.head _)).agg (show AV.sl 1 (a.types.map encI) .no ∈ cD a from .tail _ (.tail _ (.head _)))).sl
  simpa using this
 refine ACall_body tab_ok Tryz.func24 rfl rfl rfl (by kernel_rfl) (nb_ rfl) ?_
 repeat first|refine go_ ?_|intro _
 rename_i p q
 refine known_false (b := !decide (a.rel = a.rel)) (by simp) ?_
 repeat first|refine ga_ ?_|intro _
 refine known_false (b := a.inp != a.inp) (by simp) ?_
 repeat first|refine ga_ ?_|intro _
 refine known_false (b := a.out != a.out) (by simp) ?_
 repeat first|refine ga_ ?_|intro _
 refine known_false (b := !decide ((((a.names.map AV.str).length : Nat) : Int) = ((a.names.map AV.str).length : Nat))) (by simp) ?_
 repeat first|refine ga_ ?_|intro _
 refine AW_false (b := !decide ((((a.types.map encI).length : Nat) : Int) = ((a.types.map encI).length : Nat))) rfl (by simp) ?_
 repeat first|refine go_ ?_|intro _
 refine AW_for (α := Nat) (fun z => ⟨[(2, .ptr p 0),(3, .ptr q 0),(5, .int .i64 (z : Nat))], []⟩) (fun z => .cells q (cD a) :: .cells p (cD a) :: R) (fun z => a.names.length - z) (fun z => z ≤ a.names.length) (0) ?_ (weak_of ?_ rfl ?_) (fun z hz => ?_)
 ·omega
 ·exact e_
 ·exact w_
 repeat first|refine go_ ?_|intro _
 refine AW_iff (z < a.names.length) rfl ib_ (fun h => ?_) (fun h => ?_)
 ·have hlt := h
  obtain ⟨x,hx⟩ : ∃ x,x = a.names[z] := ⟨_,rfl⟩
  repeat first|refine go_ ?_|intro _
  refine AW_draw tab_ok mixed 11 (by first | rfl | kernel_rfl) ?_
  repeat first|refine go_ ?_|intro _
  refine at_get (z) (AV.str x) (by first | rfl | omega | (rw [wrap_i64 (by omega)]; omega)) (by rw [List.getElem?_map,List.getElem?_eq_getElem hlt,hx]; rfl) ?_
  repeat first|refine go_ ?_|intro _
  refine at_get (z) (AV.str x) (by first | rfl | omega | (rw [wrap_i64 (by omega)]; omega)) (by rw [List.getElem?_map,List.getElem?_eq_getElem hlt,hx]; rfl) ?_
  repeat first|refine go_ ?_|intro _
  skip
  repeat first|refine go_ ?_|intro _
  refine AW_false (b := !decide (x = x)) rfl (by simp) ?_
  repeat first|refine go_ ?_|intro _
  refine ⟨z + 1,?_,?_,weak_of ?_ rfl ?_⟩
  ·omega
  ·omega
  ·exact e_
  ·exact w_
 clear hz
 repeat first|refine go_ ?_|intro _
 refine AW_for (α := Nat) (fun z => ⟨[(2, .ptr p 0),(3, .ptr q 0),(6, .int .i64 (z : Nat))], []⟩) (fun z => .cells q (cD a) :: .cells p (cD a) :: R) (fun z => a.types.length - z) (fun z => z ≤ a.types.length) (0) ?_ (weak_of ?_ rfl ?_) (fun z hz => ?_)
 ·omega
 ·exact e_
 ·exact w_
 repeat first|refine go_ ?_|intro _
 refine AW_iff (z < a.types.length) rfl ib_ (fun h => ?_) (fun h => ?_)
 ·have hlt := h
  obtain ⟨x,hx⟩ : ∃ x,x = a.types[z] := ⟨_,rfl⟩
  repeat first|refine go_ ?_|intro _
  refine AW_draw tab_ok mixed 11 (by first | rfl | kernel_rfl) ?_
  repeat first|refine go_ ?_|intro _
  refine at_get (z) (encI x) (by first | rfl | omega | (rw [wrap_i64 (by omega)]; omega)) (by rw [List.getElem?_map,List.getElem?_eq_getElem hlt,hx]; rfl) ?_
  repeat first|refine go_ ?_|intro _
  refine at_get (z) (encI x) (by first | rfl | omega | (rw [wrap_i64 (by omega)]; omega)) (by rw [List.getElem?_map,List.getElem?_eq_getElem hlt,hx]; rfl) ?_
  repeat first|refine go_ ?_|intro _
  skip
  repeat first|refine go_ ?_|intro _
  refine AW_false (b := !decide (x = x)) rfl (by simp) ?_
  repeat first|refine go_ ?_|intro _
  refine ⟨z + 1,?_,?_,weak_of ?_ rfl ?_⟩
  ·omega
  ·omega
  ·exact e_
  ·exact w_
 repeat first|refine go_ ?_|intro _
 refine AW_ret ?_
 repeat refine mk_ ?_
 refine ⟨_,R,AVle.eq ?_,sle_,rfl,rfl⟩
 rfl
theorem selfProg_ok (a : Pr) (R : List En) : ACall Tryz.prog 11 [encP a,encP a] R (fun r S => r = .bool true ∧ S = R) := by
 refine ACall_sat fun hsat => ?_
 have hl : a.decls.length ≤ 9223372036854775807 := by
  have := ((hsat _ (.head _)).agg (show AV.sl 6 (a.decls.map encD) .no ∈ [.sl 6 (a.decls.map encD) .no, .sl 4 (a.rules.map encRu) .no] from .head _)).sl
  simpa using this
 have hn := hl
 clear hl
 refine ACall_sat fun hsat => ?_
 have hl : a.rules.length ≤ 9223372036854775807 := by
  have := ((hsat _ (.head _)).agg (show AV.sl 4 (a.rules.map encRu) .no ∈ [.sl 6 (a.decls.map encD) .no, .sl 4 (a.rules.map encRu) .no] from .tail _ (.head _))).sl
  simpa using this
 refine ACall_body tab_ok Tryz.func11 rfl rfl rfl (by kernel_rfl) (nb_ rfl) ?_
 repeat first|refine go_ ?_|intro _
 rename_i p q
 refine known_false (b := !decide ((((a.decls.map encD).length : Nat) : Int) = ((a.decls.map encD).length : Nat))) (by simp) ?_
 repeat first|refine ga_ ?_|intro _
 refine AW_false (b := !decide ((((a.rules.map encRu).length : Nat) : Int) = ((a.rules.map encRu).length : Nat))) rfl (by simp) ?_
 repeat first|refine go_ ?_|intro _
 refine AW_for (α := Nat) (fun z => ⟨[(2, .ptr p 0),(3, .ptr q 0),(5, .int .i64 (z : Nat))], []⟩) (fun z => .cells q ([.sl 6 (a.decls.map encD) .no, .sl 4 (a.rules.map encRu) .no]) :: .cells p ([.sl 6 (a.decls.map encD) .no, .sl 4 (a.rules.map encRu) .no]) :: R) (fun z => a.decls.length - z) (fun z => z ≤ a.decls.length) (0) ?_ (weak_of ?_ rfl ?_) (fun z hz => ?_)
 ·omega
 ·exact e_
 ·exact w_
 repeat first|refine go_ ?_|intro _
 refine AW_iff (z < a.decls.length) rfl ib_ (fun h => ?_) (fun h => ?_)
 ·have hlt := h
  obtain ⟨x,hx⟩ : ∃ x,x = a.decls[z] := ⟨_,rfl⟩
  repeat first|refine go_ ?_|intro _
  refine AW_draw tab_ok mixed 12 (by first | rfl | kernel_rfl) ?_
  repeat first|refine go_ ?_|intro _
  refine at_get (z) (encD x) (by first | rfl | omega | (rw [wrap_i64 (by omega)]; omega)) (by rw [List.getElem?_map,List.getElem?_eq_getElem hlt,hx]; rfl) ?_
  repeat first|refine go_ ?_|intro _
  refine at_get (z) (encD x) (by first | rfl | omega | (rw [wrap_i64 (by omega)]; omega)) (by rw [List.getElem?_map,List.getElem?_eq_getElem hlt,hx]; rfl) ?_
  repeat first|refine go_ ?_|intro _
  apply call_step
  ·rfl
  ·exact Or.inl ⟨⟨_,Tryz.func24,rfl,rfl⟩,selfDecl_ok x _⟩
  repeat first|refine go_ ?_|intro _
  refine AW_false (b := false) rfl (by first | rfl | (simp; done) | (simp; omega) | decide) ?_
  repeat first|refine go_ ?_|intro _
  refine ⟨z + 1,?_,?_,weak_of ?_ rfl ?_⟩
  ·omega
  ·omega
  ·exact e_
  ·exact w_
 clear hz
 repeat first|refine go_ ?_|intro _
 refine AW_for (α := Nat) (fun z => ⟨[(2, .ptr p 0),(3, .ptr q 0),(7, .int .i64 (z : Nat))], []⟩) (fun z => .cells q ([.sl 6 (a.decls.map encD) .no, .sl 4 (a.rules.map encRu) .no]) :: .cells p ([.sl 6 (a.decls.map encD) .no, .sl 4 (a.rules.map encRu) .no]) :: R) (fun z => a.rules.length - z) (fun z => z ≤ a.rules.length) (0) ?_ (weak_of ?_ rfl ?_) (fun z hz => ?_)
 ·omega
 ·exact e_
 ·exact w_
 repeat first|refine go_ ?_|intro _
 refine AW_iff (z < a.rules.length) rfl ib_ (fun h => ?_) (fun h => ?_)
 ·have hlt := h
  obtain ⟨x,hx⟩ : ∃ x,x = a.rules[z] := ⟨_,rfl⟩
  repeat first|refine go_ ?_|intro _
  refine AW_draw tab_ok mixed 12 (by first | rfl | kernel_rfl) ?_
  repeat first|refine go_ ?_|intro _
  refine at_get (z) (encRu x) (by first | rfl | omega | (rw [wrap_i64 (by omega)]; omega)) (by rw [List.getElem?_map,List.getElem?_eq_getElem hlt,hx]; rfl) ?_
  repeat first|refine go_ ?_|intro _
  refine at_get (z) (encRu x) (by first | rfl | omega | (rw [wrap_i64 (by omega)]; omega)) (by rw [List.getElem?_map,List.getElem?_eq_getElem hlt,hx]; rfl) ?_
  repeat first|refine go_ ?_|intro _
  apply call_step
  ·rfl
  ·exact Or.inl ⟨⟨_,Tryz.func25,rfl,rfl⟩,selfRule_ok x _⟩
  repeat first|refine go_ ?_|intro _
  refine AW_false (b := false) rfl (by first | rfl | (simp; done) | (simp; omega) | decide) ?_
  repeat first|refine go_ ?_|intro _
  refine ⟨z + 1,?_,?_,weak_of ?_ rfl ?_⟩
  ·omega
  ·omega
  ·exact e_
  ·exact w_
 repeat first|refine go_ ?_|intro _
 refine AW_ret ?_
 repeat refine mk_ ?_
 refine ⟨_,R,AVle.eq ?_,sle_,rfl,rfl⟩
 rfl
end Go.Proofs.YtfeknkaioofljaaGreatDoor
