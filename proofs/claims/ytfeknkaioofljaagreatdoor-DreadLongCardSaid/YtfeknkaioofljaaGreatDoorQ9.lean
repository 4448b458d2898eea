/-
 What every statement of this seat asks beside the law's own function. Own work.
-/
import Derived.Test.YtfeknkaioofljaaGreatDoorTab
import Derived.Test.YtfeknkaioofljaaGreatDoorRows
import Derived.ProofKit
import Derived.Test.YtfeknkaioofljaaGreatDoorQ1
set_option linter.all false
set_option maxHeartbeats 4000000
set_option maxRecDepth 4000
namespace Go.Proofs.YtfeknkaioofljaaGreatDoor
open Go.Aw Go.ChangeShapes Go.WideShapes Go.ChangeAt Go.RowKit
mutual
theorem bulk_eq {H : Type} : ∀ d : DataW H,Rows.uptoBulk d = bulk d
 | .lit (.string _) => rfl
 | .lit (.bool _) => rfl
 | .lit (.int _ _) => rfl
 | .lit (.float _ _) => rfl
 | .lit .nil => rfl
 | .nil => rfl
 | .ptr d => by simp only [Rows.uptoBulk,bulk]; rw [bulk_eq d]
 | .slice es sp => by simp only [Rows.uptoBulk,bulk]; rw [bulkAll_eq es,bulkAll_eq sp]
 | .agg ps => by simp only [Rows.uptoBulk,bulk]; rw [bulkAll_eq ps]
 | .iface _ d => by simp only [Rows.uptoBulk,bulk]; rw [bulk_eq d]
 | .map es => by simp only [Rows.uptoBulk,bulk]; rw [bulkEntries_eq es]
 | .held _ => rfl
theorem bulkAll_eq {H : Type} : ∀ ds : List (DataW H),Rows.uptoBulkAll ds = bulkAll ds
 | [] => rfl
 | d :: r => by simp only [Rows.uptoBulkAll,bulkAll]; rw [bulk_eq d,bulkAll_eq r]
theorem bulkEntries_eq {H : Type} : ∀ ds : List (Lit × DataW H),Rows.uptoBulkEntries ds = bulkEntries ds
 | [] => rfl
 | d :: r => by simp only [Rows.uptoBulkEntries,bulkEntries]; rw [bulkEntry_eq d,bulkEntries_eq r]
theorem bulkEntry_eq {H : Type} : ∀ d : Lit × DataW H,Rows.uptoBulkEntry d = bulkEntry d
 | (.string _,d) => by simp only [Rows.uptoBulkEntry,bulkEntry]; rw [bulk_eq d]
 | (.bool _,d) => by simp only [Rows.uptoBulkEntry,bulkEntry]; rw [bulk_eq d]
 | (.int _ _,d) => by simp only [Rows.uptoBulkEntry,bulkEntry]; rw [bulk_eq d]
 | (.float _ _,d) => by simp only [Rows.uptoBulkEntry,bulkEntry]; rw [bulk_eq d]
 | (.nil,d) => by simp only [Rows.uptoBulkEntry,bulkEntry]; rw [bulk_eq d]
end
theorem own : ownKnob Tryz.prog.godebug = none := by kernel_rfl
theorem laid : laidOutB Tryz.prog = true := by kernel_rfl
theorem rowed : mapsRowed Tryz.prog = true := by kernel_rfl
theorem full : ((List.range Tryz.prog.types.size).all fun t => match Tryz.prog.underlying t with | some (.slice e) => decide (0 < Tryz.prog.cellsOf e) | _ => true) = true := by kernel_rfl
end Go.Proofs.YtfeknkaioofljaaGreatDoor
namespace Go.Proofs.YtfeknkaioofljaaGreatDoor.Tree
open Go.Aw Go.ChangeShapes Go.WideShapes Go.ChangeAt Go.RowKit
inductive T
 | mk (op : Int) (s : List UInt8) (n : Int) (l : List T)
def T.op : T → Int
 | .mk a _ _ _ => a
def T.s : T → List UInt8
 | .mk _ a _ _ => a
def T.n : T → Int
 | .mk _ _ a _ => a
def T.l : T → List T
 | .mk _ _ _ a => a
mutual
def encT : T → AV
 | .mk op s n l => .agg [.int .i64 op, .str s, .int .i64 n, .sl 4 (encTs l) .no]
def encTs : List T → List AV
 | [] => []
 | t :: r => encT t :: encTs r
end
def cT (t : T) : List AV := [.int .i64 t.op, .str t.s, .int .i64 t.n, .sl 4 (encTs t.l) .no]
def encU (t : T) : AV := .agg (cT t)
theorem encT_eq (t : T) : encT t = encU t := by cases t; rfl
theorem encTs_map : ∀ l : List T,encTs l = l.map encU
 | [] => rfl
 | t :: l => by rw [encTs,encT_eq,encTs_map l]; rfl
@[simp] theorem encTs_len (l : List T) : (encTs l).length = l.length := by rw [encTs_map,List.length_map]
theorem encTs_get {l : List T} {i : Nat} (h : i < l.length) : (encTs l)[i]? = some (encU l[i]) := by
 rw [encTs_map,List.getElem?_map,List.getElem?_eq_getElem h]; rfl
structure At where
 rel : List UInt8
 l : List T
def cA (a : At) : List AV := [.str a.rel, .sl 4 (encTs a.l) .no]
def encA (a : At) : AV := .agg (cA a)
structure Li where
 op : Int
 a : At
 x : T
 y : T
def cL (l : Li) : List AV := [.int .i64 l.op, .str l.a.rel, .sl 4 (encTs l.a.l) .no, .int .i64 l.x.op, .str l.x.s, .int .i64 l.x.n, .sl 4 (encTs l.x.l) .no, .int .i64 l.y.op, .str l.y.s, .int .i64 l.y.n, .sl 4 (encTs l.y.l) .no]
def encL (l : Li) : AV := .agg (cL l)
structure Ru where
 head : At
 body : List Li
 line : Int
def cRu (r : Ru) : List AV := [.str r.head.rel, .sl 4 (encTs r.head.l) .no, .sl 11 (r.body.map encL) .no, .int .i64 r.line]
def encRu (r : Ru) : AV := .agg (cRu r)
structure De where
 rel : List UInt8
 names : List (List UInt8)
 types : List Int
 inp : Bool
 out : Bool
 line : Int
def encI (n : Int) : AV := .int .i64 n
def cD (d : De) : List AV := [.str d.rel, .sl 1 (d.names.map AV.str) .no, .sl 1 (d.types.map encI) .no, .bool d.inp, .bool d.out, .int .i64 d.line]
def encD (d : De) : AV := .agg (cD d)
structure Pr where
 decls : List De
 rules : List Ru
def encP (p : Pr) : AV := .agg [.sl 6 (p.decls.map encD) .no, .sl 4 (p.rules.map encRu) .no]
end Go.Proofs.YtfeknkaioofljaaGreatDoor.Tree
namespace Go.Proofs.YtfeknkaioofljaaGreatDoor.Tree
open Go.Aw Go.RowKit
def errAV (E : AV) (b : Bool) : AV := bif b then .nilif else E
def twoB (op : Int) : Bool := decide (op = 5) || decide (op = 6) || decide (op = 7)
def bareB (t : T) : Bool := if t.op = 1 then nameB t.s && decide (t.n = 0) else if t.op = 2 then decide (t.s = []) else if t.op = 3 then decide (t.n = 0) else if t.op = 4 ∨ t.op = 0 then decide (t.s = []) && decide (t.n = 0) else false
def leafB (t : T) : Bool := !decide (t.op = 0) && (bareB t && decide (t.l.length = 0))
def rightT : T → Nat → Bool
 | _,0 => false
 | t,h + 1 => if twoB t.op = false then leafB t else decide (t.s = []) && (decide (t.n = 0) && (decide (t.l.length = 2) && t.l.all fun x => !decide (x.op = 3) && (!decide (x.op = 4) && rightT x h)))
theorem isTwo_ok (op : Int) (R : List En) : ACall Tryz.prog 120 [.int .i64 op] R (fun r S => r = .bool (twoB op) ∧ S = R) := by
 refine ACall_body tab_ok Tryz.func120 rfl rfl rfl (by kernel_rfl) (nb_ rfl) ?_
 all_goals (repeat first|refine ga_ ?_|intro _)
 all_goals (try (first | refine AW_cond rfl (fun h => ?_) (fun h => ?_) | refine ⟨fun h => ?_,fun h => ?_⟩))
 all_goals (try (repeat first|refine ga_ ?_|intro _))
 all_goals (try (first | refine AW_cond rfl (fun h => ?_) (fun h => ?_) | refine ⟨fun h => ?_,fun h => ?_⟩))
 all_goals (try (repeat first|refine ga_ ?_|intro _))
 all_goals (try (first | refine AW_cond rfl (fun h => ?_) (fun h => ?_) | refine ⟨fun h => ?_,fun h => ?_⟩))
 all_goals (try (repeat first|refine ga_ ?_|intro _))
 all_goals (refine AW_ret ?_)
 all_goals (refine ⟨_,R,AVle.eq ?_,sle_,rfl,rfl⟩)
 all_goals (show AV.bool _ = AV.bool _; congr 1; first | (simp_all [twoB]; done) | (rw [Bool.eq_iff_iff]; simp [twoB] at *; omega))
theorem isBare_ok (t : T) (R : List En) : ACall Tryz.prog 171 [encU t] R (fun r S => r = .bool (bareB t) ∧ S = R) := by
 refine ACall_body tab_ok Tryz.func171 rfl rfl rfl (by kernel_rfl) (nb_ rfl) ?_
 repeat first|refine go_ ?_|intro _
 refine AW_iff (t.op = 1) rfl ib_ (fun h => ?_) (fun h => ?_)
 ·have h1 := h
  repeat first|refine go_ ?_|intro _
  refine Or.inl ⟨⟨_,Tryz.func78,rfl,rfl⟩,ACall.mono ?_ (name_ok t.s _)⟩
  rintro _ S1 ⟨rfl,hS1⟩
  subst S1
  all_goals (repeat first|refine ga_ ?_|intro _)
  all_goals (try (first | refine AW_cond rfl (fun h => ?_) (fun h => ?_) | refine ⟨fun h => ?_,fun h => ?_⟩))
  all_goals (try (repeat first|refine ga_ ?_|intro _))
  all_goals (try (first | refine AW_cond rfl (fun h => ?_) (fun h => ?_) | refine ⟨fun h => ?_,fun h => ?_⟩))
  all_goals (try (repeat first|refine ga_ ?_|intro _))
  all_goals (refine AW_ret ?_)
  all_goals (refine ⟨_,R,AVle.eq ?_,sle_,rfl,rfl⟩)
  all_goals (show AV.bool _ = AV.bool _; congr 1; rw [bareB,if_pos h1]; simp_all)
 have h1 := h
 repeat first|refine go_ ?_|intro _
 refine AW_iff (t.op = 2) rfl ib_ (fun h => ?_) (fun h => ?_)
 ·have h2 := h
  repeat first|refine go_ ?_|intro _
  refine AW_ret ?_
  repeat refine mk_ ?_
  refine ⟨_,R,AVle.eq ?_,sle_,rfl,rfl⟩
  rw [bareB,if_neg h1,if_pos h2]; rfl
 have h2 := h
 repeat first|refine go_ ?_|intro _
 refine AW_iff (t.op = 3) rfl ib_ (fun h => ?_) (fun h => ?_)
 ·have h3 := h
  repeat first|refine go_ ?_|intro _
  refine AW_ret ?_
  repeat refine mk_ ?_
  refine ⟨_,R,AVle.eq ?_,sle_,rfl,rfl⟩
  rw [bareB,if_neg h1,if_neg h2,if_pos h3]; rfl
 have h3 := h
 repeat first|refine go_ ?_|intro _
 refine AW_iff (t.op = 4) rfl ib_ (fun h => ?_) (fun h => ?_)
 ·have h4 := h
  all_goals (repeat first|refine ga_ ?_|intro _)
  all_goals (try (first | refine AW_cond rfl (fun h => ?_) (fun h => ?_) | refine ⟨fun h => ?_,fun h => ?_⟩))
  all_goals (try (repeat first|refine ga_ ?_|intro _))
  all_goals (try (first | refine AW_cond rfl (fun h => ?_) (fun h => ?_) | refine ⟨fun h => ?_,fun h => ?_⟩))
  all_goals (try (repeat first|refine ga_ ?_|intro _))
  all_goals (refine AW_ret ?_)
  all_goals (refine ⟨_,R,AVle.eq ?_,sle_,rfl,rfl⟩)
  all_goals (show AV.bool _ = AV.bool _; congr 1; rw [bareB,if_neg h1,if_neg h2,if_neg h3,if_pos (.inl h4)]; simp_all)
 have h4 := h
 repeat first|refine go_ ?_|intro _
 refine AW_iff (t.op = 0) rfl ib_ (fun h => ?_) (fun h => ?_)
 ·have h0 := h
  all_goals (repeat first|refine ga_ ?_|intro _)
  all_goals (try (first | refine AW_cond rfl (fun h => ?_) (fun h => ?_) | refine ⟨fun h => ?_,fun h => ?_⟩))
  all_goals (try (repeat first|refine ga_ ?_|intro _))
  all_goals (try (first | refine AW_cond rfl (fun h => ?_) (fun h => ?_) | refine ⟨fun h => ?_,fun h => ?_⟩))
  all_goals (try (repeat first|refine ga_ ?_|intro _))
  all_goals (refine AW_ret ?_)
  all_goals (refine ⟨_,R,AVle.eq ?_,sle_,rfl,rfl⟩)
  all_goals (show AV.bool _ = AV.bool _; congr 1; rw [bareB,if_neg h1,if_neg h2,if_neg h3,if_pos (.inr h0)]; simp_all)
 have h0 := h
 repeat first|refine go_ ?_|intro _
 refine AW_ret ?_
 repeat refine mk_ ?_
 refine ⟨_,R,AVle.eq ?_,sle_,rfl,rfl⟩
 rw [bareB,if_neg h1,if_neg h2,if_neg h3,if_neg (by omega)]; rfl
def errE (b o : Nat) : AV := .ifc 263 (.ptr b o)
theorem term_ok (b o : Nat) : ∀ (h : Nat) (t : T) (R : List En),En.glob 1 [errE b o] ∈ R → h ≤ 1000 → ACall Tryz.prog 151 [encU t, .int .i64 (h : Nat)] R (fun r S => r = errAV (errE b o) (rightT t h) ∧ S = R)
 | 0,t,R,hE,_ => by
  refine ACall_body tab_ok Tryz.func151 rfl rfl rfl (by kernel_rfl) (nb_ rfl) ?_
  repeat first|refine ga_ ?_|intro _
  refine ⟨_,mt_ hE,⟨Nat.le_refl 1,Nat.le_refl 1⟩,_,rfl,?_⟩
  repeat first|refine go_ ?_|intro _
  refine AW_ret ?_
  repeat refine mk_ ?_
  refine ⟨_,R,AVle.eq ?_,sle_,rfl,rfl⟩
  (rw [rightT]; rfl)
 | m + 1,t,R,hE,hm => by
  have k2 := isTwo_ok t.op
  have kb := isBare_ok t
  refine ACall_body tab_ok Tryz.func151 rfl rfl rfl (by kernel_rfl) (nb_ rfl) ?_
  repeat first|refine go_ ?_|intro _
  refine gsplit (((m + 1 : Nat) : Int) = 0) ib_ (fun h => ?_) (fun h => ?_)
  ·omega
  repeat first|refine go_ ?_|intro _
  refine AW_iff (t.op = 0) rfl ib_ (fun h => ?_) (fun h => ?_)
  ·have e : rightT t (m + 1) = false := by rw [rightT,h]; simp [twoB,leafB,h]
   repeat first|refine go_ ?_|intro _
   refine ⟨_,mt_ hE,⟨Nat.le_refl 1,Nat.le_refl 1⟩,_,rfl,?_⟩
   repeat first|refine go_ ?_|intro _
   refine AW_ret ?_
   repeat refine mk_ ?_
   refine ⟨_,R,AVle.eq ?_,sle_,rfl,rfl⟩
   (rw [e]; rfl)
  have h0 := h
  repeat first|refine go_ ?_|intro _
  refine Or.inl ⟨⟨_,Tryz.func120,rfl,rfl⟩,ACall.mono ?_ (k2 _)⟩
  rintro _ S1 ⟨rfl,hS1⟩
  subst S1
  repeat first|refine go_ ?_|intro _
  refine AW_cond (b := !twoB t.op) rfl (fun h => ?_) (fun h => ?_)
  ·have h2 : twoB t.op = false := by simpa using h
   repeat first|refine go_ ?_|intro _
   refine Or.inl ⟨⟨_,Tryz.func171,rfl,rfl⟩,ACall.mono ?_ (kb _)⟩
   rintro _ S1 ⟨rfl,hS1⟩
   subst S1
   repeat first|refine go_ ?_|intro _
   refine gsplit (bareB t = false) ib_ (fun h => ?_) (fun h => ?_)
   ·have e : rightT t (m + 1) = false := by rw [rightT,if_pos h2]; simp [leafB,h]
    repeat first|refine ga_ ?_|intro _
    refine ⟨_,mt_ hE,⟨Nat.le_refl 1,Nat.le_refl 1⟩,_,rfl,?_⟩
    repeat first|refine go_ ?_|intro _
    refine AW_ret ?_
    repeat refine mk_ ?_
    refine ⟨_,R,AVle.eq ?_,sle_,rfl,rfl⟩
    (rw [e]; rfl)
   have h3 : bareB t = true := by simpa using h
   repeat first|refine ga_ ?_|intro _
   refine AW_iff (0 < t.l.length) rfl ib_ (fun h => ?_) (fun h => ?_)
   ·have e : rightT t (m + 1) = false := by rw [rightT,if_pos h2]; simp [leafB]; intro _ _ x; rw [x] at h; simp at h
    repeat first|refine ga_ ?_|intro _
    refine ⟨_,mt_ hE,⟨Nat.le_refl 1,Nat.le_refl 1⟩,_,rfl,?_⟩
    repeat first|refine go_ ?_|intro _
    refine AW_ret ?_
    repeat refine mk_ ?_
    refine ⟨_,R,AVle.eq ?_,sle_,rfl,rfl⟩
    (rw [e]; rfl)
   have e : rightT t (m + 1) = true := by rw [rightT,if_pos h2]; simp [leafB,h0,h3]; simpa using h
   repeat first|refine go_ ?_|intro _
   refine AW_ret ?_
   repeat refine mk_ ?_
   refine ⟨_,R,AVle.eq ?_,sle_,rfl,rfl⟩
   rw [e]; rfl
  have h2 : ¬ twoB t.op = false := by simpa using h
  repeat first|refine go_ ?_|intro _
  refine gsplit (t.s ≠ []) ib_ (fun h => ?_) (fun h => ?_)
  ·have e : rightT t (m + 1) = false := by rw [rightT,if_neg h2]; simp [h]
   repeat first|refine ga_ ?_|intro _
   refine ⟨_,mt_ hE,⟨Nat.le_refl 1,Nat.le_refl 1⟩,_,rfl,?_⟩
   repeat first|refine go_ ?_|intro _
   refine AW_ret ?_
   repeat refine mk_ ?_
   refine ⟨_,R,AVle.eq ?_,sle_,rfl,rfl⟩
   (rw [e]; rfl)
  have h3 : t.s = [] := Decidable.not_not.1 h
  repeat first|refine ga_ ?_|intro _
  refine gsplit (t.n ≠ 0) ib_ (fun h => ?_) (fun h => ?_)
  ·have e : rightT t (m + 1) = false := by rw [rightT,if_neg h2]; simp [h]
   repeat first|refine ga_ ?_|intro _
   refine ⟨_,mt_ hE,⟨Nat.le_refl 1,Nat.le_refl 1⟩,_,rfl,?_⟩
   repeat first|refine go_ ?_|intro _
   refine AW_ret ?_
   repeat refine mk_ ?_
   refine ⟨_,R,AVle.eq ?_,sle_,rfl,rfl⟩
   (rw [e]; rfl)
  have h4 : t.n = 0 := Decidable.not_not.1 h
  repeat first|refine ga_ ?_|intro _
  refine AW_iff (t.l.length ≠ 2) rfl ib_ (fun h => ?_) (fun h => ?_)
  ·have e : rightT t (m + 1) = false := by rw [rightT,if_neg h2]; simp [h]
   repeat first|refine ga_ ?_|intro _
   refine ⟨_,mt_ hE,⟨Nat.le_refl 1,Nat.le_refl 1⟩,_,rfl,?_⟩
   repeat first|refine go_ ?_|intro _
   refine AW_ret ?_
   repeat refine mk_ ?_
   refine ⟨_,R,AVle.eq ?_,sle_,rfl,rfl⟩
   (rw [e]; rfl)
  have h5 : t.l.length = 2 := Decidable.not_not.1 h
  have e0 : rightT t (m + 1) = t.l.all fun x => !decide (x.op = 3) && (!decide (x.op = 4) && rightT x m) := by rw [rightT,if_neg h2]; simp [h3,h4,h5]
  repeat first|refine go_ ?_|intro _
  refine AW_for (α := Nat) (fun z => ⟨[(1, .int .i64 ((m + 1 : Nat) : Int)),(49, .sl 4 (encTs t.l) .no),(50, .int .i64 (t.l.length : Nat)),(51, .int .i64 (z : Nat))], []⟩) (fun z => R) (fun z => t.l.length - z) (fun z => z ≤ t.l.length ∧ ∀ (i : Nat) (hi : i < t.l.length),i < z → (!decide (t.l[i].op = 3) && (!decide (t.l[i].op = 4) && rightT t.l[i] m)) = true) (0) ?_ (weak_of ?_ rfl ?_) (fun z hz => ?_)
  ·exact ⟨by omega,fun i _ h => by omega⟩
  ·repeat (first | exact trivial | refine ⟨(AVle.eq (congrArg (AV.int .i64) (by simp))),?_⟩ | refine env_ ?_)
  ·exact l_
  obtain ⟨i1,i2⟩ := hz
  repeat first|refine go_ ?_|intro _
  refine AW_iff (z < t.l.length) rfl ib_ (fun h => ?_) (fun h => ?_)
  ·have hlt := h
   obtain ⟨x,hx⟩ : ∃ x,x = t.l[z] := ⟨_,rfl⟩
   have bad : (!decide (x.op = 3) && (!decide (x.op = 4) && rightT x m)) = false → rightT t (m + 1) = false := fun hb => by
    rw [e0,List.all_eq_false]
    exact ⟨_,List.getElem_mem hlt,by rw [← hx,hb]; simp⟩
   repeat first|refine go_ ?_|intro _
   refine at_get (z) (encU x) (by first | rfl | omega | (rw [wrap_i64 (by omega)]; omega)) (by rw [hx]; exact encTs_get hlt) ?_
   repeat first|refine go_ ?_|intro _
   refine gsplit (x.op = 3) ib_ (fun h => ?_) (fun h => ?_)
   ·repeat first|refine ga_ ?_|intro _
    refine ⟨_,mt_ hE,⟨Nat.le_refl 1,Nat.le_refl 1⟩,_,rfl,?_⟩
    repeat first|refine go_ ?_|intro _
    refine AW_ret ?_
    repeat refine mk_ ?_
    refine ⟨_,R,AVle.eq ?_,sle_,rfl,rfl⟩
    (rw [bad (by simp [h])]; rfl)
   have hx3 := h
   repeat first|refine ga_ ?_|intro _
   refine AW_iff (x.op = 4) rfl ib_ (fun h => ?_) (fun h => ?_)
   ·repeat first|refine ga_ ?_|intro _
    refine ⟨_,mt_ hE,⟨Nat.le_refl 1,Nat.le_refl 1⟩,_,rfl,?_⟩
    repeat first|refine go_ ?_|intro _
    refine AW_ret ?_
    repeat refine mk_ ?_
    refine ⟨_,R,AVle.eq ?_,sle_,rfl,rfl⟩
    (rw [bad (by simp [h])]; rfl)
   have hx4 := h
   have kt := fun R => term_ok b o m x R
   cases hr : rightT x m with
   | false =>
    rw [hr] at kt bad
    repeat first|refine go_ ?_|intro _
    refine Or.inl ⟨⟨_,Tryz.func151,rfl,rfl⟩,ACall_args (ACall.mono ?_ (kt _ (.tail _ hE) (by omega))) ⟨AVle.refl _,AVle.eq (congrArg (AV.int .i64) (by rw [wrap_i64 (by omega)]; omega)),trivial⟩⟩
    rintro _ S1 ⟨rfl,hS1⟩
    subst S1
    repeat first|refine ga_ ?_|intro _
    refine AW_ret ?_
    repeat refine mk_ ?_
    refine ⟨_,R,AVle.eq ?_,sle_,rfl,rfl⟩
    rw [bad (by simp)]; rfl
   | true =>
    rw [hr] at kt
    repeat first|refine go_ ?_|intro _
    refine Or.inl ⟨⟨_,Tryz.func151,rfl,rfl⟩,ACall_args (ACall.mono ?_ (kt _ (.tail _ hE) (by omega))) ⟨AVle.refl _,AVle.eq (congrArg (AV.int .i64) (by rw [wrap_i64 (by omega)]; omega)),trivial⟩⟩
    rintro _ S1 ⟨rfl,hS1⟩
    subst S1
    repeat first|refine ga_ ?_|intro _
    refine ⟨z + 1,?_,?_,weak_of ?_ rfl ?_⟩
    ·omega
    ·refine ⟨by omega,fun i hi hiz => ?_⟩
     by_cases hc : i < z
     ·exact i2 i hi hc
     ·obtain rfl : i = z := by omega
      rw [← hx,hr]; simp [hx3,hx4]
    ·exact e_
    ·exact w_
  ·have e : rightT t (m + 1) = true := by
    rw [e0,List.all_eq_true]
    intro x hx
    obtain ⟨i,hi,rfl⟩ := List.mem_iff_getElem.1 hx
    exact i2 i hi (by omega)
   repeat first|refine go_ ?_|intro _
   refine AW_ret ?_
   repeat refine mk_ ?_
   refine ⟨_,R,AVle.eq ?_,sle_,rfl,rfl⟩
   rw [e]; rfl
def noT (t : T) : Bool := decide (t.op = 0) && (bareB t && decide (t.l.length = 0))
def noA (a : At) : Bool := decide (a.rel = []) && decide (a.l.length = 0)
def rightA (a : At) : Bool := nameB a.rel && (!decide (a.l.length = 0) && (!decide (8 < a.l.length) && a.l.all fun x => rightT x 20))
theorem noTerm_ok (t : T) (R : List En) : ACall Tryz.prog 153 [encU t] R (fun r S => r = .bool (noT t) ∧ S = R) := by
 have kb := isBare_ok t
 refine ACall_body tab_ok Tryz.func153 rfl rfl rfl (by kernel_rfl) (nb_ rfl) ?_
 repeat first|refine go_ ?_|intro _
 refine gsplit (t.op = 0) ib_ (fun h => ?_) (fun h => ?_)
 ·have h0 := h
  repeat first|refine go_ ?_|intro _
  refine Or.inl ⟨⟨_,Tryz.func171,rfl,rfl⟩,ACall.mono ?_ (kb _)⟩
  rintro _ S1 ⟨rfl,hS1⟩
  subst S1
  repeat first|refine go_ ?_|intro _
  refine gsplit (bareB t = true) ib_ (fun h => ?_) (fun h => ?_)
  ·repeat first|refine go_ ?_|intro _
   refine AW_ret ?_
   repeat refine mk_ ?_
   refine ⟨_,R,AVle.eq ?_,sle_,rfl,rfl⟩
   exact congrArg AV.bool (by simp [noT,h0,h])
  ·repeat first|refine ga_ ?_|intro _
   refine AW_ret ?_
   repeat refine mk_ ?_
   refine ⟨_,R,AVle.eq ?_,sle_,rfl,rfl⟩
   exact congrArg AV.bool (by simp [noT,h0,h])
 ·repeat first|refine ga_ ?_|intro _
  refine AW_ret ?_
  repeat refine mk_ ?_
  refine ⟨_,R,AVle.eq ?_,sle_,rfl,rfl⟩
  exact congrArg AV.bool (by simp [noT,h])
theorem noAtom_ok (a : At) (R : List En) : ACall Tryz.prog 154 [encA a] R (fun r S => r = .bool (noA a) ∧ S = R) := by
 refine ACall_body tab_ok Tryz.func154 rfl rfl rfl (by kernel_rfl) (nb_ rfl) ?_
 repeat first|refine go_ ?_|intro _
 refine gsplit (a.rel = []) ib_ (fun h => ?_) (fun h => ?_)
 ·repeat first|refine go_ ?_|intro _
  refine AW_ret ?_
  repeat refine mk_ ?_
  refine ⟨_,R,AVle.eq ?_,sle_,rfl,rfl⟩
  exact congrArg AV.bool (by simp [noA,h])
 ·repeat first|refine ga_ ?_|intro _
  refine AW_ret ?_
  repeat refine mk_ ?_
  refine ⟨_,R,AVle.eq ?_,sle_,rfl,rfl⟩
  exact congrArg AV.bool (by simp [noA,h])
theorem must_ok (b o : Nat) (c : Bool) (R : List En) (hE : En.glob 1 [errE b o] ∈ R) : ACall Tryz.prog 119 [.bool c] R (fun r S => r = errAV (errE b o) c ∧ S = R) := by
 refine ACall_body tab_ok Tryz.func119 rfl rfl rfl (by kernel_rfl) (nb_ rfl) ?_
 repeat first|refine go_ ?_|intro _
 refine AW_cond (b := c) rfl (fun h => ?_) (fun h => ?_)
 ·repeat first|refine go_ ?_|intro _
  refine AW_ret ?_
  repeat refine mk_ ?_
  refine ⟨_,R,AVle.eq ?_,sle_,rfl,rfl⟩
  subst h; rfl
 ·repeat first|refine go_ ?_|intro _
  refine ⟨_,mt_ hE,⟨Nat.le_refl 1,Nat.le_refl 1⟩,_,rfl,?_⟩
  repeat first|refine go_ ?_|intro _
  refine AW_ret ?_
  repeat refine mk_ ?_
  refine ⟨_,R,AVle.eq ?_,sle_,rfl,rfl⟩
  (subst h; rfl)
theorem atom_ok (b o : Nat) (a : At) (R : List En) (hE : En.glob 1 [errE b o] ∈ R) : ACall Tryz.prog 118 [encA a] R (fun r S => r = errAV (errE b o) (rightA a) ∧ S = R) := by
 have kn := name_ok a.rel
 refine ACall_body tab_ok Tryz.func118 rfl rfl rfl (by kernel_rfl) (nb_ rfl) ?_
 repeat first|refine go_ ?_|intro _
 refine Or.inl ⟨⟨_,Tryz.func78,rfl,rfl⟩,ACall.mono ?_ (kn _)⟩
 rintro _ S1 ⟨rfl,hS1⟩
 subst S1
 repeat first|refine go_ ?_|intro _
 refine gsplit (nameB a.rel = false) ib_ (fun h => ?_) (fun h => ?_)
 ·have e : rightA a = false := by simp [rightA,h]
  repeat first|refine ga_ ?_|intro _
  refine ⟨_,mt_ hE,⟨Nat.le_refl 1,Nat.le_refl 1⟩,_,rfl,?_⟩
  repeat first|refine go_ ?_|intro _
  refine AW_ret ?_
  repeat refine mk_ ?_
  refine ⟨_,R,AVle.eq ?_,sle_,rfl,rfl⟩
  (rw [e]; rfl)
 have h1 : nameB a.rel = true := by simpa using h
 repeat first|refine ga_ ?_|intro _
 refine gsplit (a.l.length = 0) ib_ (fun h => ?_) (fun h => ?_)
 ·have e : rightA a = false := by simp [rightA,h]
  repeat first|refine ga_ ?_|intro _
  refine ⟨_,mt_ hE,⟨Nat.le_refl 1,Nat.le_refl 1⟩,_,rfl,?_⟩
  repeat first|refine go_ ?_|intro _
  refine AW_ret ?_
  repeat refine mk_ ?_
  refine ⟨_,R,AVle.eq ?_,sle_,rfl,rfl⟩
  (rw [e]; rfl)
 have h2 := h
 repeat first|refine ga_ ?_|intro _
 refine AW_iff (8 < a.l.length) rfl ib_ (fun h => ?_) (fun h => ?_)
 ·have e : rightA a = false := by simp [rightA,h]
  repeat first|refine ga_ ?_|intro _
  refine ⟨_,mt_ hE,⟨Nat.le_refl 1,Nat.le_refl 1⟩,_,rfl,?_⟩
  repeat first|refine go_ ?_|intro _
  refine AW_ret ?_
  repeat refine mk_ ?_
  refine ⟨_,R,AVle.eq ?_,sle_,rfl,rfl⟩
  (rw [e]; rfl)
 have h3 := h
 have e0 : rightA a = a.l.all fun x => rightT x 20 := by rw [rightA,h1,decide_eq_false h2,decide_eq_false h3]; simp
 repeat first|refine go_ ?_|intro _
 refine AW_for (α := Nat) (fun z => ⟨[(24, .sl 4 (encTs a.l) .no),(25, .int .i64 (a.l.length : Nat)),(26, .int .i64 (z : Nat))], []⟩) (fun z => R) (fun z => a.l.length - z) (fun z => z ≤ a.l.length ∧ ∀ (i : Nat) (hi : i < a.l.length),i < z → rightT a.l[i] 20 = true) (0) ?_ (weak_of ?_ rfl ?_) (fun z hz => ?_)
 ·exact ⟨by omega,fun i _ h => by omega⟩
 ·repeat (first | exact trivial | refine ⟨(AVle.eq (congrArg (AV.int .i64) (by simp))),?_⟩ | refine env_ ?_)
 ·exact l_
 obtain ⟨i1,i2⟩ := hz
 repeat first|refine go_ ?_|intro _
 refine AW_iff (z < a.l.length) rfl ib_ (fun h => ?_) (fun h => ?_)
 ·have hlt := h
  obtain ⟨x,hx⟩ : ∃ x,x = a.l[z] := ⟨_,rfl⟩
  have kt := fun R => term_ok b o 20 x R
  cases hr : rightT x 20 with
  | false =>
   have e : rightA a = false := by
    rw [e0,List.all_eq_false]
    exact ⟨_,List.getElem_mem hlt,by rw [← hx,hr]; simp⟩
   rw [hr] at kt
   repeat first|refine go_ ?_|intro _
   refine at_get (z) (encU x) (by first | rfl | omega | (rw [wrap_i64 (by omega)]; omega)) (by rw [hx]; exact encTs_get hlt) ?_
   repeat first|refine go_ ?_|intro _
   refine Or.inl ⟨⟨_,Tryz.func151,rfl,rfl⟩,ACall.mono ?_ (kt _ (.tail _ hE) (by omega))⟩
   rintro _ S1 ⟨rfl,hS1⟩
   subst S1
   repeat first|refine ga_ ?_|intro _
   refine AW_ret ?_
   repeat refine mk_ ?_
   refine ⟨_,R,AVle.eq ?_,sle_,rfl,rfl⟩
   rw [e]; rfl
  | true =>
   rw [hr] at kt
   repeat first|refine go_ ?_|intro _
   refine at_get (z) (encU x) (by first | rfl | omega | (rw [wrap_i64 (by omega)]; omega)) (by rw [hx]; exact encTs_get hlt) ?_
   repeat first|refine go_ ?_|intro _
   refine Or.inl ⟨⟨_,Tryz.func151,rfl,rfl⟩,ACall.mono ?_ (kt _ (.tail _ hE) (by omega))⟩
   rintro _ S1 ⟨rfl,hS1⟩
   subst S1
   repeat first|refine ga_ ?_|intro _
   refine ⟨z + 1,?_,?_,weak_of ?_ rfl ?_⟩
   ·omega
   ·refine ⟨by omega,fun i hi hiz => ?_⟩
    by_cases hc : i < z
    ·exact i2 i hi hc
    ·obtain rfl : i = z := by omega
     rw [← hx,hr]
   ·exact e_
   ·exact w_
 ·have e : rightA a = true := by
   rw [e0,List.all_eq_true]
   intro x hx
   obtain ⟨i,hi,rfl⟩ := List.mem_iff_getElem.1 hx
   exact i2 i hi (by omega)
  repeat first|refine go_ ?_|intro _
  refine AW_ret ?_
  repeat refine mk_ ?_
  refine ⟨_,R,AVle.eq ?_,sle_,rfl,rfl⟩
  rw [e]; rfl
theorem first_ok (b o : Nat) (l : List Bool) (tk : Tk) (R : List En) (hl : l.length ≤ 4) : ACall Tryz.prog 152 [.sl 1 (l.map (errAV (errE b o))) tk] R (fun r S => r = errAV (errE b o) (l.all id) ∧ S = R) := by
 refine ACall_body tab_ok Tryz.func152 rfl rfl rfl (by kernel_rfl) (nb_ rfl) ?_
 repeat first|refine go_ ?_|intro _
 refine AW_for (α := Nat) (fun z => ⟨[(5, .sl 1 (l.map (errAV (errE b o))) tk),(6, .int .i64 (l.length : Nat)),(7, .int .i64 (z : Nat))], []⟩) (fun z => R) (fun z => l.length - z) (fun z => z ≤ l.length ∧ ∀ (i : Nat) (hi : i < l.length),i < z → l[i] = true) (0) ?_ (weak_of ?_ rfl ?_) (fun z hz => ?_)
 ·exact ⟨by omega,fun i _ h => by omega⟩
 ·repeat (first | exact trivial | refine ⟨(AVle.eq (congrArg (AV.int .i64) (by simp))),?_⟩ | refine env_ ?_)
 ·exact l_
 obtain ⟨i1,i2⟩ := hz
 repeat first|refine go_ ?_|intro _
 refine AW_iff (z < l.length) rfl ib_ (fun h => ?_) (fun h => ?_)
 ·have hlt := h
  cases hr : l[z] with
  | false =>
   have e : l.all id = false := by
    rw [List.all_eq_false]
    exact ⟨_,List.getElem_mem hlt,by rw [hr]; simp⟩
   repeat first|refine go_ ?_|intro _
   refine at_get (z) (errE b o) (by first | rfl | omega | (rw [wrap_i64 (by omega)]; omega)) (by rw [List.getElem?_map,List.getElem?_eq_getElem hlt,hr]; rfl) ?_
   repeat first|refine ga_ ?_|intro _
   refine AW_ret ?_
   repeat refine mk_ ?_
   refine ⟨_,R,AVle.eq ?_,sle_,rfl,rfl⟩
   rw [e]; rfl
  | true =>
   repeat first|refine go_ ?_|intro _
   refine at_get (z) (.nilif) (by first | rfl | omega | (rw [wrap_i64 (by omega)]; omega)) (by rw [List.getElem?_map,List.getElem?_eq_getElem hlt,hr]; rfl) ?_
   repeat first|refine ga_ ?_|intro _
   refine ⟨z + 1,?_,?_,weak_of ?_ rfl ?_⟩
   ·omega
   ·refine ⟨by omega,fun i hi hiz => ?_⟩
    by_cases hc : i < z
    ·exact i2 i hi hc
    ·obtain rfl : i = z := by omega
     exact hr
   ·exact e_
   ·exact l_
 ·have e : l.all id = true := by
   rw [List.all_eq_true]
   intro x hx
   obtain ⟨i,hi,rfl⟩ := List.mem_iff_getElem.1 hx
   exact i2 i hi (by omega)
  repeat first|refine go_ ?_|intro _
  refine AW_ret ?_
  repeat refine mk_ ?_
  refine ⟨_,R,AVle.eq ?_,sle_,rfl,rfl⟩
  rw [e]; rfl
end Go.Proofs.YtfeknkaioofljaaGreatDoor.Tree
