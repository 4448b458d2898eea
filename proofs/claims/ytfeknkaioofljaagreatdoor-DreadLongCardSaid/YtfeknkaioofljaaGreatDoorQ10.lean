/-
 Which parts of bodies may be. Own work.
-/
import Derived.Test.YtfeknkaioofljaaGreatDoorQ9
import Derived.Test.YtfeknkaioofljaaGreatDoorQ3
set_option linter.all false
set_option maxHeartbeats 4000000
set_option maxRecDepth 4000
namespace Go.Proofs.YtfeknkaioofljaaGreatDoor.Tree
open Go.Aw Go.RowKit
def isX (x : T) : Bool := decide (x.op = 1) || decide (x.op = 2)
def rightL (l : Li) : Bool :=
 if l.op = 1 ∨ l.op = 2 then rightA l.a && (noT l.x && noT l.y)
 else if 3 ≤ l.op ∧ l.op ≤ 6 then (noA l.a && (!decide (l.x.op = 4) && !decide (l.y.op = 4))) && (rightT l.x 20 && rightT l.y 20)
 else if l.op = 7 then rightA l.a && ((isX l.x && noT l.y) && rightT l.x 20)
 else if 8 ≤ l.op ∧ l.op ≤ 10 then rightA l.a && ((isX l.x && decide (l.y.op = 1)) && (rightT l.x 20 && rightT l.y 20))
 else false
theorem err_all (b o : Nat) (l : List Bool) : ((l.map (errAV (errE b o))).all fun x => x.plain && Nat.beq x.cells.length 1) = true := by
 rw [List.all_eq_true]
 intro x hx
 obtain ⟨c,_,rfl⟩ := List.mem_map.1 hx
 cases c <;> rfl
theorem lit_ok (b o : Nat) (l : Li) (R : List En) (hE : En.glob 1 [errE b o] ∈ R) : ACall Tryz.prog 121 [encL l] R (fun r S => r = errAV (errE b o) (rightL l) ∧ S = R) := by
 obtain ⟨op,a,x,y⟩ := l
 have ka := fun R h => atom_ok b o a R h
 have kx := noTerm_ok x
 have ky := noTerm_ok y
 have kna := noAtom_ok a
 have kt := fun R h => term_ok b o 20 x R h (by omega)
 have ku := fun R h => term_ok b o 20 y R h (by omega)
 refine ACall_body tab_ok Tryz.func121 rfl rfl rfl (by kernel_rfl) (nb_ rfl) ?_
 refine AW_seq ?_
 refine AW_region tab_ok ?_
 repeat first|refine gr_ ?_|intro _
 rename_i p
 refine AW_cut1 (α := Unit) (fun z => ⟨[(1, .ptr p 0),(3, .bool (isX x))], []⟩) (fun z => .cells p (cL ⟨op,a,x,y⟩) :: R) (fun z => True) ?_ (fun z hz => ?_)
 ·all_goals (repeat first|refine ga_ ?_|intro _)
  all_goals (try (first | refine AW_cond rfl (fun h => ?_) (fun h => ?_) | refine ⟨fun h => ?_,fun h => ?_⟩))
  all_goals (try (repeat first|refine ga_ ?_|intro _))
  ·have e : isX x = true := by simp [isX,of_decide_eq_true h]
   refine ⟨(),?_,weak_of ?_ rfl ?_⟩
   ·trivial
   ·repeat (first | exact trivial | refine ⟨(AVle.eq (congrArg AV.bool e.symm)),?_⟩ | refine env_ ?_)
   ·exact l_
  ·have e : isX x = decide (x.op = 2) := by simp [isX,of_decide_eq_false h]
   refine ⟨(),?_,weak_of ?_ rfl ?_⟩
   ·trivial
   ·repeat (first | exact trivial | refine ⟨(AVle.eq (congrArg AV.bool e.symm)),?_⟩ | refine env_ ?_)
   ·exact l_
 by_cases ho : op = 1 ∨ op = 2
 ·have e : rightL ⟨op,a,x,y⟩ = (rightA a && (noT x && noT y)) := by rw [rightL,if_pos ho]
  rcases ho with rfl | rfl
  ·repeat first|refine ga_ ?_|intro _
   refine AW_draw tab_ok mixed 15 (by first | rfl | kernel_rfl) ?_
   repeat first|refine go_ ?_|intro _
   apply call_step
   ·rfl
   ·exact Or.inl ⟨⟨_,Tryz.func118,rfl,rfl⟩,ka _ (.tail _ hE)⟩
   repeat first|refine go_ ?_|intro _
   apply call_step
   ·rfl
   ·exact Or.inl ⟨⟨_,Tryz.func153,rfl,rfl⟩,kx _⟩
   repeat first|refine go_ ?_|intro _
   refine gsplit (noT x = true) ib_ (fun h => ?_) (fun h => ?_)
   ·have hn := h
    repeat first|refine go_ ?_|intro _
    apply call_step
    ·rfl
    ·exact Or.inl ⟨⟨_,Tryz.func153,rfl,rfl⟩,ky _⟩
    repeat first|refine go_ ?_|intro _
    apply call_step
    ·rfl
    ·exact Or.inl ⟨⟨_,Tryz.func119,rfl,rfl⟩,must_ok b o (noT y) _ (.tail _ hE)⟩
    repeat first|refine go_ ?_|intro _
    refine ⟨err_all b o [rightA a,noT y],?_⟩
    repeat first|refine go_ ?_|intro _
    apply call_step
    ·rfl
    ·exact Or.inl ⟨⟨_,Tryz.func152,rfl,rfl⟩,first_ok b o [rightA a,noT y] _ _ (by simp)⟩
    repeat first|refine go_ ?_|intro _
    refine AW_ret ?_
    repeat refine mk_ ?_
    refine ⟨_,R,AVle.eq ?_,sle_,rfl,rfl⟩
    exact congrArg (errAV (errE b o)) (show ([rightA a,noT y]).all id = _ by rw [e]; simp [*])
   ·have hn := h
    repeat first|refine go_ ?_|intro _
    apply call_step
    ·rfl
    ·exact Or.inl ⟨⟨_,Tryz.func119,rfl,rfl⟩,must_ok b o false _ (.tail _ hE)⟩
    repeat first|refine go_ ?_|intro _
    refine ⟨err_all b o [rightA a,false],?_⟩
    repeat first|refine go_ ?_|intro _
    apply call_step
    ·rfl
    ·exact Or.inl ⟨⟨_,Tryz.func152,rfl,rfl⟩,first_ok b o [rightA a,false] _ _ (by simp)⟩
    repeat first|refine go_ ?_|intro _
    refine AW_ret ?_
    repeat refine mk_ ?_
    refine ⟨_,R,AVle.eq ?_,sle_,rfl,rfl⟩
    exact congrArg (errAV (errE b o)) (show ([rightA a,false]).all id = _ by rw [e]; simp [*])
  ·repeat first|refine ga_ ?_|intro _
   refine AW_draw tab_ok mixed 15 (by first | rfl | kernel_rfl) ?_
   repeat first|refine go_ ?_|intro _
   apply call_step
   ·rfl
   ·exact Or.inl ⟨⟨_,Tryz.func118,rfl,rfl⟩,ka _ (.tail _ hE)⟩
   repeat first|refine go_ ?_|intro _
   apply call_step
   ·rfl
   ·exact Or.inl ⟨⟨_,Tryz.func153,rfl,rfl⟩,kx _⟩
   repeat first|refine go_ ?_|intro _
   refine gsplit (noT x = true) ib_ (fun h => ?_) (fun h => ?_)
   ·have hn := h
    repeat first|refine go_ ?_|intro _
    apply call_step
    ·rfl
    ·exact Or.inl ⟨⟨_,Tryz.func153,rfl,rfl⟩,ky _⟩
    repeat first|refine go_ ?_|intro _
    apply call_step
    ·rfl
    ·exact Or.inl ⟨⟨_,Tryz.func119,rfl,rfl⟩,must_ok b o (noT y) _ (.tail _ hE)⟩
    repeat first|refine go_ ?_|intro _
    refine ⟨err_all b o [rightA a,noT y],?_⟩
    repeat first|refine go_ ?_|intro _
    apply call_step
    ·rfl
    ·exact Or.inl ⟨⟨_,Tryz.func152,rfl,rfl⟩,first_ok b o [rightA a,noT y] _ _ (by simp)⟩
    repeat first|refine go_ ?_|intro _
    refine AW_ret ?_
    repeat refine mk_ ?_
    refine ⟨_,R,AVle.eq ?_,sle_,rfl,rfl⟩
    exact congrArg (errAV (errE b o)) (show ([rightA a,noT y]).all id = _ by rw [e]; simp [*])
   ·have hn := h
    repeat first|refine go_ ?_|intro _
    apply call_step
    ·rfl
    ·exact Or.inl ⟨⟨_,Tryz.func119,rfl,rfl⟩,must_ok b o false _ (.tail _ hE)⟩
    repeat first|refine go_ ?_|intro _
    refine ⟨err_all b o [rightA a,false],?_⟩
    repeat first|refine go_ ?_|intro _
    apply call_step
    ·rfl
    ·exact Or.inl ⟨⟨_,Tryz.func152,rfl,rfl⟩,first_ok b o [rightA a,false] _ _ (by simp)⟩
    repeat first|refine go_ ?_|intro _
    refine AW_ret ?_
    repeat refine mk_ ?_
    refine ⟨_,R,AVle.eq ?_,sle_,rfl,rfl⟩
    exact congrArg (errAV (errE b o)) (show ([rightA a,false]).all id = _ by rw [e]; simp [*])
 by_cases hp : op = 3 ∨ op = 4 ∨ op = 5 ∨ op = 6
 ·have e : rightL ⟨op,a,x,y⟩ = ((noA a && (!decide (x.op = 4) && !decide (y.op = 4))) && (rightT x 20 && rightT y 20)) := by rw [rightL,if_neg ho,if_pos (show 3 ≤ op ∧ op ≤ 6 by omega)]
  rcases hp with rfl | rfl | rfl | rfl
  ·repeat first|refine ga_ ?_|intro _
   refine AW_draw tab_ok mixed 25 (by first | rfl | kernel_rfl) ?_
   repeat first|refine go_ ?_|intro _
   apply call_step
   ·rfl
   ·exact Or.inl ⟨⟨_,Tryz.func154,rfl,rfl⟩,kna _⟩
   repeat first|refine go_ ?_|intro _
   refine gsplit (noA a = true) ib_ (fun h => ?_) (fun h => ?_)
   ·have hn := h
    repeat first|refine go_ ?_|intro _
    refine gsplit (¬ x.op = 4) ib_ (fun h => ?_) (fun h => ?_)
    ·have hx := h
     repeat first|refine go_ ?_|intro _
     apply call_step
     ·rfl
     ·exact Or.inl ⟨⟨_,Tryz.func119,rfl,rfl⟩,must_ok b o (!decide (y.op = 4)) _ (.tail _ hE)⟩
     repeat first|refine go_ ?_|intro _
     apply call_step
     ·rfl
     ·exact Or.inl ⟨⟨_,Tryz.func151,rfl,rfl⟩,kt _ (.tail _ hE)⟩
     repeat first|refine go_ ?_|intro _
     apply call_step
     ·rfl
     ·exact Or.inl ⟨⟨_,Tryz.func151,rfl,rfl⟩,ku _ (.tail _ hE)⟩
     repeat first|refine go_ ?_|intro _
     refine ⟨err_all b o [!decide (y.op = 4),rightT x 20,rightT y 20],?_⟩
     repeat first|refine go_ ?_|intro _
     apply call_step
     ·rfl
     ·exact Or.inl ⟨⟨_,Tryz.func152,rfl,rfl⟩,first_ok b o [!decide (y.op = 4),rightT x 20,rightT y 20] _ _ (by simp)⟩
     repeat first|refine go_ ?_|intro _
     refine AW_ret ?_
     repeat refine mk_ ?_
     refine ⟨_,R,AVle.eq ?_,sle_,rfl,rfl⟩
     exact congrArg (errAV (errE b o)) (show ([!decide (y.op = 4),rightT x 20,rightT y 20]).all id = _ by rw [e]; simp [*])
    ·have hx := h
     repeat first|refine go_ ?_|intro _
     apply call_step
     ·rfl
     ·exact Or.inl ⟨⟨_,Tryz.func119,rfl,rfl⟩,must_ok b o (false) _ (.tail _ hE)⟩
     repeat first|refine go_ ?_|intro _
     apply call_step
     ·rfl
     ·exact Or.inl ⟨⟨_,Tryz.func151,rfl,rfl⟩,kt _ (.tail _ hE)⟩
     repeat first|refine go_ ?_|intro _
     apply call_step
     ·rfl
     ·exact Or.inl ⟨⟨_,Tryz.func151,rfl,rfl⟩,ku _ (.tail _ hE)⟩
     repeat first|refine go_ ?_|intro _
     refine ⟨err_all b o [false,rightT x 20,rightT y 20],?_⟩
     repeat first|refine go_ ?_|intro _
     apply call_step
     ·rfl
     ·exact Or.inl ⟨⟨_,Tryz.func152,rfl,rfl⟩,first_ok b o [false,rightT x 20,rightT y 20] _ _ (by simp)⟩
     repeat first|refine go_ ?_|intro _
     refine AW_ret ?_
     repeat refine mk_ ?_
     refine ⟨_,R,AVle.eq ?_,sle_,rfl,rfl⟩
     exact congrArg (errAV (errE b o)) (show ([false,rightT x 20,rightT y 20]).all id = _ by rw [e]; simp [*])
   ·have hn := h
    repeat first|refine ga_ ?_|intro _
    apply call_step
    ·rfl
    ·exact Or.inl ⟨⟨_,Tryz.func119,rfl,rfl⟩,must_ok b o (false) _ (.tail _ hE)⟩
    repeat first|refine go_ ?_|intro _
    apply call_step
    ·rfl
    ·exact Or.inl ⟨⟨_,Tryz.func151,rfl,rfl⟩,kt _ (.tail _ hE)⟩
    repeat first|refine go_ ?_|intro _
    apply call_step
    ·rfl
    ·exact Or.inl ⟨⟨_,Tryz.func151,rfl,rfl⟩,ku _ (.tail _ hE)⟩
    repeat first|refine go_ ?_|intro _
    refine ⟨err_all b o [false,rightT x 20,rightT y 20],?_⟩
    repeat first|refine go_ ?_|intro _
    apply call_step
    ·rfl
    ·exact Or.inl ⟨⟨_,Tryz.func152,rfl,rfl⟩,first_ok b o [false,rightT x 20,rightT y 20] _ _ (by simp)⟩
    repeat first|refine go_ ?_|intro _
    refine AW_ret ?_
    repeat refine mk_ ?_
    refine ⟨_,R,AVle.eq ?_,sle_,rfl,rfl⟩
    exact congrArg (errAV (errE b o)) (show ([false,rightT x 20,rightT y 20]).all id = _ by rw [e]; simp [*])
  ·repeat first|refine ga_ ?_|intro _
   refine AW_draw tab_ok mixed 25 (by first | rfl | kernel_rfl) ?_
   repeat first|refine go_ ?_|intro _
   apply call_step
   ·rfl
   ·exact Or.inl ⟨⟨_,Tryz.func154,rfl,rfl⟩,kna _⟩
   repeat first|refine go_ ?_|intro _
   refine gsplit (noA a = true) ib_ (fun h => ?_) (fun h => ?_)
   ·have hn := h
    repeat first|refine go_ ?_|intro _
    refine gsplit (¬ x.op = 4) ib_ (fun h => ?_) (fun h => ?_)
    ·have hx := h
     repeat first|refine go_ ?_|intro _
     apply call_step
     ·rfl
     ·exact Or.inl ⟨⟨_,Tryz.func119,rfl,rfl⟩,must_ok b o (!decide (y.op = 4)) _ (.tail _ hE)⟩
     repeat first|refine go_ ?_|intro _
     apply call_step
     ·rfl
     ·exact Or.inl ⟨⟨_,Tryz.func151,rfl,rfl⟩,kt _ (.tail _ hE)⟩
     repeat first|refine go_ ?_|intro _
     apply call_step
     ·rfl
     ·exact Or.inl ⟨⟨_,Tryz.func151,rfl,rfl⟩,ku _ (.tail _ hE)⟩
     repeat first|refine go_ ?_|intro _
     refine ⟨err_all b o [!decide (y.op = 4),rightT x 20,rightT y 20],?_⟩
     repeat first|refine go_ ?_|intro _
     apply call_step
     ·rfl
     ·exact Or.inl ⟨⟨_,Tryz.func152,rfl,rfl⟩,first_ok b o [!decide (y.op = 4),rightT x 20,rightT y 20] _ _ (by simp)⟩
     repeat first|refine go_ ?_|intro _
     refine AW_ret ?_
     repeat refine mk_ ?_
     refine ⟨_,R,AVle.eq ?_,sle_,rfl,rfl⟩
     exact congrArg (errAV (errE b o)) (show ([!decide (y.op = 4),rightT x 20,rightT y 20]).all id = _ by rw [e]; simp [*])
    ·have hx := h
     repeat first|refine go_ ?_|intro _
     apply call_step
     ·rfl
     ·exact Or.inl ⟨⟨_,Tryz.func119,rfl,rfl⟩,must_ok b o (false) _ (.tail _ hE)⟩
     repeat first|refine go_ ?_|intro _
     apply call_step
     ·rfl
     ·exact Or.inl ⟨⟨_,Tryz.func151,rfl,rfl⟩,kt _ (.tail _ hE)⟩
     repeat first|refine go_ ?_|intro _
     apply call_step
     ·rfl
     ·exact Or.inl ⟨⟨_,Tryz.func151,rfl,rfl⟩,ku _ (.tail _ hE)⟩
     repeat first|refine go_ ?_|intro _
     refine ⟨err_all b o [false,rightT x 20,rightT y 20],?_⟩
     repeat first|refine go_ ?_|intro _
     apply call_step
     ·rfl
     ·exact Or.inl ⟨⟨_,Tryz.func152,rfl,rfl⟩,first_ok b o [false,rightT x 20,rightT y 20] _ _ (by simp)⟩
     repeat first|refine go_ ?_|intro _
     refine AW_ret ?_
     repeat refine mk_ ?_
     refine ⟨_,R,AVle.eq ?_,sle_,rfl,rfl⟩
     exact congrArg (errAV (errE b o)) (show ([false,rightT x 20,rightT y 20]).all id = _ by rw [e]; simp [*])
   ·have hn := h
    repeat first|refine ga_ ?_|intro _
    apply call_step
    ·rfl
    ·exact Or.inl ⟨⟨_,Tryz.func119,rfl,rfl⟩,must_ok b o (false) _ (.tail _ hE)⟩
    repeat first|refine go_ ?_|intro _
    apply call_step
    ·rfl
    ·exact Or.inl ⟨⟨_,Tryz.func151,rfl,rfl⟩,kt _ (.tail _ hE)⟩
    repeat first|refine go_ ?_|intro _
    apply call_step
    ·rfl
    ·exact Or.inl ⟨⟨_,Tryz.func151,rfl,rfl⟩,ku _ (.tail _ hE)⟩
    repeat first|refine go_ ?_|intro _
    refine ⟨err_all b o [false,rightT x 20,rightT y 20],?_⟩
    repeat first|refine go_ ?_|intro _
    apply call_step
    ·rfl
    ·exact Or.inl ⟨⟨_,Tryz.func152,rfl,rfl⟩,first_ok b o [false,rightT x 20,rightT y 20] _ _ (by simp)⟩
    repeat first|refine go_ ?_|intro _
    refine AW_ret ?_
    repeat refine mk_ ?_
    refine ⟨_,R,AVle.eq ?_,sle_,rfl,rfl⟩
    exact congrArg (errAV (errE b o)) (show ([false,rightT x 20,rightT y 20]).all id = _ by rw [e]; simp [*])
  ·repeat first|refine ga_ ?_|intro _
   refine AW_draw tab_ok mixed 25 (by first | rfl | kernel_rfl) ?_
   repeat first|refine go_ ?_|intro _
   apply call_step
   ·rfl
   ·exact Or.inl ⟨⟨_,Tryz.func154,rfl,rfl⟩,kna _⟩
   repeat first|refine go_ ?_|intro _
   refine gsplit (noA a = true) ib_ (fun h => ?_) (fun h => ?_)
   ·have hn := h
    repeat first|refine go_ ?_|intro _
    refine gsplit (¬ x.op = 4) ib_ (fun h => ?_) (fun h => ?_)
    ·have hx := h
     repeat first|refine go_ ?_|intro _
     apply call_step
     ·rfl
     ·exact Or.inl ⟨⟨_,Tryz.func119,rfl,rfl⟩,must_ok b o (!decide (y.op = 4)) _ (.tail _ hE)⟩
     repeat first|refine go_ ?_|intro _
     apply call_step
     ·rfl
     ·exact Or.inl ⟨⟨_,Tryz.func151,rfl,rfl⟩,kt _ (.tail _ hE)⟩
     repeat first|refine go_ ?_|intro _
     apply call_step
     ·rfl
     ·exact Or.inl ⟨⟨_,Tryz.func151,rfl,rfl⟩,ku _ (.tail _ hE)⟩
     repeat first|refine go_ ?_|intro _
     refine ⟨err_all b o [!decide (y.op = 4),rightT x 20,rightT y 20],?_⟩
     repeat first|refine go_ ?_|intro _
     apply call_step
     ·rfl
     ·exact Or.inl ⟨⟨_,Tryz.func152,rfl,rfl⟩,first_ok b o [!decide (y.op = 4),rightT x 20,rightT y 20] _ _ (by simp)⟩
     repeat first|refine go_ ?_|intro _
     refine AW_ret ?_
     repeat refine mk_ ?_
     refine ⟨_,R,AVle.eq ?_,sle_,rfl,rfl⟩
     exact congrArg (errAV (errE b o)) (show ([!decide (y.op = 4),rightT x 20,rightT y 20]).all id = _ by rw [e]; simp [*])
    ·have hx := h
     repeat first|refine go_ ?_|intro _
     apply call_step
     ·rfl
     ·exact Or.inl ⟨⟨_,Tryz.func119,rfl,rfl⟩,must_ok b o (false) _ (.tail _ hE)⟩
     repeat first|refine go_ ?_|intro _
     apply call_step
     ·rfl
     ·exact Or.inl ⟨⟨_,Tryz.func151,rfl,rfl⟩,kt _ (.tail _ hE)⟩
     repeat first|refine go_ ?_|intro _
     apply call_step
     ·rfl
     ·exact Or.inl ⟨⟨_,Tryz.func151,rfl,rfl⟩,ku _ (.tail _ hE)⟩
     repeat first|refine go_ ?_|intro _
     refine ⟨err_all b o [false,rightT x 20,rightT y 20],?_⟩
     repeat first|refine go_ ?_|intro _
     apply call_step
     ·rfl
     ·exact Or.inl ⟨⟨_,Tryz.func152,rfl,rfl⟩,first_ok b o [false,rightT x 20,rightT y 20] _ _ (by simp)⟩
     repeat first|refine go_ ?_|intro _
     refine AW_ret ?_
     repeat refine mk_ ?_
     refine ⟨_,R,AVle.eq ?_,sle_,rfl,rfl⟩
     exact congrArg (errAV (errE b o)) (show ([false,rightT x 20,rightT y 20]).all id = _ by rw [e]; simp [*])
   ·have hn := h
    repeat first|refine ga_ ?_|intro _
    apply call_step
    ·rfl
    ·exact Or.inl ⟨⟨_,Tryz.func119,rfl,rfl⟩,must_ok b o (false) _ (.tail _ hE)⟩
    repeat first|refine go_ ?_|intro _
    apply call_step
    ·rfl
    ·exact Or.inl ⟨⟨_,Tryz.func151,rfl,rfl⟩,kt _ (.tail _ hE)⟩
    repeat first|refine go_ ?_|intro _
    apply call_step
    ·rfl
    ·exact Or.inl ⟨⟨_,Tryz.func151,rfl,rfl⟩,ku _ (.tail _ hE)⟩
    repeat first|refine go_ ?_|intro _
    refine ⟨err_all b o [false,rightT x 20,rightT y 20],?_⟩
    repeat first|refine go_ ?_|intro _
    apply call_step
    ·rfl
    ·exact Or.inl ⟨⟨_,Tryz.func152,rfl,rfl⟩,first_ok b o [false,rightT x 20,rightT y 20] _ _ (by simp)⟩
    repeat first|refine go_ ?_|intro _
    refine AW_ret ?_
    repeat refine mk_ ?_
    refine ⟨_,R,AVle.eq ?_,sle_,rfl,rfl⟩
    exact congrArg (errAV (errE b o)) (show ([false,rightT x 20,rightT y 20]).all id = _ by rw [e]; simp [*])
  ·repeat first|refine ga_ ?_|intro _
   refine AW_draw tab_ok mixed 25 (by first | rfl | kernel_rfl) ?_
   repeat first|refine go_ ?_|intro _
   apply call_step
   ·rfl
   ·exact Or.inl ⟨⟨_,Tryz.func154,rfl,rfl⟩,kna _⟩
   repeat first|refine go_ ?_|intro _
   refine gsplit (noA a = true) ib_ (fun h => ?_) (fun h => ?_)
   ·have hn := h
    repeat first|refine go_ ?_|intro _
    refine gsplit (¬ x.op = 4) ib_ (fun h => ?_) (fun h => ?_)
    ·have hx := h
     repeat first|refine go_ ?_|intro _
     apply call_step
     ·rfl
     ·exact Or.inl ⟨⟨_,Tryz.func119,rfl,rfl⟩,must_ok b o (!decide (y.op = 4)) _ (.tail _ hE)⟩
     repeat first|refine go_ ?_|intro _
     apply call_step
     ·rfl
     ·exact Or.inl ⟨⟨_,Tryz.func151,rfl,rfl⟩,kt _ (.tail _ hE)⟩
     repeat first|refine go_ ?_|intro _
     apply call_step
     ·rfl
     ·exact Or.inl ⟨⟨_,Tryz.func151,rfl,rfl⟩,ku _ (.tail _ hE)⟩
     repeat first|refine go_ ?_|intro _
     refine ⟨err_all b o [!decide (y.op = 4),rightT x 20,rightT y 20],?_⟩
     repeat first|refine go_ ?_|intro _
     apply call_step
     ·rfl
     ·exact Or.inl ⟨⟨_,Tryz.func152,rfl,rfl⟩,first_ok b o [!decide (y.op = 4),rightT x 20,rightT y 20] _ _ (by simp)⟩
     repeat first|refine go_ ?_|intro _
     refine AW_ret ?_
     repeat refine mk_ ?_
     refine ⟨_,R,AVle.eq ?_,sle_,rfl,rfl⟩
     exact congrArg (errAV (errE b o)) (show ([!decide (y.op = 4),rightT x 20,rightT y 20]).all id = _ by rw [e]; simp [*])
    ·have hx := h
     repeat first|refine go_ ?_|intro _
     apply call_step
     ·rfl
     ·exact Or.inl ⟨⟨_,Tryz.func119,rfl,rfl⟩,must_ok b o (false) _ (.tail _ hE)⟩
     repeat first|refine go_ ?_|intro _
     apply call_step
     ·rfl
     ·exact Or.inl ⟨⟨_,Tryz.func151,rfl,rfl⟩,kt _ (.tail _ hE)⟩
     repeat first|refine go_ ?_|intro _
     apply call_step
     ·rfl
     ·exact Or.inl ⟨⟨_,Tryz.func151,rfl,rfl⟩,ku _ (.tail _ hE)⟩
     repeat first|refine go_ ?_|intro _
     refine ⟨err_all b o [false,rightT x 20,rightT y 20],?_⟩
     repeat first|refine go_ ?_|intro _
     apply call_step
     ·rfl
     ·exact Or.inl ⟨⟨_,Tryz.func152,rfl,rfl⟩,first_ok b o [false,rightT x 20,rightT y 20] _ _ (by simp)⟩
     repeat first|refine go_ ?_|intro _
     refine AW_ret ?_
     repeat refine mk_ ?_
     refine ⟨_,R,AVle.eq ?_,sle_,rfl,rfl⟩
     exact congrArg (errAV (errE b o)) (show ([false,rightT x 20,rightT y 20]).all id = _ by rw [e]; simp [*])
   ·have hn := h
    repeat first|refine ga_ ?_|intro _
    apply call_step
    ·rfl
    ·exact Or.inl ⟨⟨_,Tryz.func119,rfl,rfl⟩,must_ok b o (false) _ (.tail _ hE)⟩
    repeat first|refine go_ ?_|intro _
    apply call_step
    ·rfl
    ·exact Or.inl ⟨⟨_,Tryz.func151,rfl,rfl⟩,kt _ (.tail _ hE)⟩
    repeat first|refine go_ ?_|intro _
    apply call_step
    ·rfl
    ·exact Or.inl ⟨⟨_,Tryz.func151,rfl,rfl⟩,ku _ (.tail _ hE)⟩
    repeat first|refine go_ ?_|intro _
    refine ⟨err_all b o [false,rightT x 20,rightT y 20],?_⟩
    repeat first|refine go_ ?_|intro _
    apply call_step
    ·rfl
    ·exact Or.inl ⟨⟨_,Tryz.func152,rfl,rfl⟩,first_ok b o [false,rightT x 20,rightT y 20] _ _ (by simp)⟩
    repeat first|refine go_ ?_|intro _
    refine AW_ret ?_
    repeat refine mk_ ?_
    refine ⟨_,R,AVle.eq ?_,sle_,rfl,rfl⟩
    exact congrArg (errAV (errE b o)) (show ([false,rightT x 20,rightT y 20]).all id = _ by rw [e]; simp [*])
 by_cases hq : op = 7
 ·have e : rightL ⟨op,a,x,y⟩ = (rightA a && ((isX x && noT y) && rightT x 20)) := by rw [rightL,if_neg ho,if_neg (show ¬ (3 ≤ op ∧ op ≤ 6) by omega),if_pos hq]
  subst hq
  repeat first|refine ga_ ?_|intro _
  refine AW_draw tab_ok mixed 16 (by first | rfl | kernel_rfl) ?_
  repeat first|refine go_ ?_|intro _
  apply call_step
  ·rfl
  ·exact Or.inl ⟨⟨_,Tryz.func118,rfl,rfl⟩,ka _ (.tail _ hE)⟩
  repeat first|refine go_ ?_|intro _
  refine gsplit (isX x = true) ib_ (fun h => ?_) (fun h => ?_)
  ·have hn := h
   repeat first|refine go_ ?_|intro _
   apply call_step
   ·rfl
   ·exact Or.inl ⟨⟨_,Tryz.func153,rfl,rfl⟩,ky _⟩
   repeat first|refine go_ ?_|intro _
   apply call_step
   ·rfl
   ·exact Or.inl ⟨⟨_,Tryz.func119,rfl,rfl⟩,must_ok b o (noT y) _ (.tail _ hE)⟩
   repeat first|refine go_ ?_|intro _
   apply call_step
   ·rfl
   ·exact Or.inl ⟨⟨_,Tryz.func151,rfl,rfl⟩,kt _ (.tail _ hE)⟩
   repeat first|refine go_ ?_|intro _
   refine ⟨err_all b o [rightA a,noT y,rightT x 20],?_⟩
   repeat first|refine go_ ?_|intro _
   apply call_step
   ·rfl
   ·exact Or.inl ⟨⟨_,Tryz.func152,rfl,rfl⟩,first_ok b o [rightA a,noT y,rightT x 20] _ _ (by simp)⟩
   repeat first|refine go_ ?_|intro _
   refine AW_ret ?_
   repeat refine mk_ ?_
   refine ⟨_,R,AVle.eq ?_,sle_,rfl,rfl⟩
   exact congrArg (errAV (errE b o)) (show ([rightA a,noT y,rightT x 20]).all id = _ by rw [e]; simp [*])
  ·have hn := h
   repeat first|refine go_ ?_|intro _
   apply call_step
   ·rfl
   ·exact Or.inl ⟨⟨_,Tryz.func119,rfl,rfl⟩,must_ok b o (false) _ (.tail _ hE)⟩
   repeat first|refine go_ ?_|intro _
   apply call_step
   ·rfl
   ·exact Or.inl ⟨⟨_,Tryz.func151,rfl,rfl⟩,kt _ (.tail _ hE)⟩
   repeat first|refine go_ ?_|intro _
   refine ⟨err_all b o [rightA a,false,rightT x 20],?_⟩
   repeat first|refine go_ ?_|intro _
   apply call_step
   ·rfl
   ·exact Or.inl ⟨⟨_,Tryz.func152,rfl,rfl⟩,first_ok b o [rightA a,false,rightT x 20] _ _ (by simp)⟩
   repeat first|refine go_ ?_|intro _
   refine AW_ret ?_
   repeat refine mk_ ?_
   refine ⟨_,R,AVle.eq ?_,sle_,rfl,rfl⟩
   exact congrArg (errAV (errE b o)) (show ([rightA a,false,rightT x 20]).all id = _ by rw [e]; simp [*])
 by_cases hr : op = 8 ∨ op = 9 ∨ op = 10
 ·have e : rightL ⟨op,a,x,y⟩ = (rightA a && ((isX x && decide (y.op = 1)) && (rightT x 20 && rightT y 20))) := by rw [rightL,if_neg ho,if_neg (show ¬ (3 ≤ op ∧ op ≤ 6) by omega),if_neg hq,if_pos (show 8 ≤ op ∧ op ≤ 10 by omega)]
  rcases hr with rfl | rfl | rfl
  ·repeat first|refine ga_ ?_|intro _
   refine AW_draw tab_ok mixed 20 (by first | rfl | kernel_rfl) ?_
   repeat first|refine go_ ?_|intro _
   apply call_step
   ·rfl
   ·exact Or.inl ⟨⟨_,Tryz.func118,rfl,rfl⟩,ka _ (.tail _ hE)⟩
   repeat first|refine go_ ?_|intro _
   refine gsplit (isX x = true) ib_ (fun h => ?_) (fun h => ?_)
   ·have hn := h
    repeat first|refine go_ ?_|intro _
    apply call_step
    ·rfl
    ·exact Or.inl ⟨⟨_,Tryz.func119,rfl,rfl⟩,must_ok b o (decide (y.op = 1)) _ (.tail _ hE)⟩
    repeat first|refine go_ ?_|intro _
    apply call_step
    ·rfl
    ·exact Or.inl ⟨⟨_,Tryz.func151,rfl,rfl⟩,kt _ (.tail _ hE)⟩
    repeat first|refine go_ ?_|intro _
    apply call_step
    ·rfl
    ·exact Or.inl ⟨⟨_,Tryz.func151,rfl,rfl⟩,ku _ (.tail _ hE)⟩
    repeat first|refine go_ ?_|intro _
    refine ⟨err_all b o [rightA a,decide (y.op = 1),rightT x 20,rightT y 20],?_⟩
    repeat first|refine go_ ?_|intro _
    apply call_step
    ·rfl
    ·exact Or.inl ⟨⟨_,Tryz.func152,rfl,rfl⟩,first_ok b o [rightA a,decide (y.op = 1),rightT x 20,rightT y 20] _ _ (by simp)⟩
    repeat first|refine go_ ?_|intro _
    refine AW_ret ?_
    repeat refine mk_ ?_
    refine ⟨_,R,AVle.eq ?_,sle_,rfl,rfl⟩
    exact congrArg (errAV (errE b o)) (show ([rightA a,decide (y.op = 1),rightT x 20,rightT y 20]).all id = _ by rw [e]; simp [*])
   ·have hn := h
    repeat first|refine go_ ?_|intro _
    apply call_step
    ·rfl
    ·exact Or.inl ⟨⟨_,Tryz.func119,rfl,rfl⟩,must_ok b o (false) _ (.tail _ hE)⟩
    repeat first|refine go_ ?_|intro _
    apply call_step
    ·rfl
    ·exact Or.inl ⟨⟨_,Tryz.func151,rfl,rfl⟩,kt _ (.tail _ hE)⟩
    repeat first|refine go_ ?_|intro _
    apply call_step
    ·rfl
    ·exact Or.inl ⟨⟨_,Tryz.func151,rfl,rfl⟩,ku _ (.tail _ hE)⟩
    repeat first|refine go_ ?_|intro _
    refine ⟨err_all b o [rightA a,false,rightT x 20,rightT y 20],?_⟩
    repeat first|refine go_ ?_|intro _
    apply call_step
    ·rfl
    ·exact Or.inl ⟨⟨_,Tryz.func152,rfl,rfl⟩,first_ok b o [rightA a,false,rightT x 20,rightT y 20] _ _ (by simp)⟩
    repeat first|refine go_ ?_|intro _
    refine AW_ret ?_
    repeat refine mk_ ?_
    refine ⟨_,R,AVle.eq ?_,sle_,rfl,rfl⟩
    exact congrArg (errAV (errE b o)) (show ([rightA a,false,rightT x 20,rightT y 20]).all id = _ by rw [e]; simp [*])
  ·repeat first|refine ga_ ?_|intro _
   refine AW_draw tab_ok mixed 20 (by first | rfl | kernel_rfl) ?_
   repeat first|refine go_ ?_|intro _
   apply call_step
   ·rfl
   ·exact Or.inl ⟨⟨_,Tryz.func118,rfl,rfl⟩,ka _ (.tail _ hE)⟩
   repeat first|refine go_ ?_|intro _
   refine gsplit (isX x = true) ib_ (fun h => ?_) (fun h => ?_)
   ·have hn := h
    repeat first|refine go_ ?_|intro _
    apply call_step
    ·rfl
    ·exact Or.inl ⟨⟨_,Tryz.func119,rfl,rfl⟩,must_ok b o (decide (y.op = 1)) _ (.tail _ hE)⟩
    repeat first|refine go_ ?_|intro _
    apply call_step
    ·rfl
    ·exact Or.inl ⟨⟨_,Tryz.func151,rfl,rfl⟩,kt _ (.tail _ hE)⟩
    repeat first|refine go_ ?_|intro _
    apply call_step
    ·rfl
    ·exact Or.inl ⟨⟨_,Tryz.func151,rfl,rfl⟩,ku _ (.tail _ hE)⟩
    repeat first|refine go_ ?_|intro _
    refine ⟨err_all b o [rightA a,decide (y.op = 1),rightT x 20,rightT y 20],?_⟩
    repeat first|refine go_ ?_|intro _
    apply call_step
    ·rfl
    ·exact Or.inl ⟨⟨_,Tryz.func152,rfl,rfl⟩,first_ok b o [rightA a,decide (y.op = 1),rightT x 20,rightT y 20] _ _ (by simp)⟩
    repeat first|refine go_ ?_|intro _
    refine AW_ret ?_
    repeat refine mk_ ?_
    refine ⟨_,R,AVle.eq ?_,sle_,rfl,rfl⟩
    exact congrArg (errAV (errE b o)) (show ([rightA a,decide (y.op = 1),rightT x 20,rightT y 20]).all id = _ by rw [e]; simp [*])
   ·have hn := h
    repeat first|refine go_ ?_|intro _
    apply call_step
    ·rfl
    ·exact Or.inl ⟨⟨_,Tryz.func119,rfl,rfl⟩,must_ok b o (false) _ (.tail _ hE)⟩
    repeat first|refine go_ ?_|intro _
    apply call_step
    ·rfl
    ·exact Or.inl ⟨⟨_,Tryz.func151,rfl,rfl⟩,kt _ (.tail _ hE)⟩
    repeat first|refine go_ ?_|intro _
    apply call_step
    ·rfl
    ·exact Or.inl ⟨⟨_,Tryz.func151,rfl,rfl⟩,ku _ (.tail _ hE)⟩
    repeat first|refine go_ ?_|intro _
    refine ⟨err_all b o [rightA a,false,rightT x 20,rightT y 20],?_⟩
    repeat first|refine go_ ?_|intro _
    apply call_step
    ·rfl
    ·exact Or.inl ⟨⟨_,Tryz.func152,rfl,rfl⟩,first_ok b o [rightA a,false,rightT x 20,rightT y 20] _ _ (by simp)⟩
    repeat first|refine go_ ?_|intro _
    refine AW_ret ?_
    repeat refine mk_ ?_
    refine ⟨_,R,AVle.eq ?_,sle_,rfl,rfl⟩
    exact congrArg (errAV (errE b o)) (show ([rightA a,false,rightT x 20,rightT y 20]).all id = _ by rw [e]; simp [*])
  ·repeat first|refine ga_ ?_|intro _
   refine AW_draw tab_ok mixed 20 (by first | rfl | kernel_rfl) ?_
   repeat first|refine go_ ?_|intro _
   apply call_step
   ·rfl
   ·exact Or.inl ⟨⟨_,Tryz.func118,rfl,rfl⟩,ka _ (.tail _ hE)⟩
   repeat first|refine go_ ?_|intro _
   refine gsplit (isX x = true) ib_ (fun h => ?_) (fun h => ?_)
   ·have hn := h
    repeat first|refine go_ ?_|intro _
    apply call_step
    ·rfl
    ·exact Or.inl ⟨⟨_,Tryz.func119,rfl,rfl⟩,must_ok b o (decide (y.op = 1)) _ (.tail _ hE)⟩
    repeat first|refine go_ ?_|intro _
    apply call_step
    ·rfl
    ·exact Or.inl ⟨⟨_,Tryz.func151,rfl,rfl⟩,kt _ (.tail _ hE)⟩
    repeat first|refine go_ ?_|intro _
    apply call_step
    ·rfl
    ·exact Or.inl ⟨⟨_,Tryz.func151,rfl,rfl⟩,ku _ (.tail _ hE)⟩
    repeat first|refine go_ ?_|intro _
    refine ⟨err_all b o [rightA a,decide (y.op = 1),rightT x 20,rightT y 20],?_⟩
    repeat first|refine go_ ?_|intro _
    apply call_step
    ·rfl
    ·exact Or.inl ⟨⟨_,Tryz.func152,rfl,rfl⟩,first_ok b o [rightA a,decide (y.op = 1),rightT x 20,rightT y 20] _ _ (by simp)⟩
    repeat first|refine go_ ?_|intro _
    refine AW_ret ?_
    repeat refine mk_ ?_
    refine ⟨_,R,AVle.eq ?_,sle_,rfl,rfl⟩
    exact congrArg (errAV (errE b o)) (show ([rightA a,decide (y.op = 1),rightT x 20,rightT y 20]).all id = _ by rw [e]; simp [*])
   ·have hn := h
    repeat first|refine go_ ?_|intro _
    apply call_step
    ·rfl
    ·exact Or.inl ⟨⟨_,Tryz.func119,rfl,rfl⟩,must_ok b o (false) _ (.tail _ hE)⟩
    repeat first|refine go_ ?_|intro _
    apply call_step
    ·rfl
    ·exact Or.inl ⟨⟨_,Tryz.func151,rfl,rfl⟩,kt _ (.tail _ hE)⟩
    repeat first|refine go_ ?_|intro _
    apply call_step
    ·rfl
    ·exact Or.inl ⟨⟨_,Tryz.func151,rfl,rfl⟩,ku _ (.tail _ hE)⟩
    repeat first|refine go_ ?_|intro _
    refine ⟨err_all b o [rightA a,false,rightT x 20,rightT y 20],?_⟩
    repeat first|refine go_ ?_|intro _
    apply call_step
    ·rfl
    ·exact Or.inl ⟨⟨_,Tryz.func152,rfl,rfl⟩,first_ok b o [rightA a,false,rightT x 20,rightT y 20] _ _ (by simp)⟩
    repeat first|refine go_ ?_|intro _
    refine AW_ret ?_
    repeat refine mk_ ?_
    refine ⟨_,R,AVle.eq ?_,sle_,rfl,rfl⟩
    exact congrArg (errAV (errE b o)) (show ([rightA a,false,rightT x 20,rightT y 20]).all id = _ by rw [e]; simp [*])
 have e : rightL ⟨op,a,x,y⟩ = false := by rw [rightL,if_neg ho,if_neg (show ¬ (3 ≤ op ∧ op ≤ 6) by omega),if_neg hq,if_neg (show ¬ (8 ≤ op ∧ op ≤ 10) by omega)]
 repeat first|refine ga_ ?_|intro _
 refine AW_false (b := decide (op = 1)) rfl (by exact decide_eq_false (by omega)) ?_
 repeat first|refine ga_ ?_|intro _
 refine AW_false (b := decide (op = 2)) rfl (by exact decide_eq_false (by omega)) ?_
 repeat first|refine ga_ ?_|intro _
 refine AW_false (b := decide (op = 3)) rfl (by exact decide_eq_false (by omega)) ?_
 repeat first|refine ga_ ?_|intro _
 refine AW_false (b := decide (op = 4)) rfl (by exact decide_eq_false (by omega)) ?_
 repeat first|refine ga_ ?_|intro _
 refine AW_false (b := decide (op = 5)) rfl (by exact decide_eq_false (by omega)) ?_
 repeat first|refine ga_ ?_|intro _
 refine AW_false (b := decide (op = 6)) rfl (by exact decide_eq_false (by omega)) ?_
 repeat first|refine ga_ ?_|intro _
 refine AW_false (b := decide (op = 7)) rfl (by exact decide_eq_false (by omega)) ?_
 repeat first|refine ga_ ?_|intro _
 refine AW_false (b := decide (op = 8)) rfl (by exact decide_eq_false (by omega)) ?_
 repeat first|refine ga_ ?_|intro _
 refine AW_false (b := decide (op = 9)) rfl (by exact decide_eq_false (by omega)) ?_
 repeat first|refine ga_ ?_|intro _
 refine AW_false (b := decide (op = 10)) rfl (by exact decide_eq_false (by omega)) ?_
 repeat first|refine ga_ ?_|intro _
 refine ⟨_,mt_ hE,⟨Nat.le_refl 1,Nat.le_refl 1⟩,_,rfl,?_⟩
 repeat first|refine go_ ?_|intro _
 refine AW_ret ?_
 repeat refine mk_ ?_
 refine ⟨_,R,AVle.eq ?_,sle_,rfl,rfl⟩
 rw [e]; rfl
theorem SLe.dup {S : List En} {e : En} (he : e ∈ S) (hb : e.blk = none) : SLe S (e :: S) := fun w0 K w h => by
 refine ⟨h.below,h.kcell,fun x hx => ?_,by have := h.apart; rw [List.filterMap_cons,hb]; exact this⟩
 rcases List.mem_cons.1 hx with rfl | hx
 ·exact h.ents _ he
 ·exact h.ents _ hx
theorem errIs_ok (b o : Nat) (c : Bool) (R : List En) : ACall Tryz.prog 81 [errAV (errE b o) c,errE b o] R (fun r S => r = .bool (!c) ∧ S = R) := by
 refine ACall_pure fun w0 K w vs hv hS => ?_
 obtain ⟨x,r,rfl,hx,hr⟩ := hv.cons_inv
 obtain ⟨y,r',rfl,hy,hr'⟩ := hr.cons_inv
 obtain rfl := hr'.nil_inv
 cases c with
 | true =>
  cases hx; cases hy with
  | ifc _ hy =>
   cases hy
   refine (is_nil ⟨b,o,none⟩ w).mono ?_
   rintro e w' ⟨rfl,rfl⟩
   exact ⟨_,rfl, .bool _,Below.refl _ _⟩
 | false =>
  cases hx with
  | ifc _ hx => cases hx; cases hy with
   | ifc _ hy =>
    cases hy
    refine (is_same ⟨b,o,none⟩ w).mono ?_
    rintro e w' ⟨rfl,rfl⟩
    exact ⟨_,rfl, .bool _,Below.refl _ _⟩
def headB (n : Nat) (t : T) : Bool := !decide (t.op = 4) && (!twoB t.op && (!decide (t.op = 1) || decide (0 < n)))
def partsL (r : Ru) : List Bool := rightA r.head :: decide (r.body.length ≤ 20) :: (r.head.l.map (headB r.body.length) ++ r.body.map rightL)
def rightR (r : Ru) : Bool := (partsL r).all id
theorem pl2 {r : Ru} {i : Nat} (h : i < r.head.l.length) : (partsL r)[i + 2]? = some (headB r.body.length r.head.l[i]) := by
 simp [partsL,List.getElem?_append,h]
theorem pl3 {r : Ru} {i : Nat} (h : i < r.body.length) : (partsL r)[r.head.l.length + i + 2]? = some (rightL r.body[i]) := by
 simp [partsL,List.getElem?_append,h]
theorem pl_len (r : Ru) : (partsL r).length = r.head.l.length + r.body.length + 2 := by simp [partsL]
def encY (b o : Nat) (c : Bool) : List AV := [errAV (errE b o) c]
theorem parts_gen (b o : Nat) (r : Ru) (p : Nat) (hr1 : r.head.l.length ≤ 4611686018427387904) (hr2 : r.body.length ≤ 4611686018427387904) : AGen Tryz.prog (.fn (.func 117) [] [.ptr p 0]) [.cells p (cRu r), .glob 1 [errE b o]] ((partsL r).map (encY b o)) := by
 intro l J Z Sc hY h0
 refine ⟨⟨_,Tryz.func117,rfl,rfl⟩,?_⟩
 show ACall Tryz.prog 117 [.fn (.yield l) [] [], .ptr p 0] (.cells p (cRu r) :: .glob 1 [errE b o] :: Sc) _
 have ka := atom_ok b o r.head (.cells p (cRu r) :: .glob 1 [errE b o] :: Sc) (.tail _ (.head _))
 refine ACall_body tab_ok Tryz.func117 rfl rfl rfl (by kernel_rfl) (nb_ rfl) ?_
 repeat first|refine go_ ?_|intro _
 refine Or.inl ⟨⟨_,Tryz.func118,rfl,rfl⟩,ACall.mono ?_ (ka)⟩
 rintro _ S1 ⟨rfl,hS1⟩
 subst S1
 repeat first|refine go_ ?_|intro _
 refine AYield.mono ?_ (hY (id [.cells p (cRu r), .glob 1 [errE b o]]) (0) (encY b o (rightA r.head)) Sc (by rw [List.getElem?_map,((show (partsL r)[0]? = some (rightA r.head) from rfl))]; rfl) (h0))
 rintro _ S1 ⟨w,Sc1,rfl,rfl,hj,hz⟩
 cases w with
 | false =>
  repeat first|refine ga_ ?_|intro _
  refine AW_ret ?_
  repeat refine mk_ ?_
  refine ⟨_,_,AVle.refl _,SLe.rfl,?_⟩
  exact ⟨Sc1,(by repeat (first | exact SLe.rfl | refine SLe.tail ?_)), .inr (hz rfl)⟩
 | true =>
  repeat first|refine ga_ ?_|intro _
  refine Or.inl ⟨⟨_,Tryz.func119,rfl,rfl⟩,ACall_args (ACall.mono ?_ (must_ok b o (decide (r.body.length ≤ 20)) _ (.tail _ (.head _)))) ⟨AVle.eq (congrArg AV.bool (show decide (((r.body.map encL).length : Int) ≤ 20) = decide (r.body.length ≤ 20) from decide_eq_decide.2 (by rw [List.length_map]; omega))),trivial⟩⟩
  rintro _ S1 ⟨rfl,hS1⟩
  subst S1
  repeat first|refine ga_ ?_|intro _
  refine AYield.mono ?_ (hY (id [.cells p (cRu r), .glob 1 [errE b o]]) (1) (encY b o (decide (r.body.length ≤ 20))) Sc1 (by rw [List.getElem?_map,((show (partsL r)[1]? = some (decide (r.body.length ≤ 20)) from rfl))]; rfl) (hj rfl))
  rintro _ S1 ⟨w,Sc1,rfl,rfl,hj,hz⟩
  cases w with
  | false =>
   repeat first|refine ga_ ?_|intro _
   refine AW_ret ?_
   repeat refine mk_ ?_
   refine ⟨_,_,AVle.refl _,SLe.rfl,?_⟩
   exact ⟨Sc1,(by repeat (first | exact SLe.rfl | refine SLe.tail ?_)), .inr (hz rfl)⟩
  | true =>
   repeat first|refine ga_ ?_|intro _
   refine AW_for (α := Nat × List En) (fun z => ⟨[(0, .fn (.yield l) [] []),(1, .ptr p 0),(25, .sl 4 (encTs r.head.l) .no),(26, .int .i64 (r.head.l.length : Nat)),(27, .int .i64 (z.1 : Nat))], []⟩) (fun z => .cells p (cRu r) :: .glob 1 [errE b o] :: z.2) (fun z => r.head.l.length - z.1) (fun z => z.1 ≤ r.head.l.length ∧ J (z.1 + 2) z.2) ((0,Sc1)) ?_ (weak_of ?_ rfl ?_) (fun z hz => ?_)
   ·exact ⟨by omega,hj rfl⟩
   ·repeat (first | exact trivial | refine ⟨(AVle.eq (congrArg (AV.int .i64) (by simp))),?_⟩ | refine env_ ?_)
   ·exact l_
   obtain ⟨z,Sc2⟩ := z
   obtain ⟨i1,i2⟩ : z ≤ r.head.l.length ∧ J (z + 2) Sc2 := hz
   repeat first|refine go_ ?_|intro _
   refine AW_iff (z < r.head.l.length) rfl ib_ (fun h => ?_) (fun h => ?_)
   ·have hlt := h
    obtain ⟨x,hx⟩ : ∃ x,x = r.head.l[z] := ⟨_,rfl⟩
    have g := pl2 hlt
    rw [← hx] at g
    have k2 := isTwo_ok x.op
    repeat first|refine go_ ?_|intro _
    refine at_get (z) (encU x) (by first | rfl | omega | (rw [wrap_i64 (by omega)]; omega)) (by rw [hx]; exact encTs_get hlt) ?_
    repeat first|refine go_ ?_|intro _
    rename_i q
    refine gsplit (¬ x.op = 4) ib_ (fun h => ?_) (fun h => ?_)
    rotate_left
    ·have e : headB r.body.length x = false := by simp at h; simp [headB,h]
     rw [e] at g
     repeat first|refine ga_ ?_|intro _
     refine Or.inl ⟨⟨_,Tryz.func119,rfl,rfl⟩,ACall_args (ACall.mono ?_ (must_ok b o (false) _ (.tail _ (.tail _ (.head _))))) ⟨(AVle.refl _),trivial⟩⟩
     rintro _ S1 ⟨rfl,hS1⟩
     subst S1
     repeat first|refine ga_ ?_|intro _
     refine AYield.mono ?_ (hY ((.cells q (cT x)) :: [.cells p (cRu r), .glob 1 [errE b o]]) (z + 2) (encY b o (false)) Sc2 (by rw [List.getElem?_map,(g)]; rfl) (i2))
     rintro _ S1 ⟨w,Sc1,rfl,rfl,hj,hz⟩
     cases w with
     | false =>
      repeat first|refine ga_ ?_|intro _
      refine AW_ret ?_
      repeat refine mk_ ?_
      refine ⟨_,_,AVle.refl _,SLe.rfl,?_⟩
      exact ⟨Sc1,(by repeat (first | exact SLe.rfl | refine SLe.tail ?_)), .inr (hz rfl)⟩
     | true =>
      repeat first|refine ga_ ?_|intro _
      refine ⟨(z + 1,Sc1),?_,?_,weak_of ?_ rfl ?_⟩
      ·exact Nat.sub_lt_sub_left hlt (Nat.lt_succ_self z)
      ·exact ⟨hlt,hj rfl⟩
      ·exact e_
      ·exact w_
    have h4 := h
    repeat first|refine go_ ?_|intro _
    refine Or.inl ⟨⟨_,Tryz.func120,rfl,rfl⟩,ACall.mono ?_ (k2 _)⟩
    rintro _ S1 ⟨rfl,hS1⟩
    subst S1
    repeat first|refine go_ ?_|intro _
    refine gsplit (twoB x.op = false) ib_ (fun h => ?_) (fun h => ?_)
    rotate_left
    ·have e : headB r.body.length x = false := by simp at h; simp [headB,h]
     rw [e] at g
     repeat first|refine ga_ ?_|intro _
     refine Or.inl ⟨⟨_,Tryz.func119,rfl,rfl⟩,ACall_args (ACall.mono ?_ (must_ok b o (false) _ (.tail _ (.tail _ (.head _))))) ⟨(AVle.refl _),trivial⟩⟩
     rintro _ S1 ⟨rfl,hS1⟩
     subst S1
     repeat first|refine ga_ ?_|intro _
     refine AYield.mono ?_ (hY ((.cells q (cT x)) :: [.cells p (cRu r), .glob 1 [errE b o]]) (z + 2) (encY b o (false)) Sc2 (by rw [List.getElem?_map,(g)]; rfl) (i2))
     rintro _ S1 ⟨w,Sc1,rfl,rfl,hj,hz⟩
     cases w with
     | false =>
      repeat first|refine ga_ ?_|intro _
      refine AW_ret ?_
      repeat refine mk_ ?_
      refine ⟨_,_,AVle.refl _,SLe.rfl,?_⟩
      exact ⟨Sc1,(by repeat (first | exact SLe.rfl | refine SLe.tail ?_)), .inr (hz rfl)⟩
     | true =>
      repeat first|refine ga_ ?_|intro _
      refine ⟨(z + 1,Sc1),?_,?_,weak_of ?_ rfl ?_⟩
      ·exact Nat.sub_lt_sub_left hlt (Nat.lt_succ_self z)
      ·exact ⟨hlt,hj rfl⟩
      ·exact e_
      ·exact w_
    have h5 := h
    repeat first|refine go_ ?_|intro _
    refine gsplit (¬ x.op = 1) ib_ (fun h => ?_) (fun h => ?_)
    ·have e : headB r.body.length x = true := by simp [headB,h,h4,h5]
     rw [e] at g
     repeat first|refine ga_ ?_|intro _
     refine Or.inl ⟨⟨_,Tryz.func119,rfl,rfl⟩,ACall_args (ACall.mono ?_ (must_ok b o (true) _ (.tail _ (.tail _ (.head _))))) ⟨(AVle.refl _),trivial⟩⟩
     rintro _ S1 ⟨rfl,hS1⟩
     subst S1
     repeat first|refine ga_ ?_|intro _
     refine AYield.mono ?_ (hY ((.cells q (cT x)) :: [.cells p (cRu r), .glob 1 [errE b o]]) (z + 2) (encY b o (true)) Sc2 (by rw [List.getElem?_map,(g)]; rfl) (i2))
     rintro _ S1 ⟨w,Sc1,rfl,rfl,hj,hz⟩
     cases w with
     | false =>
      repeat first|refine ga_ ?_|intro _
      refine AW_ret ?_
      repeat refine mk_ ?_
      refine ⟨_,_,AVle.refl _,SLe.rfl,?_⟩
      exact ⟨Sc1,(by repeat (first | exact SLe.rfl | refine SLe.tail ?_)), .inr (hz rfl)⟩
     | true =>
      repeat first|refine ga_ ?_|intro _
      refine ⟨(z + 1,Sc1),?_,?_,weak_of ?_ rfl ?_⟩
      ·exact Nat.sub_lt_sub_left hlt (Nat.lt_succ_self z)
      ·exact ⟨hlt,hj rfl⟩
      ·exact e_
      ·exact w_
    have h6 : x.op = 1 := Decidable.not_not.1 h
    have e : headB r.body.length x = decide (0 < r.body.length) := by rw [headB,h5,decide_eq_false h4,decide_eq_true h6]; simp
    rw [e] at g
    repeat first|refine ga_ ?_|intro _
    refine Or.inl ⟨⟨_,Tryz.func119,rfl,rfl⟩,ACall_args (ACall.mono ?_ (must_ok b o (decide (0 < r.body.length)) _ (.tail _ (.tail _ (.head _))))) ⟨(AVle.eq (congrArg AV.bool (show decide ((0 : Int) < ((r.body.map encL).length : Int)) = decide (0 < r.body.length) from decide_eq_decide.2 (by rw [List.length_map]; omega)))),trivial⟩⟩
    rintro _ S1 ⟨rfl,hS1⟩
    subst S1
    repeat first|refine ga_ ?_|intro _
    refine AYield.mono ?_ (hY ((.cells q (cT x)) :: [.cells p (cRu r), .glob 1 [errE b o]]) (z + 2) (encY b o (decide (0 < r.body.length))) Sc2 (by rw [List.getElem?_map,(g)]; rfl) (i2))
    rintro _ S1 ⟨w,Sc1,rfl,rfl,hj,hz⟩
    cases w with
    | false =>
     repeat first|refine ga_ ?_|intro _
     refine AW_ret ?_
     repeat refine mk_ ?_
     refine ⟨_,_,AVle.refl _,SLe.rfl,?_⟩
     exact ⟨Sc1,(by repeat (first | exact SLe.rfl | refine SLe.tail ?_)), .inr (hz rfl)⟩
    | true =>
     repeat first|refine ga_ ?_|intro _
     refine ⟨(z + 1,Sc1),?_,?_,weak_of ?_ rfl ?_⟩
     ·exact Nat.sub_lt_sub_left hlt (Nat.lt_succ_self z)
     ·exact ⟨hlt,hj rfl⟩
     ·exact e_
     ·exact w_
   ·have hz : z = r.head.l.length := by omega
    subst hz
    repeat first|refine go_ ?_|intro _
    refine AW_for (α := Nat × List En) (fun z => ⟨[(0, .fn (.yield l) [] []),(1, .ptr p 0),(57, .sl 11 (r.body.map encL) .no),(58, .int .i64 (r.body.length : Nat)),(59, .int .i64 (z.1 : Nat))], []⟩) (fun z => .cells p (cRu r) :: .glob 1 [errE b o] :: z.2) (fun z => r.body.length - z.1) (fun z => z.1 ≤ r.body.length ∧ J (r.head.l.length + z.1 + 2) z.2) ((0,Sc2)) ?_ (weak_of ?_ rfl ?_) (fun z hz => ?_)
    ·exact ⟨by omega,i2⟩
    ·repeat (first | exact trivial | refine ⟨(AVle.eq (congrArg (AV.int .i64) (by simp))),?_⟩ | refine env_ ?_)
    ·exact l_
    obtain ⟨z,Sc2⟩ := z
    obtain ⟨i1,i2⟩ : z ≤ r.body.length ∧ J (r.head.l.length + z + 2) Sc2 := hz
    repeat first|refine go_ ?_|intro _
    refine AW_iff (z < r.body.length) rfl ib_ (fun h => ?_) (fun h => ?_)
    ·have hlt := h
     obtain ⟨x,hx⟩ : ∃ x,x = r.body[z] := ⟨_,rfl⟩
     have g := pl3 hlt
     rw [← hx] at g
     repeat first|refine go_ ?_|intro _
     refine at_map (z) (by first | rfl | omega | (rw [wrap_i64 (by omega)]; omega)) (by first | assumption | omega) ?_
     rw [← hx]
     repeat first|refine go_ ?_|intro _
     rename_i q
     refine Or.inl ⟨⟨_,Tryz.func121,rfl,rfl⟩,ACall.mono ?_ (lit_ok b o x _ (.tail _ (.tail _ (.head _))))⟩
     rintro _ S1 ⟨rfl,hS1⟩
     subst S1
     repeat first|refine go_ ?_|intro _
     refine AYield.mono ?_ (hY ((.cells q (cL x)) :: [.cells p (cRu r), .glob 1 [errE b o]]) (r.head.l.length + z + 2) (encY b o (rightL x)) Sc2 (by rw [List.getElem?_map,(g)]; rfl) (i2))
     rintro _ S1 ⟨w,Sc1,rfl,rfl,hj,hz⟩
     cases w with
     | false =>
      repeat first|refine ga_ ?_|intro _
      refine AW_ret ?_
      repeat refine mk_ ?_
      refine ⟨_,_,AVle.refl _,SLe.rfl,?_⟩
      exact ⟨Sc1,(by repeat (first | exact SLe.rfl | refine SLe.tail ?_)), .inr (hz rfl)⟩
     | true =>
      repeat first|refine ga_ ?_|intro _
      refine ⟨(z + 1,Sc1),?_,?_,weak_of ?_ rfl ?_⟩
      ·exact Nat.sub_lt_sub_left hlt (Nat.lt_succ_self z)
      ·exact ⟨hlt,hj rfl⟩
      ·exact e_
      ·exact w_
    ·have hz : z = r.body.length := by omega
     subst hz
     repeat first|refine go_ ?_|intro _
     refine ⟨.tup [],Sc2,AVle.refl _,(by repeat (first | exact SLe.rfl | refine SLe.tail ?_)),Sc2,SLe.rfl, .inl ?_⟩
     rw [List.length_map,pl_len]
     exact i2
theorem parts_ok (r : Ru) (R : List En) : ACall Tryz.prog 80 [encRu r] R (fun v S => ∃ p,v = .fn (.func 117) [] [.ptr p 0] ∧ S = .cells p (cRu r) :: R) := by
 refine ACall_body tab_ok Tryz.func80 rfl rfl rfl (by kernel_rfl) (nb_ rfl) ?_
 repeat first|refine go_ ?_|intro _
 refine AW_ret ?_
 repeat refine mk_ ?_
 refine ⟨_,_,AVle.refl _,SLe.rfl,?_⟩
 exact ⟨_,rfl,rfl⟩
theorem rightRule_ok (b o : Nat) (r : Ru) (R : List En) (hE : En.glob 1 [errE b o] ∈ R) (hr1 : r.head.l.length ≤ 4611686018427387904) (hr2 : r.body.length ≤ 4611686018427387904) : ACall Tryz.prog 43 [encRu r] R (fun v S => v = .bool (rightR r) ∧ S = R) := by
 refine ACall_body tab_ok Tryz.func43 rfl rfl rfl (by kernel_rfl) (nb_ rfl) ?_
 repeat first|refine go_ ?_|intro _
 rename_i p w
 refine Or.inl ⟨⟨_,Tryz.func80,rfl,rfl⟩,ACall.mono ?_ (parts_ok r _)⟩
 rintro _ S1 ⟨q,rfl,hS1⟩
 subst S1
 repeat first|refine go_ ?_|intro _
 refine AW_rangeOut (xs := (partsL r).map (encY b o)) (α := Unit) (st := fun i z => [.cells w [.nilif]]) (inv := fun i z => ((partsL r).take i).all id = true) (Q := fun x Sc => x = .exit 0 ∧ rightR r = false ∧ Sc = [.cells w [errE b o]]) ([.cells q (cRu r), .glob 1 [errE b o]]) (.cells p (cRu r) :: R) (()) rfl (parts_gen b o r q hr1 hr2) ?_ ?_ ?_ ?_ ?_ ?_
 ·refine fun w0 K x h => ((SLe.dup (e := .glob 1 [errE b o]) (.tail _ (.tail _ (.tail _ hE))) rfl) w0 K x h).perm ?_
  exact List.Perm.swap _ _ _
 ·rfl
 ·intro i args h
  rw [List.getElem?_map] at h
  obtain ⟨x,_,rfl⟩ := Option.map_eq_some_iff.1 h
  rfl
 ·intro lp R1 i args z hl hx hz
  rw [List.getElem?_map] at hx
  obtain ⟨c,hx2,rfl⟩ := Option.map_eq_some_iff.1 hx
  obtain ⟨hi,hx3⟩ := List.getElem?_eq_some_iff.1 hx2
  replace hz : ((partsL r).take i).all id = true := hz
  cases c with
  | true =>
   repeat first|refine ga_ ?_|intro _
   refine ⟨(),?_,SLe.rfl⟩
   show ((partsL r).take (i + 1)).all id = true
   rw [List.take_succ_eq_append_getElem hi,List.all_append,hz,hx3]; rfl
  | false =>
   repeat first|refine ga_ ?_|intro _
   refine ⟨_,⟨rfl,?_,rfl⟩,SLe.rfl⟩
   rw [rightR,List.all_eq_false]
   exact ⟨_,List.mem_of_getElem? hx2,by simp⟩
 ·intro d z hz
  replace hz : ((partsL r).take ((partsL r).map (encY b o)).length).all id = true := hz
  rw [List.length_map,List.take_length] at hz
  repeat first|refine go_ ?_|intro _
  refine ⟨_,mt_ hE,⟨Nat.le_refl 1,Nat.le_refl 1⟩,_,rfl,?_⟩
  repeat first|refine go_ ?_|intro _
  refine Or.inl ⟨⟨_,Tryz.func81,rfl,rfl⟩,ACall.mono ?_ (errIs_ok b o true _)⟩
  rintro _ S1 ⟨rfl,hS1⟩
  subst S1
  repeat first|refine go_ ?_|intro _
  refine AW_ret ?_
  repeat refine mk_ ?_
  refine ⟨_,R,AVle.eq ?_,sle_,rfl,rfl⟩
  rw [show rightR r = true from hz]; rfl
 ·rintro d x Sc ⟨rfl,hn,rfl⟩ _
  repeat first|refine go_ ?_|intro _
  refine ⟨_,mt_ hE,⟨Nat.le_refl 1,Nat.le_refl 1⟩,_,rfl,?_⟩
  repeat first|refine go_ ?_|intro _
  refine Or.inl ⟨⟨_,Tryz.func81,rfl,rfl⟩,ACall.mono ?_ (errIs_ok b o false _)⟩
  rintro _ S1 ⟨rfl,hS1⟩
  subst S1
  repeat first|refine go_ ?_|intro _
  refine AW_ret ?_
  repeat refine mk_ ?_
  refine ⟨_,R,AVle.eq ?_,sle_,rfl,rfl⟩
  rw [hn]; rfl
def typeB (n : Int) : Bool := decide (n = 1) || decide (n = 2)
def rightD (d : De) : Bool := nameB d.rel && (!decide (d.names.length = 0) && (!decide (8 < d.names.length) && (decide (d.types.length = d.names.length) && (d.names.zip d.types).all fun x => nameB x.1 && typeB x.2)))
theorem isDecl_ok (d : De) (R : List En) : ACall Tryz.prog 40 [encD d] R (fun v S => v = .bool (rightD d) ∧ S = R) := by
 have kn := name_ok d.rel
 refine ACall_body tab_ok Tryz.func40 rfl rfl rfl (by kernel_rfl) (nb_ rfl) ?_
 repeat first|refine go_ ?_|intro _
 rename_i p
 refine Or.inl ⟨⟨_,Tryz.func78,rfl,rfl⟩,ACall.mono ?_ (kn _)⟩
 rintro _ S1 ⟨rfl,hS1⟩
 subst S1
 repeat first|refine go_ ?_|intro _
 refine gsplit (nameB d.rel = false) ib_ (fun h => ?_) (fun h => ?_)
 ·repeat first|refine ga_ ?_|intro _
  refine AW_ret ?_
  repeat refine mk_ ?_
  refine ⟨_,R,AVle.eq ?_,sle_,rfl,rfl⟩
  exact congrArg AV.bool (by simp [rightD,h])
 have h1 : nameB d.rel = true := by simpa using h
 repeat first|refine ga_ ?_|intro _
 refine gsplit (d.names.length = 0) ib_ (fun h => ?_) (fun h => ?_)
 ·repeat first|refine ga_ ?_|intro _
  refine AW_ret ?_
  repeat refine mk_ ?_
  refine ⟨_,R,AVle.eq ?_,sle_,rfl,rfl⟩
  exact congrArg AV.bool (by simp [rightD,h])
 have h2 := h
 repeat first|refine ga_ ?_|intro _
 refine gsplit (8 < d.names.length) ib_ (fun h => ?_) (fun h => ?_)
 ·repeat first|refine ga_ ?_|intro _
  refine AW_ret ?_
  repeat refine mk_ ?_
  refine ⟨_,R,AVle.eq ?_,sle_,rfl,rfl⟩
  exact congrArg AV.bool (by simp [rightD,h])
 have h3 := h
 repeat first|refine ga_ ?_|intro _
 refine AW_iff (¬ d.types.length = d.names.length) rfl ib_ (fun h => ?_) (fun h => ?_)
 ·repeat first|refine ga_ ?_|intro _
  refine AW_ret ?_
  repeat refine mk_ ?_
  refine ⟨_,R,AVle.eq ?_,sle_,rfl,rfl⟩
  exact congrArg AV.bool (by simp [rightD,h])
 have h4 : d.types.length = d.names.length := Decidable.not_not.1 h
 have e0 : rightD d = (d.names.zip d.types).all fun x => nameB x.1 && typeB x.2 := by rw [rightD,h1,decide_eq_false h2,decide_eq_false h3,decide_eq_true h4]; simp
 have hzl : (d.names.zip d.types).length = d.names.length := by simp [h4]
 repeat first|refine go_ ?_|intro _
 refine AW_for (α := Nat) (fun z => ⟨[(1, .ptr p 0),(31, .sl 1 (d.names.map AV.str) .no),(32, .int .i64 (d.names.length : Nat)),(33, .int .i64 (z : Nat))], []⟩) (fun z => .cells p (cD d) :: R) (fun z => d.names.length - z) (fun z => z ≤ d.names.length ∧ ∀ (i : Nat) (hi : i < (d.names.zip d.types).length),i < z → (nameB (d.names.zip d.types)[i].1 && typeB (d.names.zip d.types)[i].2) = true) (0) ?_ (weak_of ?_ rfl ?_) (fun z hz => ?_)
 ·exact ⟨by omega,fun i _ h => by omega⟩
 ·repeat (first | exact trivial | refine ⟨(AVle.eq (congrArg (AV.int .i64) (by simp))),?_⟩ | refine env_ ?_)
 ·exact l_
 obtain ⟨i1,i2⟩ := hz
 repeat first|refine go_ ?_|intro _
 refine AW_iff (z < d.names.length) rfl ib_ (fun h => ?_) (fun h => ?_)
 ·have hlt := h
  have hlt2 : z < d.types.length := by omega
  have hlt3 : z < (d.names.zip d.types).length := by omega
  obtain ⟨x,hx⟩ : ∃ x,x = d.names[z] := ⟨_,rfl⟩
  obtain ⟨y,hy⟩ : ∃ x,x = d.types[z] := ⟨_,rfl⟩
  have hxy : (d.names.zip d.types)[z] = (x,y) := by rw [List.getElem_zip,hx,hy]
  have kx := name_ok x
  have bad : (nameB x && typeB y) = false → rightD d = false := fun hb => by
   rw [e0,List.all_eq_false]
   exact ⟨_,List.getElem_mem hlt3,by rw [hxy]; simp only []; rw [hb]; simp⟩
  repeat first|refine go_ ?_|intro _
  refine at_map (z) (by first | rfl | omega | (rw [wrap_i64 (by omega)]; omega)) (by first | assumption | omega) ?_
  rw [← hx]
  repeat first|refine go_ ?_|intro _
  refine Or.inl ⟨⟨_,Tryz.func78,rfl,rfl⟩,ACall.mono ?_ (kx _)⟩
  rintro _ S1 ⟨rfl,hS1⟩
  subst S1
  repeat first|refine go_ ?_|intro _
  refine gsplit (nameB x = false) ib_ (fun h => ?_) (fun h => ?_)
  ·repeat first|refine ga_ ?_|intro _
   refine AW_ret ?_
   repeat refine mk_ ?_
   refine ⟨_,R,AVle.eq ?_,sle_,rfl,rfl⟩
   rw [bad (by rw [h]; rfl)]; rfl
  have h5 : nameB x = true := by simpa using h
  repeat first|refine ga_ ?_|intro _
  refine at_map (z) (by first | rfl | omega | (rw [wrap_i64 (by omega)]; omega)) (by first | assumption | omega) ?_
  rw [← hy]
  show (fun n : Int => _) y
  repeat first|refine go_ ?_|intro _
  refine gsplit (¬ y = 1) ib_ (fun h => ?_) (fun h => ?_)
  ·have h6 := h
   repeat first|refine go_ ?_|intro _
   refine at_map (z) (by first | rfl | omega | (rw [wrap_i64 (by omega)]; omega)) (by first | assumption | omega) ?_
   rw [← hy]
   show (fun n : Int => _) y
   repeat first|refine go_ ?_|intro _
   refine AW_iff (¬ y = 2) rfl ib_ (fun h => ?_) (fun h => ?_)
   ·repeat first|refine ga_ ?_|intro _
    refine AW_ret ?_
    repeat refine mk_ ?_
    refine ⟨_,R,AVle.eq ?_,sle_,rfl,rfl⟩
    rw [bad (by rw [typeB,decide_eq_false h6,decide_eq_false h]; simp)]; rfl
   ·have h7 : y = 2 := Decidable.not_not.1 h
    repeat first|refine go_ ?_|intro _
    refine ⟨z + 1,?_,?_,weak_of ?_ rfl ?_⟩
    ·omega
    ·refine ⟨by omega,fun i hi hiz => ?_⟩
     by_cases hc : i < z
     ·exact i2 i hi hc
     ·obtain rfl : i = z := by omega
      rw [hxy]; simp [h5,typeB,h7]
    ·exact e_
    ·exact l_
  ·have h7 : y = 1 := Decidable.not_not.1 h
   repeat first|refine ga_ ?_|intro _
   refine ⟨z + 1,?_,?_,weak_of ?_ rfl ?_⟩
   ·omega
   ·refine ⟨by omega,fun i hi hiz => ?_⟩
    by_cases hc : i < z
    ·exact i2 i hi hc
    ·obtain rfl : i = z := by omega
     rw [hxy]; simp [h5,typeB,h7]
   ·exact e_
   ·exact l_
 ·have e : rightD d = true := by
   rw [e0,List.all_eq_true]
   intro x hx
   obtain ⟨i,hi,rfl⟩ := List.mem_iff_getElem.1 hx
   exact i2 i hi (by omega)
  repeat first|refine go_ ?_|intro _
  refine AW_ret ?_
  repeat refine mk_ ?_
  refine ⟨_,R,AVle.eq ?_,sle_,rfl,rfl⟩
  rw [e]; rfl
def idxB {α : Type} (q : α → Bool) (l : List α) : Int := match l.findIdx? q with
 | some n => (n : Nat)
 | none => -1
theorem idxB_some {α : Type} {q : α → Bool} {l : List α} {z : Nat} (hz : z < l.length) (h : q l[z] = true) (hn : ∀ (i : Nat) (hi : i < l.length),i < z → q l[i] = false) : idxB q l = (z : Nat) := by
 have : l.findIdx? q = some z := List.findIdx?_eq_some_iff_getElem.2 ⟨hz,h,fun j hj => by simpa using hn j (by omega) hj⟩
 rw [idxB,this]
theorem idxB_none {α : Type} {q : α → Bool} {l : List α} (hn : ∀ (i : Nat) (hi : i < l.length),q l[i] = false) : idxB q l = -1 := by
 have : l.findIdx? q = none := by
  rw [List.findIdx?_eq_none_iff]
  intro x hx
  obtain ⟨i,hi,rfl⟩ := List.mem_iff_getElem.1 hx
  simpa using hn i hi
 rw [idxB,this]
theorem idxB_any {α : Type} (q : α → Bool) (l : List α) : decide (0 ≤ idxB q l) = l.any q := by
 unfold idxB
 cases h : l.findIdx? q with
 | none =>
  have := List.findIdx?_eq_none_iff.1 h
  have e : l.any q = false := by rw [List.any_eq_false]; intro x hx; have := this x hx; simp [this]
  rw [e]; rfl
 | some n =>
  obtain ⟨h1,h2,_⟩ := List.findIdx?_eq_some_iff_getElem.1 h
  have e : l.any q = true := List.any_eq_true.2 ⟨_,List.getElem_mem h1,h2⟩
  rw [e]
  exact decide_eq_true (Int.natCast_nonneg n)
theorem notDecl_ok (d : De) (R : List En) : ACall Tryz.prog 39 [encD d] R (fun v S => v = .bool (!rightD d) ∧ S = R) := by
 have k := isDecl_ok d
 refine ACall_body tab_ok Tryz.func39 rfl rfl rfl (by kernel_rfl) (nb_ rfl) ?_
 repeat first|refine go_ ?_|intro _
 refine Or.inl ⟨⟨_,Tryz.func40,rfl,rfl⟩,ACall.mono ?_ (k _)⟩
 rintro _ S1 ⟨rfl,hS1⟩
 subst S1
 repeat first|refine go_ ?_|intro _
 refine AW_ret ?_
 repeat refine mk_ ?_
 refine ⟨_,R,AVle.eq ?_,sle_,rfl,rfl⟩
 rfl
theorem notRule_ok (b o : Nat) (r : Ru) (R : List En) (hE : En.glob 1 [errE b o] ∈ R) (hr1 : r.head.l.length ≤ 4611686018427387904) (hr2 : r.body.length ≤ 4611686018427387904) : ACall Tryz.prog 42 [encRu r] R (fun v S => v = .bool (!rightR r) ∧ S = R) := by
 refine ACall_body tab_ok Tryz.func42 rfl rfl rfl (by kernel_rfl) (nb_ rfl) ?_
 repeat first|refine go_ ?_|intro _
 refine Or.inl ⟨⟨_,Tryz.func43,rfl,rfl⟩,ACall.mono ?_ (rightRule_ok b o r _ (.tail _ hE) hr1 hr2)⟩
 rintro _ S1 ⟨rfl,hS1⟩
 subst S1
 repeat first|refine go_ ?_|intro _
 refine AW_ret ?_
 repeat refine mk_ ?_
 refine ⟨_,R,AVle.eq ?_,sle_,rfl,rfl⟩
 rfl
theorem indexD_ok (l : List De) (R : List En) (hll : l.length ≤ 1000) : ACall Tryz.prog 77 [.sl 6 (l.map encD) .no, .fn (.func 39) [] []] R (fun v S => v = .int .i64 (idxB (fun x => !rightD x) l) ∧ S = R) := by
 refine ACall_body tab_ok Tryz.func77 rfl rfl rfl (by kernel_rfl) (nb_ rfl) ?_
 repeat first|refine go_ ?_|intro _
 refine AW_for (α := Nat) (fun z => ⟨[(0, .sl 6 (l.map encD) .no),(1, .fn (.func 39) [] []),(7, .int .i64 (l.length : Nat)),(8, .int .i64 (z : Nat))], []⟩) (fun z => R) (fun z => l.length - z) (fun z => z ≤ l.length ∧ ∀ (i : Nat) (hi : i < l.length),i < z → (!rightD l[i]) = false) (0) ?_ (weak_of ?_ rfl ?_) (fun z hz => ?_)
 ·exact ⟨by omega,fun i _ h => by omega⟩
 ·repeat (first | exact trivial | refine ⟨(AVle.eq (congrArg (AV.int .i64) (by simp))),?_⟩ | refine env_ ?_)
 ·exact l_
 obtain ⟨i1,i2⟩ := hz
 repeat first|refine go_ ?_|intro _
 refine AW_iff (z < l.length) rfl ib_ (fun h => ?_) (fun h => ?_)
 ·have hlt := h
  obtain ⟨x,hx⟩ : ∃ x,x = l[z] := ⟨_,rfl⟩
  repeat first|refine go_ ?_|intro _
  refine at_map (z) (by first | rfl | omega | (rw [wrap_i64 (by omega)]; omega)) (by first | assumption | omega) ?_
  rw [← hx]
  repeat first|refine go_ ?_|intro _
  refine Or.inl ⟨⟨_,Tryz.func39,rfl,rfl⟩,ACall.mono ?_ (notDecl_ok x _)⟩
  rintro _ S1 ⟨rfl,hS1⟩
  subst S1
  refine AW_cond (b := !rightD x) rfl (fun h => ?_) (fun h => ?_)
  ·repeat first|refine go_ ?_|intro _
   refine AW_ret ?_
   repeat refine mk_ ?_
   refine ⟨_,R,AVle.eq ?_,sle_,rfl,rfl⟩
   exact congrArg (AV.int .i64) (idxB_some (q := fun x => !rightD x) hlt (by rw [← hx]; exact h) i2).symm
  ·have hq := h
   repeat first|refine go_ ?_|intro _
   refine ⟨z + 1,?_,?_,weak_of ?_ rfl ?_⟩
   ·omega
   ·refine ⟨by omega,fun i hi hiz => ?_⟩
    by_cases hc : i < z
    ·exact i2 i hi hc
    ·obtain rfl : i = z := by omega
     rw [← hx]; exact hq
   ·exact e_
   ·exact l_
 ·repeat first|refine go_ ?_|intro _
  refine AW_ret ?_
  repeat refine mk_ ?_
  refine ⟨_,R,AVle.eq ?_,sle_,rfl,rfl⟩
  exact congrArg (AV.int .i64) (idxB_none (q := fun x => !rightD x) (fun i hi => i2 i hi (by omega))).symm
theorem indexR_ok (b o : Nat) (l : List Ru) (R : List En) (hll : l.length ≤ 1000) (hE : En.glob 1 [errE b o] ∈ R) (hl : ∀ r ∈ l,r.head.l.length ≤ 4611686018427387904 ∧ r.body.length ≤ 4611686018427387904) : ACall Tryz.prog 79 [.sl 4 (l.map encRu) .no, .fn (.func 42) [] []] R (fun v S => v = .int .i64 (idxB (fun x => !rightR x) l) ∧ S = R) := by
 refine ACall_body tab_ok Tryz.func79 rfl rfl rfl (by kernel_rfl) (nb_ rfl) ?_
 repeat first|refine go_ ?_|intro _
 refine AW_for (α := Nat) (fun z => ⟨[(0, .sl 4 (l.map encRu) .no),(1, .fn (.func 42) [] []),(7, .int .i64 (l.length : Nat)),(8, .int .i64 (z : Nat))], []⟩) (fun z => R) (fun z => l.length - z) (fun z => z ≤ l.length ∧ ∀ (i : Nat) (hi : i < l.length),i < z → (!rightR l[i]) = false) (0) ?_ (weak_of ?_ rfl ?_) (fun z hz => ?_)
 ·exact ⟨by omega,fun i _ h => by omega⟩
 ·repeat (first | exact trivial | refine ⟨(AVle.eq (congrArg (AV.int .i64) (by simp))),?_⟩ | refine env_ ?_)
 ·exact l_
 obtain ⟨i1,i2⟩ := hz
 repeat first|refine go_ ?_|intro _
 refine AW_iff (z < l.length) rfl ib_ (fun h => ?_) (fun h => ?_)
 ·have hlt := h
  obtain ⟨x,hx⟩ : ∃ x,x = l[z] := ⟨_,rfl⟩
  repeat first|refine go_ ?_|intro _
  refine at_map (z) (by first | rfl | omega | (rw [wrap_i64 (by omega)]; omega)) (by first | assumption | omega) ?_
  rw [← hx]
  repeat first|refine go_ ?_|intro _
  refine Or.inl ⟨⟨_,Tryz.func42,rfl,rfl⟩,ACall.mono ?_ (notRule_ok b o x _ hE (hl x (hx ▸ List.getElem_mem hlt)).1 (hl x (hx ▸ List.getElem_mem hlt)).2)⟩
  rintro _ S1 ⟨rfl,hS1⟩
  subst S1
  refine AW_cond (b := !rightR x) rfl (fun h => ?_) (fun h => ?_)
  ·repeat first|refine go_ ?_|intro _
   refine AW_ret ?_
   repeat refine mk_ ?_
   refine ⟨_,R,AVle.eq ?_,sle_,rfl,rfl⟩
   exact congrArg (AV.int .i64) (idxB_some (q := fun x => !rightR x) hlt (by rw [← hx]; exact h) i2).symm
  ·have hq := h
   repeat first|refine go_ ?_|intro _
   refine ⟨z + 1,?_,?_,weak_of ?_ rfl ?_⟩
   ·omega
   ·refine ⟨by omega,fun i hi hiz => ?_⟩
    by_cases hc : i < z
    ·exact i2 i hi hc
    ·obtain rfl : i = z := by omega
     rw [← hx]; exact hq
   ·exact e_
   ·exact l_
 ·repeat first|refine go_ ?_|intro _
  refine AW_ret ?_
  repeat refine mk_ ?_
  refine ⟨_,R,AVle.eq ?_,sle_,rfl,rfl⟩
  exact congrArg (AV.int .i64) (idxB_none (q := fun x => !rightR x) (fun i hi => i2 i hi (by omega))).symm
def okR (r : Ru) : Prop := r.head.l.length ≤ 4611686018427387904 ∧ r.body.length ≤ 4611686018427387904
theorem containsD_ok (l : List De) (R : List En) (hll : l.length ≤ 1000) : ACall Tryz.prog 38 [.sl 6 (l.map encD) .no, .fn (.func 39) [] []] R (fun v S => v = .bool (!l.all rightD) ∧ S = R) := by
 refine ACall_body tab_ok Tryz.func38 rfl rfl rfl (by kernel_rfl) (nb_ rfl) ?_
 repeat first|refine go_ ?_|intro _
 refine Or.inl ⟨⟨_,Tryz.func77,rfl,rfl⟩,ACall.mono ?_ (indexD_ok l _ hll)⟩
 rintro _ S1 ⟨rfl,hS1⟩
 subst S1
 repeat first|refine go_ ?_|intro _
 refine AW_ret ?_
 repeat refine mk_ ?_
 refine ⟨_,R,AVle.eq ?_,sle_,rfl,rfl⟩
 exact congrArg AV.bool ((idxB_any _ l).trans (by rw [List.not_all_eq_any_not]))
theorem containsR_ok (b o : Nat) (l : List Ru) (R : List En) (hll : l.length ≤ 1000) (hE : En.glob 1 [errE b o] ∈ R) (hl : ∀ r ∈ l,okR r) : ACall Tryz.prog 41 [.sl 4 (l.map encRu) .no, .fn (.func 42) [] []] R (fun v S => v = .bool (!l.all rightR) ∧ S = R) := by
 refine ACall_body tab_ok Tryz.func41 rfl rfl rfl (by kernel_rfl) (nb_ rfl) ?_
 repeat first|refine go_ ?_|intro _
 refine Or.inl ⟨⟨_,Tryz.func79,rfl,rfl⟩,ACall.mono ?_ (indexR_ok b o l _ hll hE hl)⟩
 rintro _ S1 ⟨rfl,hS1⟩
 subst S1
 repeat first|refine go_ ?_|intro _
 refine AW_ret ?_
 repeat refine mk_ ?_
 refine ⟨_,R,AVle.eq ?_,sle_,rfl,rfl⟩
 exact congrArg AV.bool ((idxB_any _ l).trans (by rw [List.not_all_eq_any_not]))
def rightP (p : Pr) : Bool := !decide (60 < p.decls.length) && (!decide (200 < p.rules.length) && (p.decls.all rightD && p.rules.all rightR))
theorem right_ok (b o : Nat) (p : Pr) (R : List En) (hE : En.glob 1 [errE b o] ∈ R) (hl : ∀ r ∈ p.rules,okR r) : ACall Tryz.prog 18 [encP p] R (fun v S => v = .bool (rightP p) ∧ S = R) := by
 refine ACall_body tab_ok Tryz.func18 rfl rfl rfl (by kernel_rfl) (nb_ rfl) ?_
 repeat first|refine go_ ?_|intro _
 refine gsplit (60 < p.decls.length) ib_ (fun h => ?_) (fun h => ?_)
 ·repeat first|refine ga_ ?_|intro _
  refine AW_ret ?_
  repeat refine mk_ ?_
  refine ⟨_,R,AVle.eq ?_,sle_,rfl,rfl⟩
  exact congrArg AV.bool (by simp [rightP,h])
 have h1 := h
 repeat first|refine ga_ ?_|intro _
 refine AW_iff (200 < p.rules.length) rfl ib_ (fun h => ?_) (fun h => ?_)
 ·repeat first|refine ga_ ?_|intro _
  refine AW_ret ?_
  repeat refine mk_ ?_
  refine ⟨_,R,AVle.eq ?_,sle_,rfl,rfl⟩
  exact congrArg AV.bool (by simp [rightP,h])
 have h2 := h
 repeat first|refine go_ ?_|intro _
 refine Or.inl ⟨⟨_,Tryz.func38,rfl,rfl⟩,ACall.mono ?_ (containsD_ok p.decls _ (by omega))⟩
 rintro _ S1 ⟨rfl,hS1⟩
 subst S1
 repeat first|refine go_ ?_|intro _
 refine gsplit (p.decls.all rightD = true) ib_ (fun h => ?_) (fun h => ?_)
 ·have h3 := h
  repeat first|refine go_ ?_|intro _
  refine Or.inl ⟨⟨_,Tryz.func41,rfl,rfl⟩,ACall.mono ?_ (containsR_ok b o p.rules _ (by omega) (.tail _ hE) hl)⟩
  rintro _ S1 ⟨rfl,hS1⟩
  subst S1
  repeat first|refine go_ ?_|intro _
  refine AW_ret ?_
  repeat refine mk_ ?_
  refine ⟨_,R,AVle.eq ?_,sle_,rfl,rfl⟩
  exact congrArg AV.bool (by rw [rightP,decide_eq_false h1,decide_eq_false h2,h3]; simp)
 ·have h3 : p.decls.all rightD = false := by simpa using h
  repeat first|refine go_ ?_|intro _
  refine AW_ret ?_
  repeat refine mk_ ?_
  refine ⟨_,R,AVle.eq ?_,sle_,rfl,rfl⟩
  exact congrArg AV.bool (by rw [rightP,h3]; simp)
end Go.Proofs.YtfeknkaioofljaaGreatDoor.Tree
