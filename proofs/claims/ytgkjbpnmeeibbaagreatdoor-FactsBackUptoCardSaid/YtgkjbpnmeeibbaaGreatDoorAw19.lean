/-
  Regions that draw, looked at in another order of their operations. Own work.
-/
import Derived.Test.YtgkjbpnmeeibbaaGreatDoorAw15
set_option linter.all false
namespace Go.Aw
open Go.RowKit

/-- what one operation gives hangs on nothing that is owned -/
def pureAt (op : Op) (ρ : Operand → AV) : Bool := match op with
  | .move _ | .assign _ => true
  | .binOp _ _ _ (.const (.slice ..)) _ => false
  | .binOp .. => true
  | .fieldAddr .. => true
  | .load _ x => match ρ x with
    | .ref _ => true
    | _ => false
  | _ => false
theorem pureAt_any {P : Program} {τ : List (TypeId × TI)} {op : Op} {ρ : Operand → AV} {S S2 : List En} {v : AV} (hp : pureAt op ρ = true) (h : astep P τ op ρ S (fun v' S' => AVle v' v ∧ S.Sublist S')) :
    astep P τ op ρ S2 (fun v' S' => AVle v' v ∧ S2.Sublist S') := by
  cases op <;> first | (exfalso; simp [pureAt] at hp; done) | skip
  case move x => exact pure_any rfl h
  case assign x => exact pure_any rfl h
  case binOp op t x y t' =>
    refine pure_any ?_ h
    unfold pureAt at hp
    unfold pureOp
    split at hp <;> simp_all
  case load t x =>
    simp only [astep] at h ⊢
    simp only [pureAt] at hp
    refine ⟨h.1, ?_⟩
    cases hx : ρ x <;> rw [hx] at hp <;> simp only [] at hp <;> (try exact absurd hp Bool.false_ne_true)
    case ref cs =>
      have h2 := h.2
      rw [hx] at h2
      simp only [] at h2 ⊢
      obtain ⟨a, u, e, b⟩ := h2
      exact ⟨a, u, e, b.1, List.Sublist.refl _⟩
  case fieldAddr t x f =>
    simp only [astep] at h ⊢
    split at h
    · obtain ⟨off, ft, a, b, c, d⟩ := h
      refine ⟨off, ft, a, b, c, ?_⟩
      split at d
      · exact ⟨d.1, List.Sublist.refl _⟩
      · exact ⟨d.1, d.2.1, List.Sublist.refl _⟩
      · exact d.elim
    · exact h.elim

/-! ### another order of the operations -/
structure PFacts (ops : Array Oper) (ord inv : List Nat) : Prop where
  ol : ord.length = ops.size
  il : inv.length = ops.size
  lt : ∀ j, j < ops.size → ord.getD j 0 < ops.size
  lt' : ∀ j, j < ops.size → inv.getD j 0 < ops.size
  io : ∀ j, j < ops.size → inv.getD (ord.getD j 0) 0 = j
  oi : ∀ j, j < ops.size → ord.getD (inv.getD j 0) 0 = j
  dl : ∀ (j : Nat) (o : Oper), ops[j]? = some o → (∀ e ∈ deps o, e < ops.size) ∧ o.guard = none
/-- the two lists of what was carried out -/
structure Alike (ops : Array Oper) (ord : List Nat) (listed listed' : Array Bool) : Prop where
  s : listed.size = ops.size
  s' : listed'.size = ops.size
  at_ : ∀ j, j < ops.size → listed'.getD j false = listed.getD (ord.getD j 0) false
theorem erase_perm {α : Type} {l : List α} {i : Nat} {x : α} (h : l[i]? = some x) : (x :: l.eraseIdx i).Perm l := by
  obtain ⟨hi, hx⟩ := List.getElem?_eq_some_iff.1 h
  have e : l = l.take i ++ x :: l.drop (i + 1) := by rw [← hx, List.getElem_cons_drop, List.take_append_drop]
  rw [List.eraseIdx_eq_take_drop_succ]
  exact List.perm_middle.symm.trans (List.Perm.of_eq e.symm)
end Go.Aw
