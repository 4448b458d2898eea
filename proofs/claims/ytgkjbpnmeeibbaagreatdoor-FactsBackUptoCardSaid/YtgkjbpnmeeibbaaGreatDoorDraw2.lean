/-
  Regions that draw, in another order, with slices among what may come late; a mutable slice that lies in a block, from where on it is only read. Own work.
-/
import Derived.Test.YtgkjbpnmeeibbaaGreatDoorBld
set_option linter.all false
namespace Go.Proofs.YtgkjbpnmeeibbaaGreatDoor
open Go.Aw Go.RowKit

def pureAt2 (op : Op) (ρ : Operand → AV) : Bool := match op with
  | .slice .. | .extract .. => true
  | .indexAddr _ x _ => match ρ x with
    | .gl _ => false
    | _ => true
  | op => pureAt op ρ
theorem pureAt2_any {P : Program} {τ : List (TypeId × TI)} {op : Op} {ρ : Operand → AV} {S S2 : List En} {v : AV} (hp : pureAt2 op ρ = true) (h : astep P τ op ρ S (fun v' S' => AVle v' v ∧ S.Sublist S')) :
    astep P τ op ρ S2 (fun v' S' => AVle v' v ∧ S2.Sublist S') := by
  cases op <;> first | exact pureAt_any hp h | skip
  case slice t x lo hi mx =>
    simp only [astep] at h ⊢
    split at h
    · obtain ⟨a, b, c, d, r, e, f⟩ := h
      exact ⟨a, b, c, d, r, e, f.1, List.Sublist.refl _⟩
    · obtain ⟨a, b, c, d, e, f, g, r, i, j⟩ := h
      exact ⟨a, b, c, d, e, f, g, r, i, j.1, List.Sublist.refl _⟩
    · obtain ⟨a, b, c, d, e, f, o, n, cc, i, j, l, m⟩ := h
      exact ⟨a, b, c, d, e, f, o, n, cc, i, j, l, m.1, List.Sublist.refl _⟩
    · exact h.elim
  case indexAddr t x i =>
    simp only [astep] at h ⊢
    split at h
    · obtain ⟨a, b, c, v, d, e⟩ := h
      exact ⟨a, b, c, v, d, e.1, List.Sublist.refl _⟩
    · obtain ⟨a, b, c, o, d, e⟩ := h
      exact ⟨a, b, c, o, d, e.1, List.Sublist.refl _⟩
    · obtain ⟨a, b, c, o, d, e⟩ := h
      exact ⟨a, b, c, o, d, e.1, List.Sublist.refl _⟩
    all_goals (first | exact h.elim | (simp_all [pureAt2]; done))
  case extract x i =>
    simp only [astep] at h ⊢
    split at h
    · obtain ⟨v, a, b⟩ := h
      exact ⟨v, a, b.1, List.Sublist.refl _⟩
    · exact h.elim
/-- the same, or the mutable slice as the slice that it is -/
def AVleM (b off n cap sz : Nat) (es : List AV) : List AV → List AV → Prop
  | [], [] => True
  | x :: xs, y :: ys => (x = y ∨ (x = .msl b off n cap ∧ y = .sl sz es .no)) ∧ AVleM b off n cap sz es xs ys
  | _, _ => False
theorem AVleM.rel {b off n cap sz : Nat} {es : List AV} {K : Kn} (hK : ∀ v, Rel K (.msl b off n cap) v → Rel K (.sl sz es .no) v) : ∀ {xs ys : List AV} {vs : List Value}, AVleM b off n cap sz es xs ys → RelL K xs vs → RelL K ys vs
  | [], [], vs, _, h => h
  | x :: xs, y :: ys, vs, h, hr => by
    obtain ⟨v, r, rfl, h1, h2⟩ := hr.cons_inv
    refine RelL.cons ?_ (AVleM.rel hK h.2 h2)
    rcases h.1 with rfl | ⟨rfl, rfl⟩
    · exact h1
    · exact hK _ h1
  | [], _ :: _, _, h, _ => h.elim
  | _ :: _, [], _, h, _ => h.elim
/-- one element of a flat list is set -/
theorem flat_append (a b : List AV) : Aw.flat (a ++ b) = Aw.flat a ++ Aw.flat b := by simp [Aw.flat]
end Go.Proofs.YtgkjbpnmeeibbaaGreatDoor
