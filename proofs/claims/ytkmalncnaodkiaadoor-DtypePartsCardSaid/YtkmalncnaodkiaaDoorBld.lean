/-
  strings.Builder: what its methods do. Own work.
-/
import Derived.Test.YtkmalncnaodkiaaDoorTab
set_option linter.all false
namespace Go.Proofs.YtkmalncnaodkiaaDoor
open Go.Aw

theorem put_tail {A B rest : List AV} {o n : Nat} (hA : A.length = o) (hB : B.length = n) : setCells (A ++ rest) o (B.take n) = A ++ (B ++ rest.drop n) := by
  subst hA; subst hB
  simp only [setCells, List.take_length]
  rw [List.take_left', List.drop_append, List.drop_eq_nil_of_le (by omega)]
  · simp
  · rfl
theorem put_all {A B rest : List AV} {o : Nat} (hA : A.length = o) : setCells (A ++ rest) o B = A ++ (B ++ rest.drop B.length) := by
  have := put_tail (rest := rest) (B := B) hA rfl
  rwa [List.take_length] at this
theorem SLe.swap2 {A : List En} {c d : En} {R : List En} : SLe (A ++ c :: d :: R) (c :: d :: (A ++ R)) := fun _ _ _ h => h.perm (perm3 A [c, d] R).symm
theorem at_mslice {lo hi mx : Int} {off sz cap : Nat} {F : Nat → Nat → Nat → Prop} (l h m o n c : Nat) (hl : lo = (l : Int)) (hh : hi = (h : Int)) (hm : mx = (m : Int)) (h1 : l ≤ h) (h2 : h ≤ m) (h3 : m ≤ cap)
    (ho : off + l * sz = o) (hn : h - l = n) (hc : m - l = c) (hk : F o n c) : 0 ≤ lo ∧ lo ≤ hi ∧ hi ≤ mx ∧ mx ≤ (cap : Int) ∧ ∃ o n c, off + lo.toNat * sz = o ∧ hi.toNat - lo.toNat = n ∧ mx.toNat - lo.toNat = c ∧ F o n c := by
  subst hl; subst hh; subst hm
  exact ⟨by omega, by omega, by omega, by omega, o, n, c, ho, hn, hc, hk⟩

end Go.Proofs.YtkmalncnaodkiaaDoor

