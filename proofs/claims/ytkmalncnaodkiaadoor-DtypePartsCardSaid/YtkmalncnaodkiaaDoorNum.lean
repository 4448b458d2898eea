/-
  Numbers' texts: strconv.FormatInt and strconv.ParseInt, by the library's contracts. Own work.
-/
import Derived.Test.YtkmalncnaodkiaaDoorBld
import Derived.WalkSmall
set_option linter.all false
namespace Go.Proofs.YtkmalncnaodkiaaDoor
open Go.Aw Go.RowKit

/-- a call that gives one value, and touches nothing old -/
theorem ACall_pure {P : Program} {f : FuncId} {args : List AV} {S : List En} {av : AV}
    (h : ∀ (w0 : World) (K : Kn) (w : World) (vs : List Value), RelL K args vs → RelS w0 K S w → Calls P f vs.toArray w fun e w' => ∃ v, e = .returned v ∧ Rel K av v ∧ Below w.heap.size w w') : ACall P f args S (fun r S' => r = av ∧ S' = S) := by
  unfold ACall
  intro w0 K w vs hv hS
  rw [callsIn_wide]
  refine (h w0 K w vs hv hS).mono ?_
  rintro e w' ⟨v, rfl, h1, h2⟩
  exact ⟨v, K, av, S, rfl, Kle.refl K, h1, hS.grown h2, rfl, rfl⟩
/-- no number's text is made -/
def NumG (_ : List En) : Prop := True
theorem NumG.cons {R : List En} (_ : NumG R) {e : En} : NumG (e :: R) := trivial
theorem NumG.app {A R : List En} (h : NumG R) : NumG (A ++ R) := by
  induction A with
  | nil => exact h
  | cons a A ih => exact ih.cons
theorem glob_ifc {w0 w : World} {K : Kn} {S : List En} (hS : RelS w0 K S w) {g : Nat} {t : TypeId} {v : AV} (h : En.glob g [.ifc t v] ∈ S) : ∃ x, w.cell? ⟨g, 0, none⟩ = some (.iface t x) := by
  obtain ⟨_, _, vs, T, fr, hh, hr, hk⟩ := hS.ents _ h
  obtain ⟨x, hx, hxr⟩ := hr.get (i := 0) rfl
  cases hxr with
  | @ifc _ _ y hy => exact ⟨y, hS.kcell _ _ _ (hk 0 _ hx)⟩
end Go.Proofs.YtkmalncnaodkiaaDoor

