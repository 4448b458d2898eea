/-
  Numbers' texts: strconv.FormatInt and strconv.ParseInt, by the library's contracts. Own work.
-/
import Derived.Test.YtljdbkieofhblaaGreatDoorBld
import Derived.Test.YtljdbkieofhblaaGreatDoorShp
import Derived.Lib.ParseIntBTie
import Derived.Lib.ItoaMem
import Derived.Lib.ItoaLen
import Derived.Lib.AtoiErrMem
import Derived.WalkSmall
namespace Go.Proofs.YtljdbkieofhblaaGreatDoor
open Go.Aw Go.RowKit

theorem below_more {w : World} {k : Nat} {os : Array Obj} : Below w.heap.size w (Sort.grow (w.drewN k) os) := by
  refine (below_drewN (Below.refl _ w) k).trans ⟨rfl, rfl, rfl, by simp, fun i hi => ?_⟩
  exact Array.getElem?_append_left (xs := (w.drewN k).heap) hi
/-- a call that gives one value, and touches nothing old -/
theorem ACall_pure {P : Program} {f : FuncId} {args : List AV} {S : List En} {av : AV}
    (h : ∀ (w0 : World) (K : Kn) (w : World) (vs : List Value), RelL K args vs → RelS w0 K S w → Calls P f vs.toArray w fun e w' => ∃ v, e = .returned v ∧ Rel K av v ∧ Below w.heap.size w w') : ACall P f args S (fun r S' => r = av ∧ S' = S) := by
  unfold ACall
  intro w0 K w vs hv hS
  rw [callsIn_wide]
  refine (h w0 K w vs hv hS).mono ?_
  rintro e w' ⟨v, rfl, h1, h2⟩
  exact ⟨v, K, av, S, rfl, Kle.refl K, h1, hS.grown h2, rfl, rfl⟩
/-- what the number functions read: the table -/
def NumG (R : List En) : Prop := En.glob 2 (Lib.pow10Tab.map (AV.int .u64)) ∈ R ∧ True
theorem NumG.cons {R : List En} (h : NumG R) {e : En} : NumG (e :: R) := ⟨List.mem_cons_of_mem _ h.1, trivial⟩
theorem NumG.app {A R : List En} (h : NumG R) : NumG (A ++ R) := by
  induction A with
  | nil => exact h
  | cons a A ih => exact ih.cons
theorem glob_ifc {w0 w : World} {K : Kn} {S : List En} (hS : RelS w0 K S w) {g : Nat} {t : TypeId} {v : AV} (h : En.glob g [.ifc t v] ∈ S) : ∃ x, w.cell? ⟨g, 0, none⟩ = some (.iface t x) := by
  obtain ⟨_, _, vs, T, fr, hh, hr, hk⟩ := hS.ents _ h
  obtain ⟨x, hx, hxr⟩ := hr.get (i := 0) rfl
  cases hxr with
  | @ifc _ _ y hy => exact ⟨y, hS.kcell _ _ _ (hk 0 _ hx)⟩
theorem tab_vals {K : Kn} : ∀ {zs : List Int} {vs : List Value}, RelL K (zs.map (AV.int .u64)) vs → vs = zs.map (Value.int .u64)
  | [], vs, h => h.nil_inv
  | z :: zs, vs, h => by
    obtain ⟨v, r, rfl, h1, h2⟩ := h.cons_inv
    cases h1
    rw [tab_vals h2]; rfl
theorem glob_tab {w0 w : World} {K : Kn} {S : List En} (hS : RelS w0 K S w) {g : Nat} {zs : List Int} (h : En.glob g (zs.map (AV.int .u64)) ∈ S) {name : String} (hg : (Tryz.prog).globalNamed name = some g) : Lib.TabIs Tryz.prog w name .u64 zs := by
  obtain ⟨_, _, vs, T, fr, hh, hr, hk⟩ := hS.ents _ h
  unfold Lib.TabIs World.var?
  rw [hg]
  simp only [Option.bind_some, hh]
  have := tab_vals hr
  rw [← this]

theorem formatInt_ok (n : Int) (R : List En) (hG : NumG R) : ACall Tryz.prog 69 [.int .i64 n, .int .i64 10] R (fun r S => r = .str (Lib.itoa n) ∧ S = R) := by
  refine ACall_pure fun w0 K w vs hv hS => ?_
  obtain ⟨x, r, rfl, hx, hr⟩ := hv.cons_inv
  obtain ⟨y, r', rfl, hy, hr'⟩ := hr.cons_inv
  obtain rfl := hr'.nil_inv
  cases hx with
  | int _ _ hn =>
    cases hy
    have hn' := i64_of hn
    refine (Any.strconv_FormatInt_10 Tryz.lays173 n hn'.1 hn'.2 w (glob_tab hS hG.1 (by kernel_rfl))).mono ?_
    rintro e w' ⟨rfl, k, os, rfl⟩
    exact ⟨_, rfl, .str _ (le_maxLen.2 (Nat.le_trans (Lib.itoa_length_le n hn'.1 hn'.2) (by decide))), below_more⟩

end Go.Proofs.YtljdbkieofhblaaGreatDoor

