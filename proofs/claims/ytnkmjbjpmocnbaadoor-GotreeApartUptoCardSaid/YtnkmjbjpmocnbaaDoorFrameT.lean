/-
  Statements that are tied cards: what the package's variables hold when the call begins. Own work.
-/
import Derived.Test.YtnkmjbjpmocnbaaDoorFrame
import Derived.Test.YtnkmjbjpmocnbaaDoorP2
import Derived.Test.YtnkmjbjpmocnbaaDoorCards
import Derived.Test.YtnkmjbjpmocnbaaDoorTie
import Derived.Deep.DeepHandedRow
import Derived.Lib.LaidTab
import Derived.Lay
import Derived.Stop.LaidErr
import Derived.Stop.LaidTwo
set_option linter.all false
namespace Go.Proofs.YtnkmjbjpmocnbaaDoor
open Go.Aw Go.ChangeShapes Go.WideShapes Go.ChangeAt Go.RowKit

/-- a table's cells -/
theorem tab_rel {K : Kn} : ∀ (zs : List Int), (∀ z ∈ zs, 0 ≤ z ∧ z ≤ 18446744073709551615) → RelL K (zs.map (AV.int .u64)) (zs.map (Value.int .u64))
  | [], _ => RelL.nil
  | z :: zs, h => RelL.cons (.int .u64 z (by
      have := h z (by simp)
      simp only [IntKind.has, IntKind.min, IntKind.max, IntKind.bits, IntKind.signed]; simp; omega)) (tab_rel zs fun x hx => h x (by simp [hx]))
theorem var_heap {P : Program} {W : World} {n : String} {cs : Array Value} {g : Nat} (hg : P.globalNamed n = some g) (h : W.var? P n = some cs) : ∃ t fr, W.heap[g]? = some (.cells cs t fr) := by
  unfold World.var? at h
  rw [hg] at h
  simp only [Option.bind_some] at h
  split at h
  · rename_i hh
    cases h
    exact ⟨_, _, hh⟩
  · cases h
theorem start_tab {W : World} {S : List En} (h : RelS W (Kof W) S W) {n : String} {g : Nat} {zs : List Int} (hg : (Tryd.prog).globalNamed n = some g) (ht : Lib.TabIs Tryd.prog W n .u64 zs) (hz : ∀ z ∈ zs, 0 ≤ z ∧ z ≤ 18446744073709551615) :
    RelS W (Kof W) (.glob g (zs.map (AV.int .u64)) :: S) W := by
  obtain ⟨t, fr, hh⟩ := var_heap hg ht
  exact relS_glob h hh (by intro c hc; obtain ⟨z, _, rfl⟩ := List.mem_map.1 hc; rfl) (by simpa using tab_rel zs hz)
theorem start_err {W : World} {S : List En} (h : RelS W (Kof W) S W) {n : String} {g : Nat} {tp : TypeId} {a : Addr} {s : ByteArray} (hg : (Tryd.prog).globalNamed n = some g) (hv : W.var? Tryd.prog n = some #[.iface tp (.pointer (some a))]) (hc : W.cell? a = some (.string s)) :
    RelS W (Kof W) (.glob g [.ifc tp (.ptr a.block a.off)] :: S) W := by
  obtain ⟨t, fr, hh⟩ := var_heap hg hv
  have hs := (cell_kof hc).1
  obtain ⟨b, o, sp⟩ := a
  simp only at hs
  subst hs
  exact relS_glob h hh (by simp [AV.one]) (RelL.cons (.ifc tp (.ptr b o)) RelL.nil)
theorem pow_ok : ∀ z ∈ Lib.pow10Tab, 0 ≤ z ∧ z ≤ 18446744073709551615 := by decide
theorem pow_tab {W : World} {r : List (String × DataW Unit)} {n : String} (hg : (Tryd.prog).globalNamed n = some 5) (h : laidMet Tryd.prog ((n, Rows.laid_internal_strconv_uint64pow10) :: r) W) : Lib.TabIs Tryd.prog W n .u64 Lib.pow10Tab := by
  have e : (Rows.laid_internal_strconv_uint64pow10 : DataW Unit) = Lib.tabData .u64 Lib.pow10Tab := by kernel_rfl
  rw [e] at h
  exact Lib.tabIs_of_head hg (t := 167) (by kernel_rfl) Tryd.underlying167 Tryd.underlying122 (by kernel_rfl) (by kernel_rfl) h
end Go.Proofs.YtnkmjbjpmocnbaaDoor

