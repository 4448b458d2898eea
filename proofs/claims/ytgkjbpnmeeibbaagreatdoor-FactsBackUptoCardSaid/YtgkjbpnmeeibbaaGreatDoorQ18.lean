/-
  Statements that are tied cards: what the package's variables hold when the call begins. Own work.
-/
import Derived.Test.YtgkjbpnmeeibbaaGreatDoorFrame
import Derived.Test.YtgkjbpnmeeibbaaGreatDoorQ2
import Derived.Test.YtgkjbpnmeeibbaaGreatDoorCards
import Derived.Test.YtgkjbpnmeeibbaaGreatDoorTie
import Derived.Deep.DeepHandedRow
import Derived.Lib.LaidTab
import Derived.Lay
import Derived.Stop.LaidErr
import Derived.Stop.LaidTwo
import Derived.Test.YtgkjbpnmeeibbaaGreatDoorErrIs
import Derived.LaidHandle
import Derived.Test.YtgkjbpnmeeibbaaGreatDoorQ17
set_option linter.all false
namespace Go.Proofs.YtgkjbpnmeeibbaaGreatDoor
open Go.Aw Go.ChangeShapes Go.WideShapes Go.ChangeAt Go.RowKit

/-- a table's cells -/
theorem tab_rel {K : Kn} : ∀ (zs : List Int), (∀ z ∈ zs, 0 ≤ z ∧ z ≤ 18446744073709551615) → RelL K (zs.map (AV.int .u64)) (zs.map (Value.int .u64))
  | [], _ => RelL.nil
  | z :: zs, h => RelL.cons (.int .u64 z (by
      have := h z (by simp)
      simp only [IntKind.has, IntKind.min, IntKind.max, IntKind.bits, IntKind.signed]; simp; omega)) (tab_rel zs fun x hx => h x (by simp [hx]))
theorem var_heap {P : Program} {W : World} {n : String} {cs : Array Value} {g : Nat} (hg : P.globalNamed n = some g) (h : W.var? P n = some cs) : ∃ t fr, W.heap[g]? = some (.cells cs t fr) := by
  unfold World.var? at h
  rw [hg] at h
  simp only [Option.bind_some] at h
  split at h
  · rename_i hh
    cases h
    exact ⟨_, _, hh⟩
  · cases h
theorem start_tab {W : World} {S : List En} (h : RelS W (Kof W) S W) {n : String} {g : Nat} {zs : List Int} (hg : (Tryz.prog).globalNamed n = some g) (ht : Lib.TabIs Tryz.prog W n .u64 zs) (hz : ∀ z ∈ zs, 0 ≤ z ∧ z ≤ 18446744073709551615) :
    RelS W (Kof W) (.glob g (zs.map (AV.int .u64)) :: S) W := by
  obtain ⟨t, fr, hh⟩ := var_heap hg ht
  exact relS_glob h hh (by intro c hc; obtain ⟨z, _, rfl⟩ := List.mem_map.1 hc; rfl) (by simpa using tab_rel zs hz)
theorem start_err {W : World} {S : List En} (h : RelS W (Kof W) S W) {n : String} {g : Nat} {tp : TypeId} {a : Addr} {s : ByteArray} (hg : (Tryz.prog).globalNamed n = some g) (hv : W.var? Tryz.prog n = some #[.iface tp (.pointer (some a))]) (hc : W.cell? a = some (.string s)) :
    RelS W (Kof W) (.glob g [.ifc tp (.ptr a.block a.off)] :: S) W := by
  obtain ⟨t, fr, hh⟩ := var_heap hg hv
  have hs := (cell_kof hc).1
  obtain ⟨b, o, sp⟩ := a
  simp only at hs
  subst hs
  exact relS_glob h hh (by simp [AV.one]) (RelL.cons (.ifc tp (.ptr b o)) RelL.nil)
theorem star : "*" ++ "errors.errorString" = "*errors.errorString" := by decide
theorem errRow (u : TypeId) (h : (Tryz.prog).typeName? 3 u = some "*errors.errorString") : u = 231 :=
  typeName_ptr_named (nm := "errors.errorString") (by rw [star]; kernel_rfl) (by kernel_rfl) (by decide) u (by rw [star]; exact h)
theorem pow_ok : ∀ z ∈ Lib.pow10Tab, 0 ≤ z ∧ z ≤ 18446744073709551615 := by decide
theorem pow_tab {W : World} {r : List (String × DataW Unit)} {n : String} (hg : (Tryz.prog).globalNamed n = some 3) (h : laidMet Tryz.prog ((n, Rows.laid_internal_strconv_uint64pow10) :: r) W) : Lib.TabIs Tryz.prog W n .u64 Lib.pow10Tab := by
  have e : (Rows.laid_internal_strconv_uint64pow10 : DataW Unit) = Lib.tabData .u64 Lib.pow10Tab := by kernel_rfl
  rw [e] at h
  exact Lib.tabIs_of_head hg (t := 200) (by kernel_rfl) Tryz.underlying200 Tryz.underlying128 (by kernel_rfl) (by kernel_rfl) h
end Go.Proofs.YtgkjbpnmeeibbaaGreatDoor
/-
  Statements that are tied cards, where a type's handle is laid among the variables. Own work (after the kit's worked text ToyasProofs).
-/
namespace Go.Proofs.YtgkjbpnmeeibbaaGreatDoor
open Go.Aw Go.ChangeShapes Go.WideShapes Go.ChangeAt Go.RowKit

/-- a world whose one handle is laid -/
noncomputable def hand (os : Os) : World :=
  let w0 := World.holding Tryz.prog os ⟨#[], #[], []⟩
  { w0 with heap := w0.heap.modify 0 fun
      | .cells _ t frozen => .cells #[.iface 146 (.agg #[.pointer (some ⟨11, 63, none⟩)])] t frozen
      | o => o }
noncomputable def laidH (os : Os) (laid : List (String × DataW Unit)) : World := (hand os).layVars Tryz.prog (laid.filter fun x => x.2.handleName?.isNone)
theorem laidH_os (os : Os) (laid : List (String × DataW Unit)) : (laidH os laid).os = os := World.layVars_os _ _ _
theorem laidMet_from {w0 : World} {laid : List (String × DataW Unit)} (hf : w0.layFits Tryz.prog laid [] = true) (hi : w0.layIfaces Tryz.prog laid (w0.layVars Tryz.prog laid) = true) : laidMet Tryz.prog laid (w0.layVars Tryz.prog laid) := by
  have e1 : (laid.filter fun x => (laid.map (·.1)).contains x.1) = laid := List.filter_eq_self.2 fun x hx => List.contains_iff_mem.2 (List.mem_map.2 ⟨x, hx, rfl⟩)
  have e2 : (laid.filter fun x => !(laid.map (·.1)).contains x.1) = [] := List.filter_eq_nil_iff.2 fun x hx => by rw [List.contains_iff_mem.2 (List.mem_map.2 ⟨x, hx, rfl⟩)]; simp
  exact laidMet_layVars (w0 := w0) (laid.map (·.1)) [] (by rw [e1]) (by rw [e1]; exact hf) (by rw [e1]; exact hi) (by rw [e2]; exact LaidIn.none)
theorem laidMetH_laidH {os : Os} {laid : List (String × DataW Unit)} (args : Array Value)
    (hf : (hand os).layFits Tryz.prog (laid.filter fun x => x.2.handleName?.isNone) [] = true)
    (hi : (hand os).layIfaces Tryz.prog (laid.filter fun x => x.2.handleName?.isNone) (laidH os laid) = true)
    (hh : (laid.filter fun x => x.2.handleName?.isSome).all (handleAtB Tryz.prog ((laidH os laid).forCall (fun _ _ => 0) ⟨#[], args, []⟩).memory) = true) :
    laidMetH Tryz.prog laid ((laidH os laid).forCall (fun _ _ => 0) ⟨#[], args, []⟩).memory :=
  laidMetH_of_parts ((laidMet_from hf hi).of_heap (by simp [World.memory, World.forCall, Input.heap]; rfl)) hh

theorem h_et : (Tryz.prog).globalNamed "errors.errorType" = some 0 := by kernel_rfl
theorem h_rt : ((Tryz.prog).cutTypes.find? (·.1 == "internal/reflectlite.rtype")).map (·.2) = some 146 := by kernel_rfl
theorem h_oneRow : ((List.range 261).filter fun t => (Tryz.prog).rowNamed t [101, 114, 114, 111, 114]) = [63] := by kernel_rfl
theorem h_size : (Tryz.prog).types.size = 261 := by kernel_rfl
theorem h_handle : typeHandle Tryz.prog 63 = .pointer (some ⟨11, 63, none⟩) := by kernel_rfl
/-- what the condition gives a walk: the variable's one cell -/
theorem start_handle {W : World} {S : List En} (hS : RelS W (Kof W) S W) (h : handlesMet Tryz.prog [("errors.errorType", Rows.laid_errors_errorType)] W) :
    RelS W (Kof W) (.glob 0 [.ifc 146 (.agg [.ptr 11 63])] :: S) W := by
  obtain ⟨name, u, ty, e1, e2, e3, e4, e5⟩ := h _ (List.mem_singleton.2 rfl)
  have en : name = [101, 114, 114, 111, 114] := (Option.some.inj e1).symm
  subst en
  obtain rfl := Option.some.inj (h_rt.symm.trans e2)
  have hm : ty ∈ (List.range 261).filter fun t => (Tryz.prog).rowNamed t [101, 114, 114, 111, 114] := List.mem_filter.2 ⟨List.mem_range.2 (by rw [← h_size]; exact e3), e4⟩
  rw [h_oneRow] at hm
  obtain rfl := List.mem_singleton.1 hm
  rw [h_handle] at e5
  obtain ⟨t, fr, hh⟩ := var_heap h_et e5
  exact relS_glob hS hh (by simp [AV.one]) (RelL.cons (.ifc _ (.agg (vs := [.pointer (some ⟨11, 63, none⟩)]) (by simp [AV.one]) rfl (RelL.cons (.ptr _ _) RelL.nil).2)) RelL.nil)
end Go.Proofs.YtgkjbpnmeeibbaaGreatDoor
/-
  What the laws' calls begin with; FactsReads: the walk. Own work.
-/
namespace Go.Proofs.YtgkjbpnmeeibbaaGreatDoor
open Go.Aw Go.ChangeShapes Go.WideShapes Go.ChangeAt Go.RowKit Tree
set_option maxHeartbeats 4000000
set_option maxRecDepth 4000
open Rel (V encV encR foldPut Cl riseB)

theorem startF {W : World} (h0 : laidMetH Tryz.prog Rows.factsReadsRow.laid W) : ∃ S0, FactG S0 ∧ RelS W (Kof W) S0 W := by
  have hp : laidMet Tryz.prog [("math/bits.deBruijn32tab", Rows.laid_math_bits_deBruijn32tab), ("math/bits.deBruijn64tab", Rows.laid_math_bits_deBruijn64tab), ("internal/strconv.uint64pow10", Rows.laid_internal_strconv_uint64pow10), ("unicode/utf8.acceptRanges", Rows.laid_unicode_utf8_acceptRanges), ("strconv.ErrRange", Rows.laid_strconv_ErrRange), ("strconv.ErrSyntax", Rows.laid_strconv_ErrSyntax), ("sorites/text.errForm", Rows.laid_sorites_text_errForm), ("sorites/dtree.errTree", Rows.laid_sorites_dtree_errTree), ("unicode/utf8.first", Rows.laid_unicode_utf8_first)] W ∧ handlesMet Tryz.prog [("errors.errorType", Rows.laid_errors_errorType)] W := h0
  obtain ⟨h, hH⟩ := hp
  have h3 := laidMet.tail (laidMet.tail h)
  have ht := pow_tab (by kernel_rfl) h3
  have h4 := laidMet.tail (laidMet.tail h3)
  have h5 := laidMet.tail h4
  have h6 := laidMet.tail h5
  have h7 := laidMet.tail h6
  obtain ⟨a1, s1, v1, c1, _⟩ := laid_sentinel (g := 10) (ti := 63) h4 (by kernel_rfl) (by kernel_rfl) Tryz.underlying63 errRow Tryz.underlying231 Tryz.underlying233 rfl rfl Tryz.underlying9 (by kernel_rfl) (by kernel_rfl)
  obtain ⟨a2, s2, v2, c2, _⟩ := laid_sentinel (g := 9) (ti := 63) h5 (by kernel_rfl) (by kernel_rfl) Tryz.underlying63 errRow Tryz.underlying231 Tryz.underlying233 rfl rfl Tryz.underlying9 (by kernel_rfl) (by kernel_rfl)
  obtain ⟨a3, s3, v3, c3, _⟩ := laid_sentinel (g := 2) (ti := 63) h6 (by kernel_rfl) (by kernel_rfl) Tryz.underlying63 errRow Tryz.underlying231 Tryz.underlying233 rfl rfl Tryz.underlying9 (by kernel_rfl) (by kernel_rfl)
  obtain ⟨a4, s4, v4, c4, _⟩ := laid_sentinel (g := 1) (ti := 63) h7 (by kernel_rfl) (by kernel_rfl) Tryz.underlying63 errRow Tryz.underlying231 Tryz.underlying233 rfl rfl Tryz.underlying9 (by kernel_rfl) (by kernel_rfl)
  have r0 := start_handle (relS_start W) hH
  have q1 := start_err r0 (g := 1) (by kernel_rfl) v4 c4
  have r1 := start_err q1 (g := 2) (by kernel_rfl) v3 c3
  have r2 := start_err r1 (g := 10) (by kernel_rfl) v1 c1
  have r3 := start_err r2 (g := 9) (by kernel_rfl) v2 c2
  have r4 := start_tab r3 (g := 3) (by kernel_rfl) ht pow_ok
  exact ⟨_, ⟨⟨.head _, ⟨_, _, .tail _ (.head _)⟩, _, _, .tail _ (.tail _ (.head _))⟩, ⟨_, _, .tail _ (.tail _ (.tail _ (.head _)))⟩, .tail _ (.tail _ (.tail _ (.tail _ (.tail _ (.head _))))), ⟨_, _, .tail _ (.tail _ (.tail _ (.tail _ (.head _))))⟩⟩, r4⟩
theorem resX_len (p : Pr) (s : List UInt8) : (resX p s).1.length ≤ 16777216 := by
  by_cases hr : rightP p = true
  · rw [resX_fault hr]
    cases faultX p s with
    | some y => simp
    | none =>
      have := (right_D hr).1
      show (sortX (outX p (linesL s))).length ≤ _
      rw [sortX, List.length_map, outX_len]; omega
  · rw [resX_no (by simpa using hr)]; simp
end Go.Proofs.YtgkjbpnmeeibbaaGreatDoor
