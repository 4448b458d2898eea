/-
 Statements that are tied cards: what the package's variables hold when the call begins. Own work.
-/
import Derived.Test.YtfeknkaioofljaaGreatDoorQ9
import Derived.Test.YtfeknkaioofljaaGreatDoorQ2
import Derived.Test.YtfeknkaioofljaaGreatDoorCards
import Derived.Test.YtfeknkaioofljaaGreatDoorTie
import Derived.Deep.DeepHandedRow
import Derived.Lib.LaidTab
import Derived.Lay
import Derived.Stop.LaidErr
import Derived.Stop.LaidTwo
import Derived.Test.YtfeknkaioofljaaGreatDoorQ3
import Derived.LaidHandle
set_option linter.all false
namespace Go.Proofs.YtfeknkaioofljaaGreatDoor
open Go.Aw Go.ChangeShapes Go.WideShapes Go.ChangeAt Go.RowKit
theorem tab_rel {K : Kn} : ∀ (zs : List Int),(∀ z ∈ zs,0 ≤ z ∧ z ≤ 18446744073709551615) → RelL K (zs.map (AV.int .u64)) (zs.map (Value.int .u64))
 | [],_ => RelL.nil
 | z :: zs,h => RelL.cons (.int .u64 z (by
   have := h z (by simp)
   simp only [IntKind.has,IntKind.min,IntKind.max,IntKind.bits,IntKind.signed]; simp; omega)) (tab_rel zs fun x hx => h x (by simp [hx]))
theorem var_heap {P : Program} {W : World} {n : String} {cs : Array Value} {g : Nat} (hg : P.globalNamed n = some g) (h : W.var? P n = some cs) : ∃ t fr,W.heap[g]? = some (.cells cs t fr) := by
 unfold World.var? at h
 rw [hg] at h
 simp only [Option.bind_some] at h
 split at h
 ·rename_i hh
  cases h
  exact ⟨_,_,hh⟩
 ·cases h
theorem start_tab {W : World} {S : List En} (h : RelS W (Kof W) S W) {n : String} {g : Nat} {zs : List Int} (hg : (Tryz.prog).globalNamed n = some g) (ht : Lib.TabIs Tryz.prog W n .u64 zs) (hz : ∀ z ∈ zs,0 ≤ z ∧ z ≤ 18446744073709551615) :
  RelS W (Kof W) (.glob g (zs.map (AV.int .u64)) :: S) W := by
 obtain ⟨t,fr,hh⟩ := var_heap hg ht
 exact relS_glob h hh (by intro c hc; obtain ⟨z,_,rfl⟩ := List.mem_map.1 hc; rfl) (by simpa using tab_rel zs hz)
theorem start_err {W : World} {S : List En} (h : RelS W (Kof W) S W) {n : String} {g : Nat} {tp : TypeId} {a : Addr} {s : ByteArray} (hg : (Tryz.prog).globalNamed n = some g) (hv : W.var? Tryz.prog n = some #[.iface tp (.pointer (some a))]) (hc : W.cell? a = some (.string s)) :
  RelS W (Kof W) (.glob g [.ifc tp (.ptr a.block a.off)] :: S) W := by
 obtain ⟨t,fr,hh⟩ := var_heap hg hv
 have hs := (cell_kof hc).1
 obtain ⟨b,o,sp⟩ := a
 simp only at hs
 subst hs
 exact relS_glob h hh (by simp [AV.one]) (RelL.cons (.ifc tp (.ptr b o)) RelL.nil)
theorem star : "*" ++ "errors.errorString" = "*errors.errorString" := by decide
theorem errRow (u : TypeId) (h : (Tryz.prog).typeName? 3 u = some "*errors.errorString") : u = 263 :=
 typeName_ptr_named (nm := "errors.errorString") (by rw [star]; kernel_rfl) (by kernel_rfl) (by decide) u (by rw [star]; exact h)
theorem pow_ok : ∀ z ∈ Lib.pow10Tab,0 ≤ z ∧ z ≤ 18446744073709551615 := by decide
theorem pow_tab {W : World} {r : List (String × DataW Unit)} {n : String} (hg : (Tryz.prog).globalNamed n = some 6) (h : laidMet Tryz.prog ((n,Rows.laid_internal_strconv_uint64pow10) :: r) W) : Lib.TabIs Tryz.prog W n .u64 Lib.pow10Tab := by
 have e : (Rows.laid_internal_strconv_uint64pow10 : DataW Unit) = Lib.tabData .u64 Lib.pow10Tab := by kernel_rfl
 rw [e] at h
 exact Lib.tabIs_of_head hg (t := 260) (by kernel_rfl) Tryz.underlying260 Tryz.underlying239 (by kernel_rfl) (by kernel_rfl) h
noncomputable def hand (os : Os) : World :=
 let w0 := World.holding Tryz.prog os ⟨#[], #[], []⟩
 { w0 with heap := w0.heap.modify 0 fun
   | .cells _ t frozen => .cells #[.iface 162 (.agg #[.pointer (some ⟨9,55,none⟩)])] t frozen
   | o => o }
noncomputable def laidH (os : Os) (laid : List (String × DataW Unit)) : World := (hand os).layVars Tryz.prog (laid.filter fun x => x.2.handleName?.isNone)
theorem laidH_os (os : Os) (laid : List (String × DataW Unit)) : (laidH os laid).os = os := World.layVars_os _ _ _
theorem laidMet_from {w0 : World} {laid : List (String × DataW Unit)} (hf : w0.layFits Tryz.prog laid [] = true) (hi : w0.layIfaces Tryz.prog laid (w0.layVars Tryz.prog laid) = true) : laidMet Tryz.prog laid (w0.layVars Tryz.prog laid) := by
 have e1 : (laid.filter fun x => (laid.map (·.1)).contains x.1) = laid := List.filter_eq_self.2 fun x hx => List.contains_iff_mem.2 (List.mem_map.2 ⟨x,hx,rfl⟩)
 have e2 : (laid.filter fun x => !(laid.map (·.1)).contains x.1) = [] := List.filter_eq_nil_iff.2 fun x hx => by rw [List.contains_iff_mem.2 (List.mem_map.2 ⟨x,hx,rfl⟩)]; simp
 exact laidMet_layVars (w0 := w0) (laid.map (·.1)) [] (by rw [e1]) (by rw [e1]; exact hf) (by rw [e1]; exact hi) (by rw [e2]; exact LaidIn.none)
theorem laidMetH_laidH {os : Os} {laid : List (String × DataW Unit)} (args : Array Value)
  (hf : (hand os).layFits Tryz.prog (laid.filter fun x => x.2.handleName?.isNone) [] = true)
  (hi : (hand os).layIfaces Tryz.prog (laid.filter fun x => x.2.handleName?.isNone) (laidH os laid) = true)
  (hh : (laid.filter fun x => x.2.handleName?.isSome).all (handleAtB Tryz.prog ((laidH os laid).forCall (fun _ _ => 0) ⟨#[],args, []⟩).memory) = true) :
  laidMetH Tryz.prog laid ((laidH os laid).forCall (fun _ _ => 0) ⟨#[],args, []⟩).memory :=
 laidMetH_of_parts ((laidMet_from hf hi).of_heap (by simp [World.memory,World.forCall,Input.heap]; rfl)) hh
theorem h_et : (Tryz.prog).globalNamed "errors.errorType" = some 0 := by kernel_rfl
theorem h_rt : ((Tryz.prog).cutTypes.find? (·.1 == "internal/reflectlite.rtype")).map (·.2) = some 162 := by kernel_rfl
theorem h_oneRow : ((List.range 295).filter fun t => (Tryz.prog).rowNamed t [101,114,114,111,114]) = [55] := by kernel_rfl
theorem h_size : (Tryz.prog).types.size = 295 := by kernel_rfl
theorem h_handle : typeHandle Tryz.prog 55 = .pointer (some ⟨9,55,none⟩) := by kernel_rfl
theorem start_handle {W : World} {S : List En} (hS : RelS W (Kof W) S W) (h : handlesMet Tryz.prog [("errors.errorType", Rows.laid_errors_errorType)] W) :
  RelS W (Kof W) (.glob 0 [.ifc 162 (.agg [.ptr 9 55])] :: S) W := by
 obtain ⟨name,u,ty,e1,e2,e3,e4,e5⟩ := h _ (List.mem_singleton.2 rfl)
 have en : name = [101,114,114,111,114] := (Option.some.inj e1).symm
 subst en
 obtain rfl := Option.some.inj (h_rt.symm.trans e2)
 have hm : ty ∈ (List.range 295).filter fun t => (Tryz.prog).rowNamed t [101,114,114,111,114] := List.mem_filter.2 ⟨List.mem_range.2 (by rw [← h_size]; exact e3),e4⟩
 rw [h_oneRow] at hm
 obtain rfl := List.mem_singleton.1 hm
 rw [h_handle] at e5
 obtain ⟨t,fr,hh⟩ := var_heap h_et e5
 exact relS_glob hS hh (by simp [AV.one]) (RelL.cons (.ifc _ (.agg (vs := [.pointer (some ⟨9,55,none⟩)]) (by simp [AV.one]) rfl (RelL.cons (.ptr _ _) RelL.nil).2)) RelL.nil)
end Go.Proofs.YtfeknkaioofljaaGreatDoor
