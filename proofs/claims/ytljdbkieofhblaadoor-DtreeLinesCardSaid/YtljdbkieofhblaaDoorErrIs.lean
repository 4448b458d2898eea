/-
  errors.Is at sentinels of errors.New's make. Own work (the walks after the kit's worked SentryIs).
-/
import Derived.Test.YtljdbkieofhblaaDoorNum
import Derived.Test.YtljdbkieofhblaaDoorChecked
import Derived.LaidEql
import Derived.Stop.Asserts
import Derived.RowKitTokens
namespace Go.Proofs.YtljdbkieofhblaaDoor
open Go.RowKit Go.Extern.Stop Go.Stop Go.Extern

theorem isTypeOf (v : Value) (w : World) : (Extern.ReflectliteType.typeOf #[.iface 146 v]).run Tryd.prog w = .ok (.iface 111 (.agg #[.pointer (some ⟨5, 146, none⟩)])) w := by kernel_rfl
/-- the model's entry for (rtype).Comparable -/
noncomputable def cmpE : Array Value → Sem Value := (Extern.find Tryd.f129).getD fun _ => stuck ""
theorem isComparable (w : World) : (cmpE #[.agg #[.pointer (some ⟨5, 146, none⟩)]]).run Tryd.prog w = .ok (.bool true) w := by kernel_rfl
theorem isMethodComparable (v : Value) (w : World) : (Go.method 280 111 v "Comparable").run Tryd.prog w = .ok (129, v) w := by kernel_rfl
theorem isComp : ((Tryd.prog).info? 146).map (·.comparable) = some true := by kernel_rfl
theorem isSize : ((Tryd.prog).info? 169).map (·.size) = some 1 := by kernel_rfl

set_option maxHeartbeats 1000000 in
theorem is_same (a : Addr) (w : World) :
    Calls Tryd.prog 37 #[.iface 146 (.pointer (some a)), .iface 146 (.pointer (some a))] w fun e w' => e = .returned (.bool true) ∧ w' = w := by
  obtain ⟨i, hi, hcmp⟩ := Option.map_eq_some_iff.1 isComp
  obtain ⟨j, hj, hjs⟩ := Option.map_eq_some_iff.1 isSize
  have h8 := @run_callFunc_extern Tryd.prog 62 _ Extern.ReflectliteType.typeOf Tryd.func62 (by kernel_rfl) (by kernel_rfl) (by kernel_rfl) (by kernel_rfl)
  have h32 := @run_callFunc_extern Tryd.prog 129 _ cmpE Tryd.func129 (by kernel_rfl) (by kernel_rfl) (by kernel_rfl) (by kernel_rfl)
  have tT := isTypeOf
  have cT := isComparable
  have mR := isMethodComparable
  have heq := run_eql_iface_ptr_same (P := Tryd.prog) w a Tryd.underlying62 Tryd.underlying146 hi hcmp hj
  go_enter Tryd.func37, Tryd.ntmps37
  go_wp2
  refine wp_loop_rounds 1 ?_
  rw [rounds_succ]
  go_wp2
  go_ret
  exact ⟨rfl, rfl⟩

set_option maxHeartbeats 1000000 in
theorem is_nil (b : Addr) (w : World) :
    Calls Tryd.prog 37 #[.nilIface, .iface 146 (.pointer (some b))] w fun e w' => e = .returned (.bool false) ∧ w' = w := by
  have hn := run_eql_iface_nil_left (P := Tryd.prog) w 146 (.pointer (some b)) Tryd.underlying62
  go_enter Tryd.func37, Tryd.ntmps37
  go_wp2
  go_ret
  exact ⟨rfl, rfl⟩
end Go.Proofs.YtljdbkieofhblaaDoor

