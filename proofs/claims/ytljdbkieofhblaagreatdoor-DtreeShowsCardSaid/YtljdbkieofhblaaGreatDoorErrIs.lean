/-
  errors.Is at sentinels of errors.New's make. Own work (the walks after the kit's worked SentryIs).
-/
import Derived.Test.YtljdbkieofhblaaGreatDoorNum
import Derived.Test.YtljdbkieofhblaaGreatDoorChecked
import Derived.LaidEql
import Derived.Stop.Asserts
import Derived.RowKitTokens
namespace Go.Proofs.YtljdbkieofhblaaGreatDoor
open Go.RowKit Go.Extern.Stop Go.Stop Go.Extern

theorem isTypeOf (v : Value) (w : World) : (Extern.ReflectliteType.typeOf #[.iface 133 v]).run Tryz.prog w = .ok (.iface 102 (.agg #[.pointer (some ⟨5, 133, none⟩)])) w := by kernel_rfl
/-- the model's entry for (rtype).Comparable -/
noncomputable def cmpE : Array Value → Sem Value := (Extern.find Tryz.f108).getD fun _ => stuck ""
theorem isComparable (w : World) : (cmpE #[.agg #[.pointer (some ⟨5, 133, none⟩)]]).run Tryz.prog w = .ok (.bool true) w := by kernel_rfl
theorem isMethodComparable (v : Value) (w : World) : (Go.method 267 102 v "Comparable").run Tryz.prog w = .ok (108, v) w := by kernel_rfl
theorem isComp : ((Tryz.prog).info? 133).map (·.comparable) = some true := by kernel_rfl
theorem isSize : ((Tryz.prog).info? 156).map (·.size) = some 1 := by kernel_rfl

set_option maxHeartbeats 1000000 in
theorem is_same (a : Addr) (w : World) :
    Calls Tryz.prog 36 #[.iface 133 (.pointer (some a)), .iface 133 (.pointer (some a))] w fun e w' => e = .returned (.bool true) ∧ w' = w := by
  obtain ⟨i, hi, hcmp⟩ := Option.map_eq_some_iff.1 isComp
  obtain ⟨j, hj, hjs⟩ := Option.map_eq_some_iff.1 isSize
  have h8 := @run_callFunc_extern Tryz.prog 53 _ Extern.ReflectliteType.typeOf Tryz.func53 (by kernel_rfl) (by kernel_rfl) (by kernel_rfl) (by kernel_rfl)
  have h32 := @run_callFunc_extern Tryz.prog 108 _ cmpE Tryz.func108 (by kernel_rfl) (by kernel_rfl) (by kernel_rfl) (by kernel_rfl)
  have tT := isTypeOf
  have cT := isComparable
  have mR := isMethodComparable
  have heq := run_eql_iface_ptr_same (P := Tryz.prog) w a Tryz.underlying51 Tryz.underlying133 hi hcmp hj
  go_enter Tryz.func36, Tryz.ntmps36
  go_wp2
  refine wp_loop_rounds 1 ?_
  rw [rounds_succ]
  go_wp2
  go_ret
  exact ⟨rfl, rfl⟩

set_option maxHeartbeats 1000000 in
theorem is_nil (b : Addr) (w : World) :
    Calls Tryz.prog 36 #[.nilIface, .iface 133 (.pointer (some b))] w fun e w' => e = .returned (.bool false) ∧ w' = w := by
  have hn := run_eql_iface_nil_left (P := Tryz.prog) w 133 (.pointer (some b)) Tryz.underlying51
  go_enter Tryz.func36, Tryz.ntmps36
  go_wp2
  go_ret
  exact ⟨rfl, rfl⟩
end Go.Proofs.YtljdbkieofhblaaGreatDoor

