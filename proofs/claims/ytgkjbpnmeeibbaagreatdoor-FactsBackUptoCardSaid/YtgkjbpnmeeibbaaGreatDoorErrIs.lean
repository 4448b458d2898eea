/-
  errors.Is at sentinels of errors.New's make. Own work (the walks after the kit's worked SentryIs).
-/
import Derived.Test.YtgkjbpnmeeibbaaGreatDoorQ2
import Derived.Test.YtgkjbpnmeeibbaaGreatDoorChecked
import Derived.LaidEql
import Derived.Stop.Asserts
import Derived.RowKitTokens
set_option linter.all false
namespace Go.Proofs.YtgkjbpnmeeibbaaGreatDoor
open Go.RowKit Go.Extern.Stop Go.Stop Go.Extern

theorem isTypeOf (v : Value) (w : World) : (Extern.ReflectliteType.typeOf #[.iface 231 v]).run Tryz.prog w = .ok (.iface 146 (.agg #[.pointer (some ⟨11, 231, none⟩)])) w := by kernel_rfl
/-- the model's entry for (rtype).Comparable -/
noncomputable def cmpE : Array Value → Sem Value := (Extern.find Tryz.f204).getD fun _ => stuck ""
theorem isComparable (w : World) : (cmpE #[.agg #[.pointer (some ⟨11, 231, none⟩)]]).run Tryz.prog w = .ok (.bool true) w := by kernel_rfl
theorem isMethodComparable (v : Value) (w : World) : (Go.method 361 146 v "Comparable").run Tryz.prog w = .ok (204, v) w := by kernel_rfl
theorem isComp : ((Tryz.prog).info? 231).map (·.comparable) = some true := by kernel_rfl
theorem isSize : ((Tryz.prog).info? 233).map (·.size) = some 1 := by kernel_rfl

set_option maxHeartbeats 1000000 in
theorem is_same (a : Addr) (w : World) :
    Calls Tryz.prog 82 #[.iface 231 (.pointer (some a)), .iface 231 (.pointer (some a))] w fun e w' => e = .returned (.bool true) ∧ w' = w := by
  obtain ⟨i, hi, hcmp⟩ := Option.map_eq_some_iff.1 isComp
  obtain ⟨j, hj, hjs⟩ := Option.map_eq_some_iff.1 isSize
  have h8 := @run_callFunc_extern Tryz.prog 88 _ Extern.ReflectliteType.typeOf Tryz.func88 (by kernel_rfl) (by kernel_rfl) (by kernel_rfl) (by kernel_rfl)
  have h32 := @run_callFunc_extern Tryz.prog 204 _ cmpE Tryz.func204 (by kernel_rfl) (by kernel_rfl) (by kernel_rfl) (by kernel_rfl)
  have tT := isTypeOf
  have cT := isComparable
  have mR := isMethodComparable
  have heq := run_eql_iface_ptr_same (P := Tryz.prog) w a Tryz.underlying63 Tryz.underlying231 hi hcmp hj
  go_enter Tryz.func82, Tryz.ntmps82
  go_wp2
  refine wp_loop_rounds 1 ?_
  rw [rounds_succ]
  go_wp2
  go_ret
  exact ⟨rfl, rfl⟩

set_option maxHeartbeats 1000000 in
theorem is_nil (b : Addr) (w : World) :
    Calls Tryz.prog 82 #[.nilIface, .iface 231 (.pointer (some b))] w fun e w' => e = .returned (.bool false) ∧ w' = w := by
  have hn := run_eql_iface_nil_left (P := Tryz.prog) w 231 (.pointer (some b)) Tryz.underlying63
  go_enter Tryz.func82, Tryz.ntmps82
  go_wp2
  go_ret
  exact ⟨rfl, rfl⟩
end Go.Proofs.YtgkjbpnmeeibbaaGreatDoor
