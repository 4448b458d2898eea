/-
  errors.Is at sentinels of errors.New's make. Own work (the walks after the kit's worked SentryIs).
-/
import Derived.Test.YtkmalncnaodkiaaDoorNum
import Derived.Test.YtkmalncnaodkiaaDoorChecked
import Derived.LaidEql
import Derived.Stop.Asserts
import Derived.RowKitTokens
set_option linter.all false
namespace Go.Proofs.YtkmalncnaodkiaaDoor
open Go.RowKit Go.Extern.Stop Go.Stop Go.Extern

theorem isTypeOf (v : Value) (w : World) : (Extern.ReflectliteType.typeOf #[.iface 128 v]).run Tryd.prog w = .ok (.iface 118 (.agg #[.pointer (some ⟨4, 128, none⟩)])) w := by kernel_rfl
/-- the model's entry for (rtype).Comparable -/
noncomputable def cmpE : Array Value → Sem Value := (Extern.find Tryd.f111).getD fun _ => stuck ""
theorem isComparable (w : World) : (cmpE #[.agg #[.pointer (some ⟨4, 128, none⟩)]]).run Tryd.prog w = .ok (.bool true) w := by kernel_rfl
theorem isMethodComparable (v : Value) (w : World) : (Go.method 266 118 v "Comparable").run Tryd.prog w = .ok (111, v) w := by kernel_rfl
theorem isComp : ((Tryd.prog).info? 128).map (·.comparable) = some true := by kernel_rfl
theorem isSize : ((Tryd.prog).info? 154).map (·.size) = some 1 := by kernel_rfl

set_option maxHeartbeats 1000000 in
theorem is_same (a : Addr) (w : World) :
    Calls Tryd.prog 45 #[.iface 128 (.pointer (some a)), .iface 128 (.pointer (some a))] w fun e w' => e = .returned (.bool true) ∧ w' = w := by
  obtain ⟨i, hi, hcmp⟩ := Option.map_eq_some_iff.1 isComp
  obtain ⟨j, hj, hjs⟩ := Option.map_eq_some_iff.1 isSize
  have h8 := @run_callFunc_extern Tryd.prog 73 _ Extern.ReflectliteType.typeOf Tryd.func73 (by kernel_rfl) (by kernel_rfl) (by kernel_rfl) (by kernel_rfl)
  have h32 := @run_callFunc_extern Tryd.prog 111 _ cmpE Tryd.func111 (by kernel_rfl) (by kernel_rfl) (by kernel_rfl) (by kernel_rfl)
  have tT := isTypeOf
  have cT := isComparable
  have mR := isMethodComparable
  have heq := run_eql_iface_ptr_same (P := Tryd.prog) w a Tryd.underlying76 Tryd.underlying128 hi hcmp hj
  go_enter Tryd.func45, Tryd.ntmps45
  go_wp2
  refine wp_loop_rounds 1 ?_
  rw [rounds_succ]
  go_wp2
  go_ret
  exact ⟨rfl, rfl⟩

set_option maxHeartbeats 1000000 in
theorem is_nil (b : Addr) (w : World) :
    Calls Tryd.prog 45 #[.nilIface, .iface 128 (.pointer (some b))] w fun e w' => e = .returned (.bool false) ∧ w' = w := by
  have hn := run_eql_iface_nil_left (P := Tryd.prog) w 128 (.pointer (some b)) Tryd.underlying76
  go_enter Tryd.func45, Tryd.ntmps45
  go_wp2
  go_ret
  exact ⟨rfl, rfl⟩
end Go.Proofs.YtkmalncnaodkiaaDoor

