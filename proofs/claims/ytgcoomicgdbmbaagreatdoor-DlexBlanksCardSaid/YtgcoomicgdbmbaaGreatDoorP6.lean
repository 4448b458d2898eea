/-
  errors.As at a joined error. Own work (after the kit's worked text ToyasAs).
-/
import Derived.Test.YtgcoomicgdbmbaaGreatDoorErrIs
import Derived.Test.YtgcoomicgdbmbaaGreatDoorBld
set_option linter.all false
namespace Go.Proofs.YtgcoomicgdbmbaaGreatDoor
open Go.RowKit Go.Extern.Stop Go.Stop Go.Extern Go.Aw

theorem as_nil (t : Value) (w : World) :
    Calls Tryz.prog 19 #[.nilIface, t] w fun e w' => e = .returned (.bool false) ∧ w' = w := by
  go_enter Tryz.func19, Tryz.ntmps19
  go_wp2
  go_ret
  exact ⟨rfl, rfl⟩

/-! ### closed facts on the model's entries -/
theorem fa_valueOfP (t : Addr) (w : World) : (ReflectliteValue.unpack (.iface 45 (.pointer (some t)))).run Tryz.prog w
    = .ok (.agg #[.pointer (some ⟨8, 45, none⟩), .pointer (some ⟨w.heap.size, 0, none⟩), .int .u64 150]) (w.alloc (.cells #[.pointer (some t)] 45)) := by kernel_rfl
theorem fa_typeP (a : Addr) (w : World) : (ReflectliteValue.methodAny (ReflectliteValue.valueError "reflectlite.Value.Type" 0) (fun t _ _ _ => ReflectliteType.toType t) #[(.agg #[.pointer (some ⟨8, 45, none⟩), .pointer (some a), .int .u64 150])]).run Tryz.prog w
    = .ok (.iface 94 (.agg #[.pointer (some ⟨8, 45, none⟩)])) w := by kernel_rfl
theorem fa_methodKind (h : Value) (w : World) : (Go.method 291 94 (.agg #[h]) "Kind").run Tryz.prog w = .ok (129, h) w := by kernel_rfl
theorem fa_kindP (w : World) : ((ReflectliteType.abiMethod fun t => (fun a : Nat => Value.int IntKind.u8 (a : Int)) <$> Rtype.kind t) #[.pointer (some ⟨8, 45, none⟩)]).run Tryz.prog w = .ok (.int .u8 22) w := by kernel_rfl
theorem fa_kindT (w : World) : ((ReflectliteType.abiMethod fun t => (fun a : Nat => Value.int IntKind.u8 (a : Int)) <$> Rtype.kind t) #[.pointer (some ⟨8, 43, none⟩)]).run Tryz.prog w = .ok (.int .u8 22) w := by kernel_rfl
theorem fa_rlm (z : Sem Value) (f : TypeId → Addr → Nat → Nat → Sem Value) (v : Value) :
    ReflectliteValue.method z f #[v] = (do match ← ReflectliteValue.parts v with | none => z | some (t, a, fl) => f t a fl (fl % 32)) := rfl
theorem fa_partsP (a : Addr) (w : World) : (ReflectliteValue.parts (.agg #[.pointer (some ⟨8, 45, none⟩), .pointer (some a), .int .u64 150])).run Tryz.prog w = .ok (some (45, a, 150)) w := by kernel_rfl
theorem fa_isNil (a p : Addr) (W : World) (ha : W.cell? a = some (.pointer (some p))) :
    (ReflectliteValue.method (ReflectliteValue.valueError "reflectlite.Value.IsNil" 0) ReflectliteValue.isNil #[(.agg #[.pointer (some ⟨8, 45, none⟩), .pointer (some a), .int .u64 150])]).run Tryz.prog W = .ok (.bool false) W := by
  rw [fa_rlm]
  simp only [Sem.run_bind, fa_partsP, Result.andThen]
  simp [ReflectliteValue.isNil, loadVar, isAgg, underlying, Tryz.underlying45, ha, Result.andThen]
theorem fa_methodElem (h : Value) (w : World) : (Go.method 291 94 (.agg #[h]) "Elem").run Tryz.prog w = .ok (142, .agg #[h]) w := by kernel_rfl
theorem fa_methodImplements (h : Value) (w : World) : (Go.method 291 94 (.agg #[h]) "Implements").run Tryz.prog w = .ok (143, .agg #[h]) w := by kernel_rfl
theorem fa_methodAssignableTo (h : Value) (w : World) : (Go.method 291 94 (.agg #[h]) "AssignableTo").run Tryz.prog w = .ok (140, .agg #[h]) w := by kernel_rfl
theorem fa_elemP (w : World) : (ReflectliteType.method ReflectliteType.elem #[.agg #[.pointer (some ⟨8, 45, none⟩)]]).run Tryz.prog w = .ok (.iface 94 (.agg #[.pointer (some ⟨8, 43, none⟩)])) w := by kernel_rfl
theorem fa_implements (w : World) : (ReflectliteType.relation "Implements" ReflectliteType.implements_ #[.agg #[.pointer (some ⟨8, 43, none⟩)], .iface 94 (.agg #[.pointer (some ⟨8, 38, none⟩)])]).run Tryz.prog w = .ok (.bool true) w := by kernel_rfl
theorem fa_typeOfT (v : Value) (w : World) : (ReflectliteType.typeOf #[.iface 43 v]).run Tryz.prog w = .ok (.iface 94 (.agg #[.pointer (some ⟨8, 43, none⟩)])) w := by kernel_rfl
theorem fa_typeOfJ (v : Value) (w : World) : (ReflectliteType.typeOf #[.iface 65 v]).run Tryz.prog w = .ok (.iface 94 (.agg #[.pointer (some ⟨8, 65, none⟩)])) w := by kernel_rfl
theorem fa_assignT (w : World) : (ReflectliteType.relation "AssignableTo" ReflectliteType.assignableTo #[.agg #[.pointer (some ⟨8, 43, none⟩)], .iface 94 (.agg #[.pointer (some ⟨8, 43, none⟩)])]).run Tryz.prog w = .ok (.bool true) w := by kernel_rfl
theorem fa_assignJ (w : World) : (ReflectliteType.relation "AssignableTo" ReflectliteType.assignableTo #[.agg #[.pointer (some ⟨8, 65, none⟩)], .iface 94 (.agg #[.pointer (some ⟨8, 43, none⟩)])]).run Tryz.prog w = .ok (.bool false) w := by kernel_rfl
theorem fa_valueOfT (e : Addr) (w : World) : (ReflectliteValue.unpack (.iface 43 (.pointer (some e)))).run Tryz.prog w
    = .ok (.agg #[.pointer (some ⟨8, 43, none⟩), .pointer (some ⟨w.heap.size, 0, none⟩), .int .u64 150]) (w.alloc (.cells #[.pointer (some e)] 43)) := by kernel_rfl
theorem fa_elemOf (w : World) : (Rtype.elem? 45).run Tryz.prog w = .ok (some 43) w := by kernel_rfl
theorem fa_mk (p : Addr) (w : World) : (ReflectliteValue.mk 43 p ReflectliteValue.flagAddr).run Tryz.prog w = .ok (.agg #[.pointer (some ⟨8, 43, none⟩), .pointer (some p), .int .u64 406]) w := by kernel_rfl
theorem fa_elemV (a p : Addr) (W : World) (ha : W.cell? a = some (.pointer (some p))) :
    (ReflectliteValue.method (ReflectliteValue.valueError "reflectlite.Value.Elem" 0) ReflectliteValue.elem #[(.agg #[.pointer (some ⟨8, 45, none⟩), .pointer (some a), .int .u64 150])]).run Tryz.prog W = .ok (.agg #[.pointer (some ⟨8, 43, none⟩), .pointer (some p), .int .u64 406]) W := by
  rw [fa_rlm]
  simp only [Sem.run_bind, fa_partsP, Result.andThen]
  simp [ReflectliteValue.elem, loadVar, isAgg, underlying, Tryz.underlying45, ha, Result.andThen, fa_elemOf, fa_mk]
theorem fa_rls (v x : Value) : ReflectliteValue.set #[v, x] = (do
    let (some (dst, a, fl), some (src, b, _)) := (← ReflectliteValue.parts v, ← ReflectliteValue.parts x)
      | unsupported (.noEntry "extern/(internal/reflectlite.Value).Set.zeroValue")
    if fl / ReflectliteValue.flagAddr % 2 == 0 then unsupported (.noEntry "extern/(internal/reflectlite.Value).Set.unaddressable")
    let val ← loadVar src b
    if ← Rtype.directlyAssignable dst src then storeVar dst a val
    else if ← Rtype.implements dst src then
      if (← Rtype.kind src) == 20 then
        match val with
        | .nilIface => unsupported (.noEntry "extern/reflectlite: a nil value of one interface type handed on as a value of another")
        | _ => storeVar dst a val
      else storeVar dst a (.iface src val)
    else panicString ("reflectlite.Set: value of type " ++ (← Rtype.spelt src) ++ " is not assignable to type " ++ (← Rtype.spelt dst))
    pure (.tuple #[])) := rfl
theorem fa_partsS (a : Addr) (w : World) : (ReflectliteValue.parts (.agg #[.pointer (some ⟨8, 43, none⟩), .pointer (some a), .int .u64 406])).run Tryz.prog w = .ok (some (43, a, 406)) w := by kernel_rfl
theorem fa_partsT (a : Addr) (w : World) : (ReflectliteValue.parts (.agg #[.pointer (some ⟨8, 43, none⟩), .pointer (some a), .int .u64 150])).run Tryz.prog w = .ok (some (43, a, 150)) w := by kernel_rfl
theorem fa_direct (w : World) : (Rtype.directlyAssignable 43 43).run Tryz.prog w = .ok true w := by kernel_rfl
theorem fa_set (ta b e : Addr) (old : Value) (W : World) (hb : W.cell? b = some (.pointer (some e))) (ht : W.cell? ta = some old) (hf : W.frozen? ta = false) :
    (ReflectliteValue.set #[(.agg #[.pointer (some ⟨8, 43, none⟩), .pointer (some ta), .int .u64 406]), (.agg #[.pointer (some ⟨8, 43, none⟩), .pointer (some b), .int .u64 150])]).run Tryz.prog W = .ok (.tuple #[]) (W.setCell ta (.pointer (some e))) := by
  rw [fa_rls]
  simp only [Sem.run_bind, fa_partsS, fa_partsT, Result.andThen]
  simp [ReflectliteValue.flagAddr, loadVar, isAgg, underlying, Tryz.underlying43, hb, Result.andThen, fa_direct, storeVar, Value.cells, storeCells, Addr.add]
  rw [run_store Tryz.prog W ta _ _ (by rfl)]
  simp [ht, hf]
theorem fa_noAs (v : Value) (w : World) : (Instr.typeAssert (.iface 65 v) 38 99 true).run Tryz.prog w = .ok (.tuple #[.nilIface, .bool false]) w := run_typeAssert_lacksB Tryz.underlying99 (by kernel_rfl) (by kernel_rfl) v 38 w
theorem fa_noUn (v : Value) (w : World) : (Instr.typeAssert (.iface 65 v) 38 102 true).run Tryz.prog w = .ok (.tuple #[.nilIface, .bool false]) w := run_typeAssert_lacksB Tryz.underlying102 (by kernel_rfl) (by kernel_rfl) v 38 w
theorem fa_un (v : Value) (w : World) : (Instr.typeAssert (.iface 65 v) 38 104 true).run Tryz.prog w = .ok (.tuple #[.iface 65 v, .bool true]) w := run_typeAssert_hasB Tryz.underlying104 (by kernel_rfl) v 38 w
theorem fa_methodUnwrap (v : Value) (w : World) : (Go.method 291 65 v "Unwrap").run Tryz.prog w = .ok (135, v) w := by kernel_rfl

theorem un_ok (j : Addr) (s : Value) (w : World) (hj : w.cell? j = some s) : Calls Tryz.prog 135 #[.pointer (some j)] w fun ev w' => ev = .returned s ∧ w' = w := by
  go_enter Tryz.func135, Tryz.ntmps135
  go_wp2
  go_ret
  exact ⟨rfl, rfl⟩

set_option maxHeartbeats 4000000 in
/-- the error itself -/
theorem as_in (e t a : Addr) (old : Value) (w : World) (ha : w.cell? a = some (.pointer (some t))) (ht0 : w.cell? t = some old) (hf0 : w.frozen? t = false) :
    Calls Tryz.prog 32 #[.iface 43 (.pointer (some e)), .iface 45 (.pointer (some t)), (.agg #[.pointer (some ⟨8, 45, none⟩), .pointer (some a), .int .u64 150]), .iface 94 (.agg #[.pointer (some ⟨8, 43, none⟩)])] w fun ev w' => ev = .returned (.bool true) ∧
      w' = ((w.alloc (.cells #[.pointer (some ⟨8, 45, none⟩), .pointer (some a), .int .u64 150] 71)).alloc (.cells #[.pointer (some e)] 43)).setCell t (.pointer (some e)) := by
  have h10 := @run_callFunc_extern Tryz.prog 52 _ ReflectliteType.typeOf Tryz.func52 (by kernel_rfl) (by kernel_rfl) (by kernel_rfl) (by kernel_rfl)
  have h35 := @run_callFunc_extern Tryz.prog 140 _ (ReflectliteType.relation "AssignableTo" ReflectliteType.assignableTo) Tryz.func140 (by kernel_rfl) (by kernel_rfl) (by kernel_rfl) (by kernel_rfl)
  have h6 := @run_callFunc_extern Tryz.prog 29 _ (fun args => ReflectliteValue.unpack (args.getD 0 (.tuple #[]))) Tryz.func29 (by kernel_rfl) (by kernel_rfl) (by kernel_rfl) (by kernel_rfl)
  have h11 := @run_callFunc_extern Tryz.prog 53 _ (ReflectliteValue.method (ReflectliteValue.valueError "reflectlite.Value.Elem" 0) ReflectliteValue.elem) Tryz.func53 (by kernel_rfl) (by kernel_rfl) (by kernel_rfl) (by kernel_rfl)
  have h12 := @run_callFunc_extern Tryz.prog 54 _ ReflectliteValue.set Tryz.func54 (by kernel_rfl) (by kernel_rfl) (by kernel_rfl) (by kernel_rfl)
  have tO := fa_typeOfT
  have mA := fa_methodAssignableTo
  have aT := fa_assignT
  have vT := fa_valueOfT
  have hal : a.block < w.heap.size := World.block_lt_of_cell? _ _ ha
  have htl : t.block < w.heap.size := World.block_lt_of_cell? _ _ ht0
  have el := fa_elemV a t (w.alloc (.cells #[.pointer (some ⟨8, 45, none⟩), .pointer (some a), .int .u64 150] 71)) (by rw [World.cell?_alloc_lt _ _ a hal]; exact ha)
  have st := fa_set t ⟨w.heap.size + 1, 0, none⟩ e old ((w.alloc (.cells #[.pointer (some ⟨8, 45, none⟩), .pointer (some a), .int .u64 150] 71)).alloc (.cells #[.pointer (some e)] 43))
    (by rw [World.cell?_alloc_at _ _ _ _ (by simp)]; rfl)
    (by rw [World.cell?_alloc_lt _ _ t (by simp; omega), World.cell?_alloc_lt _ _ t htl]; exact ht0)
    (by rw [World.frozen?_alloc_old _ _ t (by simp; omega), World.frozen?_alloc_old _ _ t (Nat.ne_of_lt htl)]; exact hf0)
  go_enter Tryz.func32, Tryz.ntmps32
  go_wp2
  refine wp_loop_rounds 1 ?_
  rw [rounds_succ]
  go_wp2
  go_ret
  exact ⟨rfl, rfl⟩

set_option maxHeartbeats 4000000 in
/-- the joined one -/
theorem as_out (e t a j c : Addr) (n : Nat) (old : Value) (w : World) (ha : w.cell? a = some (.pointer (some t))) (ht0 : w.cell? t = some old) (hf0 : w.frozen? t = false)
    (hj : w.cell? j = some (.slice (some c) 1 n)) (hc : w.cell? c = some (.iface 43 (.pointer (some e)))) :
    Calls Tryz.prog 32 #[.iface 65 (.pointer (some j)), .iface 45 (.pointer (some t)), (.agg #[.pointer (some ⟨8, 45, none⟩), .pointer (some a), .int .u64 150]), .iface 94 (.agg #[.pointer (some ⟨8, 43, none⟩)])] w fun ev w' => ev = .returned (.bool true) ∧
      w' = (((w.alloc (.cells #[.pointer (some ⟨8, 45, none⟩), .pointer (some a), .int .u64 150] 71)).alloc (.cells #[.pointer (some ⟨8, 45, none⟩), .pointer (some a), .int .u64 150] 71)).alloc (.cells #[.pointer (some e)] 43)).setCell t (.pointer (some e)) := by
  have h10 := @run_callFunc_extern Tryz.prog 52 _ ReflectliteType.typeOf Tryz.func52 (by kernel_rfl) (by kernel_rfl) (by kernel_rfl) (by kernel_rfl)
  have h35 := @run_callFunc_extern Tryz.prog 140 _ (ReflectliteType.relation "AssignableTo" ReflectliteType.assignableTo) Tryz.func140 (by kernel_rfl) (by kernel_rfl) (by kernel_rfl) (by kernel_rfl)
  have tO := fa_typeOfJ
  have mA := fa_methodAssignableTo
  have mU := fa_methodUnwrap
  have aJ := fa_assignJ
  have n1 := fa_noAs
  have n2 := fa_noUn
  have n3 := fa_un
  have hal : a.block < w.heap.size := World.block_lt_of_cell? _ _ ha
  have htl : t.block < w.heap.size := World.block_lt_of_cell? _ _ ht0
  have hjl : j.block < w.heap.size := World.block_lt_of_cell? _ _ hj
  have hcl : c.block < w.heap.size := World.block_lt_of_cell? _ _ hc
  have ha1 : (w.alloc (.cells #[.pointer (some ⟨8, 45, none⟩), .pointer (some a), .int .u64 150] 71)).cell? a = some (.pointer (some t)) := by rw [World.cell?_alloc_lt _ _ a hal]; exact ha
  have ht1 : (w.alloc (.cells #[.pointer (some ⟨8, 45, none⟩), .pointer (some a), .int .u64 150] 71)).cell? t = some old := by rw [World.cell?_alloc_lt _ _ t htl]; exact ht0
  have hf1 : (w.alloc (.cells #[.pointer (some ⟨8, 45, none⟩), .pointer (some a), .int .u64 150] 71)).frozen? t = false := by rw [World.frozen?_alloc_old _ _ t (Nat.ne_of_lt htl)]; exact hf0
  have hj1 : (w.alloc (.cells #[.pointer (some ⟨8, 45, none⟩), .pointer (some a), .int .u64 150] 71)).cell? j = some (.slice (some c) 1 n) := by rw [World.cell?_alloc_lt _ _ j hjl]; exact hj
  have hc1 : (w.alloc (.cells #[.pointer (some ⟨8, 45, none⟩), .pointer (some a), .int .u64 150] 71)).cell? c = some (.iface 43 (.pointer (some e))) := by rw [World.cell?_alloc_lt _ _ c hcl]; exact hc
  obtain ⟨cb, co, cs⟩ := c
  obtain rfl : cs = none := (cell_kof hc).1
  go_enter Tryz.func32, Tryz.ntmps32
  go_wp2
  refine wp_loop_rounds 1 ?_
  rw [rounds_succ]
  go_wp2_with (first | (go_at_call 135; refine (un_ok j _ _ hj1).mono ?_; rintro ev w' ⟨rfl, rfl⟩))
  refine wp_loop_rounds 1 ?_
  rw [rounds_succ]
  go_wp2_with (first | (go_at_call 32; refine (as_in e t a old _ ha1 ht1 hf1).mono ?_; rintro ev w' ⟨rfl, rfl⟩))
  go_ret
  exact ⟨rfl, rfl⟩
end Go.Proofs.YtgcoomicgdbmbaaGreatDoor
/-
  errors.As at a joined error: the call. Own work.
-/
namespace Go.Proofs.YtgcoomicgdbmbaaGreatDoor
open Go.RowKit Go.Extern.Stop Go.Stop Go.Extern Go.Aw

set_option maxHeartbeats 4000000 in
theorem as_top (e t j c : Addr) (n : Nat) (old : Value) (w : World) (hg : w.cell? ⟨0, 0, none⟩ = some (.iface 94 (.agg #[.pointer (some ⟨8, 38, none⟩)]))) (ht0 : w.cell? t = some old) (hf0 : w.frozen? t = false)
    (hj : w.cell? j = some (.slice (some c) 1 n)) (hc : w.cell? c = some (.iface 43 (.pointer (some e)))) :
    Calls Tryz.prog 19 #[.iface 65 (.pointer (some j)), .iface 45 (.pointer (some t))] w fun ev w' => ev = .returned (.bool true) ∧
      w' = (((((w.alloc (.cells #[.pointer (some t)] 45)).alloc (.cells #[.pointer (some ⟨8, 45, none⟩), .pointer (some ⟨w.heap.size, 0, none⟩), .int .u64 150] 71)).alloc (.cells #[.pointer (some ⟨8, 45, none⟩), .pointer (some ⟨w.heap.size, 0, none⟩), .int .u64 150] 71)).alloc (.cells #[.pointer (some ⟨8, 45, none⟩), .pointer (some ⟨w.heap.size, 0, none⟩), .int .u64 150] 71)).alloc (.cells #[.pointer (some e)] 43)).setCell t (.pointer (some e)) := by
  have h6 := @run_callFunc_extern Tryz.prog 29 _ (fun args => ReflectliteValue.unpack (args.getD 0 (.tuple #[]))) Tryz.func29 (by kernel_rfl) (by kernel_rfl) (by kernel_rfl) (by kernel_rfl)
  have h7 := @run_callFunc_extern Tryz.prog 30 _ (ReflectliteValue.methodAny (ReflectliteValue.valueError "reflectlite.Value.Type" 0) (fun t _ _ _ => ReflectliteType.toType t)) Tryz.func30 (by kernel_rfl) (by kernel_rfl) (by kernel_rfl) (by kernel_rfl)
  have h8 := @run_callFunc_extern Tryz.prog 31 _ (ReflectliteValue.method (ReflectliteValue.valueError "reflectlite.Value.IsNil" 0) ReflectliteValue.isNil) Tryz.func31 (by kernel_rfl) (by kernel_rfl) (by kernel_rfl) (by kernel_rfl)
  have h27 := @run_callFunc_extern Tryz.prog 129 _ (ReflectliteType.abiMethod fun t => do pure (.int .u8 (← Rtype.kind t))) Tryz.func129 (by kernel_rfl) (by kernel_rfl) (by kernel_rfl) (by kernel_rfl)
  have h37 := @run_callFunc_extern Tryz.prog 142 _ (ReflectliteType.method ReflectliteType.elem) Tryz.func142 (by kernel_rfl) (by kernel_rfl) (by kernel_rfl) (by kernel_rfl)
  have h38 := @run_callFunc_extern Tryz.prog 143 _ (ReflectliteType.relation "Implements" ReflectliteType.implements_) Tryz.func143 (by kernel_rfl) (by kernel_rfl) (by kernel_rfl) (by kernel_rfl)
  have f6 := fa_valueOfP
  have f7 := fa_typeP
  have mK := fa_methodKind
  have mE := fa_methodElem
  have mI := fa_methodImplements
  have k27 := fa_kindP
  have k25 := fa_kindT
  have e27 := fa_elemP
  have i25 := fa_implements
  have n8 := fa_isNil ⟨w.heap.size, 0, none⟩ t ((w.alloc (.cells #[.pointer (some t)] 45)).alloc (.cells #[.pointer (some ⟨8, 45, none⟩), .pointer (some ⟨w.heap.size, 0, none⟩), .int .u64 150] 71)) (by simp)
  have hgl := World.block_lt_of_cell? _ _ hg
  have htl := World.block_lt_of_cell? _ _ ht0
  have hjl := World.block_lt_of_cell? _ _ hj
  have hcl := World.block_lt_of_cell? _ _ hc
  have old2 : ∀ (x : Addr), x.block < w.heap.size → ((w.alloc (.cells #[.pointer (some t)] 45)).alloc (.cells #[.pointer (some ⟨8, 45, none⟩), .pointer (some ⟨w.heap.size, 0, none⟩), .int .u64 150] 71)).cell? x = w.cell? x := fun x hx => by
    rw [World.cell?_alloc_lt _ _ x (by simp; omega), World.cell?_alloc_lt _ _ x hx]
  have hg2 := (old2 _ hgl).trans hg
  have ht2 := (old2 _ htl).trans ht0
  have hj2 := (old2 _ hjl).trans hj
  have hc2 := (old2 _ hcl).trans hc
  have ha2 : ((w.alloc (.cells #[.pointer (some t)] 45)).alloc (.cells #[.pointer (some ⟨8, 45, none⟩), .pointer (some ⟨w.heap.size, 0, none⟩), .int .u64 150] 71)).cell? ⟨w.heap.size, 0, none⟩ = some (.pointer (some t)) := by
    rw [World.cell?_alloc_lt _ _ ⟨w.heap.size, 0, none⟩ (by simp)]; simp
  have hf2 : ((w.alloc (.cells #[.pointer (some t)] 45)).alloc (.cells #[.pointer (some ⟨8, 45, none⟩), .pointer (some ⟨w.heap.size, 0, none⟩), .int .u64 150] 71)).frozen? t = false := by
    rw [World.frozen?_alloc_old _ _ t (by simp; omega), World.frozen?_alloc_old _ _ t (Nat.ne_of_lt htl)]; exact hf0
  go_enter Tryz.func19, Tryz.ntmps19
  go_wp2_with (first | (go_at_call 32; refine (as_out e t ⟨w.heap.size, 0, none⟩ j c n old _ ha2 ht2 hf2 hj2 hc2).mono ?_; rintro ev w' ⟨rfl, rfl⟩))
  go_ret
  exact ⟨rfl, rfl⟩
theorem asNil_ok (t : AV) (R : List En) : ACall Tryz.prog 19 [.nilif, t] R (fun r S => r = .bool false ∧ S = R) := by
  refine ACall_pure fun w0 K w vs hv hS => ?_
  obtain ⟨x, r, rfl, hx, hr⟩ := hv.cons_inv
  obtain ⟨y, r', rfl, hy, hr'⟩ := hr.cons_inv
  obtain rfl := hr'.nil_inv
  cases hx
  refine (as_nil y w).mono ?_
  rintro e w' ⟨rfl, rfl⟩
  exact ⟨_, rfl, .bool _, Below.refl _ _⟩
/-- what errors.As reads -/
def AsG (R : List En) : Prop := En.glob 0 [.ifc 94 (.agg [.ptr 8 38])] ∈ R
theorem as_ok (t : Nat) (x : AV) (cs : List AV) (tk : Tk) (R : List En) (hG : AsG R) :
    ACall Tryz.prog 19 [.ifc 65 (.ref [.sl 1 [.ifc 43 (.ref cs)] tk]), .ifc 45 (.ptr t 0)] (.cells t [x] :: R) (fun r S => r = .bool true ∧ S = .cells t [.ref cs] :: R) := by
  unfold ACall
  intro w0 K w vs hv hS
  rw [callsIn_wide]
  obtain ⟨v1, r, rfl, hx, hr⟩ := hv.cons_inv
  obtain ⟨v2, r', rfl, hy, hr'⟩ := hr.cons_inv
  obtain rfl := hr'.nil_inv
  cases hy with
  | ifc _ hy =>
  cases hy
  cases hx with
  | ifc _ hx =>
  cases hx with
  | @ref _ jb jo vs1 h1 hl h hk =>
  obtain ⟨s, hs, hsr⟩ := RelL.get (show RelL K [.sl 1 [.ifc 43 (.ref cs)] tk] vs1 from ⟨hl, h⟩) (i := 0) rfl
  have hj := hS.kcell _ _ _ (hk 0 _ hs)
  cases hsr with
  | @sl _ _ _ cb co cap vs2 hcap hmax hsz hone hl2 h2 hk2 htk =>
  obtain ⟨u, hu, hur⟩ := RelL.get (show RelL K (flat [.ifc 43 (.ref cs)]) vs2 from ⟨hl2, h2⟩) (i := 0) rfl
  have hc := hS.kcell _ _ _ (hk2 0 _ hu)
  cases hur with
  | ifc _ hur =>
  cases hur with
  | @ref _ eb eo vs3 g1 gl g gk =>
  have hgl : ∃ fr, w.cell? ⟨0, 0, none⟩ = some (.iface 94 (.agg #[.pointer (some ⟨8, 38, none⟩)])) ∧ fr = 0 := by
    obtain ⟨_, _, vs4, T, fr, hh, hr4, hk4⟩ := hS.ents _ (List.mem_cons_of_mem _ hG)
    obtain ⟨y, hy, hyr⟩ := hr4.get (i := 0) rfl
    cases hyr with
    | ifc _ hyr =>
      cases hyr with
      | @agg _ us u1 ul uh =>
        obtain ⟨z, rz, hz1, hz2, hz3⟩ := RelL.cons_inv (show RelL K [.ptr 8 38] us from ⟨ul, uh⟩)
        obtain rfl := hz3.nil_inv
        cases hz2
        subst hz1
        exact ⟨0, hS.kcell _ _ _ (hk4 0 _ hy), rfl⟩
  obtain ⟨_, hg, _⟩ := hgl
  obtain ⟨hB, hK, ho, cv, T, hh, hcv⟩ := hS.ents _ (.head _)
  obtain ⟨o1, ro, ho1, _, ho3⟩ := hcv.cons_inv
  obtain rfl := ho3.nil_inv
  have hct : w.cell? ⟨t, 0, none⟩ = some o1 := by rw [cell_of_heap hh, ← Array.getElem?_toList, ho1]; rfl
  have hft : w.frozen? ⟨t, 0, none⟩ = false := by simp [World.frozen?, hh]
  refine (as_top ⟨eb, eo, none⟩ ⟨t, 0, none⟩ ⟨jb, jo, none⟩ ⟨cb, co, none⟩ cap o1 w hg hct hft hj hc).mono ?_
  rintro ev w' ⟨rfl, rfl⟩
  have hb : Below w.heap.size w (((((w.alloc (.cells #[.pointer (some ⟨t, 0, none⟩)] 45)).alloc (.cells #[.pointer (some ⟨8, 45, none⟩), .pointer (some ⟨w.heap.size, 0, none⟩), .int .u64 150] 71)).alloc (.cells #[.pointer (some ⟨8, 45, none⟩), .pointer (some ⟨w.heap.size, 0, none⟩), .int .u64 150] 71)).alloc (.cells #[.pointer (some ⟨8, 45, none⟩), .pointer (some ⟨w.heap.size, 0, none⟩), .int .u64 150] 71)).alloc (.cells #[.pointer (some ⟨eb, eo, none⟩)] 43)) := by
    have b1 := (Below.refl w.heap.size w).alloc (Nat.le_refl _) (.cells #[.pointer (some ⟨t, 0, none⟩)] 45)
    have b2 := b1.alloc b1.size (.cells #[.pointer (some ⟨8, 45, none⟩), .pointer (some ⟨w.heap.size, 0, none⟩), .int .u64 150] 71)
    have b3 := b2.alloc b2.size (.cells #[.pointer (some ⟨8, 45, none⟩), .pointer (some ⟨w.heap.size, 0, none⟩), .int .u64 150] 71)
    have b4 := b3.alloc b3.size (.cells #[.pointer (some ⟨8, 45, none⟩), .pointer (some ⟨w.heap.size, 0, none⟩), .int .u64 150] 71)
    exact b4.alloc b4.size _
  generalize (((((w.alloc (.cells #[.pointer (some ⟨t, 0, none⟩)] 45)).alloc (.cells #[.pointer (some ⟨8, 45, none⟩), .pointer (some ⟨w.heap.size, 0, none⟩), .int .u64 150] 71)).alloc (.cells #[.pointer (some ⟨8, 45, none⟩), .pointer (some ⟨w.heap.size, 0, none⟩), .int .u64 150] 71)).alloc (.cells #[.pointer (some ⟨8, 45, none⟩), .pointer (some ⟨w.heap.size, 0, none⟩), .int .u64 150] 71)).alloc (.cells #[.pointer (some ⟨eb, eo, none⟩)] 43)) = w1 at hb
  have hS1 := hS.grown hb
  have hE : Rel K (.ref cs) (.pointer (some ⟨eb, eo, none⟩)) := .ref g1 gl g gk
  obtain ⟨w2, hw2, hS2⟩ := hS1.stored (p := 0) (off := 0) rfl (RelL.cons hE RelL.nil) (by intro c hc; simp at hc; subst hc; rfl) (by simp) Tryz.prog
  have hh1 : w1.heap[t]? = some (.cells cv T (0, 0)) := (hb.block t (Array.getElem?_eq_some_iff.1 hh).1).trans hh
  have hct1 : w1.cell? ⟨t, 0, none⟩ = some o1 := by rw [cell_of_heap hh1, ← Array.getElem?_toList, ho1]; rfl
  have hft1 : w1.frozen? ⟨t, 0, none⟩ = false := by simp [World.frozen?, hh1]
  have hrun : (storeCells ⟨t, 0, none⟩ [.pointer (some ⟨eb, eo, none⟩)]).run Tryz.prog w1 = .ok () (w1.setCell ⟨t, 0, none⟩ (.pointer (some ⟨eb, eo, none⟩))) := by
    simp [storeCells, Addr.add]
    rw [run_store Tryz.prog w1 ⟨t, 0, none⟩ _ _ (by rfl)]
    simp [hct1, hft1]
  rw [hrun] at hw2
  cases hw2
  exact ⟨_, K, .bool true, _, rfl, Kle.refl K, .bool true, hS2, rfl, rfl⟩
end Go.Proofs.YtgcoomicgdbmbaaGreatDoor
