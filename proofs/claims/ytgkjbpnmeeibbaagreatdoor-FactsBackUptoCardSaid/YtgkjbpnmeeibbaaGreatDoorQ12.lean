/-
  errors.As at a joined error. Own work (after the kit's worked text ToyasAs).
-/
import Derived.Test.YtgkjbpnmeeibbaaGreatDoorErrIs
import Derived.Test.YtgkjbpnmeeibbaaGreatDoorBld
import Derived.Test.YtgkjbpnmeeibbaaGreatDoorQ11
set_option linter.all false
namespace Go.Proofs.YtgkjbpnmeeibbaaGreatDoor
open Go.RowKit Go.Extern.Stop Go.Stop Go.Extern Go.Aw

theorem as_nil (t : Value) (w : World) :
    Calls Tryz.prog 28 #[.nilIface, t] w fun e w' => e = .returned (.bool false) ∧ w' = w := by
  go_enter Tryz.func28, Tryz.ntmps28
  go_wp2
  go_ret
  exact ⟨rfl, rfl⟩

/-! ### closed facts on the model's entries -/
theorem fa_valueOfP (t : Addr) (w : World) : (ReflectliteValue.unpack (.iface 69 (.pointer (some t)))).run Tryz.prog w
    = .ok (.agg #[.pointer (some ⟨11, 69, none⟩), .pointer (some ⟨w.heap.size, 0, none⟩), .int .u64 150]) (w.alloc (.cells #[.pointer (some t)] 69)) := by kernel_rfl
theorem fa_typeP (a : Addr) (w : World) : (ReflectliteValue.methodAny (ReflectliteValue.valueError "reflectlite.Value.Type" 0) (fun t _ _ _ => ReflectliteType.toType t) #[(.agg #[.pointer (some ⟨11, 69, none⟩), .pointer (some a), .int .u64 150])]).run Tryz.prog w
    = .ok (.iface 146 (.agg #[.pointer (some ⟨11, 69, none⟩)])) w := by kernel_rfl
theorem fa_methodKind (h : Value) (w : World) : (Go.method 361 146 (.agg #[h]) "Kind").run Tryz.prog w = .ok (192, h) w := by kernel_rfl
theorem fa_kindP (w : World) : ((ReflectliteType.abiMethod fun t => (fun a : Nat => Value.int IntKind.u8 (a : Int)) <$> Rtype.kind t) #[.pointer (some ⟨11, 69, none⟩)]).run Tryz.prog w = .ok (.int .u8 22) w := by kernel_rfl
theorem fa_kindT (w : World) : ((ReflectliteType.abiMethod fun t => (fun a : Nat => Value.int IntKind.u8 (a : Int)) <$> Rtype.kind t) #[.pointer (some ⟨11, 67, none⟩)]).run Tryz.prog w = .ok (.int .u8 25) w := by kernel_rfl
theorem fa_rlm (z : Sem Value) (f : TypeId → Addr → Nat → Nat → Sem Value) (v : Value) :
    ReflectliteValue.method z f #[v] = (do match ← ReflectliteValue.parts v with | none => z | some (t, a, fl) => f t a fl (fl % 32)) := rfl
theorem fa_partsP (a : Addr) (w : World) : (ReflectliteValue.parts (.agg #[.pointer (some ⟨11, 69, none⟩), .pointer (some a), .int .u64 150])).run Tryz.prog w = .ok (some (69, a, 150)) w := by kernel_rfl
theorem fa_isNil (a p : Addr) (W : World) (ha : W.cell? a = some (.pointer (some p))) :
    (ReflectliteValue.method (ReflectliteValue.valueError "reflectlite.Value.IsNil" 0) ReflectliteValue.isNil #[(.agg #[.pointer (some ⟨11, 69, none⟩), .pointer (some a), .int .u64 150])]).run Tryz.prog W = .ok (.bool false) W := by
  rw [fa_rlm]
  simp only [Sem.run_bind, fa_partsP, Result.andThen]
  simp [ReflectliteValue.isNil, loadVar, isAgg, underlying, Tryz.underlying69, ha, Result.andThen]
theorem fa_methodElem (h : Value) (w : World) : (Go.method 361 146 (.agg #[h]) "Elem").run Tryz.prog w = .ok (205, .agg #[h]) w := by kernel_rfl
theorem fa_methodImplements (h : Value) (w : World) : (Go.method 361 146 (.agg #[h]) "Implements").run Tryz.prog w = .ok (206, .agg #[h]) w := by kernel_rfl
theorem fa_methodAssignableTo (h : Value) (w : World) : (Go.method 361 146 (.agg #[h]) "AssignableTo").run Tryz.prog w = .ok (203, .agg #[h]) w := by kernel_rfl
theorem fa_elemP (w : World) : (ReflectliteType.method ReflectliteType.elem #[.agg #[.pointer (some ⟨11, 69, none⟩)]]).run Tryz.prog w = .ok (.iface 146 (.agg #[.pointer (some ⟨11, 67, none⟩)])) w := by kernel_rfl
theorem fa_implements (w : World) : (ReflectliteType.relation "Implements" ReflectliteType.implements_ #[.agg #[.pointer (some ⟨11, 67, none⟩)], .iface 146 (.agg #[.pointer (some ⟨11, 63, none⟩)])]).run Tryz.prog w = .ok (.bool true) w := by kernel_rfl
theorem fa_typeOfT (v : Value) (w : World) : (ReflectliteType.typeOf #[.iface 67 v]).run Tryz.prog w = .ok (.iface 146 (.agg #[.pointer (some ⟨11, 67, none⟩)])) w := by kernel_rfl
theorem fa_typeOfJ (v : Value) (w : World) : (ReflectliteType.typeOf #[.iface 142 v]).run Tryz.prog w = .ok (.iface 146 (.agg #[.pointer (some ⟨11, 142, none⟩)])) w := by kernel_rfl
theorem fa_assignT (w : World) : (ReflectliteType.relation "AssignableTo" ReflectliteType.assignableTo #[.agg #[.pointer (some ⟨11, 67, none⟩)], .iface 146 (.agg #[.pointer (some ⟨11, 67, none⟩)])]).run Tryz.prog w = .ok (.bool true) w := by kernel_rfl
theorem fa_assignJ (w : World) : (ReflectliteType.relation "AssignableTo" ReflectliteType.assignableTo #[.agg #[.pointer (some ⟨11, 142, none⟩)], .iface 146 (.agg #[.pointer (some ⟨11, 67, none⟩)])]).run Tryz.prog w = .ok (.bool false) w := by kernel_rfl
theorem fa_valueOfT (x y : Value) (w : World) : (ReflectliteValue.unpack (.iface 67 (.agg #[x, y]))).run Tryz.prog w
    = .ok (.agg #[.pointer (some ⟨11, 67, none⟩), .pointer (some ⟨w.heap.size, 0, none⟩), .int .u64 153]) (w.alloc (.cells #[x, y] 67)) := by kernel_rfl
theorem fa_elemOf (w : World) : (Rtype.elem? 69).run Tryz.prog w = .ok (some 67) w := by kernel_rfl
theorem fa_mk (p : Addr) (w : World) : (ReflectliteValue.mk 67 p ReflectliteValue.flagAddr).run Tryz.prog w = .ok (.agg #[.pointer (some ⟨11, 67, none⟩), .pointer (some p), .int .u64 409]) w := by kernel_rfl
theorem fa_elemV (a p : Addr) (W : World) (ha : W.cell? a = some (.pointer (some p))) :
    (ReflectliteValue.method (ReflectliteValue.valueError "reflectlite.Value.Elem" 0) ReflectliteValue.elem #[(.agg #[.pointer (some ⟨11, 69, none⟩), .pointer (some a), .int .u64 150])]).run Tryz.prog W = .ok (.agg #[.pointer (some ⟨11, 67, none⟩), .pointer (some p), .int .u64 409]) W := by
  rw [fa_rlm]
  simp only [Sem.run_bind, fa_partsP, Result.andThen]
  simp [ReflectliteValue.elem, loadVar, isAgg, underlying, Tryz.underlying69, ha, Result.andThen, fa_elemOf, fa_mk]
theorem fa_rls (v x : Value) : ReflectliteValue.set #[v, x] = (do
    let (some (dst, a, fl), some (src, b, _)) := (← ReflectliteValue.parts v, ← ReflectliteValue.parts x)
      | unsupported (.noEntry "extern/(internal/reflectlite.Value).Set.zeroValue")
    if fl / ReflectliteValue.flagAddr % 2 == 0 then unsupported (.noEntry "extern/(internal/reflectlite.Value).Set.unaddressable")
    let val ← loadVar src b
    if ← Rtype.directlyAssignable dst src then storeVar dst a val
    else if ← Rtype.implements dst src then
      if (← Rtype.kind src) == 20 then
        match val with
        | .nilIface => unsupported (.noEntry "extern/reflectlite: a nil value of one interface type handed on as a value of another")
        | _ => storeVar dst a val
      else storeVar dst a (.iface src val)
    else panicString ("reflectlite.Set: value of type " ++ (← Rtype.spelt src) ++ " is not assignable to type " ++ (← Rtype.spelt dst))
    pure (.tuple #[])) := rfl
theorem fa_partsS (a : Addr) (w : World) : (ReflectliteValue.parts (.agg #[.pointer (some ⟨11, 67, none⟩), .pointer (some a), .int .u64 409])).run Tryz.prog w = .ok (some (67, a, 409)) w := by kernel_rfl
theorem fa_partsT (a : Addr) (w : World) : (ReflectliteValue.parts (.agg #[.pointer (some ⟨11, 67, none⟩), .pointer (some a), .int .u64 153])).run Tryz.prog w = .ok (some (67, a, 153)) w := by kernel_rfl
theorem fa_direct (w : World) : (Rtype.directlyAssignable 67 67).run Tryz.prog w = .ok true w := by kernel_rfl
theorem fa_size (w : World) : (sizeOf 67).run Tryz.prog w = .ok 2 w := by kernel_rfl
theorem fa_load (b : Addr) (x y : Value) (W : World) (h1 : W.cell? b = some x) (h2 : W.cell? (b.add 1) = some y) : (loadVar 67 b).run Tryz.prog W = .ok (.agg #[x, y]) W := by
  have h0 : W.cell? (b.add 0) = some x := h1
  simp [loadVar, isAgg, underlying, Tryz.underlying67, Result.andThen, fa_size, loadCells, loadCellsFrom, h0, h2]
theorem fa_set (ta b : Addr) (x y : Value) (W W' : World) (hb : W.cell? b = some x) (hb2 : W.cell? (b.add 1) = some y) (hs : (storeCells ta [x, y]).run Tryz.prog W = .ok () W') :
    (ReflectliteValue.set #[(.agg #[.pointer (some ⟨11, 67, none⟩), .pointer (some ta), .int .u64 409]), (.agg #[.pointer (some ⟨11, 67, none⟩), .pointer (some b), .int .u64 153])]).run Tryz.prog W = .ok (.tuple #[]) W' := by
  rw [fa_rls]
  simp only [Sem.run_bind, fa_partsS, fa_partsT, Result.andThen]
  simp [ReflectliteValue.flagAddr, fa_load b x y W hb hb2, Result.andThen, fa_direct, storeVar, Value.cells, fa_size, hs]
theorem fa_noAs (v : Value) (w : World) : (Instr.typeAssert (.iface 142 v) 63 151 true).run Tryz.prog w = .ok (.tuple #[.nilIface, .bool false]) w := run_typeAssert_lacksB Tryz.underlying151 (by kernel_rfl) (by kernel_rfl) v 63 w
theorem fa_noUn (v : Value) (w : World) : (Instr.typeAssert (.iface 142 v) 63 154 true).run Tryz.prog w = .ok (.tuple #[.nilIface, .bool false]) w := run_typeAssert_lacksB Tryz.underlying154 (by kernel_rfl) (by kernel_rfl) v 63 w
theorem fa_un (v : Value) (w : World) : (Instr.typeAssert (.iface 142 v) 63 156 true).run Tryz.prog w = .ok (.tuple #[.iface 142 v, .bool true]) w := run_typeAssert_hasB Tryz.underlying156 (by kernel_rfl) v 63 w
theorem fa_methodUnwrap (v : Value) (w : World) : (Go.method 361 142 v "Unwrap").run Tryz.prog w = .ok (201, v) w := by kernel_rfl

theorem un_ok (j : Addr) (s : Value) (w : World) (hj : w.cell? j = some s) : Calls Tryz.prog 201 #[.pointer (some j)] w fun ev w' => ev = .returned s ∧ w' = w := by
  go_enter Tryz.func201, Tryz.ntmps201
  go_wp2
  go_ret
  exact ⟨rfl, rfl⟩

set_option maxHeartbeats 4000000 in
/-- the error itself -/
theorem as_in (x y : Value) (t a : Addr) (w W' : World) (ha : w.cell? a = some (.pointer (some t))) (hs : (storeCells t [x, y]).run Tryz.prog ((w.alloc (.cells #[.pointer (some ⟨11, 69, none⟩), .pointer (some a), .int .u64 150] 102)).alloc (.cells #[x, y] 67)) = .ok () W') :
    Calls Tryz.prog 58 #[.iface 67 (.agg #[x, y]), .iface 69 (.pointer (some t)), (.agg #[.pointer (some ⟨11, 69, none⟩), .pointer (some a), .int .u64 150]), .iface 146 (.agg #[.pointer (some ⟨11, 67, none⟩)])] w fun ev w' => ev = .returned (.bool true) ∧
      w' = W' := by
  have h10 := @run_callFunc_extern Tryz.prog 88 _ ReflectliteType.typeOf Tryz.func88 (by kernel_rfl) (by kernel_rfl) (by kernel_rfl) (by kernel_rfl)
  have h35 := @run_callFunc_extern Tryz.prog 203 _ (ReflectliteType.relation "AssignableTo" ReflectliteType.assignableTo) Tryz.func203 (by kernel_rfl) (by kernel_rfl) (by kernel_rfl) (by kernel_rfl)
  have h6 := @run_callFunc_extern Tryz.prog 55 _ (fun args => ReflectliteValue.unpack (args.getD 0 (.tuple #[]))) Tryz.func55 (by kernel_rfl) (by kernel_rfl) (by kernel_rfl) (by kernel_rfl)
  have h11 := @run_callFunc_extern Tryz.prog 89 _ (ReflectliteValue.method (ReflectliteValue.valueError "reflectlite.Value.Elem" 0) ReflectliteValue.elem) Tryz.func89 (by kernel_rfl) (by kernel_rfl) (by kernel_rfl) (by kernel_rfl)
  have h12 := @run_callFunc_extern Tryz.prog 90 _ ReflectliteValue.set Tryz.func90 (by kernel_rfl) (by kernel_rfl) (by kernel_rfl) (by kernel_rfl)
  have tO := fa_typeOfT
  have mA := fa_methodAssignableTo
  have aT := fa_assignT
  have vT := fa_valueOfT
  have hal : a.block < w.heap.size := World.block_lt_of_cell? _ _ ha
  have el := fa_elemV a t (w.alloc (.cells #[.pointer (some ⟨11, 69, none⟩), .pointer (some a), .int .u64 150] 102)) (by rw [World.cell?_alloc_lt _ _ a hal]; exact ha)
  have st := fa_set t ⟨w.heap.size + 1, 0, none⟩ x y ((w.alloc (.cells #[.pointer (some ⟨11, 69, none⟩), .pointer (some a), .int .u64 150] 102)).alloc (.cells #[x, y] 67)) W'
    (by rw [World.cell?_alloc_at _ _ _ _ (by simp)]; rfl)
    (by show World.cell? _ ⟨w.heap.size + 1, 0 + 1, none⟩ = _; rw [World.cell?_alloc_at _ _ _ _ (by simp)]; rfl) hs
  go_enter Tryz.func58, Tryz.ntmps58
  go_wp2
  refine wp_loop_rounds 1 ?_
  rw [rounds_succ]
  go_wp2
  go_ret
  exact ⟨rfl, rfl⟩

set_option maxHeartbeats 4000000 in
/-- the joined one -/
theorem as_out (x y : Value) (t a j c : Addr) (n : Nat) (w W' : World) (ha : w.cell? a = some (.pointer (some t)))
    (hj : w.cell? j = some (.slice (some c) 1 n)) (hc : w.cell? c = some (.iface 67 (.agg #[x, y])))
    (hs : (storeCells t [x, y]).run Tryz.prog (((w.alloc (.cells #[.pointer (some ⟨11, 69, none⟩), .pointer (some a), .int .u64 150] 102)).alloc (.cells #[.pointer (some ⟨11, 69, none⟩), .pointer (some a), .int .u64 150] 102)).alloc (.cells #[x, y] 67)) = .ok () W') :
    Calls Tryz.prog 58 #[.iface 142 (.pointer (some j)), .iface 69 (.pointer (some t)), (.agg #[.pointer (some ⟨11, 69, none⟩), .pointer (some a), .int .u64 150]), .iface 146 (.agg #[.pointer (some ⟨11, 67, none⟩)])] w fun ev w' => ev = .returned (.bool true) ∧
      w' = W' := by
  have h10 := @run_callFunc_extern Tryz.prog 88 _ ReflectliteType.typeOf Tryz.func88 (by kernel_rfl) (by kernel_rfl) (by kernel_rfl) (by kernel_rfl)
  have h35 := @run_callFunc_extern Tryz.prog 203 _ (ReflectliteType.relation "AssignableTo" ReflectliteType.assignableTo) Tryz.func203 (by kernel_rfl) (by kernel_rfl) (by kernel_rfl) (by kernel_rfl)
  have tO := fa_typeOfJ
  have mA := fa_methodAssignableTo
  have mU := fa_methodUnwrap
  have aJ := fa_assignJ
  have n1 := fa_noAs
  have n2 := fa_noUn
  have n3 := fa_un
  have hal : a.block < w.heap.size := World.block_lt_of_cell? _ _ ha
  have hjl : j.block < w.heap.size := World.block_lt_of_cell? _ _ hj
  have hcl : c.block < w.heap.size := World.block_lt_of_cell? _ _ hc
  have ha1 : (w.alloc (.cells #[.pointer (some ⟨11, 69, none⟩), .pointer (some a), .int .u64 150] 102)).cell? a = some (.pointer (some t)) := by rw [World.cell?_alloc_lt _ _ a hal]; exact ha
  have hj1 : (w.alloc (.cells #[.pointer (some ⟨11, 69, none⟩), .pointer (some a), .int .u64 150] 102)).cell? j = some (.slice (some c) 1 n) := by rw [World.cell?_alloc_lt _ _ j hjl]; exact hj
  have hc1 : (w.alloc (.cells #[.pointer (some ⟨11, 69, none⟩), .pointer (some a), .int .u64 150] 102)).cell? c = some (.iface 67 (.agg #[x, y])) := by rw [World.cell?_alloc_lt _ _ c hcl]; exact hc
  obtain ⟨cb, co, cs⟩ := c
  obtain rfl : cs = none := (cell_kof hc).1
  go_enter Tryz.func58, Tryz.ntmps58
  go_wp2
  refine wp_loop_rounds 1 ?_
  rw [rounds_succ]
  go_wp2_with (first | (go_at_call 201; refine (un_ok j _ _ hj1).mono ?_; rintro ev w' ⟨rfl, rfl⟩))
  refine wp_loop_rounds 1 ?_
  rw [rounds_succ]
  go_wp2_with (first | (go_at_call 58; refine (as_in x y t a _ W' ha1 hs).mono ?_; rintro ev w' ⟨rfl, rfl⟩))
  go_ret
  exact ⟨rfl, rfl⟩
end Go.Proofs.YtgkjbpnmeeibbaaGreatDoor
/-
  errors.As at a joined error: the call. Own work.
-/
namespace Go.Proofs.YtgkjbpnmeeibbaaGreatDoor
open Go.RowKit Go.Extern.Stop Go.Stop Go.Extern Go.Aw

set_option maxHeartbeats 4000000 in
theorem as_top (x y : Value) (t j c : Addr) (n : Nat) (w W' : World) (hg : w.cell? ⟨0, 0, none⟩ = some (.iface 146 (.agg #[.pointer (some ⟨11, 63, none⟩)])))
    (hj : w.cell? j = some (.slice (some c) 1 n)) (hc : w.cell? c = some (.iface 67 (.agg #[x, y])))
    (hs : (storeCells t [x, y]).run Tryz.prog (((((w.alloc (.cells #[.pointer (some t)] 69)).alloc (.cells #[.pointer (some ⟨11, 69, none⟩), .pointer (some ⟨w.heap.size, 0, none⟩), .int .u64 150] 102)).alloc (.cells #[.pointer (some ⟨11, 69, none⟩), .pointer (some ⟨w.heap.size, 0, none⟩), .int .u64 150] 102)).alloc (.cells #[.pointer (some ⟨11, 69, none⟩), .pointer (some ⟨w.heap.size, 0, none⟩), .int .u64 150] 102)).alloc (.cells #[x, y] 67)) = .ok () W') :
    Calls Tryz.prog 28 #[.iface 142 (.pointer (some j)), .iface 69 (.pointer (some t))] w fun ev w' => ev = .returned (.bool true) ∧
      w' = W' := by
  have h6 := @run_callFunc_extern Tryz.prog 55 _ (fun args => ReflectliteValue.unpack (args.getD 0 (.tuple #[]))) Tryz.func55 (by kernel_rfl) (by kernel_rfl) (by kernel_rfl) (by kernel_rfl)
  have h7 := @run_callFunc_extern Tryz.prog 56 _ (ReflectliteValue.methodAny (ReflectliteValue.valueError "reflectlite.Value.Type" 0) (fun t _ _ _ => ReflectliteType.toType t)) Tryz.func56 (by kernel_rfl) (by kernel_rfl) (by kernel_rfl) (by kernel_rfl)
  have h8 := @run_callFunc_extern Tryz.prog 57 _ (ReflectliteValue.method (ReflectliteValue.valueError "reflectlite.Value.IsNil" 0) ReflectliteValue.isNil) Tryz.func57 (by kernel_rfl) (by kernel_rfl) (by kernel_rfl) (by kernel_rfl)
  have h27 := @run_callFunc_extern Tryz.prog 192 _ (ReflectliteType.abiMethod fun t => do pure (.int .u8 (← Rtype.kind t))) Tryz.func192 (by kernel_rfl) (by kernel_rfl) (by kernel_rfl) (by kernel_rfl)
  have h37 := @run_callFunc_extern Tryz.prog 205 _ (ReflectliteType.method ReflectliteType.elem) Tryz.func205 (by kernel_rfl) (by kernel_rfl) (by kernel_rfl) (by kernel_rfl)
  have h38 := @run_callFunc_extern Tryz.prog 206 _ (ReflectliteType.relation "Implements" ReflectliteType.implements_) Tryz.func206 (by kernel_rfl) (by kernel_rfl) (by kernel_rfl) (by kernel_rfl)
  have f6 := fa_valueOfP
  have f7 := fa_typeP
  have mK := fa_methodKind
  have mE := fa_methodElem
  have mI := fa_methodImplements
  have k27 := fa_kindP
  have k25 := fa_kindT
  have e27 := fa_elemP
  have i25 := fa_implements
  have n8 := fa_isNil ⟨w.heap.size, 0, none⟩ t ((w.alloc (.cells #[.pointer (some t)] 69)).alloc (.cells #[.pointer (some ⟨11, 69, none⟩), .pointer (some ⟨w.heap.size, 0, none⟩), .int .u64 150] 102)) (by simp)
  have hgl := World.block_lt_of_cell? _ _ hg
  have hjl := World.block_lt_of_cell? _ _ hj
  have hcl := World.block_lt_of_cell? _ _ hc
  have old2 : ∀ (x : Addr), x.block < w.heap.size → ((w.alloc (.cells #[.pointer (some t)] 69)).alloc (.cells #[.pointer (some ⟨11, 69, none⟩), .pointer (some ⟨w.heap.size, 0, none⟩), .int .u64 150] 102)).cell? x = w.cell? x := fun x hx => by
    rw [World.cell?_alloc_lt _ _ x (by simp; omega), World.cell?_alloc_lt _ _ x hx]
  have hg2 := (old2 _ hgl).trans hg
  have hj2 := (old2 _ hjl).trans hj
  have hc2 := (old2 _ hcl).trans hc
  have ha2 : ((w.alloc (.cells #[.pointer (some t)] 69)).alloc (.cells #[.pointer (some ⟨11, 69, none⟩), .pointer (some ⟨w.heap.size, 0, none⟩), .int .u64 150] 102)).cell? ⟨w.heap.size, 0, none⟩ = some (.pointer (some t)) := by
    rw [World.cell?_alloc_lt _ _ ⟨w.heap.size, 0, none⟩ (by simp)]; simp
  go_enter Tryz.func28, Tryz.ntmps28
  go_wp2_with (first | (go_at_call 58; refine (as_out x y t ⟨w.heap.size, 0, none⟩ j c n _ W' ha2 hj2 hc2 hs).mono ?_; rintro ev w' ⟨rfl, rfl⟩))
  go_ret
  exact ⟨rfl, rfl⟩
theorem asNil_ok (t : AV) (R : List En) : ACall Tryz.prog 28 [.nilif, t] R (fun r S => r = .bool false ∧ S = R) := by
  refine ACall_pure fun w0 K w vs hv hS => ?_
  obtain ⟨x, r, rfl, hx, hr⟩ := hv.cons_inv
  obtain ⟨y, r', rfl, hy, hr'⟩ := hr.cons_inv
  obtain rfl := hr'.nil_inv
  cases hx
  refine (as_nil y w).mono ?_
  rintro e w' ⟨rfl, rfl⟩
  exact ⟨_, rfl, .bool _, Below.refl _ _⟩
/-- what errors.As reads -/
def AsG (R : List En) : Prop := En.glob 0 [.ifc 146 (.agg [.ptr 11 63])] ∈ R
theorem as_ok (t : Nat) (o1 o2 : AV) (m n : Int) (tk : Tk) (R : List En) (hG : AsG R) :
    ACall Tryz.prog 28 [.ifc 142 (.ref [.sl 1 [.ifc 67 (.agg [.int .i64 m, .int .i64 n])] tk]), .ifc 69 (.ptr t 0)] (.cells t [o1, o2] :: R) (fun r S => r = .bool true ∧ S = .cells t [.int .i64 m, .int .i64 n] :: R) := by
  unfold ACall
  intro w0 K w vs hv hS
  rw [callsIn_wide]
  obtain ⟨v1, r, rfl, hx, hr⟩ := hv.cons_inv
  obtain ⟨v2, r', rfl, hy, hr'⟩ := hr.cons_inv
  obtain rfl := hr'.nil_inv
  cases hy with
  | ifc _ hy =>
  cases hy
  cases hx with
  | ifc _ hx =>
  cases hx with
  | @ref _ jb jo vs1 h1 hl h hk =>
  obtain ⟨s, hs, hsr⟩ := RelL.get (show RelL K [.sl 1 [.ifc 67 (.agg [.int .i64 m, .int .i64 n])] tk] vs1 from ⟨hl, h⟩) (i := 0) rfl
  have hj := hS.kcell _ _ _ (hk 0 _ hs)
  cases hsr with
  | @sl _ _ _ cb co cap vs2 hcap hmax hsz hone hl2 h2 hk2 htk =>
  obtain ⟨u, hu, hur⟩ := RelL.get (show RelL K (flat [.ifc 67 (.agg [.int .i64 m, .int .i64 n])]) vs2 from ⟨hl2, h2⟩) (i := 0) rfl
  have hc := hS.kcell _ _ _ (hk2 0 _ hu)
  cases hur with
  | ifc _ hur =>
  cases hur with
  | @agg _ vs3 g1 gl g =>
  obtain ⟨z1, r1, hz1, hr1, ht1⟩ := RelL.cons_inv (show RelL K [.int .i64 m, .int .i64 n] vs3 from ⟨gl, g⟩)
  obtain ⟨z2, r2, hz2, hr2, ht2⟩ := ht1.cons_inv
  obtain rfl := ht2.nil_inv
  subst hz2 hz1
  cases hr1
  cases hr2
  have hgl : ∃ fr, w.cell? ⟨0, 0, none⟩ = some (.iface 146 (.agg #[.pointer (some ⟨11, 63, none⟩)])) ∧ fr = 0 := by
    obtain ⟨_, _, vs4, T, fr, hh, hr4, hk4⟩ := hS.ents _ (List.mem_cons_of_mem _ hG)
    obtain ⟨y, hy, hyr⟩ := hr4.get (i := 0) rfl
    cases hyr with
    | ifc _ hyr =>
      cases hyr with
      | @agg _ us u1 ul uh =>
        obtain ⟨z, rz, hz1, hz2, hz3⟩ := RelL.cons_inv (show RelL K [.ptr 11 63] us from ⟨ul, uh⟩)
        obtain rfl := hz3.nil_inv
        cases hz2
        subst hz1
        exact ⟨0, hS.kcell _ _ _ (hk4 0 _ hy), rfl⟩
  obtain ⟨_, hg, _⟩ := hgl
  have hb : Below w.heap.size w (((((w.alloc (.cells #[.pointer (some ⟨t, 0, none⟩)] 69)).alloc (.cells #[.pointer (some ⟨11, 69, none⟩), .pointer (some ⟨w.heap.size, 0, none⟩), .int .u64 150] 102)).alloc (.cells #[.pointer (some ⟨11, 69, none⟩), .pointer (some ⟨w.heap.size, 0, none⟩), .int .u64 150] 102)).alloc (.cells #[.pointer (some ⟨11, 69, none⟩), .pointer (some ⟨w.heap.size, 0, none⟩), .int .u64 150] 102)).alloc (.cells #[.int .i64 m, .int .i64 n] 67)) := by
    have b1 := (Below.refl w.heap.size w).alloc (Nat.le_refl _) (.cells #[.pointer (some ⟨t, 0, none⟩)] 69)
    have b2 := b1.alloc b1.size (.cells #[.pointer (some ⟨11, 69, none⟩), .pointer (some ⟨w.heap.size, 0, none⟩), .int .u64 150] 102)
    have b3 := b2.alloc b2.size (.cells #[.pointer (some ⟨11, 69, none⟩), .pointer (some ⟨w.heap.size, 0, none⟩), .int .u64 150] 102)
    have b4 := b3.alloc b3.size (.cells #[.pointer (some ⟨11, 69, none⟩), .pointer (some ⟨w.heap.size, 0, none⟩), .int .u64 150] 102)
    exact b4.alloc b4.size _
  have hS1 := hS.grown hb
  rename_i hm hn
  obtain ⟨w2, hw2, hS2⟩ := hS1.stored (p := 0) (off := 0) rfl (RelL.cons (.int .i64 m (by assumption)) (RelL.cons (.int .i64 n (by assumption)) RelL.nil)) (by intro c hc; simp at hc; rcases hc with rfl | rfl <;> rfl) (by simp) Tryz.prog
  refine (as_top (.int .i64 m) (.int .i64 n) ⟨t, 0, none⟩ ⟨jb, jo, none⟩ ⟨cb, co, none⟩ cap w w2 hg hj hc hw2).mono ?_
  rintro ev w' ⟨rfl, rfl⟩
  exact ⟨_, K, .bool true, _, rfl, Kle.refl K, .bool true, hS2, rfl, rfl⟩
end Go.Proofs.YtgkjbpnmeeibbaaGreatDoor
/-
  errors.Join of one error, or of none. Own work.
-/
namespace Go.Proofs.YtgkjbpnmeeibbaaGreatDoor
open Go.Aw Go.RowKit Tree
set_option maxHeartbeats 4000000
set_option maxRecDepth 4000
open Rel (V encV encR)

theorem AW_freezeI {P : Program} {N : Nat} {rd : Option Nat} {E : Env} {S : List En} {k : Kt} {c : Code} (t : Nat) {T : TypeId} {p b : Nat} {cs : List AV} (he : lk E.l t = .ifc T (.ptr b 0)) (hp : S[p]? = some (.cells b cs)) (h : AW P N rd c ⟨(t, .ifc T (.ref cs)) :: E.l, E.m⟩ (S.eraseIdx p) k) : AW P N rd c E S k := by
  refine AW_weak ?_ h
  intro w0 N K a w hE hS
  have hSp := hS.perm (erase_perm hp)
  obtain ⟨K', hK, h1, vs, e1, hr, ho⟩ := hSp.freeze (p := 0) rfl
  refine ⟨K', hK, ⟨hE.size, fun i => ?_, hE.defers⟩, h1⟩
  simp only [lk]
  by_cases hi : t = i
  · subst hi
    rw [Nat.beq_refl]
    have hv := hE.slot t
    rw [he] at hv
    generalize a.tmps.getD t undef = v at hv
    show Rel K' (.ifc T (.ref cs)) v
    cases hv with
    | ifc _ hv =>
      cases hv
      exact .ifc _ (.ref ho hr.1 hr.2 (fun i v hv => by rw [Nat.zero_add, e1]; exact hv))
  · rw [natBeq_ne hi]
    exact (hE.slot i).mono hK

theorem join1_ok (E : AV) (tk : Tk) (R : List En) : ACall Tryz.prog 54 [.sl 1 [.ifc 67 E] tk] R (fun r S => ∃ tk', r = .ifc 142 (.ref [.sl 1 [.ifc 67 E] tk']) ∧ S = R) := by
  refine ACall_body tab_ok Tryz.func54 rfl rfl rfl (by kernel_rfl) (Nat.le_of_ble_eq_true rfl) ?_
  repeat (first | refine go_ ?_ | intro _)
  refine AW_for (α := Nat) (fun z => ⟨[(0, .sl 1 [.ifc 67 E] tk), (3, .int .i64 (z : Nat)), (9, .sl 1 [.ifc 67 E] tk), (10, .int .i64 (1 : Nat)), (11, .int .i64 (z : Nat))], []⟩) (fun z => R) (fun z => 1 - z) (fun z => z ≤ 1) (0) ?_ (weak_of ?_ rfl ?_) (fun z hz => ?_)
  · omega
  · repeat (first | exact trivial | refine env_ ?_)
  · repeat (first | exact SLe.rfl | refine SLe.tail ?_ | refine SLe.full ?_)
  repeat (first | refine go_ ?_ | intro _)
  refine AW_iff (z < 1) rfl (by first | (simp; done) | (simp <;> omega) | decide) (fun h => ?_) (fun h => ?_)
  · obtain rfl : z = 0 := by omega
    repeat (first | refine go_ ?_ | intro _)
    refine ⟨by decide, _, rfl, ?_⟩
    repeat (first | refine go_ ?_ | intro _)
    refine AW_true (b := true) rfl (by first | rfl | (simp; done) | (simp; omega) | decide) ?_
    repeat (first | refine go_ ?_ | intro _)
    refine ⟨1, ?_, ?_, weak_of ?_ rfl ?_⟩
    · omega
    · omega
    · repeat (first | exact trivial | refine env_ ?_)
    · repeat (first | exact SLe.rfl | refine SLe.tail ?_ | refine SLe.full ?_)
  obtain rfl : z = 1 := by omega
  repeat (first | refine go_ ?_ | intro _)
  refine AW_false (b := false) rfl (by first | rfl | (simp; done) | (simp; omega) | decide) ?_
  repeat (first | refine go_ ?_ | intro _)
  refine ⟨0, 1, rfl, rfl, Nat.zero_le _, room (by first | omega | (simp; omega)) rfl, .inl ⟨rfl, fun t1 => ?_⟩⟩
  repeat (first | refine go_ ?_ | intro _)
  rename_i b
  refine AW_for (α := Nat × List AV × Tk) (fun z => ⟨[(0, .sl 1 [.ifc 67 E] tk), (6, .ptr b 0), (26, .sl 1 [.ifc 67 E] tk), (27, .int .i64 (1 : Nat)), (28, .int .i64 (z.1 : Nat))], []⟩) (fun z => .cells b [.sl 1 z.2.1 z.2.2] :: .grow z.2.2 :: R) (fun z => 1 - z.1) (fun z => (z.1 = 0 ∧ z.2.1 = []) ∨ (z.1 = 1 ∧ z.2.1 = [.ifc 67 E])) ((0, [], t1)) ?_ (weak_of ?_ rfl ?_) (fun z hz => ?_)
  · exact .inl ⟨rfl, rfl⟩
  · repeat (first | exact trivial | refine env_ ?_)
  · repeat (first | exact SLe.rfl | refine SLe.tail ?_ | refine SLe.full ?_)
  obtain ⟨z, es, t2⟩ := z
  rcases hz with ⟨z1, z2⟩ | ⟨z1, z2⟩
  · simp only [] at z1 z2
    subst z1 z2
    repeat (first | refine go_ ?_ | intro _)
    refine AW_true (b := true) rfl (by first | rfl | (simp; done) | (simp; omega) | decide) ?_
    repeat (first | refine go_ ?_ | intro _)
    refine ⟨Int.le_refl 0, _, rfl, ?_⟩
    repeat (first | refine go_ ?_ | intro _)
    refine AW_true (b := true) rfl (by first | rfl | (simp; done) | (simp; omega) | decide) ?_
    repeat (first | refine go_ ?_ | intro _)
    refine ⟨room (by first | omega | (simp; done) | (simp; omega) | (simp at *; done) | (simp at *; omega)) rfl, .inl rfl, .inr (.inl ⟨rfl, 1, rfl, _, rfl, fun t1 => ?_⟩)⟩
    repeat (first | refine go_ ?_ | intro _)
    refine ⟨((1, [.ifc 67 E], t1) : Nat × List AV × Tk), ?_, ?_, weak_of ?_ rfl ?_⟩
    · exact Nat.sub_lt_sub_left (show 0 < 1 by decide) (Nat.lt_succ_self 0)
    · exact .inr ⟨rfl, rfl⟩
    · repeat (first | exact trivial | refine env_ ?_)
    · repeat (first | exact SLe.rfl | refine SLe.tail ?_ | refine SLe.full ?_)
  · simp only [] at z1 z2
    subst z1 z2
    repeat (first | refine go_ ?_ | intro _)
    refine AW_false (b := false) rfl (by first | rfl | (simp; done) | (simp; omega) | decide) ?_
    repeat (first | refine go_ ?_ | intro _)
    refine AW_freezeI 2 (p := 0) rfl rfl ?_
    refine AW_ret ?_
    exact ⟨_, R, AVle.refl _, SLe.tail SLe.rfl, _, rfl, rfl⟩
theorem join0_ok (tk : Tk) (R : List En) : ACall Tryz.prog 54 [.sl 1 [.nilif] tk] R (fun r S => r = .nilif ∧ S = R) := by
  refine ACall_body tab_ok Tryz.func54 rfl rfl rfl (by kernel_rfl) (Nat.le_of_ble_eq_true rfl) ?_
  repeat (first | refine go_ ?_ | intro _)
  refine AW_for (α := Nat) (fun z => ⟨[(0, .sl 1 [.nilif] tk), (3, .int .i64 (0 : Nat)), (9, .sl 1 [.nilif] tk), (10, .int .i64 (1 : Nat)), (11, .int .i64 (z : Nat))], []⟩) (fun z => R) (fun z => 1 - z) (fun z => z ≤ 1) (0) ?_ (weak_of ?_ rfl ?_) (fun z hz => ?_)
  · omega
  · repeat (first | exact trivial | refine env_ ?_)
  · repeat (first | exact SLe.rfl | refine SLe.tail ?_ | refine SLe.full ?_)
  repeat (first | refine go_ ?_ | intro _)
  refine AW_iff (z < 1) rfl (by first | (simp; done) | (simp <;> omega) | decide) (fun h => ?_) (fun h => ?_)
  · obtain rfl : z = 0 := by omega
    repeat (first | refine go_ ?_ | intro _)
    refine ⟨by decide, _, rfl, ?_⟩
    repeat (first | refine go_ ?_ | intro _)
    refine AW_false (b := false) rfl (by first | rfl | (simp; done) | (simp; omega) | decide) ?_
    repeat (first | refine go_ ?_ | intro _)
    refine ⟨1, ?_, ?_, weak_of ?_ rfl ?_⟩
    · omega
    · omega
    · repeat (first | exact trivial | refine env_ ?_)
    · repeat (first | exact SLe.rfl | refine SLe.tail ?_ | refine SLe.full ?_)
  obtain rfl : z = 1 := by omega
  repeat (first | refine go_ ?_ | intro _)
  refine AW_true (b := true) rfl (by first | rfl | (simp; done) | (simp; omega) | decide) ?_
  repeat (first | refine go_ ?_ | intro _)
  refine AW_ret ?_
  repeat refine mk_ ?_
  refine ⟨_, R, AVle.eq ?_, sle_, rfl, rfl⟩
  rfl
end Go.Proofs.YtgkjbpnmeeibbaaGreatDoor
