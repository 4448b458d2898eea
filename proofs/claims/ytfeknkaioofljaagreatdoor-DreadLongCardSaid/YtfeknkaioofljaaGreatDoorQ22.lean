/-
 errors.As at a joined error. Own work (after the kit's worked text ToyasAs).
-/
import Derived.Test.YtfeknkaioofljaaGreatDoorQ3
import Derived.Test.YtfeknkaioofljaaGreatDoorBld
import Derived.Test.YtfeknkaioofljaaGreatDoorQ21
import Derived.Test.YtfeknkaioofljaaGreatDoorQ15
import Derived.Test.YtfeknkaioofljaaGreatDoorQ8
set_option linter.all false
set_option maxHeartbeats 4000000
set_option maxRecDepth 4000
namespace Go.Proofs.YtfeknkaioofljaaGreatDoor
open Go.RowKit Go.Extern.Stop Go.Stop Go.Extern Go.Aw
theorem as_nil (t : Value) (w : World) :
  Calls Tryz.prog 21 #[.nilIface,t] w fun e w' => e = .returned (.bool false) ∧ w' = w := by
 go_enter Tryz.func21,Tryz.ntmps21
 go_wp2
 go_ret
 exact ⟨rfl,rfl⟩
theorem fa_valueOfP (t : Addr) (w : World) : (ReflectliteValue.unpack (.iface 74 (.pointer (some t)))).run Tryz.prog w
  = .ok (.agg #[.pointer (some ⟨9,74,none⟩), .pointer (some ⟨w.heap.size,0,none⟩), .int .u64 150]) (w.alloc (.cells #[.pointer (some t)] 74)) := by kernel_rfl
theorem fa_typeP (a : Addr) (w : World) : (ReflectliteValue.methodAny (ReflectliteValue.valueError "reflectlite.Value.Type" 0) (fun t _ _ _ => ReflectliteType.toType t) #[(.agg #[.pointer (some ⟨9, 74, none⟩), .pointer (some a), .int .u64 150])]).run Tryz.prog w
  = .ok (.iface 162 (.agg #[.pointer (some ⟨9,74,none⟩)])) w := by kernel_rfl
theorem fa_methodKind (h : Value) (w : World) : (Go.method 395 162 (.agg #[h]) "Kind").run Tryz.prog w = .ok (228, h) w := by kernel_rfl
theorem fa_kindP (w : World) : ((ReflectliteType.abiMethod fun t => (fun a : Nat => Value.int IntKind.u8 (a : Int)) <$> Rtype.kind t) #[.pointer (some ⟨9,74,none⟩)]).run Tryz.prog w = .ok (.int .u8 22) w := by kernel_rfl
theorem fa_kindT (w : World) : ((ReflectliteType.abiMethod fun t => (fun a : Nat => Value.int IntKind.u8 (a : Int)) <$> Rtype.kind t) #[.pointer (some ⟨9,73,none⟩)]).run Tryz.prog w = .ok (.int .u8 25) w := by kernel_rfl
theorem fa_rlm (z : Sem Value) (f : TypeId → Addr → Nat → Nat → Sem Value) (v : Value) :
  ReflectliteValue.method z f #[v] = (do match ← ReflectliteValue.parts v with | none => z | some (t,a,fl) => f t a fl (fl % 32)) := rfl
theorem fa_partsP (a : Addr) (w : World) : (ReflectliteValue.parts (.agg #[.pointer (some ⟨9,74,none⟩), .pointer (some a), .int .u64 150])).run Tryz.prog w = .ok (some (74,a,150)) w := by kernel_rfl
theorem fa_isNil (a p : Addr) (W : World) (ha : W.cell? a = some (.pointer (some p))) :
  (ReflectliteValue.method (ReflectliteValue.valueError "reflectlite.Value.IsNil" 0) ReflectliteValue.isNil #[(.agg #[.pointer (some ⟨9, 74, none⟩), .pointer (some a), .int .u64 150])]).run Tryz.prog W = .ok (.bool false) W := by
 rw [fa_rlm]
 simp only [Sem.run_bind,fa_partsP,Result.andThen]
 simp [ReflectliteValue.isNil,loadVar,isAgg,underlying,Tryz.underlying74,ha,Result.andThen]
theorem fa_methodElem (h : Value) (w : World) : (Go.method 395 162 (.agg #[h]) "Elem").run Tryz.prog w = .ok (242, .agg #[h]) w := by kernel_rfl
theorem fa_methodImplements (h : Value) (w : World) : (Go.method 395 162 (.agg #[h]) "Implements").run Tryz.prog w = .ok (243, .agg #[h]) w := by kernel_rfl
theorem fa_methodAssignableTo (h : Value) (w : World) : (Go.method 395 162 (.agg #[h]) "AssignableTo").run Tryz.prog w = .ok (240, .agg #[h]) w := by kernel_rfl
theorem fa_elemP (w : World) : (ReflectliteType.method ReflectliteType.elem #[.agg #[.pointer (some ⟨9,74,none⟩)]]).run Tryz.prog w = .ok (.iface 162 (.agg #[.pointer (some ⟨9,73,none⟩)])) w := by kernel_rfl
theorem fa_implements (w : World) : (ReflectliteType.relation "Implements" ReflectliteType.implements_ #[.agg #[.pointer (some ⟨9, 73, none⟩)], .iface 162 (.agg #[.pointer (some ⟨9, 55, none⟩)])]).run Tryz.prog w = .ok (.bool true) w := by kernel_rfl
theorem fa_typeOfT (v : Value) (w : World) : (ReflectliteType.typeOf #[.iface 73 v]).run Tryz.prog w = .ok (.iface 162 (.agg #[.pointer (some ⟨9,73,none⟩)])) w := by kernel_rfl
theorem fa_typeOfJ (v : Value) (w : World) : (ReflectliteType.typeOf #[.iface 110 v]).run Tryz.prog w = .ok (.iface 162 (.agg #[.pointer (some ⟨9,110,none⟩)])) w := by kernel_rfl
theorem fa_assignT (w : World) : (ReflectliteType.relation "AssignableTo" ReflectliteType.assignableTo #[.agg #[.pointer (some ⟨9, 73, none⟩)], .iface 162 (.agg #[.pointer (some ⟨9, 73, none⟩)])]).run Tryz.prog w = .ok (.bool true) w := by kernel_rfl
theorem fa_assignJ (w : World) : (ReflectliteType.relation "AssignableTo" ReflectliteType.assignableTo #[.agg #[.pointer (some ⟨9, 110, none⟩)], .iface 162 (.agg #[.pointer (some ⟨9, 73, none⟩)])]).run Tryz.prog w = .ok (.bool false) w := by kernel_rfl
theorem fa_valueOfT (x y : Value) (w : World) : (ReflectliteValue.unpack (.iface 73 (.agg #[x,y]))).run Tryz.prog w
  = .ok (.agg #[.pointer (some ⟨9,73,none⟩), .pointer (some ⟨w.heap.size,0,none⟩), .int .u64 153]) (w.alloc (.cells #[x,y] 73)) := by kernel_rfl
theorem fa_elemOf (w : World) : (Rtype.elem? 74).run Tryz.prog w = .ok (some 73) w := by kernel_rfl
theorem fa_mk (p : Addr) (w : World) : (ReflectliteValue.mk 73 p ReflectliteValue.flagAddr).run Tryz.prog w = .ok (.agg #[.pointer (some ⟨9,73,none⟩), .pointer (some p), .int .u64 409]) w := by kernel_rfl
theorem fa_elemV (a p : Addr) (W : World) (ha : W.cell? a = some (.pointer (some p))) :
  (ReflectliteValue.method (ReflectliteValue.valueError "reflectlite.Value.Elem" 0) ReflectliteValue.elem #[(.agg #[.pointer (some ⟨9, 74, none⟩), .pointer (some a), .int .u64 150])]).run Tryz.prog W = .ok (.agg #[.pointer (some ⟨9, 73, none⟩), .pointer (some p), .int .u64 409]) W := by
 rw [fa_rlm]
 simp only [Sem.run_bind,fa_partsP,Result.andThen]
 simp [ReflectliteValue.elem,loadVar,isAgg,underlying,Tryz.underlying74,ha,Result.andThen,fa_elemOf,fa_mk]
theorem fa_rls (v x : Value) : ReflectliteValue.set #[v,x] = (do
  let (some (dst,a,fl),some (src,b,_)) := (← ReflectliteValue.parts v, ← ReflectliteValue.parts x)
   | unsupported (.noEntry "extern/(internal/reflectlite.Value).Set.zeroValue")
  if fl / ReflectliteValue.flagAddr % 2 == 0 then unsupported (.noEntry "extern/(internal/reflectlite.Value).Set.unaddressable")
  let val ← loadVar src b
  if ← Rtype.directlyAssignable dst src then storeVar dst a val
  else if ← Rtype.implements dst src then
   if (← Rtype.kind src) == 20 then
    match val with
    | .nilIface => unsupported (.noEntry "extern/reflectlite: a nil value of one interface type handed on as a value of another")
    | _ => storeVar dst a val
   else storeVar dst a (.iface src val)
  else panicString ("reflectlite.Set: value of type " ++ (← Rtype.spelt src) ++ " is not assignable to type " ++ (← Rtype.spelt dst))
  pure (.tuple #[])) := rfl
theorem fa_partsS (a : Addr) (w : World) : (ReflectliteValue.parts (.agg #[.pointer (some ⟨9,73,none⟩), .pointer (some a), .int .u64 409])).run Tryz.prog w = .ok (some (73,a,409)) w := by kernel_rfl
theorem fa_partsT (a : Addr) (w : World) : (ReflectliteValue.parts (.agg #[.pointer (some ⟨9,73,none⟩), .pointer (some a), .int .u64 153])).run Tryz.prog w = .ok (some (73,a,153)) w := by kernel_rfl
theorem fa_direct (w : World) : (Rtype.directlyAssignable 73 73).run Tryz.prog w = .ok true w := by kernel_rfl
theorem fa_size (w : World) : (sizeOf 73).run Tryz.prog w = .ok 2 w := by kernel_rfl
theorem fa_load (b : Addr) (x y : Value) (W : World) (h1 : W.cell? b = some x) (h2 : W.cell? (b.add 1) = some y) : (loadVar 73 b).run Tryz.prog W = .ok (.agg #[x,y]) W := by
 have h0 : W.cell? (b.add 0) = some x := h1
 simp [loadVar,isAgg,underlying,Tryz.underlying73,Result.andThen,fa_size,loadCells,loadCellsFrom,h0,h2]
theorem fa_set (ta b : Addr) (x y : Value) (W W' : World) (hb : W.cell? b = some x) (hb2 : W.cell? (b.add 1) = some y) (hs : (storeCells ta [x,y]).run Tryz.prog W = .ok () W') :
  (ReflectliteValue.set #[(.agg #[.pointer (some ⟨9,73,none⟩), .pointer (some ta), .int .u64 409]),(.agg #[.pointer (some ⟨9,73,none⟩), .pointer (some b), .int .u64 153])]).run Tryz.prog W = .ok (.tuple #[]) W' := by
 rw [fa_rls]
 simp only [Sem.run_bind,fa_partsS,fa_partsT,Result.andThen]
 simp [ReflectliteValue.flagAddr,fa_load b x y W hb hb2,Result.andThen,fa_direct,storeVar,Value.cells,fa_size,hs]
theorem fa_noAs (v : Value) (w : World) : (Instr.typeAssert (.iface 110 v) 55 167 true).run Tryz.prog w = .ok (.tuple #[.nilIface, .bool false]) w := run_typeAssert_lacksB Tryz.underlying167 (by kernel_rfl) (by kernel_rfl) v 55 w
theorem fa_noUn (v : Value) (w : World) : (Instr.typeAssert (.iface 110 v) 55 170 true).run Tryz.prog w = .ok (.tuple #[.nilIface, .bool false]) w := run_typeAssert_lacksB Tryz.underlying170 (by kernel_rfl) (by kernel_rfl) v 55 w
theorem fa_un (v : Value) (w : World) : (Instr.typeAssert (.iface 110 v) 55 172 true).run Tryz.prog w = .ok (.tuple #[.iface 110 v, .bool true]) w := run_typeAssert_hasB Tryz.underlying172 (by kernel_rfl) v 55 w
theorem fa_methodUnwrap (v : Value) (w : World) : (Go.method 395 110 v "Unwrap").run Tryz.prog w = .ok (235, v) w := by kernel_rfl
theorem un_ok (j : Addr) (s : Value) (w : World) (hj : w.cell? j = some s) : Calls Tryz.prog 235 #[.pointer (some j)] w fun ev w' => ev = .returned s ∧ w' = w := by
 go_enter Tryz.func235,Tryz.ntmps235
 go_wp2
 go_ret
 exact ⟨rfl,rfl⟩
set_option maxHeartbeats 4000000 in
theorem as_in (x y : Value) (t a : Addr) (w W' : World) (ha : w.cell? a = some (.pointer (some t))) (hs : (storeCells t [x,y]).run Tryz.prog ((w.alloc (.cells #[.pointer (some ⟨9,74,none⟩), .pointer (some a), .int .u64 150] 116)).alloc (.cells #[x,y] 73)) = .ok () W') :
  Calls Tryz.prog 50 #[.iface 73 (.agg #[x,y]), .iface 74 (.pointer (some t)),(.agg #[.pointer (some ⟨9,74,none⟩), .pointer (some a), .int .u64 150]), .iface 162 (.agg #[.pointer (some ⟨9,73,none⟩)])] w fun ev w' => ev = .returned (.bool true) ∧
   w' = W' := by
 have h10 := @run_callFunc_extern Tryz.prog 89 _ ReflectliteType.typeOf Tryz.func89 (by kernel_rfl) (by kernel_rfl) (by kernel_rfl) (by kernel_rfl)
 have h35 := @run_callFunc_extern Tryz.prog 240 _ (ReflectliteType.relation "AssignableTo" ReflectliteType.assignableTo) Tryz.func240 (by kernel_rfl) (by kernel_rfl) (by kernel_rfl) (by kernel_rfl)
 have h6 := @run_callFunc_extern Tryz.prog 47 _ (fun args => ReflectliteValue.unpack (args.getD 0 (.tuple #[]))) Tryz.func47 (by kernel_rfl) (by kernel_rfl) (by kernel_rfl) (by kernel_rfl)
 have h11 := @run_callFunc_extern Tryz.prog 90 _ (ReflectliteValue.method (ReflectliteValue.valueError "reflectlite.Value.Elem" 0) ReflectliteValue.elem) Tryz.func90 (by kernel_rfl) (by kernel_rfl) (by kernel_rfl) (by kernel_rfl)
 have h12 := @run_callFunc_extern Tryz.prog 91 _ ReflectliteValue.set Tryz.func91 (by kernel_rfl) (by kernel_rfl) (by kernel_rfl) (by kernel_rfl)
 have tO := fa_typeOfT
 have mA := fa_methodAssignableTo
 have aT := fa_assignT
 have vT := fa_valueOfT
 have hal : a.block < w.heap.size := World.block_lt_of_cell? _ _ ha
 have el := fa_elemV a t (w.alloc (.cells #[.pointer (some ⟨9,74,none⟩), .pointer (some a), .int .u64 150] 116)) (by rw [World.cell?_alloc_lt _ _ a hal]; exact ha)
 have st := fa_set t ⟨w.heap.size + 1,0,none⟩ x y ((w.alloc (.cells #[.pointer (some ⟨9,74,none⟩), .pointer (some a), .int .u64 150] 116)).alloc (.cells #[x,y] 73)) W'
  (by rw [World.cell?_alloc_at _ _ _ _ (by simp)]; rfl)
  (by show World.cell? _ ⟨w.heap.size + 1,0 + 1,none⟩ = _; rw [World.cell?_alloc_at _ _ _ _ (by simp)]; rfl) hs
 go_enter Tryz.func50,Tryz.ntmps50
 go_wp2
 refine wp_loop_rounds 1 ?_
 rw [rounds_succ]
 go_wp2
 go_ret
 exact ⟨rfl,rfl⟩
set_option maxHeartbeats 4000000 in
theorem as_out (x y : Value) (t a j c : Addr) (n : Nat) (w W' : World) (ha : w.cell? a = some (.pointer (some t)))
  (hj : w.cell? j = some (.slice (some c) 1 n)) (hc : w.cell? c = some (.iface 73 (.agg #[x,y])))
  (hs : (storeCells t [x,y]).run Tryz.prog (((w.alloc (.cells #[.pointer (some ⟨9,74,none⟩), .pointer (some a), .int .u64 150] 116)).alloc (.cells #[.pointer (some ⟨9,74,none⟩), .pointer (some a), .int .u64 150] 116)).alloc (.cells #[x,y] 73)) = .ok () W') :
  Calls Tryz.prog 50 #[.iface 110 (.pointer (some j)), .iface 74 (.pointer (some t)),(.agg #[.pointer (some ⟨9,74,none⟩), .pointer (some a), .int .u64 150]), .iface 162 (.agg #[.pointer (some ⟨9,73,none⟩)])] w fun ev w' => ev = .returned (.bool true) ∧
   w' = W' := by
 have h10 := @run_callFunc_extern Tryz.prog 89 _ ReflectliteType.typeOf Tryz.func89 (by kernel_rfl) (by kernel_rfl) (by kernel_rfl) (by kernel_rfl)
 have h35 := @run_callFunc_extern Tryz.prog 240 _ (ReflectliteType.relation "AssignableTo" ReflectliteType.assignableTo) Tryz.func240 (by kernel_rfl) (by kernel_rfl) (by kernel_rfl) (by kernel_rfl)
 have tO := fa_typeOfJ
 have mA := fa_methodAssignableTo
 have mU := fa_methodUnwrap
 have aJ := fa_assignJ
 have n1 := fa_noAs
 have n2 := fa_noUn
 have n3 := fa_un
 have hal : a.block < w.heap.size := World.block_lt_of_cell? _ _ ha
 have hjl : j.block < w.heap.size := World.block_lt_of_cell? _ _ hj
 have hcl : c.block < w.heap.size := World.block_lt_of_cell? _ _ hc
 have ha1 : (w.alloc (.cells #[.pointer (some ⟨9,74,none⟩), .pointer (some a), .int .u64 150] 116)).cell? a = some (.pointer (some t)) := by rw [World.cell?_alloc_lt _ _ a hal]; exact ha
 have hj1 : (w.alloc (.cells #[.pointer (some ⟨9,74,none⟩), .pointer (some a), .int .u64 150] 116)).cell? j = some (.slice (some c) 1 n) := by rw [World.cell?_alloc_lt _ _ j hjl]; exact hj
 have hc1 : (w.alloc (.cells #[.pointer (some ⟨9,74,none⟩), .pointer (some a), .int .u64 150] 116)).cell? c = some (.iface 73 (.agg #[x,y])) := by rw [World.cell?_alloc_lt _ _ c hcl]; exact hc
 obtain ⟨cb,co,cs⟩ := c
 obtain rfl : cs = none := (cell_kof hc).1
 go_enter Tryz.func50,Tryz.ntmps50
 go_wp2
 refine wp_loop_rounds 1 ?_
 rw [rounds_succ]
 go_wp2_with (first | (go_at_call 235; refine (un_ok j _ _ hj1).mono ?_; rintro ev w' ⟨rfl,rfl⟩))
 refine wp_loop_rounds 1 ?_
 rw [rounds_succ]
 go_wp2_with (first | (go_at_call 50; refine (as_in x y t a _ W' ha1 hs).mono ?_; rintro ev w' ⟨rfl,rfl⟩))
 go_ret
 exact ⟨rfl,rfl⟩
set_option maxHeartbeats 4000000 in
theorem as_top (x y : Value) (t j c : Addr) (n : Nat) (w W' : World) (hg : w.cell? ⟨0,0,none⟩ = some (.iface 162 (.agg #[.pointer (some ⟨9,55,none⟩)])))
  (hj : w.cell? j = some (.slice (some c) 1 n)) (hc : w.cell? c = some (.iface 73 (.agg #[x,y])))
  (hs : (storeCells t [x,y]).run Tryz.prog (((((w.alloc (.cells #[.pointer (some t)] 74)).alloc (.cells #[.pointer (some ⟨9,74,none⟩), .pointer (some ⟨w.heap.size,0,none⟩), .int .u64 150] 116)).alloc (.cells #[.pointer (some ⟨9,74,none⟩), .pointer (some ⟨w.heap.size,0,none⟩), .int .u64 150] 116)).alloc (.cells #[.pointer (some ⟨9,74,none⟩), .pointer (some ⟨w.heap.size,0,none⟩), .int .u64 150] 116)).alloc (.cells #[x,y] 73)) = .ok () W') :
  Calls Tryz.prog 21 #[.iface 110 (.pointer (some j)), .iface 74 (.pointer (some t))] w fun ev w' => ev = .returned (.bool true) ∧
   w' = W' := by
 have h6 := @run_callFunc_extern Tryz.prog 47 _ (fun args => ReflectliteValue.unpack (args.getD 0 (.tuple #[]))) Tryz.func47 (by kernel_rfl) (by kernel_rfl) (by kernel_rfl) (by kernel_rfl)
 have h7 := @run_callFunc_extern Tryz.prog 48 _ (ReflectliteValue.methodAny (ReflectliteValue.valueError "reflectlite.Value.Type" 0) (fun t _ _ _ => ReflectliteType.toType t)) Tryz.func48 (by kernel_rfl) (by kernel_rfl) (by kernel_rfl) (by kernel_rfl)
 have h8 := @run_callFunc_extern Tryz.prog 49 _ (ReflectliteValue.method (ReflectliteValue.valueError "reflectlite.Value.IsNil" 0) ReflectliteValue.isNil) Tryz.func49 (by kernel_rfl) (by kernel_rfl) (by kernel_rfl) (by kernel_rfl)
 have h27 := @run_callFunc_extern Tryz.prog 228 _ (ReflectliteType.abiMethod fun t => do pure (.int .u8 (← Rtype.kind t))) Tryz.func228 (by kernel_rfl) (by kernel_rfl) (by kernel_rfl) (by kernel_rfl)
 have h37 := @run_callFunc_extern Tryz.prog 242 _ (ReflectliteType.method ReflectliteType.elem) Tryz.func242 (by kernel_rfl) (by kernel_rfl) (by kernel_rfl) (by kernel_rfl)
 have h38 := @run_callFunc_extern Tryz.prog 243 _ (ReflectliteType.relation "Implements" ReflectliteType.implements_) Tryz.func243 (by kernel_rfl) (by kernel_rfl) (by kernel_rfl) (by kernel_rfl)
 have f6 := fa_valueOfP
 have f7 := fa_typeP
 have mK := fa_methodKind
 have mE := fa_methodElem
 have mI := fa_methodImplements
 have k27 := fa_kindP
 have k25 := fa_kindT
 have e27 := fa_elemP
 have i25 := fa_implements
 have n8 := fa_isNil ⟨w.heap.size,0,none⟩ t ((w.alloc (.cells #[.pointer (some t)] 74)).alloc (.cells #[.pointer (some ⟨9,74,none⟩), .pointer (some ⟨w.heap.size,0,none⟩), .int .u64 150] 116)) (by simp)
 have hgl := World.block_lt_of_cell? _ _ hg
 have hjl := World.block_lt_of_cell? _ _ hj
 have hcl := World.block_lt_of_cell? _ _ hc
 have old2 : ∀ (x : Addr),x.block < w.heap.size → ((w.alloc (.cells #[.pointer (some t)] 74)).alloc (.cells #[.pointer (some ⟨9,74,none⟩), .pointer (some ⟨w.heap.size,0,none⟩), .int .u64 150] 116)).cell? x = w.cell? x := fun x hx => by
  rw [World.cell?_alloc_lt _ _ x (by simp; omega),World.cell?_alloc_lt _ _ x hx]
 have hg2 := (old2 _ hgl).trans hg
 have hj2 := (old2 _ hjl).trans hj
 have hc2 := (old2 _ hcl).trans hc
 have ha2 : ((w.alloc (.cells #[.pointer (some t)] 74)).alloc (.cells #[.pointer (some ⟨9,74,none⟩), .pointer (some ⟨w.heap.size,0,none⟩), .int .u64 150] 116)).cell? ⟨w.heap.size,0,none⟩ = some (.pointer (some t)) := by
  rw [World.cell?_alloc_lt _ _ ⟨w.heap.size,0,none⟩ (by simp)]; simp
 go_enter Tryz.func21,Tryz.ntmps21
 go_wp2_with (first | (go_at_call 50; refine (as_out x y t ⟨w.heap.size,0,none⟩ j c n _ W' ha2 hj2 hc2 hs).mono ?_; rintro ev w' ⟨rfl,rfl⟩))
 go_ret
 exact ⟨rfl,rfl⟩
theorem asNil_ok (t : AV) (R : List En) : ACall Tryz.prog 21 [.nilif,t] R (fun r S => r = .bool false ∧ S = R) := by
 refine ACall_pure fun w0 K w vs hv hS => ?_
 obtain ⟨x,r,rfl,hx,hr⟩ := hv.cons_inv
 obtain ⟨y,r',rfl,hy,hr'⟩ := hr.cons_inv
 obtain rfl := hr'.nil_inv
 cases hx
 refine (as_nil y w).mono ?_
 rintro e w' ⟨rfl,rfl⟩
 exact ⟨_,rfl, .bool _,Below.refl _ _⟩
def AsG (R : List En) : Prop := En.glob 0 [.ifc 162 (.agg [.ptr 9 55])] ∈ R
theorem as_ok (t : Nat) (o1 o2 : AV) (m n : Int) (tk : Tk) (R : List En) (hG : AsG R) :
  ACall Tryz.prog 21 [.ifc 110 (.ref [.sl 1 [.ifc 73 (.agg [.int .i64 m, .int .i64 n])] tk]), .ifc 74 (.ptr t 0)] (.cells t [o1,o2] :: R) (fun r S => r = .bool true ∧ S = .cells t [.int .i64 m, .int .i64 n] :: R) := by
 unfold ACall
 intro w0 K w vs hv hS
 rw [callsIn_wide]
 obtain ⟨v1,r,rfl,hx,hr⟩ := hv.cons_inv
 obtain ⟨v2,r',rfl,hy,hr'⟩ := hr.cons_inv
 obtain rfl := hr'.nil_inv
 cases hy with
 | ifc _ hy =>
 cases hy
 cases hx with
 | ifc _ hx =>
 cases hx with
 | @ref _ jb jo vs1 h1 hl h hk =>
 obtain ⟨s,hs,hsr⟩ := RelL.get (show RelL K [.sl 1 [.ifc 73 (.agg [.int .i64 m, .int .i64 n])] tk] vs1 from ⟨hl,h⟩) (i := 0) rfl
 have hj := hS.kcell _ _ _ (hk 0 _ hs)
 cases hsr with
 | @sl _ _ _ cb co cap vs2 hcap hmax hsz hone hl2 h2 hk2 htk =>
 obtain ⟨u,hu,hur⟩ := RelL.get (show RelL K (flat [.ifc 73 (.agg [.int .i64 m, .int .i64 n])]) vs2 from ⟨hl2,h2⟩) (i := 0) rfl
 have hc := hS.kcell _ _ _ (hk2 0 _ hu)
 cases hur with
 | ifc _ hur =>
 cases hur with
 | @agg _ vs3 g1 gl g =>
 obtain ⟨z1,r1,hz1,hr1,ht1⟩ := RelL.cons_inv (show RelL K [.int .i64 m, .int .i64 n] vs3 from ⟨gl,g⟩)
 obtain ⟨z2,r2,hz2,hr2,ht2⟩ := ht1.cons_inv
 obtain rfl := ht2.nil_inv
 subst hz2 hz1
 cases hr1
 cases hr2
 have hgl : ∃ fr,w.cell? ⟨0,0,none⟩ = some (.iface 162 (.agg #[.pointer (some ⟨9,55,none⟩)])) ∧ fr = 0 := by
  obtain ⟨_,_,vs4,T,fr,hh,hr4,hk4⟩ := hS.ents _ (List.mem_cons_of_mem _ hG)
  obtain ⟨y,hy,hyr⟩ := hr4.get (i := 0) rfl
  cases hyr with
  | ifc _ hyr =>
   cases hyr with
   | @agg _ us u1 ul uh =>
    obtain ⟨z,rz,hz1,hz2,hz3⟩ := RelL.cons_inv (show RelL K [.ptr 9 55] us from ⟨ul,uh⟩)
    obtain rfl := hz3.nil_inv
    cases hz2
    subst hz1
    exact ⟨0,hS.kcell _ _ _ (hk4 0 _ hy),rfl⟩
 obtain ⟨_,hg,_⟩ := hgl
 have hb : Below w.heap.size w (((((w.alloc (.cells #[.pointer (some ⟨t,0,none⟩)] 74)).alloc (.cells #[.pointer (some ⟨9,74,none⟩), .pointer (some ⟨w.heap.size,0,none⟩), .int .u64 150] 116)).alloc (.cells #[.pointer (some ⟨9,74,none⟩), .pointer (some ⟨w.heap.size,0,none⟩), .int .u64 150] 116)).alloc (.cells #[.pointer (some ⟨9,74,none⟩), .pointer (some ⟨w.heap.size,0,none⟩), .int .u64 150] 116)).alloc (.cells #[.int .i64 m, .int .i64 n] 73)) := by
  have b1 := (Below.refl w.heap.size w).alloc (Nat.le_refl _) (.cells #[.pointer (some ⟨t,0,none⟩)] 74)
  have b2 := b1.alloc b1.size (.cells #[.pointer (some ⟨9,74,none⟩), .pointer (some ⟨w.heap.size,0,none⟩), .int .u64 150] 116)
  have b3 := b2.alloc b2.size (.cells #[.pointer (some ⟨9,74,none⟩), .pointer (some ⟨w.heap.size,0,none⟩), .int .u64 150] 116)
  have b4 := b3.alloc b3.size (.cells #[.pointer (some ⟨9,74,none⟩), .pointer (some ⟨w.heap.size,0,none⟩), .int .u64 150] 116)
  exact b4.alloc b4.size _
 have hS1 := hS.grown hb
 rename_i hm hn
 obtain ⟨w2,hw2,hS2⟩ := hS1.stored (p := 0) (off := 0) rfl (RelL.cons (.int .i64 m (by assumption)) (RelL.cons (.int .i64 n (by assumption)) RelL.nil)) (by intro c hc; simp at hc; rcases hc with rfl | rfl <;> rfl) (by simp) Tryz.prog
 refine (as_top (.int .i64 m) (.int .i64 n) ⟨t,0,none⟩ ⟨jb,jo,none⟩ ⟨cb,co,none⟩ cap w w2 hg hj hc hw2).mono ?_
 rintro ev w' ⟨rfl,rfl⟩
 exact ⟨_,K, .bool true,_,rfl,Kle.refl K, .bool true,hS2,rfl,rfl⟩
end Go.Proofs.YtfeknkaioofljaaGreatDoor
namespace Go.Proofs.YtfeknkaioofljaaGreatDoor
open Go.Aw Go.RowKit Tree
open Lx (Tok)
theorem flG_cons {α : Type} {c : α → List AV} (x : α) (l : List α) : flG c (x :: l) = c x ++ flG c l := by simp [flG]
theorem flG_get {α : Type} {c : α → List AV} {sz : Nat} (hc : ∀ x,(c x).length = sz) : ∀ (l : List α) (i j : Nat) (h : i < l.length),j < sz → (flG c l)[i * sz + j]? = (c l[i])[j]?
 | [],i,j,h,_ => by simp at h
 | x :: l,0,j,_,hj => by
  rw [flG_cons,Nat.zero_mul,Nat.zero_add,List.getElem?_append_left (by rw [hc]; exact hj)]; rfl
 | x :: l,i + 1,j,h,hj => by
  have ih := flG_get hc l i j (by simpa using h) hj
  have e : (i + 1) * sz + j = sz + (i * sz + j) := by rw [Nat.add_mul]; omega
  rw [flG_cons,e,List.getElem?_append_right (by rw [hc]; omega),hc,Nat.add_sub_cancel_left,ih]; rfl
theorem flG_set {α : Type} {c : α → List AV} {sz : Nat} (hc : ∀ x,(c x).length = sz) {v : AV} {y : α} : ∀ (l : List α) (i j : Nat) (h : i < l.length),j < sz → (c l[i]).set j v = c y → (flG c l).set (i * sz + j) v = flG c (l.set i y)
 | [],i,j,h,_,_ => by simp at h
 | x :: l,0,j,_,hj,he => by
  have he : (c x).set j v = c y := he
  rw [show (x :: l).set 0 y = y :: l from rfl,flG_cons,flG_cons,Nat.zero_mul,Nat.zero_add,List.set_append_left _ _ (by rw [hc]; exact hj),he]
 | x :: l,i + 1,j,h,hj,he => by
  have ih := flG_set hc l i j (by simpa using h) hj (by simpa using he)
  have e : (i + 1) * sz + j = sz + (i * sz + j) := by rw [Nat.add_mul]; omega
  rw [show (x :: l).set (i + 1) y = x :: l.set i y from rfl,flG_cons,flG_cons,e,List.set_append_right _ _ (by rw [hc]; omega),hc,Nat.add_sub_cancel_left,ih]
theorem cD_len (x : De) : (cD x).length = 6 := rfl
def flagO (w : Bool) : Nat := if w = true then 3 else 4
theorem flag_get (w : Bool) (d : De) : (cD d)[flagO w]? = some (.bool (flag w d)) := by cases w <;> rfl
theorem flag_set (w : Bool) (d : De) : (cD d).set (flagO w) (.bool true) = cD (setF w d) := by cases w <;> rfl
theorem flag_lt (w : Bool) : flagO w < 6 := by cases w <;> decide
theorem mark_ok (rp : Nat) (L : List Tok) (hL : L.length ≤ 20000) (w : Bool) (f : FuncId) (hf : fnOk Tryz.prog f) (hc : ∀ b o R,ACall Tryz.prog f [.ptr b o] R (fun r S => r = .ptr b (o + flagO w) ∧ S = R)) (g : Gr De 6) (hl : g.l.length ≤ 1000) (ts : List Tok) (h : ts <:+ L) (hne : ts ≠ []) (R : List En) :
  ACall Tryz.prog 53 [.ptr rp 0,grL g, .fn (.func f) [] []] (RD rp L ts :: (grS cD g ++ R)) (fun r S => ∃ (g' : Gr De 6) (ts' : List Tok) (o : Option (Int × Int)),r = errO o ∧ S = RD rp L ts' :: (grS cD g' ++ R) ∧ ts' <:+ L ∧ grL g' = grL g ∧ g'.l.length = g.l.length ∧ ResO (markL w g.l ts) g'.l ts' o) := by
 have hts : ts.tail <:+ L := tail_suf.trans h
 have htt : ts.tail.tail <:+ L := tail_suf.trans hts
 obtain ⟨G,hG⟩ : ∃ G,G = grS cD g ++ R := ⟨_,rfl⟩
 rw [← hG]
 obtain ⟨t,ht⟩ : ∃ t,t = hd ts.tail 0 := ⟨_,rfl⟩
 have hm : markL w g.l ts = if nameT t = true then (match g.l.findIdx? (relB t.s) with
  | none => stopE ts.tail
  | some i => match g.l[i]? with
   | none => stopE ts.tail
   | some d => if flag w d = true then stopE ts.tail else .ok (g.l.set i (setF w d),ts.tail.tail)) else stopE ts.tail := by subst ht; rfl
 have hst : ∀ {α : Type},(stopE ts.tail : PR α) = .error (40,t.line) := by intro α; rw [stopE,ht]
 refine ACall_body tab_ok Tryz.func53 rfl rfl rfl (by kernel_rfl) (nb_ rfl) ?_
 repeat refine rg_ ?_
 refine AW_region tab_ok ?_
 repeat first|refine gr_ ?_|intro _
 repeat refine rg_ ?_
 refine AW_region tab_ok ?_
 repeat first|refine gr_ ?_|intro _
 refine AW_weak (weak_of (l := [(0, .ptr rp 0),(1,grL g),(2, .fn (.func f) [] [])]) (m := []) (S' := RD rp L ts.tail :: G) ?_ rfl (SLe.of_eq (congrArg (fun e => e :: _) (RD_next h hne hL)))) ?_
 ·exact e_
 repeat first|refine go_ ?_|intro _
 refine Or.inl ⟨⟨_,Tryz.func98,rfl,rfl⟩,ACall.mono ?_ (stop_ok rp L ts.tail hts hL G)⟩
 rintro _ S1 ⟨rfl,hS1⟩
 subst S1
 repeat first|refine gr_ ?_|intro _
 refine AW_weak (weak_of (l := [(0, .ptr rp 0),(1,grL g),(2, .fn (.func f) [] []),(7,faultE (40,(hd ts.tail 0).line))]) (m := []) (S' := RD rp L ts.tail :: G) e_ rfl w_) ?_
 repeat first|refine go_ ?_|intro _
 refine Or.inl ⟨⟨_,Tryz.func51,rfl,rfl⟩,ACall.mono ?_ (ahead_ok rp L ts.tail 0 hts hL (by decide) G)⟩
 rintro _ S1 ⟨rfl,hS1⟩
 subst S1
 repeat first|refine gr_ ?_|intro _
 rename_i b8
 rw [← ht]
 refine AW_weak (weak_of (l := [(0, .ptr rp 0),(1,grL g),(2, .fn (.func f) [] []),(7,faultE (40,t.line)),(8, .ptr b8 0)]) (m := []) (S' := .cells b8 [.int .i64 t.kind, .str t.s, .int .i64 t.line] :: RD rp L ts.tail :: G) e_ rfl w_) ?_
 repeat first|refine go_ ?_|intro _
 refine Or.inl ⟨⟨_,Tryz.func99,rfl,rfl⟩,ACall.mono ?_ (isName_ok t _)⟩
 rintro _ S1 ⟨rfl,hS1⟩
 subst S1
 repeat first|refine go_ ?_|intro _
 by_cases hs : nameT t = true
 rotate_left
 ·refine AW_true (b := !nameT t) rfl (by simpa using hs) ?_
  repeat first|refine ga_ ?_|intro _
  refine AW_ret ?_
  exact ⟨_,RD rp L ts.tail :: G,AVle.refl _,sle_,g,ts.tail,some (40,t.line),rfl,by rw [hG],hts,rfl,rfl,by rw [hm,if_neg hs]; exact hst⟩
 rw [if_pos hs] at hm
 have hne2 := hd_ne (ts := ts.tail) (by rw [← ht,name_kind hs]; decide)
 refine AW_false (b := !nameT t) rfl (by rw [hs]; rfl) ?_
 refine AW_skip ?_
 repeat refine rg_ ?_
 refine AW_region tab_ok ?_
 repeat first|refine gr_ ?_|intro _
 refine AW_weak (weak_of (l := [(1,grL g),(2, .fn (.func f) [] []),(7,faultE (40,t.line)),(8, .ptr b8 0)]) (m := []) (S' := .cells b8 [.int .i64 t.kind, .str t.s, .int .i64 t.line] :: RD rp L ts.tail.tail :: G) ?_ rfl (SLe.of_eq (congrArg (fun e => _ :: e :: _) (RD_next hts hne2 hL)))) ?_
 ·exact e_
 obtain ⟨l,b,cap,rest,h1,h2⟩ := g
 cases l with
 | nil =>
  have hG : G = R := hG
  subst hG
  show AW _ _ _ _ ⟨[(1, .sl 0 [] .full),(2, .fn (.func f) [] []),(7,faultE (40,t.line)),(8, .ptr b8 0)], []⟩ _ _
  repeat first|refine go_ ?_|intro _
  refine AW_for (α := Nat) (fun z => ⟨[(7,faultE (40,t.line)),(34, .int .i64 (0 : Nat)),(35, .int .i64 (z : Nat))], []⟩) (fun z => RD rp L ts.tail.tail :: G) (fun z => 0) (fun z => z = 0) (0) ?_ (weak_of ?_ rfl ?_) (fun z hz => ?_)
  ·rfl
  ·exact e_
  ·exact l_
  obtain rfl : z = 0 := hz
  repeat first|refine go_ ?_|intro _
  refine AW_false (b := false) rfl (by first | rfl | (simp; done) | (simp; omega) | decide) ?_
  repeat first|refine ga_ ?_|intro _
  refine AW_ret ?_
  exact ⟨_,RD rp L ts.tail.tail :: G,AVle.refl _,sle_,⟨[],b,cap,rest,h1,h2⟩,ts.tail.tail,some (40,t.line),rfl,rfl,htt,rfl,rfl,by rw [hm]; exact hst⟩
 | cons d0 l0 =>
  obtain ⟨l,hle⟩ : ∃ l,l = d0 :: l0 := ⟨_,rfl⟩
  have hG : G = .cells b (flG cD l ++ rest) :: R := by rw [hG,hle]; rfl
  have hgl : grL (⟨d0 :: l0,b,cap,rest,h1,h2⟩ : Gr De 6) = .msl b 0 l.length cap := by rw [hle]; rfl
  have hm : markL w l ts = (match l.findIdx? (relB t.s) with
   | none => stopE ts.tail
   | some i => match l[i]? with
    | none => stopE ts.tail
    | some d => if flag w d = true then stopE ts.tail else .ok (l.set i (setF w d),ts.tail.tail)) := by rw [hle]; exact hm
  have h1 : l.length ≤ cap := by rw [hle]; exact h1
  have h2 : rest.length = (cap - l.length) * 6 := by rw [hle]; exact h2
  have hl : l.length ≤ 1000 := by rw [hle]; exact hl
  have hpost : ∀ (g' : Gr De 6),g'.b = b → g'.cap = cap → g'.l ≠ [] → g'.rest = rest → g'.l.length = l.length → grL g' = .msl b 0 l.length cap ∧ grS cD g' = [.cells b (flG cD g'.l ++ rest)] := by
   intro g' e1 e2 e3 e4 e5
   rw [grL_ne e3,grS_ne e3,e1,e2,e4,e5]; exact ⟨rfl,rfl⟩
  have hS0 : ∀ p1 p2,grS cD (⟨d0 :: l0,b,cap,rest,p1,p2⟩ : Gr De 6) = [.cells b (flG cD l ++ rest)] := by intro p1 p2; rw [hle]; rfl
  rw [hgl,hG]
  repeat first|refine go_ ?_|intro _
  refine AW_for (α := Nat) (fun z => ⟨[(1, .msl b 0 l.length cap),(2, .fn (.func f) [] []),(7,faultE (40,t.line)),(8, .ptr b8 0),(34, .int .i64 (l.length : Nat)),(35, .int .i64 (z : Nat))], []⟩) (fun z => .cells b8 [.int .i64 t.kind, .str t.s, .int .i64 t.line] :: RD rp L ts.tail.tail :: .cells b (flG cD l ++ rest) :: R) (fun z => l.length - z) (fun z => z ≤ l.length ∧ ∀ (i : Nat) (hi : i < l.length),i < z → relB t.s l[i] = false) (0) ?_ (weak_of ?_ rfl ?_) (fun z hz => ?_)
  ·exact ⟨Nat.zero_le _,fun i _ h => absurd h (Nat.not_lt_zero _)⟩
  ·exact e_
  ·exact l_
  obtain ⟨i1,i2⟩ := hz
  repeat first|refine go_ ?_|intro _
  refine AW_iff (z < l.length) rfl ib_ (fun h => ?_) (fun h => ?_)
  rotate_left
  ·have e : l.findIdx? (relB t.s) = none := by
    rw [List.findIdx?_eq_none_iff]
    intro x hx
    obtain ⟨i,hi,rfl⟩ := List.mem_iff_getElem.1 hx
    exact i2 i hi (by omega)
   rw [e] at hm
   repeat first|refine ga_ ?_|intro _
   refine AW_ret ?_
   refine ⟨_,RD rp L ts.tail.tail :: .cells b (flG cD l ++ rest) :: R,AVle.refl _,sle_,⟨d0 :: l0,b,cap,rest,by rw [← hle]; exact h1,by rw [← hle]; exact h2⟩,ts.tail.tail,some (40,t.line),rfl,by rw [hS0]; rfl,htt,hgl,rfl,?_⟩
   show markL w (d0 :: l0) ts = _
   rw [← hle,hm]; exact hst
  have hlt := h
  obtain ⟨d,hd⟩ : ∃ d,d = l[z] := ⟨_,rfl⟩
  have hlen := flG_len cD_len l
  have hget : ∀ j,j < 6 → (flG cD l ++ rest)[z * 6 + j]? = (cD d)[j]? := fun j hj => by
   rw [List.getElem?_append_left (by rw [hlen]; omega),flG_get cD_len l z j hlt hj, ← hd]
  repeat first|refine go_ ?_|intro _
  refine AW_draw tab_ok mixed 8 (by first | rfl | kernel_rfl) ?_
  repeat first|refine go_ ?_|intro _
  refine at_msl z (z * 6) rfl hlt (by show 0 + z * 6 = _; omega) ?_
  repeat first|refine go_ ?_|intro _
  refine load_one (.str d.rel) rfl rfl (hget 0 (by decide)) ?_
  repeat first|refine go_ ?_|intro _
  by_cases hq : d.rel = t.s
  rotate_left
  ·refine AW_true (b := !decide (d.rel = t.s)) rfl (by rw [decide_eq_false hq]; rfl) ?_
   repeat first|refine go_ ?_|intro _
   refine ⟨(z + 1),?_,?_,weak_of ?_ rfl ?_⟩
   ·exact Nat.sub_lt_sub_left hlt (Nat.lt_succ_self z)
   ·refine ⟨hlt,fun i hi hiz => ?_⟩
    by_cases hz : i = z
    ·subst hz; rw [← hd,relB]; exact decide_eq_false hq
    ·exact i2 i hi (by omega)
   ·exact e_
   ·exact w_
  have e : l.findIdx? (relB t.s) = some z := by
   rw [List.findIdx?_eq_some_iff_getElem]
   refine ⟨hlt,by rw [← hd,relB]; exact decide_eq_true hq,fun j hj => ?_⟩
   rw [i2 j (by omega) hj]; decide
  rw [e] at hm
  simp only [List.getElem?_eq_getElem hlt, ← hd] at hm
  refine AW_false (b := !decide (d.rel = t.s)) rfl (by rw [decide_eq_true hq]; rfl) ?_
  repeat first|refine go_ ?_|intro _
  refine at_msl z (z * 6) rfl hlt (by show 0 + z * 6 = _; omega) ?_
  repeat first|refine go_ ?_|intro _
  refine Or.inl ⟨hf,ACall.mono ?_ (hc b (z * 6) _)⟩
  rintro _ S1 ⟨rfl,hS1⟩
  subst S1
  repeat first|refine go_ ?_|intro _
  refine load_one (.bool (flag w d)) rfl rfl ((hget (flagO w) (flag_lt w)).trans (flag_get w d)) ?_
  repeat first|refine go_ ?_|intro _
  by_cases hfl : flag w d = true
  ·refine AW_false (b := !flag w d) rfl (by rw [hfl]; rfl) ?_
   repeat first|refine ga_ ?_|intro _
   refine AW_ret ?_
   refine ⟨_,RD rp L ts.tail.tail :: .cells b (flG cD l ++ rest) :: R,AVle.refl _,sle_,⟨d0 :: l0,b,cap,rest,by rw [← hle]; exact h1,by rw [← hle]; exact h2⟩,ts.tail.tail,some (40,t.line),rfl,by rw [hS0]; rfl,htt,hgl,rfl,?_⟩
   show markL w (d0 :: l0) ts = _
   rw [← hle,hm,if_pos hfl]; exact hst
  rw [if_neg hfl] at hm
  have hset : (flG cD l ++ rest).set (z * 6 + flagO w) (.bool true) = flG cD (l.set z (setF w d)) ++ rest := by
   have := flag_lt w
   rw [List.set_append_left _ _ (by rw [hlen]; omega),flG_set cD_len l z (flagO w) hlt this (by rw [← hd]; exact flag_set w d)]
  refine AW_true (b := !flag w d) rfl (by simpa using hfl) ?_
  repeat first|refine go_ ?_|intro _
  refine store_one (.bool true) (flG cD (l.set z (setF w d)) ++ rest) rfl rfl (by have := flag_lt w; rw [List.length_append,hlen]; omega) hset ?_
  repeat first|refine go_ ?_|intro _
  refine AW_ret ?_
  have hsl : (l.set z (setF w d)) ≠ [] := by rw [ne_eq, ← List.length_eq_zero_iff,List.length_set]; omega
  obtain ⟨q1,q2⟩ := hpost ⟨l.set z (setF w d),b,cap,rest,by rw [List.length_set]; exact h1,by rw [List.length_set]; exact h2⟩ rfl rfl hsl rfl (List.length_set ..)
  refine ⟨.nilif,RD rp L ts.tail.tail :: .cells b (flG cD (l.set z (setF w d)) ++ rest) :: R,AVle.refl _,sle_,⟨l.set z (setF w d),b,cap,rest,by rw [List.length_set]; exact h1,by rw [List.length_set]; exact h2⟩,ts.tail.tail,none,rfl,by rw [q2]; rfl,htt,q1,(List.length_set ..).trans (congrArg List.length hle),?_⟩
  show markL w (d0 :: l0) ts = _
  rw [← hle,hm]
structure It where
 g : Gr De 6
 l : List Ru
 tk : Tk
def It.pr (z : It) : Pr := ⟨z.g.l,z.l⟩
def It.cs (z : It) : List AV := [grL z.g, .sl 4 (z.l.map encRu) z.tk]
def stI (pp : Nat) (z : It) : List En := .cells pp z.cs :: .grow z.tk :: grS cD z.g
theorem ruleL_suf {F : Nat} {ts r : List Tok} {x : Ru} (h : ruleL F ts = .ok (x,r)) : r <:+ ts := (eats_rule F _ _ _ h).1
theorem declL_suf {ts r : List Tok} {d : De} (h : declL ts = .ok (d,r)) : r <:+ ts := (decl_suf h).1
theorem NumG.appR {A R : List En} (h : NumG R) : NumG (A ++ R) := by
 obtain ⟨h1,⟨t,v,h2⟩,t',v',h3⟩ := h
 exact ⟨List.mem_append_right _ h1,⟨t,v,List.mem_append_right _ h2⟩,t',v',List.mem_append_right _ h3⟩
theorem le_pp {B C : En} {X Y : List En} : (B :: C :: (X ++ Y)).Perm (X ++ (B :: C :: Y)) := by
 refine List.Perm.symm (List.perm_middle.trans (List.Perm.cons _ List.perm_middle))
def ruleI (F : Nat) (d : List De) (l : List Ru) (ts : List Tok) : PR Pr := match ruleL F ts with
 | .error e => .error e
 | .ok (x,r) => .ok (⟨d,l ++ [x]⟩,r)
theorem item_ok (rp pp : Nat) (L : List Tok) (hL : L.length ≤ 20000) (hN : NumT L) (F : Nat) (hF : L.length ≤ F) (z : It) (hz1 : z.g.l.length ≤ 60) (hz2 : z.l.length ≤ 200) (ts : List Tok) (h : ts <:+ L) (hne : ts ≠ []) (R : List En) (hG : NumG R) :
  ACall Tryz.prog 22 [.ptr rp 0, .ptr pp 0] (RD rp L ts :: (stI pp z ++ R)) (fun r S => ∃ (z' : It) (ts' : List Tok) (o : Option (Int × Int)),r = errO o ∧ S = RD rp L ts' :: (stI pp z' ++ R) ∧ ts' <:+ L ∧ ResO (itemL F z.pr ts) z'.pr ts' o) := by
 obtain ⟨g,l,tk⟩ := z
 have hg : g.l.length ≤ 60 := hz1
 have hl : l.length ≤ 200 := hz2
 obtain ⟨t,ht⟩ : ∃ t,t = hd ts 0 := ⟨_,rfl⟩
 have hI : itemL F ⟨g.l,l⟩ ts = (if wordT t [46,100,101,99,108] = true then (if g.l.length = 60 then .error (21,t.line) else match declL ts with
   | .error e => .error e
   | .ok (d,r) => .ok (⟨g.l ++ [d],l⟩,r))
  else if wordT t [46,105,110,112,117,116] = true then (match markL true g.l ts with
   | .error e => .error e
   | .ok (x,r) => .ok (⟨x,l⟩,r))
  else if wordT t [46,111,117,116,112,117,116] = true then (match markL false g.l ts with
   | .error e => .error e
   | .ok (x,r) => .ok (⟨x,l⟩,r))
  else if l.length = 200 then .error (21,t.line) else ruleI F g.l l ts) := by rw [ht]; rfl
 show ACall Tryz.prog 22 [.ptr rp 0, .ptr pp 0] (RD rp L ts :: .cells pp [grL g, .sl 4 (l.map encRu) tk] :: .grow tk :: (grS cD g ++ R)) _
 refine ACall_body tab_ok Tryz.func22 rfl rfl rfl (by kernel_rfl) (nb_ rfl) ?_
 repeat first|refine go_ ?_|intro _
 refine Or.inl ⟨⟨_,Tryz.func51,rfl,rfl⟩,ACall.mono ?_ (ahead_ok rp L ts 0 h hL (by decide) _)⟩
 rintro _ S1 ⟨rfl,hS1⟩
 subst S1
 repeat first|refine gr_ ?_|intro _
 rename_i b5
 rw [← ht]
 refine AW_weak (weak_of (l := [(0, .ptr rp 0),(1, .ptr pp 0),(5, .ptr b5 0)]) (m := []) (S' := .cells b5 [.int .i64 t.kind, .str t.s, .int .i64 t.line] :: RD rp L ts :: .cells pp [grL g, .sl 4 (l.map encRu) tk] :: .grow tk :: (grS cD g ++ R)) e_ rfl w_) ?_
 refine AW_cut1 (α := Unit) (fun z => ⟨[(0, .ptr rp 0),(1, .ptr pp 0)], []⟩) (fun z => RD rp L ts :: .cells pp [grL g, .sl 4 (l.map encRu) tk] :: .grow tk :: (grS cD g ++ R)) (fun z => itemL F ⟨g.l,l⟩ ts = ruleI F g.l l ts) ?_ (fun z hz => ?_)
 ·have w5 : t.kind ≠ 5 → ∀ s, ¬ wordT t s = true := fun hk s => by simp [wordT,hk]
  have ws : ∀ s,t.s ≠ s → ¬ wordT t s = true := fun s hk => by simp [wordT,hk]
  repeat first|refine go_ ?_|intro _
  by_cases hk : t.kind = 5
  rotate_left
  ·refine known_false (b := decide (t.kind = 5)) (by exact decide_eq_false hk) ?_
   repeat first|refine go_ ?_|intro _
   refine AW_false (b := false) rfl (by first | rfl | (simp; done) | (simp; omega) | decide) ?_
   repeat first|refine go_ ?_|intro _
   refine known_false (b := decide (t.kind = 5)) (by exact decide_eq_false hk) ?_
   repeat first|refine go_ ?_|intro _
   refine AW_false (b := false) rfl (by first | rfl | (simp; done) | (simp; omega) | decide) ?_
   repeat first|refine go_ ?_|intro _
   refine known_false (b := decide (t.kind = 5)) (by exact decide_eq_false hk) ?_
   repeat first|refine go_ ?_|intro _
   refine AW_false (b := false) rfl (by first | rfl | (simp; done) | (simp; omega) | decide) ?_
   repeat first|refine go_ ?_|intro _
   by_cases hx : l.length = 200
   ·refine AW_true (b := decide ((((l.map encRu).length : Nat) : Int) = 200)) rfl (by rw [List.length_map,hx]; rfl) ?_
    repeat first|refine ga_ ?_|intro _
    refine AW_ret ?_
    refine ⟨errO (some (21,t.line)),RD rp L ts :: (stI pp ⟨g,l,tk⟩ ++ R),AVle.refl _,sle_,⟨g,l,tk⟩,ts,(some (21,t.line)),rfl,rfl,h,?_⟩
    show itemL F ⟨g.l,l⟩ ts = _
    rw [hI,if_neg (w5 hk _),if_neg (w5 hk _),if_neg (w5 hk _),if_pos hx]
   ·refine AW_false (b := decide ((((l.map encRu).length : Nat) : Int) = 200)) rfl (by rw [List.length_map]; exact decide_eq_false (by omega)) ?_
    repeat first|refine ga_ ?_|intro _
    refine ⟨(),?_,weak_of ?_ rfl ?_⟩
    ·rw [hI,if_neg (w5 hk _),if_neg (w5 hk _),if_neg (w5 hk _),if_neg hx]
    ·exact e_
    ·exact w_
  refine known_true (b := decide (t.kind = 5)) (by exact decide_eq_true hk) ?_
  repeat first|refine go_ ?_|intro _
  by_cases hs1 : t.s = [46,100,101,99,108]
  · -- a relation
   have hw : wordT t [46,100,101,99,108] = true := by rw [wordT,decide_eq_true hk,decide_eq_true hs1]; rfl
   rw [if_pos hw] at hI
   refine AW_true (b := decide (t.s = [46,100,101,99,108])) rfl (by exact decide_eq_true hs1) ?_
   refine AW_cut1 (α := Unit) (fun z => ⟨[(0, .ptr rp 0),(1, .ptr pp 0)], []⟩) (fun z => RD rp L ts :: .cells pp [grL g, .sl 4 (l.map encRu) tk] :: .grow tk :: (grS cD g ++ R)) (fun z => g.l.length ≠ 60) ?_ (fun z hz => ?_)
   ·obtain ⟨gl,b,cap,rest,h1,h2⟩ := g
    cases gl with
    | nil =>
     show AW _ _ _ _ _ (.cells b5 [.int .i64 t.kind, .str t.s, .int .i64 t.line] :: RD rp L ts :: .cells pp [.sl 0 [] .full, .sl 4 (l.map encRu) tk] :: .grow tk :: R) _
     repeat first|refine go_ ?_|intro _
     refine AW_false (b := false) rfl (by first | rfl | (simp; done) | (simp; omega) | decide) ?_
     repeat first|refine ga_ ?_|intro _
     refine ⟨(),?_,weak_of ?_ rfl ?_⟩
     ·exact (by decide : (0 : Nat) ≠ 60)
     ·exact e_
     ·exact w_
    | cons y r =>
     show AW _ _ _ _ _ (.cells b5 [.int .i64 t.kind, .str t.s, .int .i64 t.line] :: RD rp L ts :: .cells pp [.msl b 0 (y :: r).length cap, .sl 4 (l.map encRu) tk] :: .grow tk :: .cells b (flG cD (y :: r) ++ rest) :: R) _
     repeat first|refine go_ ?_|intro _
     by_cases hx : (y :: r).length = 60
     ·refine AW_true (b := decide ((((y :: r).length : Nat) : Int) = 60)) rfl (by rw [hx]; rfl) ?_
      repeat first|refine ga_ ?_|intro _
      refine AW_ret ?_
      refine ⟨errO (some (21,t.line)),RD rp L ts :: (stI pp ⟨⟨y :: r,b,cap,rest,h1,h2⟩,l,tk⟩ ++ R),AVle.refl _,sle_,⟨⟨y :: r,b,cap,rest,h1,h2⟩,l,tk⟩,ts,(some (21,t.line)),rfl,rfl,h,?_⟩
      show itemL F ⟨y :: r,l⟩ ts = _
      rw [hI]; exact if_pos hx
     ·refine AW_false (b := decide ((((y :: r).length : Nat) : Int) = 60)) rfl (by exact decide_eq_false (by omega)) ?_
      repeat first|refine ga_ ?_|intro _
      refine ⟨(),?_,weak_of ?_ rfl ?_⟩
      ·exact hx
      ·exact e_
      ·exact w_
   have hx : g.l.length ≠ 60 := hz
   rw [if_neg hx] at hI
   repeat first|refine ga_ ?_|intro _
   refine Or.inl ⟨⟨_,Tryz.func52,rfl,rfl⟩,ACall.mono ?_ (ACall_at 0 rfl (decl_ok rp L hL ts h hne _ (NumG.cons (NumG.cons (NumG.appR hG)))))⟩
   rintro _ S1 ⟨e,hS1,hq⟩
   subst S1
   obtain ⟨d,ts1,o,rfl,hs1,rfl,ho⟩ := hq.cases (fun v r' h2 => (declL_suf h2).trans h)
   repeat first|refine gr_ ?_|intro _
   rename_i b6
   refine AW_weak (weak_of (l := [(1, .ptr pp 0),(6, .ptr b6 0),(7,errO o)]) (m := []) (S' := .cells b6 (cD d) :: RD rp L ts1 :: .cells pp [grL g, .sl 4 (l.map encRu) tk] :: .grow tk :: (grS cD g ++ R)) e_ rfl w_) ?_
   refine AW_cut1 (α := Gr De 6) (fun z => ⟨[(7,errO o)], []⟩) (fun z => grS cD z ++ (RD rp L ts1 :: .cells pp [grL z, .sl 4 (l.map encRu) tk] :: .grow tk :: R)) (fun z => z.l = g.l ++ [d]) ?_ (fun z hz => ?_)
   ·obtain ⟨gl,b,cap,rest,h1,h2⟩ := g
    cases gl with
    | nil =>
     show AW _ _ _ _ _ (.cells b6 (cD d) :: RD rp L ts1 :: .cells pp [.sl 0 [] .full, .sl 4 (l.map encRu) tk] :: .grow tk :: R) _
     refine AW_drawl tab_ok mixed 7 [0] (by first | rfl | kernel_rfl) ?_
     repeat first|refine go_ ?_|intro _
     refine ⟨room (nb_ rfl) rfl, .inl rfl, .inr (.inr ⟨rfl,rfl,cD d,1,rfl,rfl,fun b2 cap2 rest2 hc2 _ hr2 => ?_⟩)⟩
     repeat first|refine go_ ?_|intro _
     refine ⟨grF d b2 cap2 rest2 hc2 hr2,rfl,weak_of ?_ rfl ?_⟩
     all_goals first | (repeat (first | exact trivial | refine env_ ?_)) | skip
     all_goals first | (refine SW.le ?_; repeat (first | exact SW.nil | refine sw_ ?_)) | skip
    | cons y r =>
     have hl : (y :: r).length ≤ 60 := hg
     show AW _ _ _ _ _ (.cells b6 (cD d) :: RD rp L ts1 :: .cells pp [.msl b 0 (y :: r).length cap, .sl 4 (l.map encRu) tk] :: .grow tk :: .cells b (flG cD (y :: r) ++ rest) :: R) _
     refine AW_weak (weak_of (l := [(1, .ptr pp 0),(6, .ptr b6 0),(7,errO o)]) (m := []) (S' := .cells b (flG cD (y :: r) ++ rest) :: .cells b6 (cD d) :: RD rp L ts1 :: .cells pp [.msl b 0 (y :: r).length cap, .sl 4 (l.map encRu) tk] :: .grow tk :: R) ?_ rfl (fun w0 K w h => h.perm (by repeat (first | exact List.Perm.refl _ | refine perm_pick 0 rfl ?_ | refine perm_pick 1 rfl ?_ | refine perm_pick 2 rfl ?_ | refine perm_pick 3 rfl ?_ | refine perm_pick 4 rfl ?_ | refine perm_pick 5 rfl ?_ | refine perm_pick 6 rfl ?_ | refine perm_pick 7 rfl ?_)))) ?_
     ·exact e_
     have hle : ((y :: r) ++ [d]).length = (y :: r).length + 1 := by rw [List.length_append]; rfl
     by_cases hroom : (y :: r).length + 1 ≤ cap
     ·obtain ⟨k1,k2,k3⟩ := room_len cD_len ⟨y :: r,b,cap,rest,h1,h2⟩ hroom
      have k1 : (flG cD (y :: r) ++ rest).length = cap * 6 := k1
      have k2 : 6 ≤ rest.length := k2
      have k3 : (y :: r).length * 6 + 6 ≤ cap * 6 := k3
      refine AW_drawl tab_ok mixed 7 [0] (by first | rfl | kernel_rfl) ?_
      repeat first|refine go_ ?_|intro _
      refine ⟨1,0,_,room (by omega) rfl,rfl,by show 0 + (y :: r).length * 6 ≤ _; omega, .inl ⟨.inl ⟨_,rfl⟩,cD d,⟨.inl rfl,rfl,rfl⟩,fun _ => ⟨by show 0 + ((y :: r).length + 1) * 6 ≤ _; omega,_,(put_in cD_len ⟨y :: r,b,cap,rest,h1,h2⟩ (cD d) rfl).trans (show _ = flG cD ((y :: r) ++ [d]) ++ rest.drop 6 by rw [flG_app,flG_one,List.append_assoc]),?_⟩,fun hc => absurd hc (by omega)⟩⟩
      repeat first|refine go_ ?_|intro _
      refine ⟨grI ⟨y :: r,b,cap,rest,h1,h2⟩ d hroom,rfl,weak_of ?_ rfl ?_⟩
      all_goals first | (repeat (first | exact trivial | refine env_ ?_)) | skip
      all_goals (show SLe _ (.cells b (flG cD ((y :: r) ++ [d]) ++ rest.drop 6) :: RD rp L ts1 :: .cells pp [.msl b 0 ((y :: r) ++ [d]).length cap, .sl 4 (l.map encRu) tk] :: .grow tk :: R); rw [hle]; refine SW.le ?_; repeat (first | exact SW.nil | refine sw_ ?_))
     ·have k1 : (flG cD (y :: r) ++ rest).length = (y :: r).length * 6 + rest.length := by rw [List.length_append,flG_len cD_len]
      refine AW_drawl tab_ok mixed 7 [0] (by first | rfl | kernel_rfl) ?_
      repeat first|refine go_ ?_|intro _
      refine ⟨1,0,_,room (by omega) rfl,rfl,by show 0 + (y :: r).length * 6 ≤ _; omega, .inl ⟨.inl ⟨_,rfl⟩,cD d,⟨.inl rfl,rfl,rfl⟩,fun hc => absurd hc hroom,fun _ => ⟨_,(old_cells cD_len ⟨y :: r,b,cap,rest,h1,h2⟩ (cD d)).trans (show _ = flG cD ((y :: r) ++ [d]) by rw [flG_app,flG_one]),fun b2 cap2 rest2 hc2 hr2 => ?_⟩⟩⟩
      repeat first|refine go_ ?_|intro _
      refine ⟨grA ⟨y :: r,b,cap,rest,h1,h2⟩ d b2 cap2 rest2 hc2 hr2,rfl,weak_of ?_ rfl ?_⟩
      all_goals first | (repeat (first | exact trivial | refine env_ ?_)) | skip
      all_goals (show SLe _ (.cells b2 (flG cD ((y :: r) ++ [d]) ++ rest2) :: RD rp L ts1 :: .cells pp [.msl b2 0 ((y :: r) ++ [d]).length cap2, .sl 4 (l.map encRu) tk] :: .grow tk :: R); rw [hle]; refine SW.le ?_; repeat (first | exact SW.nil | refine sw_ ?_))
   ·have hz : z.l = g.l ++ [d] := hz
    repeat first|refine go_ ?_|intro _
    refine AW_ret ?_
    refine ⟨errO o,RD rp L ts1 :: (stI pp ⟨z,l,tk⟩ ++ R),AVle.refl _,fun w0 K w h => h.perm (List.perm_append_comm_assoc [RD rp L ts1, .cells pp [grL z, .sl 4 (l.map encRu) tk], .grow tk] (grS cD z) R),⟨z,l,tk⟩,ts1,o,rfl,rfl,hs1,?_⟩
    show ResO (itemL F ⟨g.l,l⟩ ts) ⟨z.l,l⟩ ts1 o
    rw [hz,hI]
    cases o with
    | none => rw [show declL ts = .ok (d,ts1) from ho]; rfl
    | some q => rw [show declL ts = .error q from ho]; rfl
  have hw1 := ws _ hs1
  rw [if_neg hw1] at hI
  refine AW_false (b := decide (t.s = [46,100,101,99,108])) rfl (by exact decide_eq_false hs1) ?_
  repeat first|refine go_ ?_|intro _
  refine known_true (b := decide (t.kind = 5)) (by exact decide_eq_true hk) ?_
  repeat first|refine go_ ?_|intro _
  by_cases hs2 : t.s = [46,105,110,112,117,116]
  ·have hw : wordT t [46,105,110,112,117,116] = true := by rw [wordT,decide_eq_true hk,decide_eq_true hs2]; rfl
   rw [if_pos hw] at hI
   refine AW_true (b := decide (t.s = [46,105,110,112,117,116])) rfl (by exact decide_eq_true hs2) ?_
   refine AW_weak (weak_of (l := [(0, .ptr rp 0),(1, .ptr pp 0)]) (m := []) (S' := RD rp L ts :: .cells pp [grL g, .sl 4 (l.map encRu) tk] :: .grow tk :: (grS cD g ++ R)) e_ rfl w_) ?_
   repeat first|refine go_ ?_|intro _
   refine Or.inl ⟨⟨_,Tryz.func53,rfl,rfl⟩,ACall.mono ?_ (ACall_conv (k := fun r S => ∃ (g' : Gr De 6) (ts' : List Tok) (o : Option (Int × Int)),r = errO o ∧ S = RD rp L ts' :: .cells pp [grL g, .sl 4 (l.map encRu) tk] :: .grow tk :: (grS cD g' ++ R) ∧ ts' <:+ L ∧ grL g' = grL g ∧ g'.l.length = g.l.length ∧ ResO (markL true g.l ts) g'.l ts' o) (List.Perm.cons _ le_pp.symm) (mark_ok rp L hL true _ ⟨_,Tryz.func54,rfl,rfl⟩ (fun b o R => isIn_ok b o R) g (by omega) ts h hne (.cells pp [grL g, .sl 4 (l.map encRu) tk] :: .grow tk :: R)) ?_)⟩
   rotate_left
   ·rintro r _ ⟨g',ts',o,q1,rfl,q2⟩
    exact ⟨_,List.Perm.cons _ le_pp,g',ts',o,q1,rfl,q2⟩
   rintro _ S1 ⟨g',ts1,o,rfl,hS1,hs1,hgg,hgl,ho⟩
   subst S1
   rw [← hgg]
   repeat first|refine ga_ ?_|intro _
   refine AW_ret ?_
   refine ⟨errO (o),RD rp L ts1 :: (stI pp ⟨g',l,tk⟩ ++ R),AVle.refl _,sle_,⟨g',l,tk⟩,ts1,(o),rfl,rfl,hs1,?_⟩
   show ResO (itemL F ⟨g.l,l⟩ ts) ⟨g'.l,l⟩ ts1 o
   rw [hI]
   cases o with
   | none => rw [show markL true g.l ts = .ok (g'.l,ts1) from ho]; rfl
   | some q => rw [show markL true g.l ts = .error q from ho]; rfl
  have hw2 := ws _ hs2
  rw [if_neg hw2] at hI
  refine AW_false (b := decide (t.s = [46,105,110,112,117,116])) rfl (by exact decide_eq_false hs2) ?_
  repeat first|refine go_ ?_|intro _
  refine known_true (b := decide (t.kind = 5)) (by exact decide_eq_true hk) ?_
  repeat first|refine go_ ?_|intro _
  by_cases hs3 : t.s = [46,111,117,116,112,117,116]
  ·have hw : wordT t [46,111,117,116,112,117,116] = true := by rw [wordT,decide_eq_true hk,decide_eq_true hs3]; rfl
   rw [if_pos hw] at hI
   refine AW_true (b := decide (t.s = [46,111,117,116,112,117,116])) rfl (by exact decide_eq_true hs3) ?_
   refine AW_weak (weak_of (l := [(0, .ptr rp 0),(1, .ptr pp 0)]) (m := []) (S' := RD rp L ts :: .cells pp [grL g, .sl 4 (l.map encRu) tk] :: .grow tk :: (grS cD g ++ R)) e_ rfl w_) ?_
   repeat first|refine go_ ?_|intro _
   refine Or.inl ⟨⟨_,Tryz.func53,rfl,rfl⟩,ACall.mono ?_ (ACall_conv (k := fun r S => ∃ (g' : Gr De 6) (ts' : List Tok) (o : Option (Int × Int)),r = errO o ∧ S = RD rp L ts' :: .cells pp [grL g, .sl 4 (l.map encRu) tk] :: .grow tk :: (grS cD g' ++ R) ∧ ts' <:+ L ∧ grL g' = grL g ∧ g'.l.length = g.l.length ∧ ResO (markL false g.l ts) g'.l ts' o) (List.Perm.cons _ le_pp.symm) (mark_ok rp L hL false _ ⟨_,Tryz.func55,rfl,rfl⟩ (fun b o R => isOut_ok b o R) g (by omega) ts h hne (.cells pp [grL g, .sl 4 (l.map encRu) tk] :: .grow tk :: R)) ?_)⟩
   rotate_left
   ·rintro r _ ⟨g',ts',o,q1,rfl,q2⟩
    exact ⟨_,List.Perm.cons _ le_pp,g',ts',o,q1,rfl,q2⟩
   rintro _ S1 ⟨g',ts1,o,rfl,hS1,hs1,hgg,hgl,ho⟩
   subst S1
   rw [← hgg]
   repeat first|refine ga_ ?_|intro _
   refine AW_ret ?_
   refine ⟨errO (o),RD rp L ts1 :: (stI pp ⟨g',l,tk⟩ ++ R),AVle.refl _,sle_,⟨g',l,tk⟩,ts1,(o),rfl,rfl,hs1,?_⟩
   show ResO (itemL F ⟨g.l,l⟩ ts) ⟨g'.l,l⟩ ts1 o
   rw [hI]
   cases o with
   | none => rw [show markL false g.l ts = .ok (g'.l,ts1) from ho]; rfl
   | some q => rw [show markL false g.l ts = .error q from ho]; rfl
  have hw3 := ws _ hs3
  rw [if_neg hw3] at hI
  refine AW_false (b := decide (t.s = [46,111,117,116,112,117,116])) rfl (by exact decide_eq_false hs3) ?_
  repeat first|refine go_ ?_|intro _
  by_cases hx : l.length = 200
  ·refine AW_true (b := decide ((((l.map encRu).length : Nat) : Int) = 200)) rfl (by rw [List.length_map,hx]; rfl) ?_
   repeat first|refine ga_ ?_|intro _
   refine AW_ret ?_
   refine ⟨errO (some (21,t.line)),RD rp L ts :: (stI pp ⟨g,l,tk⟩ ++ R),AVle.refl _,sle_,⟨g,l,tk⟩,ts,(some (21,t.line)),rfl,rfl,h,?_⟩
   show itemL F ⟨g.l,l⟩ ts = _
   rw [hI,if_pos hx]
  ·refine AW_false (b := decide ((((l.map encRu).length : Nat) : Int) = 200)) rfl (by rw [List.length_map]; exact decide_eq_false (by omega)) ?_
   repeat first|refine ga_ ?_|intro _
   refine ⟨(),?_,weak_of ?_ rfl ?_⟩
   ·rw [hI,if_neg hx]
   ·exact e_
   ·exact w_
 replace hI : itemL F ⟨g.l,l⟩ ts = ruleI F g.l l ts := hz
 repeat first|refine go_ ?_|intro _
 refine Or.inl ⟨⟨_,Tryz.func56,rfl,rfl⟩,ACall.mono ?_ (ACall_at 0 rfl (rule_ok rp L hL hN F hF ts h _ (NumG.cons (NumG.cons (NumG.appR hG)))))⟩
 rintro _ S1 ⟨e,hS1,hq⟩
 subst S1
 obtain ⟨x,ts1,o,rfl,hs1,rfl,ho⟩ := hq.cases (fun v r' h2 => (ruleL_suf h2).trans h)
 repeat first|refine gr_ ?_|intro _
 rename_i b8
 refine AW_weak (weak_of (l := [(1, .ptr pp 0),(8, .ptr b8 0),(9,errO o)]) (m := []) (S' := .cells b8 (cRu x) :: RD rp L ts1 :: .cells pp [grL g, .sl 4 (l.map encRu) tk] :: .grow tk :: (grS cD g ++ R)) e_ rfl w_) ?_
 refine AW_seq ?_
 refine AW_drawl tab_ok mixed 7 [0] (by first | rfl | kernel_rfl) ?_
 repeat first|refine go_ ?_|intro _
 refine ⟨room (by first | omega | (simp; done) | (simp; omega) | (simp at *; done) | (simp at *; omega)) rfl, .inl rfl, .inr (.inl ⟨rfl,3,rfl,(l ++ [x]).map encRu,by rw [List.map_append]; rfl,fun t1 => ?_⟩)⟩
 repeat first|refine go_ ?_|intro _
 refine AW_ret ?_
 refine ⟨errO o,RD rp L ts1 :: (stI pp ⟨g,l ++ [x],t1⟩ ++ R),AVle.refl _,sle_,⟨g,l ++ [x],t1⟩,ts1,o,rfl,rfl,hs1,?_⟩
 show ResO (itemL F ⟨g.l,l⟩ ts) ⟨g.l,l ++ [x]⟩ ts1 o
 rw [hI,ruleI]
 cases o with
 | none => rw [show ruleL F ts = .ok (x,ts1) from ho]; rfl
 | some q => rw [show ruleL F ts = .error q from ho]; rfl
theorem fJoin_ok (E : AV) (tk : Tk) (hE : E.plain = true ∧ E.cells.length = 2) (R : List En) : ACall Tryz.prog 20 [.sl 1 [.ifc 73 E] tk] R (fun r S => ∃ tk',r = .ifc 110 (.ref [.sl 1 [.ifc 73 E] tk']) ∧ S = R) := by
 refine ACall_body tab_ok Tryz.func20 rfl rfl rfl (by kernel_rfl) (nb_ rfl) ?_
 repeat first|refine go_ ?_|intro _
 refine AW_for (α := Nat) (fun z => ⟨[(0, .sl 1 [.ifc 73 E] tk),(3, .int .i64 (z : Nat)),(9, .sl 1 [.ifc 73 E] tk),(10, .int .i64 (1 : Nat)),(11, .int .i64 (z : Nat))], []⟩) (fun z => R) (fun z => 1 - z) (fun z => z ≤ 1) (0) ?_ (weak_of ?_ rfl ?_) (fun z hz => ?_)
 ·omega
 ·exact e_
 ·exact l_
 repeat first|refine go_ ?_|intro _
 refine AW_iff (z < 1) rfl ib_ (fun h => ?_) (fun h => ?_)
 ·obtain rfl : z = 0 := by omega
  repeat first|refine go_ ?_|intro _
  refine ⟨by decide,_,rfl,?_⟩
  repeat first|refine go_ ?_|intro _
  refine AW_true (b := true) rfl (by first | rfl | (simp; done) | (simp; omega) | decide) ?_
  repeat first|refine go_ ?_|intro _
  refine ⟨1,?_,?_,weak_of ?_ rfl ?_⟩
  ·omega
  ·omega
  ·exact e_
  ·exact l_
 obtain rfl : z = 1 := by omega
 repeat first|refine go_ ?_|intro _
 refine AW_false (b := false) rfl (by first | rfl | (simp; done) | (simp; omega) | decide) ?_
 repeat first|refine go_ ?_|intro _
 refine ⟨0,1,rfl,rfl,Nat.zero_le _,room (by first | omega | (simp; omega)) rfl, .inl ⟨rfl,fun t1 => ?_⟩⟩
 repeat first|refine go_ ?_|intro _
 rename_i b
 refine AW_for (α := Nat × List AV × Tk) (fun z => ⟨[(0, .sl 1 [.ifc 73 E] tk),(6, .ptr b 0),(26, .sl 1 [.ifc 73 E] tk),(27, .int .i64 (1 : Nat)),(28, .int .i64 (z.1 : Nat))], []⟩) (fun z => .cells b [.sl 1 z.2.1 z.2.2] :: .grow z.2.2 :: R) (fun z => 1 - z.1) (fun z => (z.1 = 0 ∧ z.2.1 = []) ∨ (z.1 = 1 ∧ z.2.1 = [.ifc 73 E])) ((0, [],t1)) ?_ (weak_of ?_ rfl ?_) (fun z hz => ?_)
 ·exact .inl ⟨rfl,rfl⟩
 ·exact e_
 ·exact l_
 obtain ⟨z,es,t2⟩ := z
 rcases hz with ⟨z1,z2⟩ | ⟨z1,z2⟩
 ·simp only [] at z1 z2
  subst z1 z2
  repeat first|refine go_ ?_|intro _
  refine AW_true (b := true) rfl (by first | rfl | (simp; done) | (simp; omega) | decide) ?_
  repeat first|refine go_ ?_|intro _
  refine ⟨Int.le_refl 0,_,rfl,?_⟩
  repeat first|refine go_ ?_|intro _
  refine AW_true (b := true) rfl (by first | rfl | (simp; done) | (simp; omega) | decide) ?_
  repeat first|refine go_ ?_|intro _
  refine ⟨room (by first | omega | (simp; done) | (simp; omega) | (simp at *; done) | (simp at *; omega)) rfl, .inl rfl, .inr (.inl ⟨rfl,1,rfl,_,rfl,fun t1 => ?_⟩)⟩
  repeat first|refine go_ ?_|intro _
  refine ⟨((1, [.ifc 73 E],t1) : Nat × List AV × Tk),?_,?_,weak_of ?_ rfl ?_⟩
  ·exact Nat.sub_lt_sub_left (show 0 < 1 by decide) (Nat.lt_succ_self 0)
  ·exact .inr ⟨rfl,rfl⟩
  ·exact e_
  ·exact l_
 ·simp only [] at z1 z2
  subst z1 z2
  repeat first|refine go_ ?_|intro _
  refine AW_false (b := false) rfl (by first | rfl | (simp; done) | (simp; omega) | decide) ?_
  repeat first|refine go_ ?_|intro _
  refine Lx.AW_freezeI 2 (p := 0) rfl rfl ?_
  refine AW_ret ?_
  exact ⟨_,R,AVle.refl _,SLe.tail SLe.rfl,_,rfl,rfl⟩
theorem item_cnt {F : Nat} {p p' : Pr} {ts r : List Tok} (h : itemL F p ts = .ok (p',r)) (h1 : p.decls.length ≤ 60) (h2 : p.rules.length ≤ 200) : p'.decls.length ≤ 60 ∧ p'.rules.length ≤ 200 := by
 have hm : ∀ {w : Bool} {l l' : List De} {r : List Tok},markL w l ts = .ok (l',r) → l'.length = l.length := by
  intro w l l' r hm
  rw [markL] at hm
  split at hm
  ·split at hm
   ·cases hm
   ·split at hm
    ·cases hm
    ·split at hm
     ·cases hm
     ·cases hm
      exact List.length_set ..
  ·cases hm
 rw [itemL] at h
 split at h
 ·split at h
  ·cases h
  ·split at h
   ·cases h
   ·rename_i hx _ d r1 _
    cases h
    show (p.decls ++ [d]).length ≤ 60 ∧ _
    rw [List.length_append,List.length_singleton]
    exact ⟨by omega,h2⟩
 ·split at h
  ·split at h
   ·cases h
   ·rename_i l r1 hl
    cases h
    exact ⟨by show l.length ≤ 60; rw [hm hl]; exact h1,h2⟩
  ·split at h
   ·split at h
    ·cases h
    ·rename_i l r1 hl
     cases h
     exact ⟨by show l.length ≤ 60; rw [hm hl]; exact h1,h2⟩
   ·split at h
    ·cases h
    ·split at h
     ·cases h
     ·rename_i hx _ x r1 _
      cases h
      refine ⟨h1,?_⟩
      show (p.rules ++ [x]).length ≤ 200
      rw [List.length_append,List.length_singleton]; omega
theorem eats_mark (w : Bool) (l : List De) {ts r : List Tok} {l' : List De} (h : markL w l ts = .ok (l',r)) : Less r ts := by
 rw [markL] at h
 split at h
 ·rename_i hn
  have hk : (hd ts.tail 0).kind ≠ 0 := by rw [name_kind hn]; decide
  split at h
  ·cases h
  ·split at h
   ·cases h
   ·split at h
    ·cases h
    ·cases h
     have h1 := less_tail hk
     exact ⟨h1.1.trans tail_suf,Nat.lt_of_lt_of_le h1.2 (tail_suf (ts := ts)).length_le⟩
 ·cases h
theorem eats_item (F : Nat) (p : Pr) : Eats (itemL F p) := fun ts x r h => by
 rw [itemL] at h
 split at h
 ·split at h
  ·cases h
  ·split at h
   ·cases h
   ·rename_i d r1 h1
    cases h
    exact decl_suf h1
 ·split at h
  ·split at h
   ·cases h
   ·rename_i l r1 hl
    cases h
    exact eats_mark _ _ hl
  ·split at h
   ·split at h
    ·cases h
    ·rename_i l r1 hl
     cases h
     exact eats_mark _ _ hl
   ·split at h
    ·cases h
    ·split at h
     ·cases h
     ·rename_i x r1 hx
      cases h
      exact eats_rule F _ _ _ hx
theorem items_fuel {F : Nat} : ∀ (k k' : Nat) (p : Pr) (ts : List Tok),ts.length ≤ k → ts.length ≤ k' → itemsGo F k p ts = itemsGo F k' p ts
 | 0,k',p,ts,h,_ => by
  obtain rfl : ts = [] := List.eq_nil_of_length_eq_zero (by omega)
  cases k' <;> rfl
 | k + 1,0,p,ts,_,h => by
  obtain rfl : ts = [] := List.eq_nil_of_length_eq_zero (by omega)
  rfl
 | k + 1,k' + 1,p,ts,h,h' => by
  cases ts with
  | nil => rfl
  | cons t r =>
   rw [itemsGo,itemsGo]
   cases he : itemL F p (t :: r) with
   | error e => rfl
   | ok q =>
    obtain ⟨p',r'⟩ := q
    have h1 := (eats_item F p _ _ _ he).2
    exact items_fuel k k' p' r' (by simp only [List.length_cons] at h h1; omega) (by simp only [List.length_cons] at h' h1; omega)
theorem items_step {F k : Nat} {p p' : Pr} {ts r : List Tok} (hn : ts ≠ []) (h : itemL F p ts = .ok (p',r)) : itemsGo F (k + 1) p ts = itemsGo F k p' r := by
 cases ts with
 | nil => exact absurd rfl hn
 | cons t r => rw [itemsGo]; simp only [h]
theorem items_err {F k : Nat} {p : Pr} {ts : List Tok} {q : Int × Int} (hn : ts ≠ []) (h : itemL F p ts = .error q) : itemsGo F (k + 1) p ts = .error q := by
 cases ts with
 | nil => exact absurd rfl hn
 | cons t r => rw [itemsGo]; simp only [h]
theorem items_nil {F k : Nat} {p : Pr} : itemsGo F k p [] = .ok p := by cases k <;> rfl
theorem AW_grownD {N : Nat} {rd : Option Nat} {E : Env} {R : List En} {k : Kt} {c : Code} (q : Nat) (y : AV) (g : Gr De 6) (hy : y.one = true) (h : AW Tryz.prog N rd c E (.cells q [.sl 6 (g.l.map encD) .no,y] :: R) k) : AW Tryz.prog N rd c E (.cells q [grL g,y] :: (grS cD g ++ R)) k := by
 obtain ⟨l,b,cap,rest,h1,h2⟩ := g
 cases l with
 | nil =>
  exact AW_weak (fun w0 N K a w hE hS => ⟨K,Kle.refl K,hE,SW.le (SW.cells (cs := [.sl 0 [] .full,y]) (cs' := [.sl 6 (([] : List De).map encD) .no,y]) ⟨AVle.nil,AVle.refl _,trivial⟩ (by show (_ && (_ && _)) = true; rw [hy]; rfl) SW.nil) _ _ _ hS⟩) h
 | cons d r =>
  have hfl : Aw.flat ((d :: r).map encD) = flG cD (d :: r) := by rw [Aw.flat,flG,List.flatMap_map,List.flatMap]; rfl
  refine AW_weak (fun w0 N K a w hE hS => ⟨K,Kle.refl K,hE,hS.perm (List.Perm.swap _ _ _)⟩) (AW_freezeC (b := b) (q := q) (off := 0) (n := (d :: r).length) (cap := cap) (sz := 6) (cs := flG cD (d :: r) ++ rest) (es := (d :: r).map encD) (qs := [.msl b 0 (d :: r).length cap,y]) (qs' := [.sl 6 ((d :: r).map encD) .no,y]) (by rw [List.length_map]) ?_ ?_ ⟨.inr ⟨rfl,rfl⟩, .inl rfl,trivial⟩ ?_ h)
  ·intro e he
   obtain ⟨x,_,rfl⟩ := List.mem_map.1 he
   rfl
  ·rw [hfl,List.drop_zero,List.take_left' (flG_len cD_len _)]
  ·intro c hc
   simp only [List.mem_cons,List.not_mem_nil,or_false] at hc
   rcases hc with rfl | rfl
   ·rfl
   ·exact hy
def resP (x : Pr × Int × Int) : AV := .tup [encP x.1, .int .i64 x.2.1, .int .i64 x.2.2]
theorem lePr {l : List Ru} {d : List De} {tk : Tk} : AVle (.agg [.sl 6 (d.map encD) .no, .sl 4 (l.map encRu) tk]) (encP ⟨d,l⟩) :=
 AVle.agg (bs := [.sl 6 (d.map encD) .no, .sl 4 (l.map encRu) .no]) ⟨AVle.refl _,AVle.tk,trivial⟩ (by intro c hc; simp only [List.mem_cons,List.not_mem_nil,or_false] at hc; rcases hc with rfl | rfl <;> rfl)
theorem leP0 : AVle (.agg [.sl 0 [] .full, .sl 0 [] .full]) (encP ⟨[], []⟩) :=
 AVle.agg (bs := [.sl 6 [] .no, .sl 4 [] .no]) ⟨AVle.nil,AVle.nil,trivial⟩ (by intro c hc; simp only [List.mem_cons,List.not_mem_nil,or_false] at hc; rcases hc with rfl | rfl <;> rfl)
theorem parse_ok (L : List Tok) (hN : NumT L) (R : List En) (hG : NumG R) (hA : AsG R) : ACall Tryz.prog 9 [.sl 3 (L.map Lx.encT) .no] R (fun r S => r = resP (parseL L) ∧ S = R) := by
 by_cases hL : 20000 < L.length
 ·have e : parseL L = (⟨[], []⟩,0,21) := if_pos hL
  rw [e]
  refine ACall_body tab_ok Tryz.func9 rfl rfl rfl (by kernel_rfl) (nb_ rfl) ?_
  repeat first|refine go_ ?_|intro _
  refine AW_true (b := decide (((L.map Lx.encT).length : Nat) > (20000 : Int))) rfl (by rw [List.length_map]; exact decide_eq_true (by omega)) ?_
  repeat first|refine go_ ?_|intro _
  refine AW_ret ?_
  exact ⟨rfl,0,_,rfl,⟨nb_ rfl,nb_ rfl⟩, .tup [encP ⟨[], []⟩, .int .i64 0, .int .i64 21],R,AVle.tup ⟨leP0,AVle.refl _,AVle.refl _,trivial⟩,sle_,rfl,rfl⟩
 have e : parseL L = (match itemsGo 20001 20000 ⟨[], []⟩ L with
  | .error e => (⟨[], []⟩,e.2,e.1)
  | .ok p => (p,0,0)) := if_neg hL
 have hL : L.length ≤ 20000 := by omega
 rw [e]
 refine ACall_body tab_ok Tryz.func9 rfl rfl rfl (by kernel_rfl) (nb_ rfl) ?_
 repeat first|refine go_ ?_|intro _
 rename_i b2
 refine AW_false (b := decide (((L.map Lx.encT).length : Nat) > (20000 : Int))) rfl (by rw [List.length_map]; exact decide_eq_false (by omega)) ?_
 repeat first|refine go_ ?_|intro _
 rename_i rp b6
 have hRD : RD rp L L = .cells rp [.sl 3 (L.map Lx.encT) .no, .int .i64 0] := by rw [RD,Nat.sub_self]; rfl
 refine AW_weak (weak_of (l := [(0, .sl 3 (L.map Lx.encT) .no),(2, .ptr b2 0),(5, .ptr rp 0),(6, .ptr b6 0)]) (m := []) (S' := .cells rp [.sl 3 (L.map Lx.encT) .no, .int .i64 0] :: .cells b6 [.sl 0 [] .full, .sl 0 [] .full] :: .cells b2 [.sl 0 [] .full, .sl 0 [] .full] :: R) ?_ rfl (fun w0 K w h => h.perm (by repeat (first | exact List.Perm.refl _ | refine perm_pick 0 rfl ?_ | refine perm_pick 1 rfl ?_ | refine perm_pick 2 rfl ?_ | refine perm_pick 3 rfl ?_ | refine perm_pick 4 rfl ?_ | refine perm_pick 5 rfl ?_ | refine perm_pick 6 rfl ?_ | refine perm_pick 7 rfl ?_)))) ?_
 ·exact e_
 refine AW_for (α := It × List Tok) (fun z => ⟨[(0, .sl 3 (L.map Lx.encT) .no),(2, .ptr b2 0),(5, .ptr rp 0),(6, .ptr b6 0)], []⟩) (fun z => RD rp L z.2 :: (stI b6 z.1 ++ (.cells b2 [.sl 0 [] .full, .sl 0 [] .full] :: R))) (fun z => z.2.length) (fun z => z.2 <:+ L ∧ z.1.g.l.length ≤ 60 ∧ z.1.l.length ≤ 200 ∧ itemsGo 20001 20000 ⟨[], []⟩ L = itemsGo 20001 z.2.length z.1.pr z.2) ((⟨grN, [], .full⟩,L)) ?_ (weak_of ?_ rfl ?_) (fun z hz => ?_)
 ·exact ⟨List.suffix_refl _,Nat.zero_le _,Nat.zero_le _,items_fuel _ _ _ _ hL (Nat.le_refl _)⟩
 ·exact e_
 ·intro w0 K w h
  rw [hRD]
  exact (SW.le (SW.cons (SW.cells (cs := [.sl 0 [] .full, .sl 0 [] .full]) (cs' := [.sl 0 [] .full, .sl 4 [] .full]) ⟨AVle.refl _,AVle.nilFull,trivial⟩ rfl (SW.full SW.nil)))) _ _ _ h
 obtain ⟨z,ts⟩ := z
 obtain ⟨hs,hg,hl,hI⟩ : ts <:+ L ∧ z.g.l.length ≤ 60 ∧ z.l.length ≤ 200 ∧ itemsGo 20001 20000 ⟨[], []⟩ L = itemsGo 20001 ts.length z.pr ts := hz
 rw [hI]
 show AW _ _ _ _ _ (RD rp L ts :: (stI b6 z ++ (.cells b2 [.sl 0 [] .full, .sl 0 [] .full] :: R))) _
 repeat first|refine go_ ?_|intro _
 by_cases hne : ts = []
 ·subst hne
  refine AW_false (b := decide (((L.length - ([] : List Tok).length : Nat) : Int) < ((L.map Lx.encT).length : Nat))) rfl (by rw [List.length_map]; exact decide_eq_false (by simp)) ?_
  rw [items_nil]
  refine AW_weak (weak_of (l := [(2, .ptr b2 0),(6, .ptr b6 0)]) (m := []) (S' := .cells b6 [grL z.g, .sl 4 (z.l.map encRu) z.tk] :: (grS cD z.g ++ (.cells b2 [.sl 0 [] .full, .sl 0 [] .full] :: R))) ?_ rfl ((fun w0 K w h => h.sub (.cons _ (.cons_cons _ (.cons _ (List.Sublist.refl _))))))) ?_
  ·exact e_
  refine AW_grownD b6 _ z.g rfl ?_
  repeat first|refine go_ ?_|intro _
  refine AW_ret ?_
  exact ⟨rfl,1,_,rfl,⟨nb_ rfl,nb_ rfl⟩, .tup [encP z.pr, .int .i64 0, .int .i64 0],R,AVle.tup ⟨lePr,AVle.refl _,AVle.refl _,trivial⟩,sle_,rfl,rfl⟩
 have hlen := hs.length_le
 have hpos := List.length_pos_iff.2 hne
 refine AW_true (b := decide (((L.length - ts.length : Nat) : Int) < ((L.map Lx.encT).length : Nat))) rfl (by rw [List.length_map]; exact decide_eq_true (by omega)) ?_
 repeat first|refine go_ ?_|intro _
 refine Or.inl ⟨⟨_,Tryz.func22,rfl,rfl⟩,ACall.mono ?_ (item_ok rp b6 L hL hN 20001 (by omega) z hg hl ts hs hne (.cells b2 [.sl 0 [] .full, .sl 0 [] .full] :: R) hG.cons)⟩
 rintro _ S1 ⟨z',ts1,o,rfl,hS1,hs1,ho⟩
 subst S1
 cases o with
 | none =>
  have ho : itemL 20001 z.pr ts = .ok (z'.pr,ts1) := ho
  have hc := item_cnt ho hg hl
  have hlt := (eats_item 20001 z.pr _ _ _ ho).2
  repeat first|refine ga_ ?_|intro _
  refine ⟨(z',ts1),?_,?_,weak_of ?_ rfl ?_⟩
  ·exact hlt
  ·refine ⟨hs1,hc.1,hc.2,?_⟩
   show itemsGo 20001 ts.length z.pr ts = itemsGo 20001 ts1.length z'.pr ts1
   obtain ⟨k,hk⟩ : ∃ k,ts.length = k + 1 := ⟨ts.length - 1,by omega⟩
   rw [hk,items_step hne ho]
   exact items_fuel _ _ _ _ (by omega) (Nat.le_refl _)
  ·exact e_
  ·exact SLe.of_eq rfl
 | some q =>
  have ho : itemL 20001 z.pr ts = .error q := ho
  have hr : itemsGo 20001 ts.length z.pr ts = .error q := by
   obtain ⟨k,hk⟩ : ∃ k,ts.length = k + 1 := ⟨ts.length - 1,by omega⟩
   rw [hk]; exact items_err hne ho
  rw [hr]
  repeat first|refine ga_ ?_|intro _
  rename_i b8
  refine Or.inl ⟨⟨_,Tryz.func20,rfl,rfl⟩,ACall.mono ?_ (fJoin_ok (.agg [.int .i64 q.1, .int .i64 q.2]) _ ⟨rfl,rfl⟩ _)⟩
  rintro _ S1 ⟨tk',rfl,hS1⟩
  subst S1
  repeat first|refine gr_ ?_|intro _
  refine Or.inl ⟨⟨_,Tryz.func21,rfl,rfl⟩,ACall.mono ?_ (as_ok b8 (.int .i64 0) (.int .i64 0) q.1 q.2 tk' _ (List.mem_cons_of_mem _ (List.mem_append_right _ (.tail _ hA))))⟩
  rintro _ S1 ⟨rfl,hS1⟩
  subst S1
  repeat first|refine gr_ ?_|intro _
  refine AW_weak (weak_of (l := [(2, .ptr b2 0),(8, .ptr b8 0),(31, .bool true)]) (m := []) (S' := .cells b8 [.int .i64 q.1, .int .i64 q.2] :: .cells b2 [.sl 0 [] .full, .sl 0 [] .full] :: R) ?_ rfl ((fun w0 K w h => h.sub (.cons_cons _ (.cons _ (.cons _ (.cons _ (List.sublist_append_right _ _)))))))) ?_
  ·exact e_
  refine AW_freezeP 8 (p := 0) rfl rfl ?_
  repeat first|refine ga_ ?_|intro _
  refine AW_drawp tab_ok mixed [0,1,2,3,4,5,6,7] [0,1,2,3,4,5,6,7] 5 [1,2,3,4] (by first | rfl | kernel_rfl) (by first | rfl | kernel_rfl) ?_
  repeat first|refine go_ ?_|intro _
  refine AW_ret ?_
  exact ⟨rfl,0,_,rfl,⟨nb_ rfl,nb_ rfl⟩, .tup [encP ⟨[], []⟩, .int .i64 q.2, .int .i64 q.1],R,AVle.tup ⟨leP0,AVle.refl _,AVle.refl _,trivial⟩,sle_,rfl,rfl⟩
theorem nz {n x : Int} (h : n ≠ 0 := by decide) : ((n,x) : Int × Int).1 ≠ 0 := h
theorem parse_of {L : List Tok} {p : Pr} (hl : L.length ≤ 20000) (h : itemsGo 20001 20000 ⟨[], []⟩ L = .ok p) : parseL L = (p,0,0) := by
 rw [parseL,if_neg (by omega),h]
end Go.Proofs.YtfeknkaioofljaaGreatDoor
