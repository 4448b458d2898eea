/-
 errors.As at a joined error. Own work (after the kit's worked text ToyasAs).
-/
import Derived.Test.YtfeknkaioofljaaGreatDoorQ3
import Derived.Test.YtfeknkaioofljaaGreatDoorBld
import Derived.Test.YtfeknkaioofljaaGreatDoorQ6
set_option linter.all false
set_option maxHeartbeats 4000000
set_option maxRecDepth 4000
namespace Go.Proofs.YtfeknkaioofljaaGreatDoor.Lx
open Go.RowKit Go.Extern.Stop Go.Stop Go.Extern Go.Aw
theorem as_nil (t : Value) (w : World) :
  Calls Tryz.prog 21 #[.nilIface,t] w fun e w' => e = .returned (.bool false) ∧ w' = w := by
 go_enter Tryz.func21,Tryz.ntmps21
 go_wp2
 go_ret
 exact ⟨rfl,rfl⟩
theorem fa_valueOfP (t : Addr) (w : World) : (ReflectliteValue.unpack (.iface 64 (.pointer (some t)))).run Tryz.prog w
  = .ok (.agg #[.pointer (some ⟨9,64,none⟩), .pointer (some ⟨w.heap.size,0,none⟩), .int .u64 150]) (w.alloc (.cells #[.pointer (some t)] 64)) := by kernel_rfl
theorem fa_typeP (a : Addr) (w : World) : (ReflectliteValue.methodAny (ReflectliteValue.valueError "reflectlite.Value.Type" 0) (fun t _ _ _ => ReflectliteType.toType t) #[(.agg #[.pointer (some ⟨9, 64, none⟩), .pointer (some a), .int .u64 150])]).run Tryz.prog w
  = .ok (.iface 162 (.agg #[.pointer (some ⟨9,64,none⟩)])) w := by kernel_rfl
theorem fa_methodKind (h : Value) (w : World) : (Go.method 395 162 (.agg #[h]) "Kind").run Tryz.prog w = .ok (228, h) w := by kernel_rfl
theorem fa_kindP (w : World) : ((ReflectliteType.abiMethod fun t => (fun a : Nat => Value.int IntKind.u8 (a : Int)) <$> Rtype.kind t) #[.pointer (some ⟨9,64,none⟩)]).run Tryz.prog w = .ok (.int .u8 22) w := by kernel_rfl
theorem fa_kindT (w : World) : ((ReflectliteType.abiMethod fun t => (fun a : Nat => Value.int IntKind.u8 (a : Int)) <$> Rtype.kind t) #[.pointer (some ⟨9,62,none⟩)]).run Tryz.prog w = .ok (.int .u8 22) w := by kernel_rfl
theorem fa_rlm (z : Sem Value) (f : TypeId → Addr → Nat → Nat → Sem Value) (v : Value) :
  ReflectliteValue.method z f #[v] = (do match ← ReflectliteValue.parts v with | none => z | some (t,a,fl) => f t a fl (fl % 32)) := rfl
theorem fa_partsP (a : Addr) (w : World) : (ReflectliteValue.parts (.agg #[.pointer (some ⟨9,64,none⟩), .pointer (some a), .int .u64 150])).run Tryz.prog w = .ok (some (64,a,150)) w := by kernel_rfl
theorem fa_isNil (a p : Addr) (W : World) (ha : W.cell? a = some (.pointer (some p))) :
  (ReflectliteValue.method (ReflectliteValue.valueError "reflectlite.Value.IsNil" 0) ReflectliteValue.isNil #[(.agg #[.pointer (some ⟨9, 64, none⟩), .pointer (some a), .int .u64 150])]).run Tryz.prog W = .ok (.bool false) W := by
 rw [fa_rlm]
 simp only [Sem.run_bind,fa_partsP,Result.andThen]
 simp [ReflectliteValue.isNil,loadVar,isAgg,underlying,Tryz.underlying64,ha,Result.andThen]
theorem fa_methodElem (h : Value) (w : World) : (Go.method 395 162 (.agg #[h]) "Elem").run Tryz.prog w = .ok (242, .agg #[h]) w := by kernel_rfl
theorem fa_methodImplements (h : Value) (w : World) : (Go.method 395 162 (.agg #[h]) "Implements").run Tryz.prog w = .ok (243, .agg #[h]) w := by kernel_rfl
theorem fa_methodAssignableTo (h : Value) (w : World) : (Go.method 395 162 (.agg #[h]) "AssignableTo").run Tryz.prog w = .ok (240, .agg #[h]) w := by kernel_rfl
theorem fa_elemP (w : World) : (ReflectliteType.method ReflectliteType.elem #[.agg #[.pointer (some ⟨9,64,none⟩)]]).run Tryz.prog w = .ok (.iface 162 (.agg #[.pointer (some ⟨9,62,none⟩)])) w := by kernel_rfl
theorem fa_implements (w : World) : (ReflectliteType.relation "Implements" ReflectliteType.implements_ #[.agg #[.pointer (some ⟨9, 62, none⟩)], .iface 162 (.agg #[.pointer (some ⟨9, 55, none⟩)])]).run Tryz.prog w = .ok (.bool true) w := by kernel_rfl
theorem fa_typeOfT (v : Value) (w : World) : (ReflectliteType.typeOf #[.iface 62 v]).run Tryz.prog w = .ok (.iface 162 (.agg #[.pointer (some ⟨9,62,none⟩)])) w := by kernel_rfl
theorem fa_typeOfJ (v : Value) (w : World) : (ReflectliteType.typeOf #[.iface 110 v]).run Tryz.prog w = .ok (.iface 162 (.agg #[.pointer (some ⟨9,110,none⟩)])) w := by kernel_rfl
theorem fa_assignT (w : World) : (ReflectliteType.relation "AssignableTo" ReflectliteType.assignableTo #[.agg #[.pointer (some ⟨9, 62, none⟩)], .iface 162 (.agg #[.pointer (some ⟨9, 62, none⟩)])]).run Tryz.prog w = .ok (.bool true) w := by kernel_rfl
theorem fa_assignJ (w : World) : (ReflectliteType.relation "AssignableTo" ReflectliteType.assignableTo #[.agg #[.pointer (some ⟨9, 110, none⟩)], .iface 162 (.agg #[.pointer (some ⟨9, 62, none⟩)])]).run Tryz.prog w = .ok (.bool false) w := by kernel_rfl
theorem fa_valueOfT (e : Addr) (w : World) : (ReflectliteValue.unpack (.iface 62 (.pointer (some e)))).run Tryz.prog w
  = .ok (.agg #[.pointer (some ⟨9,62,none⟩), .pointer (some ⟨w.heap.size,0,none⟩), .int .u64 150]) (w.alloc (.cells #[.pointer (some e)] 62)) := by kernel_rfl
theorem fa_elemOf (w : World) : (Rtype.elem? 64).run Tryz.prog w = .ok (some 62) w := by kernel_rfl
theorem fa_mk (p : Addr) (w : World) : (ReflectliteValue.mk 62 p ReflectliteValue.flagAddr).run Tryz.prog w = .ok (.agg #[.pointer (some ⟨9,62,none⟩), .pointer (some p), .int .u64 406]) w := by kernel_rfl
theorem fa_elemV (a p : Addr) (W : World) (ha : W.cell? a = some (.pointer (some p))) :
  (ReflectliteValue.method (ReflectliteValue.valueError "reflectlite.Value.Elem" 0) ReflectliteValue.elem #[(.agg #[.pointer (some ⟨9, 64, none⟩), .pointer (some a), .int .u64 150])]).run Tryz.prog W = .ok (.agg #[.pointer (some ⟨9, 62, none⟩), .pointer (some p), .int .u64 406]) W := by
 rw [fa_rlm]
 simp only [Sem.run_bind,fa_partsP,Result.andThen]
 simp [ReflectliteValue.elem,loadVar,isAgg,underlying,Tryz.underlying64,ha,Result.andThen,fa_elemOf,fa_mk]
theorem fa_rls (v x : Value) : ReflectliteValue.set #[v,x] = (do
  let (some (dst,a,fl),some (src,b,_)) := (← ReflectliteValue.parts v, ← ReflectliteValue.parts x)
   | unsupported (.noEntry "extern/(internal/reflectlite.Value).Set.zeroValue")
  if fl / ReflectliteValue.flagAddr % 2 == 0 then unsupported (.noEntry "extern/(internal/reflectlite.Value).Set.unaddressable")
  let val ← loadVar src b
  if ← Rtype.directlyAssignable dst src then storeVar dst a val
  else if ← Rtype.implements dst src then
   if (← Rtype.kind src) == 20 then
    match val with
    | .nilIface => unsupported (.noEntry "extern/reflectlite: a nil value of one interface type handed on as a value of another")
    | _ => storeVar dst a val
   else storeVar dst a (.iface src val)
  else panicString ("reflectlite.Set: value of type " ++ (← Rtype.spelt src) ++ " is not assignable to type " ++ (← Rtype.spelt dst))
  pure (.tuple #[])) := rfl
theorem fa_partsS (a : Addr) (w : World) : (ReflectliteValue.parts (.agg #[.pointer (some ⟨9,62,none⟩), .pointer (some a), .int .u64 406])).run Tryz.prog w = .ok (some (62,a,406)) w := by kernel_rfl
theorem fa_partsT (a : Addr) (w : World) : (ReflectliteValue.parts (.agg #[.pointer (some ⟨9,62,none⟩), .pointer (some a), .int .u64 150])).run Tryz.prog w = .ok (some (62,a,150)) w := by kernel_rfl
theorem fa_direct (w : World) : (Rtype.directlyAssignable 62 62).run Tryz.prog w = .ok true w := by kernel_rfl
theorem fa_set (ta b e : Addr) (old : Value) (W : World) (hb : W.cell? b = some (.pointer (some e))) (ht : W.cell? ta = some old) (hf : W.frozen? ta = false) :
  (ReflectliteValue.set #[(.agg #[.pointer (some ⟨9,62,none⟩), .pointer (some ta), .int .u64 406]),(.agg #[.pointer (some ⟨9,62,none⟩), .pointer (some b), .int .u64 150])]).run Tryz.prog W = .ok (.tuple #[]) (W.setCell ta (.pointer (some e))) := by
 rw [fa_rls]
 simp only [Sem.run_bind,fa_partsS,fa_partsT,Result.andThen]
 simp [ReflectliteValue.flagAddr,loadVar,isAgg,underlying,Tryz.underlying62,hb,Result.andThen,fa_direct,storeVar,Value.cells,storeCells,Addr.add]
 rw [run_store Tryz.prog W ta _ _ (by rfl)]
 simp [ht,hf]
theorem fa_noAs (v : Value) (w : World) : (Instr.typeAssert (.iface 110 v) 55 167 true).run Tryz.prog w = .ok (.tuple #[.nilIface, .bool false]) w := run_typeAssert_lacksB Tryz.underlying167 (by kernel_rfl) (by kernel_rfl) v 55 w
theorem fa_noUn (v : Value) (w : World) : (Instr.typeAssert (.iface 110 v) 55 170 true).run Tryz.prog w = .ok (.tuple #[.nilIface, .bool false]) w := run_typeAssert_lacksB Tryz.underlying170 (by kernel_rfl) (by kernel_rfl) v 55 w
theorem fa_un (v : Value) (w : World) : (Instr.typeAssert (.iface 110 v) 55 172 true).run Tryz.prog w = .ok (.tuple #[.iface 110 v, .bool true]) w := run_typeAssert_hasB Tryz.underlying172 (by kernel_rfl) v 55 w
theorem fa_methodUnwrap (v : Value) (w : World) : (Go.method 395 110 v "Unwrap").run Tryz.prog w = .ok (235, v) w := by kernel_rfl
theorem un_ok (j : Addr) (s : Value) (w : World) (hj : w.cell? j = some s) : Calls Tryz.prog 235 #[.pointer (some j)] w fun ev w' => ev = .returned s ∧ w' = w := by
 go_enter Tryz.func235,Tryz.ntmps235
 go_wp2
 go_ret
 exact ⟨rfl,rfl⟩
set_option maxHeartbeats 4000000 in
theorem as_in (e t a : Addr) (old : Value) (w : World) (ha : w.cell? a = some (.pointer (some t))) (ht0 : w.cell? t = some old) (hf0 : w.frozen? t = false) :
  Calls Tryz.prog 50 #[.iface 62 (.pointer (some e)), .iface 64 (.pointer (some t)),(.agg #[.pointer (some ⟨9,64,none⟩), .pointer (some a), .int .u64 150]), .iface 162 (.agg #[.pointer (some ⟨9,62,none⟩)])] w fun ev w' => ev = .returned (.bool true) ∧
   w' = ((w.alloc (.cells #[.pointer (some ⟨9,64,none⟩), .pointer (some a), .int .u64 150] 116)).alloc (.cells #[.pointer (some e)] 62)).setCell t (.pointer (some e)) := by
 have h10 := @run_callFunc_extern Tryz.prog 89 _ ReflectliteType.typeOf Tryz.func89 (by kernel_rfl) (by kernel_rfl) (by kernel_rfl) (by kernel_rfl)
 have h35 := @run_callFunc_extern Tryz.prog 240 _ (ReflectliteType.relation "AssignableTo" ReflectliteType.assignableTo) Tryz.func240 (by kernel_rfl) (by kernel_rfl) (by kernel_rfl) (by kernel_rfl)
 have h6 := @run_callFunc_extern Tryz.prog 47 _ (fun args => ReflectliteValue.unpack (args.getD 0 (.tuple #[]))) Tryz.func47 (by kernel_rfl) (by kernel_rfl) (by kernel_rfl) (by kernel_rfl)
 have h11 := @run_callFunc_extern Tryz.prog 90 _ (ReflectliteValue.method (ReflectliteValue.valueError "reflectlite.Value.Elem" 0) ReflectliteValue.elem) Tryz.func90 (by kernel_rfl) (by kernel_rfl) (by kernel_rfl) (by kernel_rfl)
 have h12 := @run_callFunc_extern Tryz.prog 91 _ ReflectliteValue.set Tryz.func91 (by kernel_rfl) (by kernel_rfl) (by kernel_rfl) (by kernel_rfl)
 have tO := fa_typeOfT
 have mA := fa_methodAssignableTo
 have aT := fa_assignT
 have vT := fa_valueOfT
 have hal : a.block < w.heap.size := World.block_lt_of_cell? _ _ ha
 have htl : t.block < w.heap.size := World.block_lt_of_cell? _ _ ht0
 have el := fa_elemV a t (w.alloc (.cells #[.pointer (some ⟨9,64,none⟩), .pointer (some a), .int .u64 150] 116)) (by rw [World.cell?_alloc_lt _ _ a hal]; exact ha)
 have st := fa_set t ⟨w.heap.size + 1,0,none⟩ e old ((w.alloc (.cells #[.pointer (some ⟨9,64,none⟩), .pointer (some a), .int .u64 150] 116)).alloc (.cells #[.pointer (some e)] 62))
  (by rw [World.cell?_alloc_at _ _ _ _ (by simp)]; rfl)
  (by rw [World.cell?_alloc_lt _ _ t (by simp; omega),World.cell?_alloc_lt _ _ t htl]; exact ht0)
  (by rw [World.frozen?_alloc_old _ _ t (by simp; omega),World.frozen?_alloc_old _ _ t (Nat.ne_of_lt htl)]; exact hf0)
 go_enter Tryz.func50,Tryz.ntmps50
 go_wp2
 refine wp_loop_rounds 1 ?_
 rw [rounds_succ]
 go_wp2
 go_ret
 exact ⟨rfl,rfl⟩
set_option maxHeartbeats 4000000 in
theorem as_out (e t a j c : Addr) (n : Nat) (old : Value) (w : World) (ha : w.cell? a = some (.pointer (some t))) (ht0 : w.cell? t = some old) (hf0 : w.frozen? t = false)
  (hj : w.cell? j = some (.slice (some c) 1 n)) (hc : w.cell? c = some (.iface 62 (.pointer (some e)))) :
  Calls Tryz.prog 50 #[.iface 110 (.pointer (some j)), .iface 64 (.pointer (some t)),(.agg #[.pointer (some ⟨9,64,none⟩), .pointer (some a), .int .u64 150]), .iface 162 (.agg #[.pointer (some ⟨9,62,none⟩)])] w fun ev w' => ev = .returned (.bool true) ∧
   w' = (((w.alloc (.cells #[.pointer (some ⟨9,64,none⟩), .pointer (some a), .int .u64 150] 116)).alloc (.cells #[.pointer (some ⟨9,64,none⟩), .pointer (some a), .int .u64 150] 116)).alloc (.cells #[.pointer (some e)] 62)).setCell t (.pointer (some e)) := by
 have h10 := @run_callFunc_extern Tryz.prog 89 _ ReflectliteType.typeOf Tryz.func89 (by kernel_rfl) (by kernel_rfl) (by kernel_rfl) (by kernel_rfl)
 have h35 := @run_callFunc_extern Tryz.prog 240 _ (ReflectliteType.relation "AssignableTo" ReflectliteType.assignableTo) Tryz.func240 (by kernel_rfl) (by kernel_rfl) (by kernel_rfl) (by kernel_rfl)
 have tO := fa_typeOfJ
 have mA := fa_methodAssignableTo
 have mU := fa_methodUnwrap
 have aJ := fa_assignJ
 have n1 := fa_noAs
 have n2 := fa_noUn
 have n3 := fa_un
 have hal : a.block < w.heap.size := World.block_lt_of_cell? _ _ ha
 have htl : t.block < w.heap.size := World.block_lt_of_cell? _ _ ht0
 have hjl : j.block < w.heap.size := World.block_lt_of_cell? _ _ hj
 have hcl : c.block < w.heap.size := World.block_lt_of_cell? _ _ hc
 have ha1 : (w.alloc (.cells #[.pointer (some ⟨9,64,none⟩), .pointer (some a), .int .u64 150] 116)).cell? a = some (.pointer (some t)) := by rw [World.cell?_alloc_lt _ _ a hal]; exact ha
 have ht1 : (w.alloc (.cells #[.pointer (some ⟨9,64,none⟩), .pointer (some a), .int .u64 150] 116)).cell? t = some old := by rw [World.cell?_alloc_lt _ _ t htl]; exact ht0
 have hf1 : (w.alloc (.cells #[.pointer (some ⟨9,64,none⟩), .pointer (some a), .int .u64 150] 116)).frozen? t = false := by rw [World.frozen?_alloc_old _ _ t (Nat.ne_of_lt htl)]; exact hf0
 have hj1 : (w.alloc (.cells #[.pointer (some ⟨9,64,none⟩), .pointer (some a), .int .u64 150] 116)).cell? j = some (.slice (some c) 1 n) := by rw [World.cell?_alloc_lt _ _ j hjl]; exact hj
 have hc1 : (w.alloc (.cells #[.pointer (some ⟨9,64,none⟩), .pointer (some a), .int .u64 150] 116)).cell? c = some (.iface 62 (.pointer (some e))) := by rw [World.cell?_alloc_lt _ _ c hcl]; exact hc
 obtain ⟨cb,co,cs⟩ := c
 obtain rfl : cs = none := (cell_kof hc).1
 go_enter Tryz.func50,Tryz.ntmps50
 go_wp2
 refine wp_loop_rounds 1 ?_
 rw [rounds_succ]
 go_wp2_with (first | (go_at_call 235; refine (un_ok j _ _ hj1).mono ?_; rintro ev w' ⟨rfl,rfl⟩))
 refine wp_loop_rounds 1 ?_
 rw [rounds_succ]
 go_wp2_with (first | (go_at_call 50; refine (as_in e t a old _ ha1 ht1 hf1).mono ?_; rintro ev w' ⟨rfl,rfl⟩))
 go_ret
 exact ⟨rfl,rfl⟩
set_option maxHeartbeats 4000000 in
theorem as_top (e t j c : Addr) (n : Nat) (old : Value) (w : World) (hg : w.cell? ⟨0,0,none⟩ = some (.iface 162 (.agg #[.pointer (some ⟨9,55,none⟩)]))) (ht0 : w.cell? t = some old) (hf0 : w.frozen? t = false)
  (hj : w.cell? j = some (.slice (some c) 1 n)) (hc : w.cell? c = some (.iface 62 (.pointer (some e)))) :
  Calls Tryz.prog 21 #[.iface 110 (.pointer (some j)), .iface 64 (.pointer (some t))] w fun ev w' => ev = .returned (.bool true) ∧
   w' = (((((w.alloc (.cells #[.pointer (some t)] 64)).alloc (.cells #[.pointer (some ⟨9,64,none⟩), .pointer (some ⟨w.heap.size,0,none⟩), .int .u64 150] 116)).alloc (.cells #[.pointer (some ⟨9,64,none⟩), .pointer (some ⟨w.heap.size,0,none⟩), .int .u64 150] 116)).alloc (.cells #[.pointer (some ⟨9,64,none⟩), .pointer (some ⟨w.heap.size,0,none⟩), .int .u64 150] 116)).alloc (.cells #[.pointer (some e)] 62)).setCell t (.pointer (some e)) := by
 have h6 := @run_callFunc_extern Tryz.prog 47 _ (fun args => ReflectliteValue.unpack (args.getD 0 (.tuple #[]))) Tryz.func47 (by kernel_rfl) (by kernel_rfl) (by kernel_rfl) (by kernel_rfl)
 have h7 := @run_callFunc_extern Tryz.prog 48 _ (ReflectliteValue.methodAny (ReflectliteValue.valueError "reflectlite.Value.Type" 0) (fun t _ _ _ => ReflectliteType.toType t)) Tryz.func48 (by kernel_rfl) (by kernel_rfl) (by kernel_rfl) (by kernel_rfl)
 have h8 := @run_callFunc_extern Tryz.prog 49 _ (ReflectliteValue.method (ReflectliteValue.valueError "reflectlite.Value.IsNil" 0) ReflectliteValue.isNil) Tryz.func49 (by kernel_rfl) (by kernel_rfl) (by kernel_rfl) (by kernel_rfl)
 have h27 := @run_callFunc_extern Tryz.prog 228 _ (ReflectliteType.abiMethod fun t => do pure (.int .u8 (← Rtype.kind t))) Tryz.func228 (by kernel_rfl) (by kernel_rfl) (by kernel_rfl) (by kernel_rfl)
 have h37 := @run_callFunc_extern Tryz.prog 242 _ (ReflectliteType.method ReflectliteType.elem) Tryz.func242 (by kernel_rfl) (by kernel_rfl) (by kernel_rfl) (by kernel_rfl)
 have h38 := @run_callFunc_extern Tryz.prog 243 _ (ReflectliteType.relation "Implements" ReflectliteType.implements_) Tryz.func243 (by kernel_rfl) (by kernel_rfl) (by kernel_rfl) (by kernel_rfl)
 have f6 := fa_valueOfP
 have f7 := fa_typeP
 have mK := fa_methodKind
 have mE := fa_methodElem
 have mI := fa_methodImplements
 have k27 := fa_kindP
 have k25 := fa_kindT
 have e27 := fa_elemP
 have i25 := fa_implements
 have n8 := fa_isNil ⟨w.heap.size,0,none⟩ t ((w.alloc (.cells #[.pointer (some t)] 64)).alloc (.cells #[.pointer (some ⟨9,64,none⟩), .pointer (some ⟨w.heap.size,0,none⟩), .int .u64 150] 116)) (by simp)
 have hgl := World.block_lt_of_cell? _ _ hg
 have htl := World.block_lt_of_cell? _ _ ht0
 have hjl := World.block_lt_of_cell? _ _ hj
 have hcl := World.block_lt_of_cell? _ _ hc
 have old2 : ∀ (x : Addr),x.block < w.heap.size → ((w.alloc (.cells #[.pointer (some t)] 64)).alloc (.cells #[.pointer (some ⟨9,64,none⟩), .pointer (some ⟨w.heap.size,0,none⟩), .int .u64 150] 116)).cell? x = w.cell? x := fun x hx => by
  rw [World.cell?_alloc_lt _ _ x (by simp; omega),World.cell?_alloc_lt _ _ x hx]
 have hg2 := (old2 _ hgl).trans hg
 have ht2 := (old2 _ htl).trans ht0
 have hj2 := (old2 _ hjl).trans hj
 have hc2 := (old2 _ hcl).trans hc
 have ha2 : ((w.alloc (.cells #[.pointer (some t)] 64)).alloc (.cells #[.pointer (some ⟨9,64,none⟩), .pointer (some ⟨w.heap.size,0,none⟩), .int .u64 150] 116)).cell? ⟨w.heap.size,0,none⟩ = some (.pointer (some t)) := by
  rw [World.cell?_alloc_lt _ _ ⟨w.heap.size,0,none⟩ (by simp)]; simp
 have hf2 : ((w.alloc (.cells #[.pointer (some t)] 64)).alloc (.cells #[.pointer (some ⟨9,64,none⟩), .pointer (some ⟨w.heap.size,0,none⟩), .int .u64 150] 116)).frozen? t = false := by
  rw [World.frozen?_alloc_old _ _ t (by simp; omega),World.frozen?_alloc_old _ _ t (Nat.ne_of_lt htl)]; exact hf0
 go_enter Tryz.func21,Tryz.ntmps21
 go_wp2_with (first | (go_at_call 50; refine (as_out e t ⟨w.heap.size,0,none⟩ j c n old _ ha2 ht2 hf2 hj2 hc2).mono ?_; rintro ev w' ⟨rfl,rfl⟩))
 go_ret
 exact ⟨rfl,rfl⟩
theorem asNil_ok (t : AV) (R : List En) : ACall Tryz.prog 21 [.nilif,t] R (fun r S => r = .bool false ∧ S = R) := by
 refine ACall_pure fun w0 K w vs hv hS => ?_
 obtain ⟨x,r,rfl,hx,hr⟩ := hv.cons_inv
 obtain ⟨y,r',rfl,hy,hr'⟩ := hr.cons_inv
 obtain rfl := hr'.nil_inv
 cases hx
 refine (as_nil y w).mono ?_
 rintro e w' ⟨rfl,rfl⟩
 exact ⟨_,rfl, .bool _,Below.refl _ _⟩
def AsG (R : List En) : Prop := En.glob 0 [.ifc 162 (.agg [.ptr 9 55])] ∈ R
theorem as_ok (t : Nat) (x : AV) (cs : List AV) (tk : Tk) (R : List En) (hG : AsG R) :
  ACall Tryz.prog 21 [.ifc 110 (.ref [.sl 1 [.ifc 62 (.ref cs)] tk]), .ifc 64 (.ptr t 0)] (.cells t [x] :: R) (fun r S => r = .bool true ∧ S = .cells t [.ref cs] :: R) := by
 unfold ACall
 intro w0 K w vs hv hS
 rw [callsIn_wide]
 obtain ⟨v1,r,rfl,hx,hr⟩ := hv.cons_inv
 obtain ⟨v2,r',rfl,hy,hr'⟩ := hr.cons_inv
 obtain rfl := hr'.nil_inv
 cases hy with
 | ifc _ hy =>
 cases hy
 cases hx with
 | ifc _ hx =>
 cases hx with
 | @ref _ jb jo vs1 h1 hl h hk =>
 obtain ⟨s,hs,hsr⟩ := RelL.get (show RelL K [.sl 1 [.ifc 62 (.ref cs)] tk] vs1 from ⟨hl,h⟩) (i := 0) rfl
 have hj := hS.kcell _ _ _ (hk 0 _ hs)
 cases hsr with
 | @sl _ _ _ cb co cap vs2 hcap hmax hsz hone hl2 h2 hk2 htk =>
 obtain ⟨u,hu,hur⟩ := RelL.get (show RelL K (flat [.ifc 62 (.ref cs)]) vs2 from ⟨hl2,h2⟩) (i := 0) rfl
 have hc := hS.kcell _ _ _ (hk2 0 _ hu)
 cases hur with
 | ifc _ hur =>
 cases hur with
 | @ref _ eb eo vs3 g1 gl g gk =>
 have hgl : ∃ fr,w.cell? ⟨0,0,none⟩ = some (.iface 162 (.agg #[.pointer (some ⟨9,55,none⟩)])) ∧ fr = 0 := by
  obtain ⟨_,_,vs4,T,fr,hh,hr4,hk4⟩ := hS.ents _ (List.mem_cons_of_mem _ hG)
  obtain ⟨y,hy,hyr⟩ := hr4.get (i := 0) rfl
  cases hyr with
  | ifc _ hyr =>
   cases hyr with
   | @agg _ us u1 ul uh =>
    obtain ⟨z,rz,hz1,hz2,hz3⟩ := RelL.cons_inv (show RelL K [.ptr 9 55] us from ⟨ul,uh⟩)
    obtain rfl := hz3.nil_inv
    cases hz2
    subst hz1
    exact ⟨0,hS.kcell _ _ _ (hk4 0 _ hy),rfl⟩
 obtain ⟨_,hg,_⟩ := hgl
 obtain ⟨hB,hK,ho,cv,T,hh,hcv⟩ := hS.ents _ (.head _)
 obtain ⟨o1,ro,ho1,_,ho3⟩ := hcv.cons_inv
 obtain rfl := ho3.nil_inv
 have hct : w.cell? ⟨t,0,none⟩ = some o1 := by rw [cell_of_heap hh, ← Array.getElem?_toList,ho1]; rfl
 have hft : w.frozen? ⟨t,0,none⟩ = false := by simp [World.frozen?,hh]
 refine (as_top ⟨eb,eo,none⟩ ⟨t,0,none⟩ ⟨jb,jo,none⟩ ⟨cb,co,none⟩ cap o1 w hg hct hft hj hc).mono ?_
 rintro ev w' ⟨rfl,rfl⟩
 have hb : Below w.heap.size w (((((w.alloc (.cells #[.pointer (some ⟨t,0,none⟩)] 64)).alloc (.cells #[.pointer (some ⟨9,64,none⟩), .pointer (some ⟨w.heap.size,0,none⟩), .int .u64 150] 116)).alloc (.cells #[.pointer (some ⟨9,64,none⟩), .pointer (some ⟨w.heap.size,0,none⟩), .int .u64 150] 116)).alloc (.cells #[.pointer (some ⟨9,64,none⟩), .pointer (some ⟨w.heap.size,0,none⟩), .int .u64 150] 116)).alloc (.cells #[.pointer (some ⟨eb,eo,none⟩)] 62)) := by
  have b1 := (Below.refl w.heap.size w).alloc (Nat.le_refl _) (.cells #[.pointer (some ⟨t,0,none⟩)] 64)
  have b2 := b1.alloc b1.size (.cells #[.pointer (some ⟨9,64,none⟩), .pointer (some ⟨w.heap.size,0,none⟩), .int .u64 150] 116)
  have b3 := b2.alloc b2.size (.cells #[.pointer (some ⟨9,64,none⟩), .pointer (some ⟨w.heap.size,0,none⟩), .int .u64 150] 116)
  have b4 := b3.alloc b3.size (.cells #[.pointer (some ⟨9,64,none⟩), .pointer (some ⟨w.heap.size,0,none⟩), .int .u64 150] 116)
  exact b4.alloc b4.size _
 generalize (((((w.alloc (.cells #[.pointer (some ⟨t,0,none⟩)] 64)).alloc (.cells #[.pointer (some ⟨9,64,none⟩), .pointer (some ⟨w.heap.size,0,none⟩), .int .u64 150] 116)).alloc (.cells #[.pointer (some ⟨9,64,none⟩), .pointer (some ⟨w.heap.size,0,none⟩), .int .u64 150] 116)).alloc (.cells #[.pointer (some ⟨9,64,none⟩), .pointer (some ⟨w.heap.size,0,none⟩), .int .u64 150] 116)).alloc (.cells #[.pointer (some ⟨eb,eo,none⟩)] 62)) = w1 at hb
 have hS1 := hS.grown hb
 have hE : Rel K (.ref cs) (.pointer (some ⟨eb,eo,none⟩)) := .ref g1 gl g gk
 obtain ⟨w2,hw2,hS2⟩ := hS1.stored (p := 0) (off := 0) rfl (RelL.cons hE RelL.nil) (by intro c hc; simp at hc; subst hc; rfl) (by simp) Tryz.prog
 have hh1 : w1.heap[t]? = some (.cells cv T (0,0)) := (hb.block t (Array.getElem?_eq_some_iff.1 hh).1).trans hh
 have hct1 : w1.cell? ⟨t,0,none⟩ = some o1 := by rw [cell_of_heap hh1, ← Array.getElem?_toList,ho1]; rfl
 have hft1 : w1.frozen? ⟨t,0,none⟩ = false := by simp [World.frozen?,hh1]
 have hrun : (storeCells ⟨t,0,none⟩ [.pointer (some ⟨eb,eo,none⟩)]).run Tryz.prog w1 = .ok () (w1.setCell ⟨t,0,none⟩ (.pointer (some ⟨eb,eo,none⟩))) := by
  simp [storeCells,Addr.add]
  rw [run_store Tryz.prog w1 ⟨t,0,none⟩ _ _ (by rfl)]
  simp [hct1,hft1]
 rw [hrun] at hw2
 cases hw2
 exact ⟨_,K, .bool true,_,rfl,Kle.refl K, .bool true,hS2,rfl,rfl⟩
end Go.Proofs.YtfeknkaioofljaaGreatDoor.Lx
namespace Go.Proofs.YtfeknkaioofljaaGreatDoor.Lx
open Go.Aw Go.RowKit
theorem AW_freezeI {P : Program} {N : Nat} {rd : Option Nat} {E : Env} {S : List En} {k : Kt} {c : Code} (t : Nat) {T : TypeId} {p b : Nat} {cs : List AV} (he : lk E.l t = .ifc T (.ptr b 0)) (hp : S[p]? = some (.cells b cs)) (h : AW P N rd c ⟨(t, .ifc T (.ref cs)) :: E.l,E.m⟩ (S.eraseIdx p) k) : AW P N rd c E S k := by
 refine AW_weak ?_ h
 intro w0 N K a w hE hS
 have hSp := hS.perm (erase_perm hp)
 obtain ⟨K',hK,h1,vs,e1,hr,ho⟩ := hSp.freeze (p := 0) rfl
 refine ⟨K',hK,⟨hE.size,fun i => ?_,hE.defers⟩,h1⟩
 simp only [lk]
 by_cases hi : t = i
 ·subst hi
  rw [Nat.beq_refl]
  have hv := hE.slot t
  rw [he] at hv
  generalize a.tmps.getD t undef = v at hv
  show Rel K' (.ifc T (.ref cs)) v
  cases hv with
  | ifc _ hv =>
   cases hv
   exact .ifc _ (.ref ho hr.1 hr.2 (fun i v hv => by rw [Nat.zero_add,e1]; exact hv))
 ·rw [natBeq_ne hi]
  exact (hE.slot i).mono hK
def wrongE (line code : Int) : AV := .ifc 62 (.ref [.int .i64 line, .int .i64 code])
theorem join1_ok (E : AV) (tk : Tk) (hE : E.plain = true ∧ E.cells.length = 1) (R : List En) : ACall Tryz.prog 20 [.sl 1 [.ifc 62 E] tk] R (fun r S => ∃ tk',r = .ifc 110 (.ref [.sl 1 [.ifc 62 E] tk']) ∧ S = R) := by
 refine ACall_body tab_ok Tryz.func20 rfl rfl rfl (by kernel_rfl) (nb_ rfl) ?_
 repeat first|refine go_ ?_|intro _
 refine AW_for (α := Nat) (fun z => ⟨[(0, .sl 1 [.ifc 62 E] tk),(3, .int .i64 (z : Nat)),(9, .sl 1 [.ifc 62 E] tk),(10, .int .i64 (1 : Nat)),(11, .int .i64 (z : Nat))], []⟩) (fun z => R) (fun z => 1 - z) (fun z => z ≤ 1) (0) ?_ (weak_of ?_ rfl ?_) (fun z hz => ?_)
 ·omega
 ·exact e_
 ·exact l_
 repeat first|refine go_ ?_|intro _
 refine AW_iff (z < 1) rfl ib_ (fun h => ?_) (fun h => ?_)
 ·obtain rfl : z = 0 := by omega
  repeat first|refine go_ ?_|intro _
  refine ⟨by decide,_,rfl,?_⟩
  repeat first|refine go_ ?_|intro _
  refine AW_true (b := true) rfl (by first | rfl | (simp; done) | (simp; omega) | decide) ?_
  repeat first|refine go_ ?_|intro _
  refine ⟨1,?_,?_,weak_of ?_ rfl ?_⟩
  ·omega
  ·omega
  ·exact e_
  ·exact l_
 obtain rfl : z = 1 := by omega
 repeat first|refine go_ ?_|intro _
 refine AW_false (b := false) rfl (by first | rfl | (simp; done) | (simp; omega) | decide) ?_
 repeat first|refine go_ ?_|intro _
 refine ⟨0,1,rfl,rfl,Nat.zero_le _,room (by first | omega | (simp; omega)) rfl, .inl ⟨rfl,fun t1 => ?_⟩⟩
 repeat first|refine go_ ?_|intro _
 rename_i b
 refine AW_for (α := Nat × List AV × Tk) (fun z => ⟨[(0, .sl 1 [.ifc 62 E] tk),(6, .ptr b 0),(26, .sl 1 [.ifc 62 E] tk),(27, .int .i64 (1 : Nat)),(28, .int .i64 (z.1 : Nat))], []⟩) (fun z => .cells b [.sl 1 z.2.1 z.2.2] :: .grow z.2.2 :: R) (fun z => 1 - z.1) (fun z => (z.1 = 0 ∧ z.2.1 = []) ∨ (z.1 = 1 ∧ z.2.1 = [.ifc 62 E])) ((0, [],t1)) ?_ (weak_of ?_ rfl ?_) (fun z hz => ?_)
 ·exact .inl ⟨rfl,rfl⟩
 ·exact e_
 ·exact l_
 obtain ⟨z,es,t2⟩ := z
 rcases hz with ⟨z1,z2⟩ | ⟨z1,z2⟩
 ·simp only [] at z1 z2
  subst z1 z2
  repeat first|refine go_ ?_|intro _
  refine AW_true (b := true) rfl (by first | rfl | (simp; done) | (simp; omega) | decide) ?_
  repeat first|refine go_ ?_|intro _
  refine ⟨Int.le_refl 0,_,rfl,?_⟩
  repeat first|refine go_ ?_|intro _
  refine AW_true (b := true) rfl (by first | rfl | (simp; done) | (simp; omega) | decide) ?_
  repeat first|refine go_ ?_|intro _
  refine ⟨room (by first | omega | (simp; done) | (simp; omega) | (simp at *; done) | (simp at *; omega)) rfl, .inl rfl, .inr (.inl ⟨rfl,1,rfl,_,rfl,fun t1 => ?_⟩)⟩
  repeat first|refine go_ ?_|intro _
  refine ⟨((1, [.ifc 62 E],t1) : Nat × List AV × Tk),?_,?_,weak_of ?_ rfl ?_⟩
  ·exact Nat.sub_lt_sub_left (show 0 < 1 by decide) (Nat.lt_succ_self 0)
  ·exact .inr ⟨rfl,rfl⟩
  ·exact e_
  ·exact l_
 ·simp only [] at z1 z2
  subst z1 z2
  repeat first|refine go_ ?_|intro _
  refine AW_false (b := false) rfl (by first | rfl | (simp; done) | (simp; omega) | decide) ?_
  repeat first|refine go_ ?_|intro _
  refine AW_freezeI 2 (p := 0) rfl rfl ?_
  refine AW_ret ?_
  exact ⟨_,R,AVle.refl _,SLe.tail SLe.rfl,_,rfl,rfl⟩
theorem oneT_word {c : UInt8} {l w r : List UInt8} {k : Nat} (hc : ¬ c.toNat = 34) (h : oneT (c :: l) = some (k,w,r)) : c :: l = w ++ r ∧ k ≠ 3 := by
 obtain ⟨c',l',e1,e2,_,_,h3⟩ := oneT_cases h
 obtain ⟨rfl,rfl⟩ := List.cons.inj e1
 have hk : k ≠ 3 := by
  rcases h3 with ⟨_,rfl,_⟩ | ⟨_,_,rfl,_⟩ | ⟨rfl,_⟩ | ⟨_,rfl,_⟩ | ⟨_,_,_,_,rfl,_⟩
  ·decide
  ·decide
  ·exact absurd rfl hc
  ·decide
  ·decide
 rw [txt,if_neg hk] at e2
 exact ⟨e2,hk⟩
theorem oneT_quote (l : List UInt8) : oneT (34 :: l) = (symR l).map fun q => (3,q.1,q.2) := by
 rw [oneT,if_neg (by decide),if_neg (by decide),if_pos (by decide)]
def nextR (M p : Nat) (s : List UInt8) (R : List En) (r : AV) (S : List En) : Prop := match oneT s with
 | some q => r = .tup [encT ⟨q.1,q.2.1,((M - cnt s : Nat) : Int)⟩, .nilif] ∧ S = .cells p (scn M q.2.2) :: R
 | none => r = .tup [encT ⟨0, [],0⟩,wrongE ((M - cnt s : Nat) : Int) 20] ∧ S = .cells p (scn M s) :: R
theorem nextR_some {M p : Nat} {s : List UInt8} {R : List En} {r : AV} {S : List En} {q : Nat × List UInt8 × List UInt8} (h : oneT s = some q) (h1 : r = .tup [encT ⟨q.1,q.2.1,((M - cnt s : Nat) : Int)⟩, .nilif]) (h2 : S = .cells p (scn M q.2.2) :: R) : nextR M p s R r S := by
 rw [nextR,h]; exact ⟨h1,h2⟩
theorem nextR_none {M p : Nat} {s : List UInt8} {R : List En} {r : AV} {S : List En} (h : oneT s = none) (h1 : r = .tup [encT ⟨0, [],0⟩,wrongE ((M - cnt s : Nat) : Int) 20]) (h2 : S = .cells p (scn M s) :: R) : nextR M p s R r S := by
 rw [nextR,h]; exact ⟨h1,h2⟩
theorem perm_in {a b c : En} {R : List En} : SLe (a :: b :: c :: R) (c :: a :: b :: R) := fun _ _ _ h => h.perm ((List.perm_middle (l₁ := [a,b])).symm)
theorem next_sym (M p : Nat) (l : List UInt8) (R : List En) (hE : ErrG R) (hl : l.length ≤ 16777215) (hM : cnt (34 :: l) ≤ M) (hM2 : M ≤ 33554432) :
  ACall Tryz.prog 46 [.ptr p 0] (.cells p (scn M (34 :: l)) :: R) (fun r S => nextR M p (34 :: l) R r S) := by
 have ks := symbol_ok M p l
 have hT := oneT_quote l
 refine ACall_body tab_ok Tryz.func46 rfl rfl rfl (by kernel_rfl) (nb_ rfl) ?_
 repeat first|refine go_ ?_|intro _
 rename_i b1 b2
 refine at_list 0 rfl (by simp) ?_
 show (fun x : UInt8 => _) 34
 repeat first|refine go_ ?_|intro _
 refine AW_true (b := true) rfl (by first | rfl | (simp; done) | (simp; omega) | decide) ?_
 cases hy : symR l with
 | some q =>
  obtain ⟨t,r⟩ := q
  rw [hy] at ks hT
  simp only [Option.map_some] at ks hT
  repeat first|refine go_ ?_|intro _
  refine Or.inl ⟨⟨_,Tryz.func87,rfl,rfl⟩,ACall_dropX perm_in (ACall.mono ?_ (ks (.cells b2 [.int .i64 0, .str [], .int .i64 0] :: .cells b1 [.int .i64 0, .str [], .int .i64 0] :: R) hE.cons.cons hl hM hM2))⟩
  rintro _ S1 ⟨rfl,hS1⟩
  subst S1
  repeat first|refine go_ ?_|intro _
  refine AW_false (b := false) rfl (by first | rfl | (simp; done) | (simp; omega) | decide) ?_
  repeat first|refine go_ ?_|intro _
  refine AW_ret ?_
  refine ⟨rfl,2,_,rfl,⟨nb_ rfl,nb_ rfl⟩,_, .cells p (scn M r) :: R,AVle.refl _,?_,nextR_some hT rfl rfl⟩
  exact fun w0 K w h => (h.sub (List.Sublist.cons_cons _ (List.Sublist.cons _ (List.Sublist.cons _ (List.Sublist.refl _)))))
 | none =>
  rw [hy] at ks hT
  simp only [Option.map_none] at ks hT
  repeat first|refine go_ ?_|intro _
  refine Or.inl ⟨⟨_,Tryz.func87,rfl,rfl⟩,ACall_dropX perm_in (ACall.mono ?_ (ks (.cells b2 [.int .i64 0, .str [], .int .i64 0] :: .cells b1 [.int .i64 0, .str [], .int .i64 0] :: R) hE.cons.cons hl hM hM2))⟩
  rintro _ S1 ⟨rfl,hS1⟩
  subst S1
  repeat first|refine go_ ?_|intro _
  refine AW_true (b := true) rfl (by first | rfl | (simp; done) | (simp; omega) | decide) ?_
  repeat first|refine go_ ?_|intro _
  refine AW_freezeI 3 (p := 0) rfl rfl ?_
  refine AW_ret ?_
  refine ⟨rfl,2,_,rfl,⟨nb_ rfl,nb_ rfl⟩,_, .cells p (scn M (34 :: l)) :: R,AVle.refl _,?_,nextR_none hT rfl rfl⟩
  exact fun w0 K w h => (h.sub (List.Sublist.cons_cons _ (List.Sublist.cons _ (List.Sublist.cons _ (List.Sublist.refl _)))))
theorem next_tok (M p : Nat) (c : UInt8) (l : List UInt8) (R : List En) (hG : NumG R) (hc : ¬ c.toNat = 34) (hl : l.length ≤ 16777214) (hM : cnt (c :: l) ≤ M) (hM2 : M ≤ 33554432) :
  ACall Tryz.prog 46 [.ptr p 0] (.cells p (scn M (c :: l)) :: R) (fun r S => nextR M p (c :: l) R r S) := by
 have ks := token_ok M p c l
 refine ACall_body tab_ok Tryz.func46 rfl rfl rfl (by kernel_rfl) (nb_ rfl) ?_
 repeat first|refine go_ ?_|intro _
 rename_i b1 b2
 refine at_list 0 rfl (by simp) ?_
 show (fun x : UInt8 => _) c
 repeat first|refine go_ ?_|intro _
 refine AW_iff (c.toNat = 34) rfl ib_ (fun h => ?_) (fun h => ?_)
 ·exact absurd h hc
 cases hT : oneT (c :: l) with
 | some q =>
  obtain ⟨k,w,r⟩ := q
  rw [hT] at ks
  obtain ⟨e1,_⟩ := oneT_word hc hT
  have e2 : (c :: l).drop w.length = r := by rw [e1,List.drop_left]
  have e3 : w.length ≤ (c :: l).length := by rw [e1,List.length_append]; omega
  repeat first|refine go_ ?_|intro _
  refine Or.inl ⟨⟨_,Tryz.func88,rfl,rfl⟩,ACall_dropX perm_in (ACall.mono ?_ (ks (.cells b2 [.int .i64 0, .str [], .int .i64 0] :: .cells b1 [.int .i64 0, .str [], .int .i64 0] :: R) hG.cons.cons hc (by omega)))⟩
  rintro _ S1 ⟨hr,hS1⟩
  obtain rfl := hr
  subst S1
  repeat first|refine go_ ?_|intro _
  refine AW_true (b := true) rfl (by first | rfl | (simp; done) | (simp; omega) | decide) ?_
  repeat first|refine go_ ?_|intro _
  refine Or.inl ⟨⟨_,Tryz.func86,rfl,rfl⟩,ACall.mono ?_ (takes_ok M w.length p (c :: l) _ e3 (by simp; omega) hM hM2)⟩
  rintro _ S1 rfl
  rw [e2]
  repeat first|refine go_ ?_|intro _
  refine AW_false (b := false) rfl (by first | rfl | (simp; done) | (simp; omega) | decide) ?_
  repeat first|refine go_ ?_|intro _
  refine AW_ret ?_
  refine ⟨rfl,2,_,rfl,⟨nb_ rfl,nb_ rfl⟩,_, .cells p (scn M r) :: R,AVle.refl _,?_,nextR_some hT rfl rfl⟩
  exact fun w0 K w h => (h.sub (List.Sublist.cons_cons _ (List.Sublist.cons _ (List.Sublist.cons _ (List.Sublist.refl _)))))
 | none =>
  rw [hT] at ks
  repeat first|refine go_ ?_|intro _
  refine Or.inl ⟨⟨_,Tryz.func88,rfl,rfl⟩,ACall_dropX perm_in (ACall.mono ?_ (ks (.cells b2 [.int .i64 0, .str [], .int .i64 0] :: .cells b1 [.int .i64 0, .str [], .int .i64 0] :: R) hG.cons.cons hc (by omega)))⟩
  rintro _ S1 ⟨⟨k,w,hr⟩,hS1⟩
  obtain rfl := hr
  subst S1
  repeat first|refine go_ ?_|intro _
  refine AW_false (b := false) rfl (by first | rfl | (simp; done) | (simp; omega) | decide) ?_
  repeat first|refine go_ ?_|intro _
  refine AW_true (b := true) rfl (by first | rfl | (simp; done) | (simp; omega) | decide) ?_
  repeat first|refine go_ ?_|intro _
  refine AW_freezeI 3 (p := 0) rfl rfl ?_
  refine AW_ret ?_
  refine ⟨rfl,2,_,rfl,⟨nb_ rfl,nb_ rfl⟩,_, .cells p (scn M (c :: l)) :: R,AVle.refl _,?_,nextR_none hT rfl rfl⟩
  exact fun w0 K w h => (h.sub (List.Sublist.cons_cons _ (List.Sublist.cons _ (List.Sublist.cons _ (List.Sublist.refl _)))))
theorem scanNext_ok (M p : Nat) (s : List UInt8) (R : List En) (hG : NumG R) (hE : ErrG R) (hs : s ≠ []) (hl : s.length ≤ 16777214) (hM : cnt s ≤ M) (hM2 : M ≤ 33554432) :
  ACall Tryz.prog 46 [.ptr p 0] (.cells p (scn M s) :: R) (fun r S => nextR M p s R r S) := by
 cases s with
 | nil => exact absurd rfl hs
 | cons c l =>
  by_cases hc : c.toNat = 34
  ·obtain rfl : c = 34 := UInt8.toNat_inj.1 hc
   exact next_sym M p l R hE (by simp at hl; omega) hM hM2
  ·exact next_tok M p c l R hG hc (by simp at hl; omega) hM hM2
end Go.Proofs.YtfeknkaioofljaaGreatDoor.Lx
