/-
  What the operations ask and give, one after the other. Own work.
-/
import Derived.Test.YtgkjbpnmeeibbaaGreatDoorAw2
set_option linter.all false
namespace Go.Aw
open Go.RowKit

theorem wrap_has (k : IntKind) (n : Int) : k.has (k.wrap n) := by
  cases k <;> simp only [IntKind.has, IntKind.wrap, IntKind.min, IntKind.max, IntKind.bits, IntKind.signed] <;> (simp; try split) <;> omega

theorem run_bind_ok {α β : Type} {P : Program} {x : Sem α} {f : α → Sem β} {w w' : World} {a : α} (h : x.run P w = .ok a w') : (x >>= f).run P w = (f a).run P w' := by
  rw [Sem.run_bind]; rw [h]; rfl

/-! ### arithmetic -/
def aBin (op : BinOp) (x y : AV) (k : AV → Prop) : Prop :=
  match op, x, y with
  | .shl, .int q a, .int _ b => 0 ≤ b ∧ k (.int q (q.wrap (a * 2 ^ (min b.toNat q.bits))))
  | .shr, .int q a, .int _ b => 0 ≤ b ∧ q.has (a.fdiv (2 ^ (min b.toNat q.bits))) ∧ k (.int q (a.fdiv (2 ^ (min b.toNat q.bits))))
  | .add, .int q a, .int q' b => q = q' ∧ k (.int q (q.wrap (a + b)))
  | .sub, .int q a, .int q' b => q = q' ∧ k (.int q (q.wrap (a - b)))
  | .mul, .int q a, .int q' b => q = q' ∧ k (.int q (q.wrap (a * b)))
  | .quo, .int q a, .int q' b => q = q' ∧ b ≠ 0 ∧ k (.int q (q.wrap (a.tdiv b)))
  | .rem, .int q a, .int q' b => q = q' ∧ b ≠ 0 ∧ q.has (a.tmod b) ∧ k (.int q (a.tmod b))
  | .and, .int q a, .int q' b => q = q' ∧ k (.int q (q.wrap (BitVec.ofInt q.bits a &&& BitVec.ofInt q.bits b).toNat))
  | .or, .int q a, .int q' b => q = q' ∧ k (.int q (q.wrap (BitVec.ofInt q.bits a ||| BitVec.ofInt q.bits b).toNat))
  | .lss, .int q a, .int q' b => q = q' ∧ k (.bool (decide (a < b)))
  | .leq, .int q a, .int q' b => q = q' ∧ k (.bool (decide (a ≤ b)))
  | .gtr, .int q a, .int q' b => q = q' ∧ k (.bool (decide (b < a)))
  | .geq, .int q a, .int q' b => q = q' ∧ k (.bool (decide (b ≤ a)))
  | .eql, .int q a, .int q' b => q = q' ∧ k (.bool (decide (a = b)))
  | .neq, .int q a, .int q' b => q = q' ∧ k (.bool (!decide (a = b)))
  | .add, .str s, .str t => s.length + t.length ≤ maxLen ∧ k (.str (s ++ t))
  | .eql, .str s, .str t => k (.bool (decide (s = t)))
  | .neq, .str s, .str t => k (.bool (!decide (s = t)))
  | .lss, .str s, .str t => k (.bool (Op.bytesLess s t))
  | .leq, .str s, .str t => k (.bool (Op.bytesLess s t || decide (s = t)))
  | .gtr, .str s, .str t => k (.bool (!(Op.bytesLess s t || decide (s = t))))
  | .geq, .str s, .str t => k (.bool (!Op.bytesLess s t))
  | .eql, .bool a, .bool b => k (.bool (a == b))
  | .neq, .bool a, .bool b => k (.bool (!(a == b)))
  | _, _, _ => False

theorem eqGuard_int (op : BinOp) (t : TypeId) (x y : Operand) (k : IntKind) (n : Int) (v : Value) : eqGuard op t x y (.int k n) v = pure () := by cases op <;> rfl
theorem eqGuard_str (op : BinOp) (t : TypeId) (x y : Operand) (s : ByteArray) (v : Value) : eqGuard op t x y (.string s) v = pure () := by cases op <;> rfl
theorem eqGuard_bool (op : BinOp) (t : TypeId) (x y : Operand) (s : Bool) (v : Value) : eqGuard op t x y (.bool s) v = pure () := by cases op <;> rfl

theorem run_binInt {P : Program} {w : World} {op : BinOp} {t : TypeId} {q q' : IntKind} {a b : Int} {k : AV → Prop} (h : aBin op (.int q a) (.int q' b) k) :
    ∃ v : Value × AV, (binOp op t (.int q a) (.int q' b)).run P w = .ok v.1 w ∧ (∀ K, Rel K v.2 v.1) ∧ k v.2 := by
  cases op <;> simp only [aBin] at h
  case add => obtain ⟨rfl, h⟩ := h; exact ⟨(_, _), by simp [binOp, Op.intArith], fun K => .int _ _ (wrap_has _ _), h⟩
  case sub => obtain ⟨rfl, h⟩ := h; exact ⟨(_, _), by simp [binOp, Op.intArith], fun K => .int _ _ (wrap_has _ _), h⟩
  case mul => obtain ⟨rfl, h⟩ := h; exact ⟨(_, _), by simp [binOp, Op.intArith], fun K => .int _ _ (wrap_has _ _), h⟩
  case quo => obtain ⟨rfl, hb, h⟩ := h; exact ⟨(_, _), by simp [binOp, Op.intDiv, hb], fun K => .int _ _ (wrap_has _ _), h⟩
  case rem => obtain ⟨rfl, hb, hh, h⟩ := h; exact ⟨(_, _), by simp [binOp, Op.intDiv, hb], fun K => .int _ _ hh, h⟩
  case and => obtain ⟨rfl, h⟩ := h; exact ⟨(_, _), by simp [binOp, Op.intBits], fun K => .int _ _ (wrap_has _ _), h⟩
  case or => obtain ⟨rfl, h⟩ := h; exact ⟨(_, _), by simp [binOp, Op.intBits], fun K => .int _ _ (wrap_has _ _), h⟩
  case shl => exact ⟨(_, _), by simp [binOp, Op.shift, show ¬ b < 0 by omega], fun K => .int _ _ (wrap_has _ _), h.2⟩
  case shr => exact ⟨(_, _), by simp [binOp, Op.shift, show ¬ b < 0 by omega], fun K => .int _ _ h.2.1, h.2.2⟩
  case lss => obtain ⟨rfl, h⟩ := h; exact ⟨(_, _), by simp [binOp, Op.intCmp], fun K => .bool _, h⟩
  case leq => obtain ⟨rfl, h⟩ := h; exact ⟨(_, _), by simp [binOp, Op.intCmp], fun K => .bool _, h⟩
  case gtr => obtain ⟨rfl, h⟩ := h; exact ⟨(_, _), by simp [binOp, Op.intCmp], fun K => .bool _, h⟩
  case geq => obtain ⟨rfl, h⟩ := h; exact ⟨(_, _), by simp [binOp, Op.intCmp], fun K => .bool _, h⟩
  case eql => obtain ⟨rfl, h⟩ := h; exact ⟨(.bool (decide (a = b)), _), by simp [binOp, Op.intCmp]; rw [Bool.eq_iff_iff]; simp, fun K => .bool _, h⟩
  case neq => obtain ⟨rfl, h⟩ := h; exact ⟨(.bool (!decide (a = b)), _), by simp [binOp, Op.intCmp, bne]; rw [Bool.eq_iff_iff]; simp, fun K => .bool _, h⟩

theorem beq_decide {α : Type} [BEq α] [LawfulBEq α] [DecidableEq α] (a b : α) : (a == b) = decide (a = b) := by rw [Bool.eq_iff_iff]; simp

theorem run_binStr {P : Program} {w : World} {op : BinOp} {t : TypeId} {a b : List UInt8} {k : AV → Prop} (h : aBin op (.str a) (.str b) k) :
    ∃ v : Value × AV, (binOp op t (.string ⟨a.toArray⟩) (.string ⟨b.toArray⟩)).run P w = .ok v.1 w ∧ (∀ K, Rel K v.2 v.1) ∧ k v.2 := by
  cases op <;> simp only [aBin] at h
  case add =>
    refine ⟨(.string ⟨(a ++ b).toArray⟩, _), ?_, fun K => .str _ (by simpa using h.1), h.2⟩
    have h1 := h.1
    rw [binOp_string_add, run_string_add_sum, ByteArray.mk_append_mk]
    simp only [ByteArray.size, List.size_toArray]
    simp only [maxLen] at h1; omega
  case eql => exact ⟨(.bool (decide (a = b)), _), by rw [binOp_string_eql, ByteArray.toList_mk, ByteArray.toList_mk, beq_decide]; rfl, fun K => .bool _, h⟩
  case neq => exact ⟨(.bool (!decide (a = b)), _), by rw [binOp_string_neq, ByteArray.toList_mk, ByteArray.toList_mk, beq_decide]; rfl, fun K => .bool _, h⟩
  case lss => exact ⟨(_, _), by rw [binOp_string_lss, ByteArray.toList_mk, ByteArray.toList_mk]; rfl, fun K => .bool _, h⟩
  case leq => exact ⟨(.bool (Op.bytesLess a b || decide (a = b)), _), by simp only [binOp, Op.stringOp]; rw [ByteArray.toList_mk, ByteArray.toList_mk, beq_decide]; rfl, fun K => .bool _, h⟩
  case gtr => exact ⟨(.bool (!(Op.bytesLess a b || decide (a = b))), _), by simp only [binOp, Op.stringOp]; rw [ByteArray.toList_mk, ByteArray.toList_mk, beq_decide]; rfl, fun K => .bool _, h⟩
  case geq => exact ⟨(.bool (!Op.bytesLess a b), _), by simp only [binOp, Op.stringOp]; rw [ByteArray.toList_mk, ByteArray.toList_mk]; rfl, fun K => .bool _, h⟩

theorem equalIn_bool {P : Program} (w : World) (d : Nat) (t : TypeId) (a b : Bool) (h : P.underlying t = some .bool) : (Op.equalIn (d + 1) t (.bool a) (.bool b)).run P w = .ok (a == b) w := by
  simp [Op.equalIn, run_underlying h]

theorem run_binBool {P : Program} {w : World} {op : BinOp} {t : TypeId} {a b : Bool} {k : AV → Prop} (ht : P.underlying t = some .bool) (h : aBin op (.bool a) (.bool b) k) :
    ∃ v : Value × AV, (binOp op t (.bool a) (.bool b)).run P w = .ok v.1 w ∧ (∀ K, Rel K v.2 v.1) ∧ k v.2 := by
  cases op <;> simp only [aBin] at h
  case eql => exact ⟨(.bool (a == b), _), by simp [binOp, Op.equal, Op.maxDepth, equalIn_bool w 9999 t a b ht], fun K => .bool _, h⟩
  case neq => exact ⟨(.bool (!(a == b)), _), by simp [binOp, Op.equal, Op.maxDepth, equalIn_bool w 9999 t a b ht], fun K => .bool _, h⟩

/-! ### memory -/
def TD.known : TD → Bool
  | .other => false
  | _ => true
theorem TD.known_ne {d : TD} (h : d.known = true) : d ≠ .other := by intro e; subst e; simp [TD.known] at h

def aLoad (i : TI) (cs : List AV) : AV := bif i.d.agg then .agg (cs.take i.sz) else cs.headD .junk

theorem run_loadKnown {P : Program} {w : World} {K : Kn} {t : TypeId} {i : TI} (hi : TOk P t i) (ho : i.d.known = true) {b off : Nat} {cs : List AV} {vs : List Value} (h1 : ∀ c ∈ cs, c.one = true)
    (hr : RelL K cs vs) (hc : ∀ (j : Nat) (v : Value), vs[j]? = some v → w.cell? ⟨b, off + j, none⟩ = some v) (hs : 1 ≤ i.sz ∧ i.sz ≤ cs.length) :
    ∃ v, (loadVar t ⟨b, off, none⟩).run P w = .ok v w ∧ Rel K (aLoad i cs) v := by
  have hag := hi.isAgg (TD.known_ne ho) w
  have hsz := hi.sizeOf w
  unfold loadVar aLoad
  cases hb : i.d.agg with
  | true =>
    rw [hb] at hag
    refine ⟨.agg (vs.take i.sz).toArray, ?_, ?_⟩
    · rw [run_bind_ok hag]
      simp only [if_true]
      rw [run_bind_ok hsz]
      have hl : (vs.take i.sz).length = i.sz := by rw [List.length_take, ← hr.1]; omega
      have := run_loadCells_list (P := P) w ⟨b, off, none⟩ (vs.take i.sz) (fun j v hv => by
        rw [Addr.add_lit]
        rw [List.getElem?_take] at hv
        split at hv
        · exact hc j v hv
        · cases hv)
      rw [hl] at this
      rw [run_bind_ok this]; rfl
    · obtain ⟨hl, hh⟩ := hr.take i.sz
      exact .agg (fun c hc => h1 c (List.mem_of_mem_take hc)) hl hh
  | false =>
    rw [hb] at hag
    cases cs with
    | nil => simp at hs; omega
    | cons c cs =>
      obtain ⟨v, r, rfl, hv, _⟩ := hr.cons_inv
      refine ⟨v, ?_, by simpa using hv⟩
      rw [run_bind_ok hag]
      have := hc 0 v rfl
      simp only [Nat.add_zero] at this
      simp [run_load, this]

theorem getElem?_toList {α : Type} (a : Array α) (i : Nat) : a.toList[i]? = a[i]? := by simp

theorem cell_of_heap {w : World} {b : Nat} {vs : Array Value} {T : TypeId} {fr : Nat × Nat} (h : w.heap[b]? = some (.cells vs T fr)) (j : Nat) : w.cell? ⟨b, j, none⟩ = vs[j]? := by
  simp [World.cell?, h]

/-- a load through a pointer to known cells -/
theorem run_load_ref {P : Program} {w0 w : World} {K : Kn} {S : List En} {t : TypeId} {i : TI} (hi : TOk P t i) (ho : i.d.known = true) (hS : RelS w0 K S w) {cs : List AV} {v : Value} (hv : Rel K (.ref cs) v)
    (hs : 1 ≤ i.sz ∧ i.sz ≤ cs.length) : ∃ x, (Instr.loadAt t v).run P w = .ok x w ∧ Rel K (aLoad i cs) x := by
  cases hv with
  | ref h1 hl h hk =>
    obtain ⟨x, hx, hr⟩ := run_loadKnown hi ho h1 ⟨hl, h⟩ (fun j u hu => hS.kcell _ _ _ (hk j u hu)) hs
    exact ⟨x, by simp [Instr.loadAt, Instr.sureAddr, hx], hr⟩

/-- a load through a pointer into an owned block -/
theorem run_load_ptr {P : Program} {w0 w : World} {K : Kn} {S : List En} {t : TypeId} {i : TI} (hi : TOk P t i) (ho : i.d.known = true) (hS : RelS w0 K S w) {b off p : Nat} {cs : List AV} (hp : S[p]? = some (.cells b cs)) {v : Value} (hv : Rel K (.ptr b off) v)
    (hs : 1 ≤ i.sz ∧ i.sz ≤ (cs.drop off).length) : ∃ x, (Instr.loadAt t v).run P w = .ok x w ∧ Rel K (aLoad i (cs.drop off)) x := by
  cases hv
  obtain ⟨_, _, h1, vs, T, hh, hr⟩ := hS.ents _ (List.mem_of_getElem? hp)
  obtain ⟨x, hx, hr⟩ := run_loadKnown hi ho (b := b) (off := off) (fun c hc => h1 c (List.mem_of_mem_drop hc)) (hr.drop off) (fun j u hu => by
    rw [cell_of_heap hh]; rw [List.getElem?_drop] at hu; simpa using hu) hs
  exact ⟨x, by simp [Instr.loadAt, Instr.sureAddr, hx], hr⟩

def setCells (cs : List AV) (off : Nat) (new : List AV) : List AV := cs.take off ++ new ++ cs.drop (off + new.length)
def AV.plain : AV → Bool
  | .junk | .tup _ => false
  | _ => true

theorem Rel.plain {K : Kn} {a : AV} {v : Value} (h : Rel K a v) (ha : a.plain = true) : RelL K a.cells v.cells.toList ∧ (∀ c ∈ a.cells, c.one = true) := by
  have hor : a.one = true ∨ ∃ cs, a = .agg cs := by
    cases a <;> simp_all [AV.plain, AV.one]
  refine ⟨h.cellsL hor, ?_⟩
  rcases hor with h1 | ⟨cs, rfl⟩
  · have : a.cells = [a] := by cases a <;> simp_all [AV.one, AV.cells]
    rw [this]; intro c hc; simp at hc; subst hc; exact h1
  · cases h with
    | agg h1 _ _ => exact h1

theorem relL_one {K : Kn} {cs : List AV} {vs : List Value} (h : RelL K cs vs) (h1 : ∀ c ∈ cs, c.one = true) : ∀ v ∈ vs, v.oneCell' = true := by
  intro v hv
  obtain ⟨i, hi, hv⟩ := List.mem_iff_getElem.1 hv
  have hi' : i < cs.length := by rw [h.1]; exact hi
  exact ((h.2 i cs[i] v (List.getElem?_eq_getElem hi') (by rw [List.getElem?_eq_getElem hi, hv])).one (h1 _ (List.getElem_mem hi'))).1

/-- a store into an owned block -/
theorem run_store_ptr {P : Program} {w0 w : World} {K : Kn} {S : List En} {t : TypeId} {i : TI} (hi : TOk P t i) (hS : RelS w0 K S w) {b off p : Nat} {cs : List AV} (hp : S[p]? = some (.cells b cs)) {pv v : Value} (hv : Rel K (.ptr b off) pv)
    {x : AV} (hx : Rel K x v) (hpl : x.plain = true) (hsz : x.cells.length = i.sz) (hs : off + i.sz ≤ cs.length) :
    ∃ w', (Instr.storeAt t pv v).run P w = .ok () w' ∧ RelS w0 K (S.set p (.cells b (setCells cs off x.cells))) w' := by
  cases hv
  obtain ⟨hB, hK, h1, vs, T, hh, hr⟩ := hS.ents _ (List.mem_of_getElem? hp)
  obtain ⟨hxl, hx1⟩ := hx.plain hpl
  have hvl : v.cells.toList.length = i.sz := by rw [← hxl.1, hsz]
  have hst := run_storeCells_at P b off T v.cells.toList 0 vs w hh (by
    have : cs.length = vs.toList.length := hr.1
    simp only [Array.length_toList] at this hvl ⊢
    omega) (relL_one hxl hx1)
  refine ⟨_, Eq.trans ?_ hst, ?_⟩
  · simp only [Instr.storeAt, Instr.sureAddr, storeVar]
    rw [run_bind_ok (a := (⟨b, off, none⟩ : Addr)) (w' := w) rfl]
    rw [run_bind_ok (hi.sizeOf w)]
    have : ¬ (v.cells.size ≠ i.sz) := by simp only [Array.length_toList] at hvl; simp [hvl]
    rw [if_neg this]
  · have hpb : b < w.heap.size := (Array.getElem?_eq_some_iff.1 hh).1
    refine hS.turn hp (b := b) rfl (Kle.refl K) (fun _ _ => rfl) (fun c hc => setRow_other _ _ _ _ hc) (by simp) rfl rfl rfl (fun j u hu => by rw [hK] at hu; simp at hu) (fun c t fr hc => ⟨_, _, setRow_heap _ _ _ _ _ _ hc⟩) (.inl rfl)
      ⟨hB, hK, ?_, _, T, setRow_heap _ _ _ _ _ _ hh, ?_⟩
    · intro c hc
      simp only [setCells, List.mem_append] at hc
      rcases hc with (hc | hc) | hc
      · exact h1 c (List.mem_of_mem_take hc)
      · exact hx1 c hc
      · exact h1 c (List.mem_of_mem_drop hc)
    · simp only [setCells, Nat.add_zero]
      have e : x.cells.length = v.cells.toList.length := hxl.1
      rw [e]
      exact ((hr.take off).append hxl).append (hr.drop _)

theorem run_box {P : Program} {w0 w : World} {K : Kn} {S : List En} {t : TypeId} (hS : RelS w0 K S w) {x : AV} {v : Value} (hx : Rel K x v) (hpl : x.plain = true) :
    ∃ b w', (Instr.box t v).run P w = .ok (.pointer (some ⟨b, 0, none⟩)) w' ∧ RelS w0 K (.cells b x.cells :: S) w' := by
  obtain ⟨hxl, hx1⟩ := hx.plain hpl
  refine ⟨w.heap.size, w.alloc (.cells v.cells t), ?_, hS.allocCells t hx1 hxl⟩
  simp [Instr.box, newVar, newRow]
end Go.Aw
