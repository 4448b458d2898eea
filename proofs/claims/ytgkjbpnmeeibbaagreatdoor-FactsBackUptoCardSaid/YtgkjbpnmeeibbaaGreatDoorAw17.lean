/-
  Bytes and strings, pointers and interfaces held against each other, iterators of strings. Own work.
-/
import Derived.Test.YtgkjbpnmeeibbaaGreatDoorAw16
import Derived.Lib.UnsafeStr
import Derived.Lib.OthersKept
import Derived.Lib.RuneCount
import Derived.Lib.Builder
import Derived.Laws.IdiomStrings
import Derived.Laws.RangeAny
import Derived.Stop.IfaceNil
import Derived.LaidEql
set_option linter.all false
namespace Go.Aw
open Go.RowKit

/-! ### what is told of a new block's type -/
def conT (i : TI) (b : Nat) (e : TypeId) (cs : List AV) (S : List En) : List En := match i.d with
  | .int .u8 => .cells b cs :: .ty b e :: S
  | _ => .cells b cs :: S
def allocT (i : TI) (b : Nat) (t : TypeId) (S : List En) : List En := match i.zero with
  | [.nilp, .sl 0 [] .full] => .cells b [.nilp, .nils] :: .ty b t :: S
  | z => .cells b z :: S
theorem RelS.addTy {w0 w : World} {K : Kn} {S : List En} {e : En} {b : Nat} {t : TypeId} (h : RelS w0 K (e :: S) w) (ht : ∃ c fr, w.heap[b]? = some (.cells c t fr)) : RelS w0 K (e :: .ty b t :: S) w := by
  refine ⟨h.below, h.kcell, fun x hx => ?_, ?_⟩
  · rcases List.mem_cons.1 hx with rfl | hx
    · exact h.ents _ (by simp)
    · rcases List.mem_cons.1 hx with rfl | hx
      · exact ht
      · exact h.ents _ (by simp [hx])
  · have := h.apart
    simp only [List.filterMap_cons, En.blk] at this ⊢
    exact this
theorem RelS.conT {w0 w : World} {K : Kn} {S : List En} {i : TI} {b : Nat} {e : TypeId} {cs : List AV} (h : RelS w0 K (.cells b cs :: S) w) (ht : ∃ c fr, w.heap[b]? = some (.cells c e fr)) : RelS w0 K (conT i b e cs S) w := by
  unfold Aw.conT
  split
  · exact h.addTy ht
  · exact h

def u8s (l : List UInt8) : List AV := l.map fun c => AV.int .u8 c.toNat
theorem u8s_len (l : List UInt8) : (u8s l).length = l.length := by simp [u8s]
theorem u8s_app (a b : List UInt8) : u8s (a ++ b) = u8s a ++ u8s b := by simp [u8s]
theorem u8s_flat (l : List UInt8) : flat (u8s l) = u8s l := by
  induction l with
  | nil => rfl
  | cons a l ih => exact congrArg (AV.int .u8 a.toNat :: ·) ih

theorem run_allocT {P : Program} {w0 w : World} {K : Kn} {S : List En} {t : TypeId} {i : TI} (hi : TOk P t i) (hS : RelS w0 K S w) :
    ∃ b w', (Instr.alloc t true (.tuple #[])).run P w = .ok (.pointer (some ⟨b, 0, none⟩)) w' ∧ RelS w0 K (allocT i b t S) w' := by
  obtain ⟨x, z, hx, _, _, hz, hzr, hz1⟩ := hi.get
  refine ⟨w.heap.size, w.alloc (.cells z.cells t), by simp [Instr.alloc, zeroValue, typeInfo, hx, hz, newVar, newRow], ?_⟩
  unfold allocT
  split
  · rename_i he
    have hr := hzr K
    have hinf := hi.info
    rw [hx] at hinf
    simp only [Option.map_some, Option.some.injEq, Prod.mk.injEq, hz] at hinf
    obtain ⟨_, _, h3, _⟩ := hinf
    rw [he] at h3
    refine (hS.allocCells t (cs := [.nilp, .nils]) (by simp [AV.one]) ?_).addTy ⟨_, _, heap_alloc_new _ _⟩
    generalize z.cells.toList = l at h3
    match l, h3 with
    | [], h3 => simp at h3
    | [_], h3 => simp at h3
    | _ :: _ :: _ :: _, h3 => simp at h3
    | [a, b], h3 =>
      simp only [List.map_cons, List.map_nil, List.cons.injEq, and_true] at h3
      obtain ⟨ha, hb⟩ := h3
      have ha' : a = .pointer none := by
        unfold AV.ofV at ha
        split at ha <;> cases ha
        rfl
      have hb' : b = .slice none 0 0 := by
        unfold AV.ofV at hb
        split at hb <;> cases hb
        rfl
      subst ha'; subst hb'
      exact RelL.cons .nilp (RelL.cons .nils RelL.nil)
  · exact hS.allocCells t hz1 (hzr K)
/-- nothing old is touched -/
theorem RelS.grown {w0 w w' : World} {K : Kn} {S : List En} (h : RelS w0 K S w) (hb : Below w.heap.size w w') : RelS w0 K S w' := by
  have hty : TyKept w w' := fun b c t fr hc => ⟨c, fr, (hb.block b (Array.getElem?_eq_some_iff.1 hc).1).trans hc⟩
  refine ⟨⟨hb.os.trans h.below.os, hb.tape.trans h.below.tape, hb.output.trans h.below.output, Nat.le_trans h.below.size hb.size, fun k hk => ?_⟩, ?_, ?_, h.apart⟩
  · exact (hb.block k (Nat.lt_of_lt_of_le hk h.below.size)).trans (h.below.block k hk)
  · intro b i v hv
    have := h.kcell b i v hv
    rw [World.cell?_of_block (w := w) (a := ⟨b, i, none⟩) (hb.block b (World.block_lt_of_cell? _ _ this))]
    exact this
  · intro e he
    refine (h.ents e he).keep (fun g hg => hb.block g (Nat.lt_of_lt_of_le hg h.below.size)) hty (Kle.refl K) (fun b hbk => ⟨hb.block b ((h.ents e he).lt hbk).2, rfl⟩)

/-- one entry fewer, and its block turned whatever way that keeps its type -/
theorem RelS.spend {w0 w w' : World} {K : Kn} {S : List En} {p b : Nat} {cs : List AV} (h : RelS w0 K S w) (hp : S[p]? = some (.cells b cs)) (hw : ∀ c, c ≠ b → w'.heap[c]? = w.heap[c]?) (hsz : w.heap.size ≤ w'.heap.size)
    (hos : w'.os = w.os) (htape : w'.tape = w.tape) (hout : w'.output = w.output) (hty : ∀ (c : Array Value) (t : TypeId) (fr : Nat × Nat), w.heap[b]? = some (.cells c t fr) → ∃ c' fr', w'.heap[b]? = some (.cells c' t fr')) : RelS w0 K (S.eraseIdx p) w' := by
  obtain ⟨hB, hK, h1, vs, T, hh, hr⟩ := h.ents _ (List.mem_of_getElem? hp)
  have := h.turn (e' := .grow .full) hp (b := b) rfl (Kle.refl K) (fun c hc => rfl) hw hsz hos htape hout (fun i v hv => by rw [hK] at hv; simp at hv) hty (.inr rfl) trivial
  have h2 := this.perm (set_perm hp).symm
  exact h2.tail

/-! ### bytes as a string -/
theorem run_sl_string {P : Program} {w0 w : World} {K : Kn} {S : List En} (hS : RelS w0 K S w) {src dst e : TypeId} (hs : P.underlying src = some (.slice e)) (he : P.underlying e = some (.int .u8)) (hd : P.underlying dst = some .string)
    {sz : Nat} {l : List UInt8} {tk : Tk} {v : Value} (hv : Rel K (.sl sz (u8s l) tk) v) : (convert src dst v).run P w = .ok (.string ⟨l.toArray⟩) w ∧ l.length ≤ maxLen := by
  rcases sl_cases hv with ⟨a0, rfl, hl, _⟩ | ⟨b, o, c, ws, ha, _⟩
  · have : l = [] := by simpa [u8s] using hl
    subst this
    refine ⟨?_, by simp⟩
    cases a0 with
    | none => rw [run_convert_bytes_string w src dst e none 0 0 hs he hd]; rfl
    | some a => exact run_convert_bytes_back w src dst e a 0 [] hs he hd (fun j hj => by simp at hj)
  · have hlen : (u8s l).length = l.length := u8s_len l
    rw [ha.eq, hlen]
    refine ⟨run_convert_bytes_back w src dst e ⟨b, o, none⟩ c l hs he hd (fun j hj => ?_), by have := ha.hcap; have := ha.hmax; omega⟩
    have hr := ha.rel
    rw [u8s_flat] at hr
    have hj' : (u8s l)[j]? = some (AV.int .u8 l[j].toNat) := by simp [u8s, hj]
    obtain ⟨x, hx, hrx⟩ := hr.get hj'
    cases hrx
    rw [Addr.add_lit]
    exact hS.kcell _ _ _ (ha.known j _ hx)

theorem run_msl_string {P : Program} {w0 w : World} {K : Kn} {S : List En} (hS : RelS w0 K S w) {src dst e : TypeId} (hs : P.underlying src = some (.slice e)) (he : P.underlying e = some (.int .u8)) (hd : P.underlying dst = some .string)
    {b off n cap : Nat} {l : List UInt8} {v : Value} (hv : Rel K (.msl b off n cap) v) (hn : n = l.length) (h : n = 0 ∨ ∃ (p : Nat) (cur : List AV), S[p]? = some (En.cells b cur) ∧ (cur.drop off).take n = u8s l) :
    (convert src dst v).run P w = .ok (.string ⟨l.toArray⟩) w ∧ l.length ≤ maxLen := by
  by_cases hn0 : n = 0
  · have : l = [] := List.length_eq_zero_iff.1 (by omega)
    subst this; subst hn0
    refine ⟨?_, by simp⟩
    obtain ⟨a, c, rfl⟩ : ∃ a c, v = .slice a 0 c := by cases hv <;> exact ⟨_, _, rfl⟩
    cases a with
    | none => rw [run_convert_bytes_string w src dst e none 0 c hs he hd]; rfl
    | some a => exact run_convert_bytes_back w src dst e a c [] hs he hd (fun j hj => by simp at hj)
  · rcases h with h | ⟨p, cur, hp, hc⟩
    · exact absurd h hn0
    obtain ⟨hB, hK, h1, vs, T, hh, hr⟩ := hS.ents _ (List.mem_of_getElem? hp)
    cases hv with
    | mslnil => exact absurd rfl hn0
    | @msl _ _ _ _ b' o' hle hmax ho =>
      obtain ⟨rfl, rfl⟩ : b' = b ∧ o' = off := by
        rcases ho with ho | ho
        · exact ho
        · omega
      subst hn
      refine ⟨run_convert_bytes_back w src dst e ⟨b', o', none⟩ cap l hs he hd (fun j hj => ?_), by omega⟩
      have hj' : ((cur.drop o').take l.length)[j]? = some (AV.int .u8 l[j].toNat) := by rw [hc]; simp [u8s, hj]
      rw [List.getElem?_take, if_pos hj, List.getElem?_drop] at hj'
      obtain ⟨x, hx, hrx⟩ := hr.get hj'
      cases hrx
      rw [Addr.add_lit, cell_of_heap hh]
      simpa using hx

/-! ### what unsafe.SliceData and unsafe.String do -/
theorem run_sliceData {P : Program} {w : World} {K : Kn} {ts : Array TypeId} {ty : TypeId} {b off n cap : Nat} {v : Value} (hv : Rel K (.msl b off n cap) v) (hn : 0 < n) :
    (Builtin.unsafeSliceData_ ts ty #[v]).run P w = .ok (.pointer (some ⟨b, off, none⟩)) w := by
  cases hv with
  | mslnil _ _ a => omega
  | @msl _ _ _ _ b' o' hle hmax ho =>
    obtain ⟨rfl, rfl⟩ : b' = b ∧ o' = off := by
      rcases ho with ho | ho
      · exact ho
      · omega
    exact Lib.run_unsafeSliceData_row w ts ty _ n cap (by omega)
theorem freeze_heap {w : World} {b n : Nat} {c : Array Value} {t : TypeId} {fr : Nat × Nat} (h : w.heap[b]? = some (.cells c t fr)) : ∃ fr', (w.freeze ⟨b, 0, none⟩ n).heap[b]? = some (.cells c t fr') := by
  obtain ⟨lo, hi⟩ := fr
  unfold World.freeze
  by_cases hn : n = 0
  · rw [if_pos hn]; exact ⟨_, h⟩
  · rw [if_neg hn]
    refine ⟨if lo == hi then (0, 0 + n) else (min lo 0, max hi (0 + n)), ?_⟩
    show (w.heap.modify b _)[b]? = _
    rw [Array.getElem?_modify, if_pos rfl, h]; rfl
theorem freeze_other {w : World} {b n c : Nat} (h : c ≠ b) : (w.freeze ⟨b, 0, none⟩ n).heap[c]? = w.heap[c]? := by
  unfold World.freeze
  split
  · rfl
  · show (w.heap.modify b _)[c]? = _
    rw [Array.getElem?_modify, if_neg (Ne.symm h)]
theorem freeze_size {w : World} {a : Addr} {n : Nat} : (w.freeze a n).heap.size = w.heap.size := by
  unfold World.freeze
  split
  · rfl
  · show (w.heap.modify _ _).size = _
    simp
theorem run_unsafeString1 {P : Program} {w0 w : World} {K : Kn} {S : List En} (hS : RelS w0 K S w) {pt it ty e : TypeId} (hp : P.underlying pt = some (.pointer e)) (hc : P.cellsOf e = 1) {b p : Nat} {cur : List AV} {l : List UInt8} (hl : l ≠ [])
    (hpe : S[p]? = some (.cells b cur)) (hty : En.ty b e ∈ S) (hcur : cur.take l.length = u8s l) {v u : Value} (hv : Rel K (.ptr b 0) v) (hu : Rel K (.int .i64 (l.length : Nat)) u) :
    ∃ w', (Builtin.unsafeString_ #[pt, it] ty #[v, u]).run P w = .ok (.string ⟨l.toArray⟩) w' ∧ RelS w0 K (S.eraseIdx p) w' ∧ l.length ≤ maxLen := by
  obtain ⟨hB, hK, h1, vs, T, hh, hr⟩ := hS.ents _ (List.mem_of_getElem? hpe)
  obtain ⟨c', fr', ht⟩ := hS.ents _ hty
  rw [hh] at ht
  cases ht
  cases hv
  have hb : l.length ≤ 9223372036854775807 := by
    cases hu with
    | int _ _ h => simp only [IntKind.has, IntKind.min, IntKind.max, IntKind.bits, IntKind.signed] at h; simp at h; omega
  cases hu
  have hlen : l.length ≤ vs.size := by
    have h2 := congrArg List.length hcur
    rw [u8s_len, List.length_take] at h2
    have h3 : cur.length = vs.size := by rw [hr.1]; simp
    omega
  have hrun := Lib.run_unsafeString_row (P := P) w pt it ty e hp hc b vs.size (by simp [World.shape?, hh]) l hl hlen hb (fun j x hj => by
    have hjl : j < l.length := (List.getElem?_eq_some_iff.1 hj).1
    have hj' : (cur.take l.length)[j]? = some (AV.int .u8 x.toNat) := by rw [hcur]; simp [u8s, hj]
    rw [List.getElem?_take, if_pos hjl] at hj'
    obtain ⟨y, hy, hry⟩ := hr.get hj'
    cases hry
    rw [Addr.add_lit, cell_of_heap hh, Nat.zero_add]
    simpa using hy)
  refine ⟨_, hrun, hS.spend hpe (fun c hc => freeze_other hc) (by rw [freeze_size]; exact Nat.le_refl _) (by unfold World.freeze; split <;> rfl) (by unfold World.freeze; split <;> rfl) (by unfold World.freeze; split <;> rfl)
    (fun c t fr hcc => ?_), hb⟩
  obtain ⟨fr2, h2⟩ := freeze_heap (n := l.length) hcc
  exact ⟨_, _, h2⟩

/-- append to nil -/
theorem run_append_nils {P : Program} {w0 w : World} {K : Kn} {S : List En} (hS : RelS w0 K S w) {t t' ty e : TypeId} {i : TI} (ht : P.underlying t = some (.slice e)) (ht' : SrcT P t') (hi : TOk P e i) {m : Nat} {cs : List AV} {x : AV} {u : Value}
    (hu : Rel K x u) (hs : ASrc S i.sz x m cs) (hroom : roomFor m i.by_) :
    (m = 0 ∧ (Builtin.append_ #[t, t'] ty #[.slice none 0 0, u]).run P w = .ok (.slice none 0 0) w) ∨
    0 < m ∧ ∃ v' w' b' cap' rest, (Builtin.append_ #[t, t'] ty #[.slice none 0 0, u]).run P w = .ok v' w' ∧ Rel K (.msl b' 0 m cap') v' ∧ RelS w0 K (.cells b' (cs ++ rest) :: S) w' ∧ m ≤ cap' ∧ rest.length = (cap' - m) * i.sz ∧ ∃ c fr, w'.heap[b']? = some (.cells c e fr) := by
  obtain ⟨inf, z, hinf, hsz, hb, hz, hzr, hz1⟩ := hi.get
  have hmaxl : m ≤ maxLen := by have := hroom.2.2; simpa [maxLen] using this
  obtain ⟨ws, hsrc0⟩ := src_ok (P := P) hS hu hs
  obtain ⟨vs, hsrc⟩ := src_ok (P := P) hS.drew hu hs
  have hl := hsrc0.lenOf
  by_cases hm : m = 0
  · subst hm
    left
    refine ⟨rfl, ?_⟩
    have hf := hsrc0.first 0 (Nat.le_refl _)
    have hvs : (ws.take (0 * i.sz)).toArray = #[] := by simp
    rw [hvs] at hf
    rcases ht' with ⟨e', ht'⟩ | ht' <;> simp [Builtin.append_, run_underlying ht, run_underlying ht', sizeOf, typeInfo, hinf, hsz, hl, hf]
  · right
    have hf := hsrc.first m (Nat.le_refl _)
    rw [List.take_of_length_le (by rw [hsrc.len]; exact Nat.le_refl _)] at hf
    have h63 : ¬ (9223372036854775807 < (m : Int)) := by have := hroom.2.2; omega
    have h48 : ¬ (281474976710656 < Builtin.nextslicecap m 0 * inf.bytes) := by have := hroom.cap (c := 0) (by omega); rw [hb]; omega
    have hrun : (Builtin.append_ #[t, t'] ty #[.slice none 0 0, u]).run P w = .ok (.slice (some ⟨w.heap.size, 0, none⟩) m (grownCap w m 0 e))
          (w.drew.alloc (.cells (([] : List Value).toArray ++ vs.toArray ++ Builtin.zeroCells z.cells (grownCap w m 0 e - m)) e)) := by
      have hg : (Builtin.firstCells i.sz 0 (.slice none 0 0)).run P w.drew = .ok #[] w.drew := by simp [Builtin.firstCells]
      have hl0 : ∀ w, (Builtin.lenOf (.slice none 0 0)).run P w = .ok 0 w := fun w => rfl
      rcases ht' with ⟨e', ht'⟩ | ht' <;> simp [Builtin.append_, run_underlying ht, run_underlying ht', sizeOf, typeInfo, zeroValue, hinf, hsz, hz, hl, hm, h63, h48, Question.forced, hf, hg, hl0, newRow, grownCap]
    have hge := grownCap_ge w m 0 e
    have hle := grownCap_lt w m 0 e hmaxl
    have happ := hS.appended hi (hzr K) hz1 (old := []) (os := []) RelL.nil (by simp) hsrc.rel hsrc.one (grownCap w m 0 e - m)
    exact ⟨by omega, _, _, w.heap.size, _, zerosAV i.zero (grownCap w m 0 e - m), hrun, .msl _ _ _ _ hge hle (.inl ⟨rfl, rfl⟩), by simpa using happ, hge, by rw [zerosAV_len, hi.len], _, _, heap_alloc_new _ _⟩

/-! ### a string gone through -/
theorem run_rangeStr {P : Program} {w0 w : World} {K : Kn} {S : List En} (hS : RelS w0 K S w) {t : TypeId} (ht : P.underlying t = some .string) {l : List UInt8} {v : Value} (hv : Rel K (.str l) v) :
    ∃ b w', (Instr.range t v).run P w = .ok (.pointer (some ⟨b, 0, none⟩)) w' ∧ RelS w0 K (.obj b (.stringIter ⟨l.toArray⟩ 0) :: S) w' := by
  cases hv
  refine ⟨w.heap.size, w.iter ⟨l.toArray⟩ 0, run_range_string w t _ ht, ?_⟩
  exact hS.consNew (hS.allocObj _) (fun b hb => by simpa [En.blk] using hb.symm) ⟨hS.below.size, hS.klt (Nat.le_refl _), heap_alloc_new _ _, rfl⟩
theorem RelS.reobj {w0 w : World} {K : Kn} {S : List En} {p b : Nat} {o : Obj} (h : RelS w0 K S w) (hp : S[p]? = some (.obj b o)) (o' : Obj) (ho : isCells o' = false) {w' : World} (hw : w' = { w with heap := w.heap.setIfInBounds b o' }) :
    RelS w0 K (S.set p (.obj b o')) w' := by
  obtain ⟨hB, hK, hh, hoc⟩ := h.ents _ (List.mem_of_getElem? hp)
  have hd : b < w.heap.size := (Array.getElem?_eq_some_iff.1 hh).1
  subst hw
  have hbb : ({ w with heap := w.heap.setIfInBounds b o' } : World).heap[b]? = some o' := by simp [hd]
  refine h.turn (e' := .obj b o') hp (b := b) rfl (Kle.refl K) (fun _ _ => rfl) (fun c hc => ?_) (by simp) rfl rfl rfl (fun i v hv => by rw [hK] at hv; simp at hv) (fun c t fr hc => by rw [hh] at hc; cases hc; cases hoc) (.inl rfl) ⟨hB, hK, hbb, ho⟩
  show (w.heap.setIfInBounds b o')[c]? = _
  rw [Array.getElem?_setIfInBounds_ne (Ne.symm hc)]
theorem run_nextStr {P : Program} {w0 w : World} {K : Kn} {S : List En} (hS : RelS w0 K S w) {ty : TypeId} {b p pos : Nat} {l : List UInt8} (hp : S[p]? = some (.obj b (.stringIter ⟨l.toArray⟩ pos))) (h : pos < l.length) (hl : l.length ≤ maxLen) :
    ∃ (c wd : Nat) (w' : World), (Instr.next (.pointer (some ⟨b, 0, none⟩)) true ty).run P w = .ok (.tuple #[.bool true, .int .i64 pos, .int .i32 c]) w' ∧ RelS w0 K (S.set p (.obj b (.stringIter ⟨l.toArray⟩ (pos + wd)))) w' ∧
      (l[pos].toNat < 128 → c = l[pos].toNat ∧ wd = 1) ∧ (128 ≤ l[pos].toNat → 128 ≤ c) ∧ 1 ≤ wd ∧ c ≤ 2147483647 := by
  obtain ⟨hB, hK, hh, hoc⟩ := hS.ents _ (List.mem_of_getElem? hp)
  have hsz : pos < (ByteArray.mk l.toArray).size := by simpa [ByteArray.size] using h
  have hget : (ByteArray.mk l.toArray)[pos]'hsz = l[pos] := rfl
  refine ⟨_, _, _, Lib.run_next_any_at w b ⟨l.toArray⟩ pos ty hh hsz, hS.reobj hp _ rfl rfl, fun ha => ?_, fun ha => ?_, Lib.decode_width_pos _ _ hsz, decode_le _ _⟩
  · rw [decode_ascii ⟨l.toArray⟩ pos hsz (by rw [hget]; exact ha), hget]; exact ⟨rfl, rfl⟩
  · exact (decode_high ⟨l.toArray⟩ pos hsz (by rw [hget]; exact ha)).1
theorem run_nextEnd {P : Program} {w0 w : World} {K : Kn} {S : List En} (hS : RelS w0 K S w) {ty : TypeId} {b p pos : Nat} {l : List UInt8} (hp : S[p]? = some (.obj b (.stringIter ⟨l.toArray⟩ pos))) (h : ¬ pos < l.length) :
    (Instr.next (.pointer (some ⟨b, 0, none⟩)) true ty).run P w = .ok (.tuple #[.bool false]) w := by
  obtain ⟨hB, hK, hh, hoc⟩ := hS.ents _ (List.mem_of_getElem? hp)
  exact Lib.run_next_end_at w b ⟨l.toArray⟩ pos ty hh (by simpa [ByteArray.size] using h)

/-! ### pointers -/
theorem run_ptrEq {P : Program} {w : World} {t e : TypeId} {i : TI} (ht : P.underlying t = some (.pointer e)) (hi : TOk P e i) (a : Addr) (b : Option Addr) (hb : b = none ∨ b = some a) (ox oy : Operand) :
    ((do eqGuard .eql t ox oy (.pointer (some a)) (.pointer b); binOp .eql t (.pointer (some a)) (.pointer b) : Sem Value)).run P w = .ok (.bool b.isSome) w ∧
    ((do eqGuard .neq t ox oy (.pointer (some a)) (.pointer b); binOp .neq t (.pointer (some a)) (.pointer b) : Sem Value)).run P w = .ok (.bool (!b.isSome)) w := by
  obtain ⟨x, z, hx, _⟩ := hi.get
  have h : (Op.equal t (.pointer (some a)) (.pointer b)).run P w = .ok b.isSome w := by
    have h : ∀ d, (Op.equalIn (d + 1) t (.pointer (some a)) (.pointer b)).run P w = .ok b.isSome w := by
      intro d
      rcases hb with rfl | rfl
      · simp [Op.equalIn, run_underlying ht]
      · simp [Op.equalIn, run_underlying ht, sizeOf, typeInfo, hx, run_sameAddr_same]
    exact h 9999
  constructor
  · show ((do eqGuard .eql t ox oy (.pointer (some a)) (.pointer b); (do pure (.bool (← Op.equal t (.pointer (some a)) (.pointer b))) : Sem Value)) : Sem Value).run P w = _
    rw [run_bind_ok (a := ()) (w' := w) rfl, run_bind_ok h]; rfl
  · show ((do eqGuard .neq t ox oy (.pointer (some a)) (.pointer b); (do pure (.bool (!(← Op.equal t (.pointer (some a)) (.pointer b)))) : Sem Value)) : Sem Value).run P w = _
    rw [run_bind_ok (a := ()) (w' := w) rfl, run_bind_ok h]; rfl
theorem run_nilpEq {P : Program} {w : World} {t e : TypeId} (ht : P.underlying t = some (.pointer e)) (ox oy : Operand) :
    ((do eqGuard .eql t ox oy (.pointer none) (.pointer none); binOp .eql t (.pointer none) (.pointer none) : Sem Value)).run P w = .ok (.bool true) w ∧
    ((do eqGuard .neq t ox oy (.pointer none) (.pointer none); binOp .neq t (.pointer none) (.pointer none) : Sem Value)).run P w = .ok (.bool false) w := by
  have h : (Op.equal t (.pointer none) (.pointer none)).run P w = .ok true w := by
    have h : ∀ d, (Op.equalIn (d + 1) t (.pointer none) (.pointer none)).run P w = .ok true w := by intro d; simp [Op.equalIn, run_underlying ht]
    exact h 9999
  constructor
  · show ((do eqGuard .eql t ox oy (.pointer none) (.pointer none); (do pure (.bool (← Op.equal t (.pointer none) (.pointer none))) : Sem Value)) : Sem Value).run P w = _
    rw [run_bind_ok (a := ()) (w' := w) rfl, run_bind_ok h]; rfl
  · show ((do eqGuard .neq t ox oy (.pointer none) (.pointer none); (do pure (.bool (!(← Op.equal t (.pointer none) (.pointer none)))) : Sem Value)) : Sem Value).run P w = _
    rw [run_bind_ok (a := ()) (w' := w) rfl, run_bind_ok h]; rfl

/-! ### an interface value held against nil -/
theorem isIface_of {P : Program} {t : TypeId} {ms : Array (String × TypeId)} (h : P.underlying t = some (.interface ms)) : P.isIface t = true := by
  simp [Program.isIface, h]
theorem run_ifcNil {P : Program} {w : World} {t : TypeId} (h : P.isIface t = true) (u : TypeId) (x : Value) (ox oy : Operand) :
    ((do eqGuard .eql t ox oy (.iface u x) .nilIface; binOp .eql t (.iface u x) .nilIface : Sem Value)).run P w = .ok (.bool false) w ∧
    ((do eqGuard .neq t ox oy (.iface u x) .nilIface; binOp .neq t (.iface u x) .nilIface : Sem Value)).run P w = .ok (.bool true) w := by
  constructor
  · rw [run_bind_ok (a := ()) (w' := w) rfl]; exact run_eql_iface_nil w t h u x
  · rw [run_bind_ok (a := ()) (w' := w) rfl]; exact run_neq_iface_nil w t h u x
theorem run_nilNil {P : Program} {w : World} {t : TypeId} (h : P.isIface t = true) (ox : Operand) (v : Value) :
    ((do eqGuard .eql t ox (.const v) .nilIface .nilIface; binOp .eql t .nilIface .nilIface : Sem Value)).run P w = .ok (.bool true) w ∧
    ((do eqGuard .neq t ox (.const v) .nilIface .nilIface; binOp .neq t .nilIface .nilIface : Sem Value)).run P w = .ok (.bool false) w := by
  have hg : ∀ op, (op = .eql ∨ op = .neq) → (eqGuard op t ox (.const v) .nilIface .nilIface).run P w = .ok () w := by
    intro op hop
    rcases hop with rfl | rfl <;> simp [eqGuard]
  constructor
  · rw [run_bind_ok (hg _ (.inl rfl))]; exact run_eql_nil_nil_at w t h
  · rw [run_bind_ok (hg _ (.inr rfl))]; exact run_neq_nil_nil_at w t h
theorem run_makeIface {P : Program} {w : World} {t : TypeId} {i : TI} (hi : TOk P t i) (hn : i.d ≠ .other) (hn' : i.d ≠ .iface) (v : Value) : (Instr.makeInterface t v).run P w = .ok (.iface t v) w := by
  have hD := hi.d
  unfold Instr.makeInterface
  cases hd : i.d <;> rw [hd] at hD <;> simp only [DOk] at hD
  case other => exact absurd hd hn
  case iface => exact absurd hd hn'
  all_goals first
    | (simp [run_underlying hD]; done)
    | (obtain ⟨f, hD, _⟩ := hD; simp [run_underlying hD]; done)
    | (obtain ⟨f, g, h, hD⟩ := hD; simp [run_underlying hD]; done)

/-! ### a pointer seen as unsafe.Pointer, and back -/
theorem run_toUnsafe {P : Program} {w0 w : World} {K : Kn} {S : List En} (hS : RelS w0 K S w) {src dst e : TypeId} {i : TI} (hs : P.underlying src = some (.pointer e)) (hd : P.underlying dst = some .unsafePointer) (hi : TOk P e i) (hsz : 1 ≤ i.sz)
    {p b off : Nat} {cs : List AV} (hp : S[p]? = some (.cells b cs)) (ho : off < cs.length) : (convert src dst (.pointer (some ⟨b, off, none⟩))).run P w = .ok (.pointer (some ⟨b, off, none⟩)) w := by
  obtain ⟨hB, hK, h1, vs, T, hh, hr⟩ := hS.ents _ (List.mem_of_getElem? hp)
  obtain ⟨x, z, hx, hxs, _⟩ := hi.get
  have hl : cs.length = vs.size := by rw [hr.1]; simp
  exact Lib.run_to_unsafe w ⟨b, off, none⟩ hs hd hx (by omega) (e := T) (cells := vs.size) (by simp [World.shape?, hh]) (by show off < vs.size; omega)
theorem run_fromUnsafe {P : Program} {w0 w : World} {K : Kn} {S : List En} (hS : RelS w0 K S w) {src dst u T : TypeId} {i : TI} (hs : P.underlying src = some .unsafePointer) (hd : P.underlying dst = some (.pointer u)) (hi : TOk P u i)
    {p b off : Nat} {cs : List AV} (hp : S[p]? = some (.cells b cs)) (hty : En.ty b T ∈ S) (hlies : liesAt P P.depth T (cs.length / P.cellsOf T) off u 1 = true) : (convert src dst (.pointer (some ⟨b, off, none⟩))).run P w = .ok (.pointer (some ⟨b, off, none⟩)) w := by
  obtain ⟨hB, hK, h1, vs, T', hh, hr⟩ := hS.ents _ (List.mem_of_getElem? hp)
  obtain ⟨c', fr', ht⟩ := hS.ents _ hty
  rw [hh] at ht
  cases ht
  obtain ⟨x, z, hx, hxs, _⟩ := hi.get
  have hl : cs.length = vs.size := by rw [hr.1]; simp
  rw [hl] at hlies
  exact Lib.run_from_unsafe w ⟨b, off, none⟩ hs hd hx (e := T) (cells := vs.size) (by simp [World.shape?, hh]) hlies
end Go.Aw
