/-
  Sources (what append and copy read), copy, append to a mutable slice, functions of the model's own. Own work.
-/
import Derived.Test.YtgkjbpnmeeibbaaGreatDoorAw6
set_option linter.all false
namespace Go.Aw
open Go.RowKit

/-- what append and copy may read: its length, and its cells -/
def ASrc (S : List En) (sz : Nat) : AV → Nat → List AV → Prop
  | .sl sz' es _, n, cs => (sz = sz' ∨ es = []) ∧ es.length = n ∧ flat es = cs
  | .msl b off n' _, n, cs => n' = n ∧ ((n = 0 ∧ cs = []) ∨ ∃ (p : Nat) (cur : List AV), S[p]? = some (.cells b cur) ∧ off + n * sz ≤ cur.length ∧ (cur.drop off).take (n * sz) = cs)
  | .str s, n, cs => sz = 1 ∧ s.length = n ∧ s.map (fun c => AV.int .u8 c.toNat) = cs
  | _, _, _ => False

/-- what is read, as the model reads it -/
structure SrcAs (P : Program) (K : Kn) (sz n : Nat) (cs : List AV) (v : Value) (w : World) (vs : List Value) : Prop where
  rel : RelL K cs vs
  one : ∀ c ∈ cs, c.one = true
  len : vs.length = n * sz
  hmax : n ≤ maxLen
  lenOf : (Builtin.lenOf v).run P w = .ok n w
  first : ∀ m, m ≤ n → (Builtin.firstCells sz m v).run P w = .ok (vs.take (m * sz)).toArray w

theorem run_firstCells_pre {P : Program} (w : World) (sz m : Nat) (a : Addr) (n c : Nat) (vs : List Value) (hm : m * sz ≤ vs.length) (h : ∀ (j : Nat) (u : Value), vs[j]? = some u → w.cell? (a.add j) = some u) :
    (Builtin.firstCells sz m (.slice (some a) n c)).run P w = .ok (vs.take (m * sz)).toArray w := by
  refine run_firstCells_some (P := P) w sz m a n c (vs.take (m * sz)) (by rw [List.length_take]; omega) (fun j u hu => ?_)
  rw [List.getElem?_take] at hu
  split at hu
  · exact h j u hu
  · cases hu

theorem src_ok {P : Program} {w0 w : World} {K : Kn} {S : List En} (hS : RelS w0 K S w) {x : AV} {v : Value} {sz n : Nat} {cs : List AV} (hx : Rel K x v) (h : ASrc S sz x n cs) : ∃ vs, SrcAs P K sz n cs v w vs := by
  cases x <;> try exact h.elim
  · -- a string
    rename_i s
    obtain ⟨rfl, rfl, rfl⟩ := h
    cases hx with
    | str _ hs =>
      refine ⟨s.map (fun c => Value.int .u8 c.toNat), ?_, ?_, by simp, hs, ?_, ?_⟩
      · refine ⟨by simp, fun i c u hc hu => ?_⟩
        rw [List.getElem?_map] at hc hu
        cases hsi : s[i]? with
        | none => rw [hsi] at hc; cases hc
        | some b =>
          rw [hsi] at hc hu
          simp only [Option.map_some, Option.some.injEq] at hc hu
          subst hc; subst hu
          refine .int _ _ ?_
          have := b.toNat_lt
          simp only [IntKind.has, IntKind.min, IntKind.max, IntKind.bits, IntKind.signed]
          simp; omega
      · intro c hc
        obtain ⟨b, _, rfl⟩ := List.mem_map.1 hc
        rfl
      · show Result.ok (ByteArray.mk s.toArray).size w = _
        simp [ByteArray.size]
      · intro m hm
        show Result.ok ((ByteArray.mk s.toArray).extract 0 m |>.data.map fun b => Value.int .u8 b.toNat) w = _
        congr 1
        simp [ByteArray.data_extract, List.map_take]
  · -- a slice
    rename_i sz' es t
    obtain ⟨hsz, rfl, rfl⟩ := h
    rcases sl_cases hx with ⟨a, rfl, rfl, _⟩ | ⟨b, off, cap, vs, ha, _⟩
    · refine ⟨[], RelL.nil, by simp [flat], by simp, by simp, rfl, fun m hm => ?_⟩
      have : m = 0 := by simpa using hm
      subst this
      cases a with
      | none => simp [Builtin.firstCells]
      | some a => simp [Builtin.firstCells, loadCells, loadCellsFrom]
    · have hl : vs.length = es.length * sz := by rw [← ha.rel.1, flat_take (all_sz ha.szs hsz)]
      refine ⟨vs, ha.rel, ha.one, hl, Nat.le_trans ha.hcap ha.hmax, by rw [ha.eq]; rfl, fun m hm => ?_⟩
      rw [ha.eq]
      exact run_firstCells_pre w sz m _ _ _ vs (by rw [hl]; exact Nat.mul_le_mul_right _ hm) (fun j u hu => by rw [Addr.add_lit]; exact hS.kcell _ _ _ (ha.known j u hu))
  · -- a mutable one
    rename_i b off n' cap
    obtain ⟨rfl, h⟩ := h
    rcases h with ⟨rfl, rfl⟩ | ⟨p, cur, hp, hl, rfl⟩
    · refine ⟨[], RelL.nil, by simp, by simp, by simp, ?_, fun m hm => ?_⟩
      · cases hx <;> rfl
      · have : m = 0 := by simpa using hm
        subst this
        cases hx with
        | mslnil _ _ a => cases a <;> simp [Builtin.firstCells, loadCells, loadCellsFrom]
        | msl => simp [Builtin.firstCells, loadCells, loadCellsFrom]
    · obtain ⟨hB, hK, h1, vs, T, hh, hr⟩ := hS.ents _ (List.mem_of_getElem? hp)
      have hr' := (hr.drop off).take (n' * sz)
      have hlen : ((vs.toList.drop off).take (n' * sz)).length = n' * sz := by rw [← hr'.1, List.length_take, List.length_drop]; omega
      have hone : ∀ c ∈ (cur.drop off).take (n' * sz), c.one = true := fun c hc => h1 c (List.mem_of_mem_drop (List.mem_of_mem_take hc))
      cases hx with
      | mslnil _ _ a =>
        refine ⟨_, hr', hone, hlen, by simp, rfl, fun m hm => ?_⟩
        have : m = 0 := by simpa using hm
        subst this
        cases a <;> simp [Builtin.firstCells, loadCells, loadCellsFrom]
      | @msl _ _ _ _ b' o' hle hmax ho =>
        refine ⟨_, hr', hone, hlen, Nat.le_trans hle hmax, rfl, fun m hm => ?_⟩
        rcases Nat.eq_zero_or_pos n' with hn | hn
        · have : m = 0 := by omega
          subst this
          simp [Builtin.firstCells, loadCells, loadCellsFrom]
        · obtain ⟨rfl, rfl⟩ : b' = b ∧ o' = off := by
            rcases ho with ho | ho
            · exact ho
            · omega
          refine run_firstCells_pre w sz m _ _ _ _ (by rw [hlen]; exact Nat.mul_le_mul_right _ hm) (fun j u hu => ?_)
          rw [Addr.add_lit, cell_of_heap hh]
          rw [List.getElem?_take] at hu
          split at hu
          · rw [List.getElem?_drop] at hu
            simpa using hu
          · cases hu

/-- cells are stored into an owned block -/
theorem RelS.stored {w0 w : World} {K : Kn} {S : List En} {p b off : Nat} {cur cs : List AV} (hS : RelS w0 K S w) (hp : S[p]? = some (.cells b cur)) {vs : List Value} (hr : RelL K cs vs) (h1 : ∀ c ∈ cs, c.one = true) (hfit : off + cs.length ≤ cur.length) (P : Program) :
    ∃ w', (storeCells ⟨b, off, none⟩ vs).run P w = .ok () w' ∧ RelS w0 K (S.set p (.cells b (setCells cur off cs))) w' := by
  obtain ⟨hB, hK, ho, cv, T, hh, hc⟩ := hS.ents _ (List.mem_of_getElem? hp)
  have hl : cs.length = vs.length := hr.1
  have hcl : cur.length = cv.size := by rw [hc.1]; simp
  have hst := run_storeCells_at P b off T vs 0 cv w hh (by omega) (relL_one hr h1)
  refine ⟨_, hst, ?_⟩
  refine hS.turn hp (b := b) rfl (Kle.refl K) (fun _ _ => rfl) (fun c hc => setRow_other _ _ _ _ hc) (by simp) rfl rfl rfl (fun j u hu => by rw [hK] at hu; simp at hu) (fun c t fr hc => ⟨_, _, setRow_heap _ _ _ _ _ _ hc⟩) (.inl rfl)
    ⟨hB, hK, ?_, _, T, setRow_heap _ _ _ _ _ _ hh, ?_⟩
  · intro c hc
    simp only [setCells, List.mem_append] at hc
    rcases hc with (hc | hc) | hc
    · exact ho c (List.mem_of_mem_take hc)
    · exact h1 c hc
    · exact ho c (List.mem_of_mem_drop hc)
  · simp only [setCells, Nat.add_zero, hl]
    exact ((hc.take off).append hr).append (hc.drop _)

theorem set_same {S : List En} {p : Nat} {e : En} (hp : S[p]? = some e) : S.set p e = S := by
  apply List.ext_getElem?
  intro q
  rw [List.getElem?_set]
  split
  · rename_i h; subst h; rw [hp]; simp [(List.getElem?_eq_some_iff.1 hp).1]
  · rfl

/-- copy into an owned block -/
theorem run_copy_src {P : Program} {w0 w : World} {K : Kn} {S : List En} (hS : RelS w0 K S w) {t t' ty e : TypeId} {i : TI} (ht : P.underlying t = some (.slice e)) (hi : TOk P e i) {b off n cap p m : Nat} {cur cs : List AV} {x : AV} {v u : Value}
    (hp : S[p]? = some (.cells b cur)) (hv : Rel K (.msl b off n cap) v) (hu : Rel K x u) (hs : ASrc S i.sz x m cs) (hfit : off + min m n * i.sz ≤ cur.length) :
    ∃ w', (Builtin.copy_ #[t, t'] ty #[v, u]).run P w = .ok (.int .i64 (min m n : Nat)) w' ∧ RelS w0 K (S.set p (.cells b (setCells cur off (cs.take (min m n * i.sz))))) w' := by
  obtain ⟨vs, hsrc⟩ := src_ok (P := P) hS hu hs
  have hcl : cs.length = m * i.sz := by rw [hsrc.rel.1, hsrc.len]
  have hmn : min m n * i.sz ≤ m * i.sz := Nat.mul_le_mul_right _ (Nat.min_le_left _ _)
  have htl : (cs.take (min m n * i.sz)).length = min m n * i.sz := by rw [List.length_take]; omega
  have run : ∀ (a : Option Addr) (c : Nat) (w' : World), (match a with | some a => (storeCells a (vs.take (min m n * i.sz))).run P w = .ok () w' | none => w' = w) →
      (Builtin.copy_ #[t, t'] ty #[.slice a n c, u]).run P w = .ok (.int .i64 (min m n : Nat)) w' := by
    intro a c w' ha
    have hf := hsrc.first (min m n) (Nat.min_le_left _ _)
    simp only [Builtin.copy_, List.getElem?_toArray, List.getElem?_cons_zero, List.getElem?_cons_succ]
    rw [run_bind_ok (run_underlying ht w)]
    simp only []
    rw [run_bind_ok hsrc.lenOf]
    rw [run_bind_ok (hi.sizeOf w)]
    have e : Nat.min m n = min m n := rfl
    rw [e, run_bind_ok hf]
    cases a with
    | none => subst ha; rfl
    | some a =>
      simp only []
      simp only [] at ha
      rw [run_bind_ok ha]
      rfl
  have none_at : ∀ (a : Option Addr) (c : Nat), n = 0 → ∃ w', (Builtin.copy_ #[t, t'] ty #[.slice a n c, u]).run P w = .ok (.int .i64 (min m n : Nat)) w' ∧ RelS w0 K (S.set p (.cells b (setCells cur off (cs.take (min m n * i.sz))))) w' := by
    intro a c hn
    subst hn
    refine ⟨w, run a c w ?_, ?_⟩
    · cases a with
      | none => rfl
      | some a => simp [storeCells]
    · have : setCells cur off (cs.take (min m 0 * i.sz)) = cur := by simp [setCells]
      rw [this, set_same hp]; exact hS
  cases hv with
  | mslnil _ _ a => exact none_at a 0 rfl
  | @msl _ _ _ _ b' o' hle hmax ho =>
    rcases Nat.eq_zero_or_pos n with hn | hn
    · exact none_at _ _ hn
    · obtain ⟨rfl, rfl⟩ : b' = b ∧ o' = off := by
        rcases ho with ho | ho
        · exact ho
        · omega
      obtain ⟨w', h1, h2⟩ := hS.stored hp (hsrc.rel.take (min m n * i.sz)) (fun c hc => hsrc.one c (List.mem_of_mem_take hc)) (by rw [htl]; exact hfit) P
      exact ⟨w', run _ _ w' h1, h2⟩
/-- a type that append may take its source from -/
def SrcT (P : Program) (t : TypeId) : Prop := (∃ e, P.underlying t = some (.slice e)) ∨ P.underlying t = some .string

/-- append into the room of an owned block -/
theorem run_append_msl_in {P : Program} {w0 w : World} {K : Kn} {S : List En} (hS : RelS w0 K S w) {t t' ty e : TypeId} {i : TI} (ht : P.underlying t = some (.slice e)) (ht' : SrcT P t') (hi : TOk P e i) {b off n cap p m : Nat} {cur cs : List AV} {x : AV} {v u : Value}
    (hp : S[p]? = some (.cells b cur)) (hv : Rel K (.msl b off n cap) v) (hu : Rel K x u) (hs : ASrc S i.sz x m cs) (hroom : n + m ≤ cap) (hfit : off + (n + m) * i.sz ≤ cur.length) :
    ∃ v' w', (Builtin.append_ #[t, t'] ty #[v, u]).run P w = .ok v' w' ∧ Rel K (.msl b off (n + m) cap) v' ∧ RelS w0 K (S.set p (.cells b (setCells cur (off + n * i.sz) cs))) w' := by
  obtain ⟨inf, z, hinf, hsz, hb, hz, _⟩ := hi.get
  obtain ⟨vs, hsrc⟩ := src_ok (P := P) hS hu hs
  have hcl : cs.length = m * i.sz := by rw [hsrc.rel.1, hsrc.len]
  have hf := hsrc.first m (Nat.le_refl _)
  rw [List.take_of_length_le (by rw [hsrc.len]; exact Nat.le_refl _)] at hf
  have run : ∀ (a : Option Addr) (w' : World), (match a with | some a => (storeCells (a.add (n * i.sz)) vs).run P w = Result.ok () w' | none => w' = w) →
      (Builtin.append_ #[t, t'] ty #[.slice a n cap, u]).run P w = .ok (.slice a (n + m) cap) w' := by
    intro a w' ha
    have hl := hsrc.lenOf
    cases a with
    | none =>
      subst ha
      rcases ht' with ⟨e', ht'⟩ | ht' <;> simp [Builtin.append_, run_underlying ht, run_underlying ht', sizeOf, typeInfo, hinf, hsz, hl, hroom, hf]
    | some a =>
      simp only [] at ha
      rcases ht' with ⟨e', ht'⟩ | ht' <;> simp [Builtin.append_, run_underlying ht, run_underlying ht', sizeOf, typeInfo, hinf, hsz, hl, hroom, hf, ha]
  rcases Nat.eq_zero_or_pos m with hm | hm
  · have hv0 : vs = [] := by have := hsrc.len; rw [hm] at this; simpa using this
    have hc0 : cs = [] := by rw [hm] at hcl; simpa using hcl
    have e1 : setCells cur (off + n * i.sz) cs = cur := by rw [hc0]; simp [setCells]
    rw [e1, set_same hp]
    have run0 : ∀ a, (Builtin.append_ #[t, t'] ty #[.slice a n cap, u]).run P w = .ok (.slice a (n + m) cap) w := by
      intro a
      refine run a w ?_
      cases a with
      | none => rfl
      | some a => rw [hv0]; rfl
    cases hv with
    | mslnil _ _ a =>
      refine ⟨_, w, run0 a, ?_, hS⟩
      rw [hm]; exact .mslnil _ _ _
    | @msl _ _ _ _ b' o' hle hmax ho =>
      refine ⟨_, w, run0 _, ?_, hS⟩
      exact .msl _ _ _ _ hroom hmax ho
  · cases hv with
    | mslnil _ _ a => omega
    | @msl _ _ _ _ b' o' hle hmax ho =>
      obtain ⟨rfl, rfl⟩ : b' = b ∧ o' = off := by
        rcases ho with ho | ho
        · exact ho
        · omega
      obtain ⟨w', h1, h2⟩ := hS.stored hp (off := o' + n * i.sz) hsrc.rel hsrc.one (by rw [hcl, Nat.add_assoc, ← Nat.add_mul]; exact hfit) P
      refine ⟨_, w', run _ w' ?_, .msl _ _ _ _ hroom hmax (.inl ⟨rfl, rfl⟩), h2⟩
      simp only [Addr.add_lit]; exact h1

/-- the new block that append makes -/
theorem RelS.appended {w0 w : World} {K : Kn} {S : List En} (hS : RelS w0 K S w) {P : Program} {e : TypeId} {i : TI} (hi : TOk P e i) {z : Value} (hzr : RelL K i.zero z.cells.toList) (hz1 : ∀ c ∈ i.zero, c.one = true)
    {old cs : List AV} {os vs : List Value} (ho : RelL K old os) (ho1 : ∀ c ∈ old, c.one = true) (hr : RelL K cs vs) (h1 : ∀ c ∈ cs, c.one = true) (k : Nat) :
    RelS w0 K (.cells w.heap.size (old ++ cs ++ zerosAV i.zero k) :: S) (w.drew.alloc (.cells (os.toArray ++ vs.toArray ++ Builtin.zeroCells z.cells k) e)) := by
  refine (hS.drew).allocCells e (cs := old ++ cs ++ zerosAV i.zero k) ?_ ?_
  · intro c hc
    rcases List.mem_append.1 hc with hc | hc
    · rcases List.mem_append.1 hc with hc | hc
      · exact ho1 c hc
      · exact h1 c hc
    · exact zerosAV_one hz1 k c hc
  · simp only [Array.toList_append]
    exact RelL.append (RelL.append (by simpa using ho) (by simpa using hr)) (zeros_rel hzr k)

/-- append to an owned block without room: a new one -/
theorem run_append_msl_new {P : Program} {w0 w : World} {K : Kn} {S : List En} (hS : RelS w0 K S w) {t t' ty e : TypeId} {i : TI} (ht : P.underlying t = some (.slice e)) (ht' : SrcT P t') (hi : TOk P e i) {b off n cap p m : Nat} {cur cs : List AV} {x : AV} {v u : Value}
    (hp : S[p]? = some (.cells b cur)) (hv : Rel K (.msl b off n cap) v) (hu : Rel K x u) (hs : ASrc S i.sz x m cs) (hgrow : cap < n + m) (hfit : off + n * i.sz ≤ cur.length) (hroom : roomFor (n + m) i.by_) :
    ∃ v' w' b' cap' rest, (Builtin.append_ #[t, t'] ty #[v, u]).run P w = .ok v' w' ∧ Rel K (.msl b' 0 (n + m) cap') v' ∧ RelS w0 K (.cells b' ((cur.drop off).take (n * i.sz) ++ cs ++ rest) :: S) w' ∧ n + m ≤ cap' ∧ rest.length = (cap' - (n + m)) * i.sz ∧ ∃ c fr, w'.heap[b']? = some (.cells c e fr) := by
  obtain ⟨inf, z, hinf, hsz, hb, hz, hzr, hz1⟩ := hi.get
  have hmaxl : n + m ≤ maxLen := by have := hroom.2.2; simpa [maxLen] using this
  obtain ⟨ws, hsrc0⟩ := src_ok (P := P) hS hu hs
  obtain ⟨vs, hsrc⟩ := src_ok (P := P) hS.drew hu hs
  obtain ⟨os, hold⟩ := src_ok (P := P) hS.drew hv (sz := i.sz) (n := n) (cs := (cur.drop off).take (n * i.sz)) ⟨rfl, .inr ⟨p, cur, hp, hfit, rfl⟩⟩
  have hl := hsrc0.lenOf
  have hf := hsrc.first m (Nat.le_refl _)
  rw [List.take_of_length_le (by rw [hsrc.len]; exact Nat.le_refl _)] at hf
  have hg := hold.first n (Nat.le_refl _)
  rw [List.take_of_length_le (by rw [hold.len]; exact Nat.le_refl _)] at hg
  obtain ⟨a, rfl⟩ : ∃ a, v = .slice a n cap := by cases hv <;> exact ⟨_, rfl⟩
  have hn : ¬ (n + m ≤ cap) := by omega
  have h63 : ¬ (9223372036854775807 < ((n : Int) + (m : Int))) := by have := hroom.2.2; omega
  have h48 : ¬ (281474976710656 < Builtin.nextslicecap (n + m) cap * inf.bytes) := by have := hroom.cap hgrow; rw [hb]; omega
  have hrun : (Builtin.append_ #[t, t'] ty #[.slice a n cap, u]).run P w = .ok (.slice (some ⟨w.heap.size, 0, none⟩) (n + m) (grownCap w (n + m) cap e))
        (w.drew.alloc (.cells (os.toArray ++ vs.toArray ++ Builtin.zeroCells z.cells (grownCap w (n + m) cap e - (n + m))) e)) := by
    rcases ht' with ⟨e', ht'⟩ | ht' <;> simp [Builtin.append_, run_underlying ht, run_underlying ht', sizeOf, typeInfo, zeroValue, hinf, hsz, hz, hl, hn, h63, h48, Question.forced, hf, hg, newRow, grownCap] <;> (congr 2; apply Array.ext'; simp [List.append_assoc])
  have hge := grownCap_ge w (n + m) cap e
  have hle := grownCap_lt w (n + m) cap e hmaxl
  refine ⟨_, _, w.heap.size, _, _, hrun, .msl _ _ _ _ hge hle (.inl ⟨rfl, rfl⟩), hS.appended hi (hzr K) hz1 hold.rel hold.one hsrc.rel hsrc.one _, hge, ?_, _, _, heap_alloc_new _ _⟩
  rw [zerosAV_len, hi.len]

theorem wrap_i64' {n : Int} (h : -9223372036854775808 ≤ n ∧ n ≤ 9223372036854775807) : IntKind.i64.wrap n = n := by
  simp only [IntKind.wrap, IntKind.signed, IntKind.bits]
  simp
  omega
/-- append(s, make(..)...) without room -/
theorem run_append_msl_make {P : Program} {w0 w : World} {K : Kn} {S : List En} (hS : RelS w0 K S w) {t t' ty e : TypeId} {q0 : IntKind} {i : TI} (ht : P.underlying t = some (.slice e)) (ht' : P.underlying t' = some (.int q0)) (hi : TOk P e i) {b off n cap p m : Nat} {cur : List AV} {q : IntKind} {v u : Value}
    (hp : S[p]? = some (.cells b cur)) (hv : Rel K (.msl b off n cap) v) (hu : Rel K (.int q (m : Int)) u) (hgrow : cap < n + m) (hfit : off + n * i.sz ≤ cur.length) (hroom : roomFor (n + m) i.by_) :
    ∃ v' w' b' cap' rest, (Builtin.append_ #[t, t'] ty #[v, u]).run P w = .ok v' w' ∧ Rel K (.msl b' 0 (n + m) cap') v' ∧ RelS w0 K (.cells b' ((cur.drop off).take (n * i.sz) ++ rest) :: S) w' ∧ n + m ≤ cap' ∧ rest.length = (cap' - n) * i.sz := by
  obtain ⟨inf, z, hinf, hsz, hb, hz, hzr, hz1⟩ := hi.get
  have hmaxl : n + m ≤ maxLen := by have := hroom.2.2; simpa [maxLen] using this
  obtain ⟨os, hold⟩ := src_ok (P := P) hS.drew hv (sz := i.sz) (n := n) (cs := (cur.drop off).take (n * i.sz)) ⟨rfl, .inr ⟨p, cur, hp, hfit, rfl⟩⟩
  have hg := hold.first n (Nat.le_refl _)
  rw [List.take_of_length_le (by rw [hold.len]; exact Nat.le_refl _)] at hg
  obtain ⟨a, rfl⟩ : ∃ a, v = .slice a n cap := by cases hv <;> exact ⟨_, rfl⟩
  cases hu
  have hn : ¬ (n + m ≤ cap) := by omega
  have h63 : ¬ (9223372036854775807 < ((n : Int) + (m : Int))) := by have := hroom.2.2; omega
  have h48 : ¬ (281474976710656 < Builtin.nextslicecap (n + m) cap * inf.bytes) := by have := hroom.cap hgrow; rw [hb]; omega
  have hw : IntKind.i64.wrap (m : Int) = (m : Int) := wrap_i64' (by have := hroom.2.2; omega)
  have hby : ¬ (281474976710656 < (m : Int) * (inf.bytes : Int)) := by
    have h1 := hroom.1
    rw [Nat.add_mul] at h1
    rw [hb]
    have : ((m * i.by_ : Nat) : Int) = (m : Int) * (i.by_ : Int) := by simp
    omega
  have hm0 : ¬ ((m : Int) < 0) := by omega
  have hzl : z.cells.size = i.sz := by have := (hzr K).1; rw [hi.len] at this; simpa using this.symm
  have hrun : (Builtin.append_ #[t, t'] ty #[.slice a n cap, .int q m]).run P w = .ok (.slice (some ⟨w.heap.size, 0, none⟩) (n + m) (grownCap w (n + m) cap e))
        (w.drew.alloc (.cells (os.toArray ++ (Builtin.zeroCells z.cells m).toList.toArray ++ Builtin.zeroCells z.cells (grownCap w (n + m) cap e - (n + m))) e)) := by
    have hai : (asInt (.int q m)).run P w = .ok (m : Int) w := rfl
    by_cases h0 : m * i.sz = 0
    · have e0 : Builtin.zeroCells z.cells m = #[] := by simp [Builtin.zeroCells, hzl, h0]
      simp [Builtin.append_, run_underlying ht, run_underlying ht', hai, sizeOf, typeInfo, zeroValue, hinf, hsz, hz, hw, hm0, hby, hn, h63, h48, Question.forced, hg, newRow, grownCap, h0, e0]
    · simp [Builtin.append_, run_underlying ht, run_underlying ht', hai, sizeOf, typeInfo, zeroValue, hinf, hsz, hz, hw, hm0, hby, hn, h63, h48, Question.forced, hg, newRow, grownCap, h0]
  have hge := grownCap_ge w (n + m) cap e
  have hle := grownCap_lt w (n + m) cap e hmaxl
  have hfin := hS.appended hi (hzr K) hz1 hold.rel hold.one (zeros_rel (hzr K) m) (zerosAV_one hz1 m) (grownCap w (n + m) cap e - (n + m))
  rw [List.append_assoc] at hfin
  refine ⟨_, _, w.heap.size, _, _, hrun, .msl _ _ _ _ hge hle (.inl ⟨rfl, rfl⟩), hfin, hge, ?_⟩
  rw [List.length_append, zerosAV_len, zerosAV_len, hi.len, ← Nat.add_mul]
  congr 1; omega

/-! ### functions without a body: the model's own -/
/-- what the model's own entry does with these arguments -/
def AExtE (P : Program) (e : Array Value → Sem Value) (args : List AV) (S : List En) (k : AV → List En → Prop) : Prop :=
  ∀ (w0 : World) (K : Kn) (w : World) (vs : List Value), RelL K args vs → RelS w0 K S w → ∃ v w' K' av S', (e vs.toArray).run P w = .ok v w' ∧ Kle K K' ∧ Rel K' av v ∧ RelS w0 K' S' w' ∧ k av S'
def AExt (P : Program) (f : FuncId) (args : List AV) (S : List En) (k : AV → List En → Prop) : Prop :=
  ∃ fn e, P.funcs[f]? = some fn ∧ (fn.name == "runtime.NumGoroutine") = false ∧ fn.body.isNone = true ∧ Extern.findNext fn = none ∧ Extern.find fn = some e ∧ AExtE P e args S k

end Go.Aw
