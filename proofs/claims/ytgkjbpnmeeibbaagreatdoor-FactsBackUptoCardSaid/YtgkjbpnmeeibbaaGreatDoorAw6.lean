/-
  Structs, arrays and slices that are built; comparing; converting. Own work.
-/
import Derived.Test.YtgkjbpnmeeibbaaGreatDoorAw5
set_option linter.all false
namespace Go.Aw
open Go.RowKit

theorem foldl_set (off : Nat) : ∀ (l : List Value) (k : Nat) (cells : Array Value), off + k + l.length ≤ cells.size →
    (l.zipIdx k).foldl (fun (cs : Array Value) (p : Value × Nat) => cs.setIfInBounds (off + p.2) p.1) cells = (cells.toList.take (off + k) ++ l ++ cells.toList.drop (off + k + l.length)).toArray := by
  intro l
  induction l with
  | nil => intro k cells _; simp
  | cons v l ih =>
    intro k cells h
    simp only [List.length_cons] at h
    simp only [List.zipIdx_cons, List.foldl_cons]
    rw [ih (k + 1) _ (by simp; omega)]
    congr 1
    apply List.ext_getElem?
    intro j
    have hcl : cells.toList.length = cells.size := Array.length_toList
    have e1 : (cells.setIfInBounds (off + k) v).toList = cells.toList.set (off + k) v := by simp
    rw [e1]
    simp only [List.append_assoc]
    by_cases h1 : j < off + k
    · rw [List.getElem?_append_left (by simp; omega), List.getElem?_append_left (by simp; omega)]
      rw [List.getElem?_take, List.getElem?_take, if_pos (by omega), if_pos (by omega), List.getElem?_set_ne (by omega)]
    · by_cases h2 : j = off + k
      · subst h2
        rw [List.getElem?_append_left (by simp; omega), List.getElem?_append_right (by simp; omega)]
        rw [List.getElem?_take, if_pos (by omega), List.getElem?_set_self (by omega)]
        rw [List.length_take, hcl, show off + k - min (off + k) cells.size = 0 by omega]; rfl
      · have l1 : ((cells.toList.set (off + k) v).take (off + (k + 1))).length = off + (k + 1) := by rw [List.length_take, List.length_set, hcl]; omega
        have l2 : (cells.toList.take (off + k)).length = off + k := by rw [List.length_take, hcl]; omega
        have hL : ((cells.toList.set (off + k) v).take (off + (k + 1)) ++ (l ++ (cells.toList.set (off + k) v).drop (off + (k + 1) + l.length)))[j]? = (l ++ (cells.toList.set (off + k) v).drop (off + (k + 1) + l.length))[j - (off + (k + 1))]? := by
          rw [List.getElem?_append_right (by rw [l1]; omega), l1]
        have hR : (cells.toList.take (off + k) ++ (v :: l ++ cells.toList.drop (off + k + (l.length + 1))))[j]? = (l ++ cells.toList.drop (off + k + (l.length + 1)))[j - (off + (k + 1))]? := by
          rw [List.getElem?_append_right (by rw [l2]; omega), l2, show j - (off + k) = (j - (off + (k + 1))) + 1 by omega, List.cons_append, List.getElem?_cons_succ]
        rw [hL]
        refine Eq.trans ?_ hR.symm
        by_cases h3 : j - (off + (k + 1)) < l.length
        · rw [List.getElem?_append_left h3, List.getElem?_append_left h3]
        · rw [List.getElem?_append_right (by omega)]
          refine Eq.symm (Eq.trans (List.getElem?_append_right (by omega)) ?_)
          rw [List.getElem?_drop, List.getElem?_drop, List.getElem?_set_ne (by omega)]
          congr 1; omega

/-- parts laid into cells -/
def aFill (place : Nat → Option (Nat × Nat)) : List AV → List (Nat × AV) → Option (List AV)
  | cs, [] => some cs
  | cs, (i, x) :: r => match place i with
    | none => none
    | some (off, sz) => bif x.plain && Nat.beq x.cells.length sz && Nat.ble (off + sz) cs.length then aFill place (setCells cs off x.cells) r else none

inductive RelP (K : Kn) : List (Nat × AV) → List (Nat × Value) → Prop
  | nil : RelP K [] []
  | cons {i : Nat} {x : AV} {v : Value} {r : List (Nat × AV)} {s : List (Nat × Value)} (h : Rel K x v) (t : RelP K r s) : RelP K ((i, x) :: r) ((i, v) :: s)

theorem fill_rel {K : Kn} {place : Nat → Option (Nat × Nat)} : ∀ {ps : List (Nat × AV)} {qs : List (Nat × Value)} {cs cs' : List AV} {vs : List Value}, RelP K ps qs → RelL K cs vs → (∀ c ∈ cs, c.one = true) →
    aFill place cs ps = some cs' → ∃ vs', Instr.fill place vs.toArray qs = some vs'.toArray ∧ RelL K cs' vs' ∧ (∀ c ∈ cs', c.one = true) ∧ cs'.length = cs.length := by
  intro ps
  induction ps with
  | nil =>
    intro qs cs cs' vs hp hr h1 h
    cases hp
    simp only [aFill, Option.some.injEq] at h
    subst h
    exact ⟨vs, rfl, hr, h1, rfl⟩
  | cons p ps ih =>
    intro qs cs cs' vs hp hr h1 h
    cases hp with
    | @cons i x v _ s hx ht =>
      simp only [aFill] at h
      cases hpl : place i with
      | none => rw [hpl] at h; cases h
      | some q =>
        obtain ⟨off, sz⟩ := q
        rw [hpl] at h
        simp only [] at h
        cases hc : (x.plain && Nat.beq x.cells.length sz && Nat.ble (off + sz) cs.length) with
        | false => rw [hc] at h; cases h
        | true =>
          rw [hc] at h
          simp only [cond_true] at h
          simp only [Bool.and_eq_true] at hc
          obtain ⟨⟨ha, hb⟩, hcc⟩ := hc
          have hsz : x.cells.length = sz := Nat.eq_of_beq_eq_true hb
          have hle : off + sz ≤ cs.length := Nat.le_of_ble_eq_true hcc
          obtain ⟨hxl, hx1⟩ := hx.plain ha
          have hvl : v.cells.toList.length = sz := by rw [← hxl.1, hsz]
          have hvs : v.cells.size = sz := by rw [← hvl]; exact Array.length_toList.symm
          have hset : RelL K (setCells cs off x.cells) (vs.take off ++ v.cells.toList ++ vs.drop (off + v.cells.toList.length)) := by
            unfold setCells; rw [hxl.1]; exact ((hr.take off).append hxl).append (hr.drop _)
          have hlen : (setCells cs off x.cells).length = cs.length := by unfold setCells; simp; omega
          obtain ⟨vs', h2, h3, h4, h5⟩ := ih ht hset (fun c hc => by
            simp only [setCells, List.mem_append] at hc
            rcases hc with (hc | hc) | hc
            · exact h1 c (List.mem_of_mem_take hc)
            · exact hx1 c hc
            · exact h1 c (List.mem_of_mem_drop hc)) h
          refine ⟨vs', ?_, h3, h4, by rw [h5, hlen]⟩
          rw [← h2]
          simp only [Instr.fill, hpl]
          have hvsz : off + v.cells.size ≤ vs.toArray.size := by simp only [List.size_toArray, ← hr.1]; omega
          rw [if_neg (by simp only [hvs, bne_self_eq_false, Bool.or_eq_true, decide_eq_true_eq]; simp only [List.size_toArray, ← hr.1]; simp; omega)]
          congr 1
          have := foldl_set off v.cells.toList 0 vs.toArray (by rw [Nat.add_zero, Array.length_toList]; exact hvsz)
          simp only [Nat.add_zero] at this
          rw [← this]
          rw [← Array.foldl_toList]
          congr 1
          simp

theorem RelP.of {N : Nat} {K : Kn} {E : Env} {a : Act} (h : RelE N K E a) : ∀ (ps : List (Nat × Operand)), (ps.all fun p => opdOk p.2) = true → RelP K (ps.map fun p => (p.1, ev E p.2)) (ps.map fun p => (p.1, a.eval p.2))
  | [], _ => .nil
  | p :: ps, hp => by
    simp only [List.all_cons, Bool.and_eq_true] at hp
    exact .cons (h.ev _ hp.1) (RelP.of h ps hp.2)

def placeS (τ : List (TypeId × TI)) (fs : List (Nat × TypeId)) (i : Nat) : Option (Nat × Nat) := (fs[i]?).map fun p => (p.1, (lkT τ p.2).sz)

theorem run_places {P : Program} {w : World} {τ : List (TypeId × TI)} (hτ : AllOk P τ) : ∀ (fields : List Field), (∀ f ∈ fields, (lkT τ f.type).d.known = true) →
    (fields.mapM (m := Sem) fun f => do pure (f.offset, ← sizeOf f.type)).run P w = .ok (fields.map fun f => (f.offset, (lkT τ f.type).sz)) w
  | [], _ => by simp
  | f :: fs, h => by
    have h1 := (lkT_ok hτ f.type (TD.known_ne (h f (by simp)))).sizeOf w
    have h2 := run_places hτ fs (fun x hx => h x (by simp [hx])) (w := w)
    rw [List.mapM_cons]
    simp only [Sem.run_bind, h1, Result.andThen_ok, Sem.run_pure]
    rw [h2]; rfl

theorem run_build_struct {P : Program} {w : World} {K : Kn} {τ : List (TypeId × TI)} (hτ : AllOk P τ) {t : TypeId} {fs : List (Nat × TypeId)} (hd : (lkT τ t).d = .struct fs) (hk : ∀ p ∈ fs, (lkT τ p.2).d.known = true)
    {ps : List (Nat × AV)} {qs : Array (Nat × Value)} (hp : RelP K ps qs.toList) {cs : List AV} (hf : aFill (placeS τ fs) (lkT τ t).zero ps = some cs) :
    ∃ v, (Instr.build t qs).run P w = .ok v w ∧ Rel K (.agg cs) v := by
  have hi := lkT_ok hτ t (by rw [hd]; simp)
  obtain ⟨x, z, hx, hs, hb, hz, hzr, hz1⟩ := hi.get
  have hD := hi.d
  rw [hd] at hD
  obtain ⟨fields, hu, rfl⟩ := hD
  have hpl := run_places (P := P) (w := w) hτ fields.toList (fun f hf => hk (f.offset, f.type) (List.mem_map.2 ⟨f, hf, rfl⟩))
  obtain ⟨vs', h1, h2, h3, _⟩ := fill_rel hp (hzr K) hz1 hf
  refine ⟨.agg vs'.toArray, ?_, .agg h3 h2.1 h2.2⟩
  simp only [Instr.build]
  have hzv : (zeroValue t).run P w = .ok z w := by simp [zeroValue, typeInfo, hx, hz]
  rw [run_bind_ok hzv]
  rw [run_bind_ok (run_underlying hu w)]
  simp only []
  have hpl' : (fields.mapM (m := Sem) fun f => do pure (f.offset, ← sizeOf f.type)).run P w = .ok (fields.toList.map fun f => (f.offset, (lkT τ f.type).sz)).toArray w := by
    rw [Array.mapM_eq_mapM_toList, Sem.run_map, hpl]; rfl
  rw [run_bind_ok hpl']
  have hplace : (fun i => (fields.toList.map fun f => (f.offset, (lkT τ f.type).sz)).toArray[i]?) = placeS τ (fields.toList.map fun f => (f.offset, f.type)) := by
    funext i
    simp [placeS]
    rfl
  have e0 : z.cells.toList.toArray = z.cells := by simp
  rw [e0] at h1
  simp only [hplace, h1]
  rfl

theorem run_build_arr {P : Program} {w : World} {K : Kn} {τ : List (TypeId × TI)} (hτ : AllOk P τ) {t e : TypeId} {n : Nat} (hd : (lkT τ t).d = .array n e) (hk : (lkT τ e).d.known = true)
    {ps : List (Nat × AV)} {qs : Array (Nat × Value)} (hp : RelP K ps qs.toList) {cs : List AV} (hf : aFill (fun i => some (i * (lkT τ e).sz, (lkT τ e).sz)) (lkT τ t).zero ps = some cs) :
    ∃ v, (Instr.build t qs).run P w = .ok v w ∧ Rel K (.agg cs) v := by
  have hi := lkT_ok hτ t (by rw [hd]; simp)
  obtain ⟨x, z, hx, hs, hb, hz, hzr, hz1⟩ := hi.get
  have hD := hi.d
  rw [hd] at hD
  obtain ⟨vs', h1, h2, h3, _⟩ := fill_rel hp (hzr K) hz1 hf
  refine ⟨.agg vs'.toArray, ?_, .agg h3 h2.1 h2.2⟩
  simp only [Instr.build]
  have hzv : (zeroValue t).run P w = .ok z w := by simp [zeroValue, typeInfo, hx, hz]
  rw [run_bind_ok hzv]
  rw [run_bind_ok (run_underlying hD w)]
  simp only []
  rw [run_bind_ok ((lkT_ok hτ e (TD.known_ne hk)).sizeOf w)]
  have e0 : z.cells.toList.toArray = z.cells := by simp
  rw [e0] at h1
  simp only [h1]
  rfl

/-- the parts are the elements, one after the other -/
theorem fill_elems {K : Kn} {sz : Nat} : ∀ {xs : List AV} {qs : List (Nat × Value)} {k : Nat} {pre rest : List Value}, RelP K (xs.zipIdx k |>.map fun p => (p.2, p.1)) qs → (∀ x ∈ xs, x.plain = true ∧ x.cells.length = sz) →
    pre.length = k * sz → rest.length = xs.length * sz →
    ∃ vs, Instr.fill (fun i => some (i * sz, sz)) (pre ++ rest).toArray qs = some (pre ++ vs).toArray ∧ RelL K (flat xs) vs ∧ (∀ c ∈ flat xs, c.one = true) := by
  intro xs
  induction xs with
  | nil =>
    intro qs k pre rest hp _ _ hrest
    simp at hp
    cases hp
    simp at hrest
    subst hrest
    exact ⟨[], by simp [Instr.fill], RelL.nil, by simp [flat]⟩
  | cons x xs ih =>
    intro qs k pre rest hp hx hpre hrest
    simp only [List.zipIdx_cons, List.map_cons] at hp
    cases hp with
    | @cons _ _ v _ s hv ht =>
      obtain ⟨hpl, hsz⟩ := hx x (by simp)
      obtain ⟨hxl, hx1⟩ := hv.plain hpl
      have hvl : v.cells.toList.length = sz := by rw [← hxl.1, hsz]
      have hvs : v.cells.size = sz := by rw [← hvl]; exact Array.length_toList.symm
      have hr1 : rest.length = sz + xs.length * sz := by rw [hrest, List.length_cons, Nat.succ_mul]; omega
      obtain ⟨vs, h1, h2, h3⟩ := ih (k := k + 1) (pre := pre ++ v.cells.toList) (rest := rest.drop sz) ht (fun y hy => hx y (by simp [hy])) (by rw [List.length_append, hvl, hpre, Nat.succ_mul]) (by rw [List.length_drop, hr1]; omega)
      refine ⟨v.cells.toList ++ vs, ?_, ?_, ?_⟩
      · rw [← List.append_assoc, ← h1]
        simp only [Instr.fill]
        rw [if_neg (by simp only [hvs, bne_self_eq_false, Bool.or_eq_true, decide_eq_true_eq]; simp only [List.size_toArray, List.length_append, hpre, hr1]; simp)]
        congr 1
        have := foldl_set (k * sz) v.cells.toList 0 (pre ++ rest).toArray (by rw [Nat.add_zero, Array.length_toList, hvs]; simp only [List.size_toArray, List.length_append, hpre, hr1]; omega)
        simp only [Nat.add_zero] at this
        rw [← Array.foldl_toList, Array.toList_zipIdx, this]
        congr 1
        rw [hvl, List.take_append, List.drop_append, ← hpre]
        simp
      · simp only [flat, List.flatMap_cons]; exact hxl.append h2
      · intro c hc
        simp only [flat, List.flatMap_cons, List.mem_append] at hc
        rcases hc with hc | hc
        · exact hx1 c hc
        · exact h3 c hc

theorem run_buildSlice {P : Program} {w0 w : World} {K : Kn} {S : List En} (hS : RelS w0 K S w) {t e : TypeId} {i : TI} (hu : P.underlying t = some (.slice e)) (hi : TOk P e i) {xs : List AV} {qs : Array (Nat × Value)}
    (hp : RelP K (xs.zipIdx.map fun p => (p.2, p.1)) qs.toList) (hx : ∀ x ∈ xs, x.plain = true ∧ x.cells.length = i.sz) (hlen : xs.length * i.sz ≤ 16777216 ∧ xs.length ≤ 16777216) :
    ∃ v w' K', (Instr.buildSlice t xs.length qs).run P w = .ok v w' ∧ Kle K K' ∧ Rel K' (.sl i.sz xs .full) v ∧ RelS w0 K' S w' := by
  obtain ⟨x, z, hx', hs, hb, hz, hzr, hz1⟩ := hi.get
  have hfillArr : ∀ (zero : Array Value), ∃ vs, Instr.fill (fun j => some (j * i.sz, i.sz)) ((Array.range (xs.length * i.sz)).map (fun j => zero[j % zero.size]!)) qs.toList = some (List.toArray vs) ∧ RelL K (flat xs) vs ∧ (∀ c ∈ flat xs, c.one = true) := by
    intro zero
    obtain ⟨vs, h1, h2, h3⟩ := fill_elems (K := K) (sz := i.sz) (xs := xs) (k := 0) (pre := []) (rest := ((Array.range (xs.length * i.sz)).map (fun j => zero[j % zero.size]!)).toList) hp hx (by simp) (by simp)
    refine ⟨vs, ?_, h2, h3⟩
    simp only [List.nil_append, Array.toArray_toList] at h1
    exact h1
  have key : ∀ (vs : List Value), RelL K (flat xs) vs → (∀ c ∈ flat xs, c.one = true) → ∃ K', Kle K K' ∧ Rel K' (.sl i.sz xs .full) (.slice (some ⟨w.heap.size, 0, none⟩) xs.length xs.length) ∧ RelS w0 K' S (w.alloc (.cells vs.toArray e)) := by
    intro vs h2 h3
    have hszs : ∀ y ∈ xs, y.cells.length = i.sz := fun y hy => (hx y hy).2
    have hmax : xs.length ≤ maxLen := by simp only [maxLen]; omega
    obtain ⟨hKle, hKS⟩ := hS.allocKnown vs.toArray e vs (fun j u hu => by simpa using hu)
    have h2' := h2.mono hKle
    exact ⟨_, hKle, .sl (Nat.le_refl _) hmax hszs h3 h2'.1 h2'.2 (fun j u hu => by rw [Kn.put_same]; simpa using hu) rfl, hKS⟩
  simp only [Instr.buildSlice]
  rw [run_bind_ok (run_underlying hu w)]
  simp only []
  rw [run_bind_ok (hi.sizeOf w), if_neg (by omega)]
  by_cases h0 : xs.length * i.sz = 0
  · obtain ⟨vs, h1, h2, h3⟩ := hfillArr #[]
    obtain ⟨K', k1, k2, k3⟩ := key vs h2 h3
    refine ⟨_, _, K', ?_, k1, k2, k3⟩
    rw [if_pos h0, run_bind_ok (Sem.run_pure P w _)]
    rw [h0] at h1 ⊢
    simp only [h1]
    simp [newRow]
  · obtain ⟨vs, h1, h2, h3⟩ := hfillArr z.cells
    obtain ⟨K', k1, k2, k3⟩ := key vs h2 h3
    refine ⟨_, _, K', ?_, k1, k2, k3⟩
    have hzv : (zeroValue e).run P w = .ok z w := by simp [zeroValue, typeInfo, hx', hz]
    rw [if_neg h0]
    simp only [Sem.run_bind, hzv, Result.andThen_ok, Sem.run_pure, h1]
    simp [newRow]
end Go.Aw
