/-
  From what the arguments read as to abstract values; what a statement asks of a call. Own work.
-/
import Derived.Test.YtgkjbpnmeeibbaaGreatDoorAw13
import Derived.JoinedCond
import Derived.JoinedOf
import Derived.ReadAgain
import Derived.ChangeArms
import Derived.ChangeCalls
import Derived.OpenShut
import Derived.KernelRfl
set_option linter.all false
namespace Go.Aw
open Go.RowKit Go.ChangeShapes Go.WideShapes

/-! ### how much a reading holds -/
mutual
def bulk {H : Type} : DataW H → Nat
  | .lit (.string bytes) => bytes.length + 1
  | .lit _ => 1
  | .nil => 1
  | .ptr d => bulk d + 1
  | .slice elems spare => bulkAll elems + bulkAll spare + 1
  | .agg parts => bulkAll parts + 1
  | .iface _ d => bulk d + 1
  | .map entries => bulkEntries entries + 1
  | .held _ => 1
def bulkAll {H : Type} : List (DataW H) → Nat
  | [] => 0
  | d :: r => bulk d + bulkAll r
def bulkEntries {H : Type} : List (Lit × DataW H) → Nat
  | [] => 0
  | x :: r => bulkEntry x + bulkEntries r
def bulkEntry {H : Type} : Lit × DataW H → Nat
  | (.string bytes, d) => bytes.length + bulk d + 1
  | (_, d) => bulk d + 1
end

/-! ### what is known at the start: all cells -/
def Kof (w : World) : Kn := fun b => match w.heap[b]? with
  | some (.cells c _ _) => c.toList
  | _ => []
theorem cell_kof {w : World} {a : Addr} {v : Value} (h : w.cell? a = some v) : a.spot = none ∧ (Kof w a.block)[a.off]? = some v := by
  unfold World.cell? at h
  unfold Kof
  split at h
  · rename_i c t fr hc
    rw [hc]
    split at h
    · cases h
    · rename_i hs
      refine ⟨by simpa using hs, by simpa using h⟩
  · cases h
theorem kof_cell {w : World} {b i : Nat} {v : Value} (h : (Kof w b)[i]? = some v) : w.cell? ⟨b, i, none⟩ = some v := by
  unfold Kof at h
  unfold World.cell?
  split at h
  · rename_i c t fr hc
    rw [hc]; simpa using h
  · simp at h
theorem relS_start (W : World) : RelS W (Kof W) [] W :=
  ⟨Below.refl _ _, fun _ _ _ h => kof_cell h, fun e he => by simp at he, by simp⟩

/-! ### what a type's values read as -/
def aggT (P : Program) (t : TypeId) : Bool := match P.underlying t with
  | some (.struct _) | some (.array _ _) => true
  | _ => false
structure Got (P : Program) (t : TypeId) (w : World) (cs : List Value) (av : AV) : Prop where
  plain : av.plain = true
  agg : av.one = !aggT P t
  rel : RelL (Kof w) av.cells cs
  ones : ∀ c ∈ av.cells, c.one = true
def Opens (P : Program) (n : Nat) (t : TypeId) {A : Type} (av : A → AV) (sz : A → Nat) : Prop :=
  ∀ (H : Type) (enc : TypeId × Value → H) (w : World) (cs : List Value) (d : DataW H) (ps : List MemPlace), DataW.trod enc P w 0 (fun _ => true) true n t cs = some (d, ps) →
    ∃ x, Got P t w cs (av x) ∧ sz x ≤ bulk d

section
variable {P : Program}
theorem opens_map {n : Nat} {t : TypeId} {A B : Type} {av : A → AV} {sz : A → Nat} {av' : B → AV} {sz' : B → Nat} (O : Opens P n t av sz) (f : A → B) (h : ∀ x, av' (f x) = av x) (hs : ∀ x, sz' (f x) ≤ sz x) : Opens P n t av' sz' := by
  intro H enc w cs d ps hd
  obtain ⟨x, h1, h2⟩ := O H enc w cs d ps hd
  exact ⟨f x, by rw [h]; exact h1, Nat.le_trans (hs x) h2⟩
theorem opens_int {t : TypeId} {k : IntKind} (ht : P.underlying t = some (.int k)) (n : Nat) : Opens P n t (fun x : Int => .int k x) (fun _ => 1) := by
  intro H enc w cs d ps hd
  obtain ⟨m, rfl, hx, hw⟩ := DataW.trod_int ht hd
  cases hx
  refine ⟨m, ⟨rfl, by simp [aggT, ht, AV.one], RelL.cons (.int _ _ ?_) RelL.nil, by simp [AV.cells, AV.one]⟩, by simp [bulk]⟩
  simpa [Lit.wf, IntKind.has] using hw
theorem opens_bool {t : TypeId} (ht : P.underlying t = some .bool) (n : Nat) : Opens P n t (fun x : Bool => .bool x) (fun _ => 1) := by
  intro H enc w cs d ps hd
  obtain ⟨m, rfl, hx⟩ := DataW.trod_bool ht hd
  cases hx
  exact ⟨m, ⟨rfl, by simp [aggT, ht, AV.one], RelL.cons (.bool _) RelL.nil, by simp [AV.cells, AV.one]⟩, by simp [bulk]⟩
theorem opens_str {t : TypeId} (ht : P.underlying t = some .string) (n : Nat) : Opens P n t (fun x : List UInt8 => .str x) (fun x => x.length + 1) := by
  intro H enc w cs d ps hd
  obtain ⟨s, rfl, hx, hs⟩ := DataW.trod_string ht hd
  cases hx
  have e : s = ⟨s.data.toList.toArray⟩ := by cases s; simp
  refine ⟨s.data.toList, ⟨rfl, by simp [aggT, ht, AV.one], RelL.cons ?_ RelL.nil, by simp [AV.cells, AV.one]⟩, by simp [bulk]⟩
  exact Eq.subst (motive := fun z => Rel (Kof w) (.str s.data.toList) (.string z)) e.symm (.str _ (by rw [Array.length_toList]; exact hs))

/-- the parts of a slice, one after the other -/
theorem elems_get {n : Nat} {e : TypeId} {A : Type} {av : A → AV} {sz : A → Nat} (O : Opens P n e av sz) {H : Type} {enc : TypeId × Value → H} {w : World} {b off : Nat} : ∀ (es : List (DataW H × List MemPlace)) (s : Nat),
    (∀ (i : Nat) (x : DataW H × List MemPlace), es[i]? = some x → (w.cells? 0 ((⟨b, off, none⟩ : Addr).add ((s + i) * P.cellsOf e)) (P.cellsOf e)).bind (DataW.trod enc P w 0 (fun _ => true) true n e) = some x) →
    ∃ (xs : List A) (vs : List Value), xs.length = es.length ∧ (∀ y ∈ xs.map av, y.cells.length = P.cellsOf e) ∧ (∀ c ∈ flat (xs.map av), c.one = true) ∧ RelL (Kof w) (flat (xs.map av)) vs ∧
      (∀ (i : Nat) (v : Value), vs[i]? = some v → (Kof w b)[off + s * P.cellsOf e + i]? = some v) ∧ (xs.map sz).sum ≤ bulkAll (es.map (·.1)) := by
  intro es
  induction es with
  | nil => exact fun s _ => ⟨[], [], rfl, by simp, by simp [flat], RelL.nil, fun i v h => by simp at h, by simp [bulkAll]⟩
  | cons x es ih =>
    intro s h
    obtain ⟨xs, vs, h1, h2, h3, h4, h5, h6⟩ := ih (s + 1) (fun i y hy => by
      have := h (i + 1) y (by simpa using hy)
      rw [show s + 1 + i = s + (i + 1) by omega]; exact this)
    have h0 := h 0 x rfl
    rw [Nat.add_zero] at h0
    obtain ⟨cs, hc, ht⟩ := Option.bind_eq_some_iff.1 h0
    obtain ⟨_, hl, hcell⟩ := World.cells?_some hc
    obtain ⟨y, hy, hsz⟩ := O H enc w cs x.1 x.2 ht
    have hyl : (av y).cells.length = P.cellsOf e := by rw [hy.rel.1, hl]
    have e1 : flat ((y :: xs).map av) = (av y).cells ++ flat (xs.map av) := by simp [flat]
    refine ⟨y :: xs, cs ++ vs, by simp [h1], ?_, ?_, by rw [e1]; exact hy.rel.append h4, ?_, ?_⟩
    · intro z hz
      rcases List.mem_cons.1 (by simpa using hz : z ∈ av y :: xs.map av) with rfl | hz
      · exact hyl
      · exact h2 z hz
    · intro c hc'
      rw [e1] at hc'
      rcases List.mem_append.1 hc' with hc' | hc'
      · exact hy.ones c hc'
      · exact h3 c hc'
    · intro i v hv
      by_cases hi : i < cs.length
      · rw [List.getElem?_append_left hi] at hv
        have := (hcell i (by omega)).trans hv
        rw [Addr.add_lit, Addr.add_lit] at this
        exact (cell_kof this).2
      · rw [List.getElem?_append_right (by omega)] at hv
        have := h5 _ v hv
        rw [hl, Nat.add_mul, Nat.one_mul] at this
        rw [show off + s * P.cellsOf e + i = off + (s * P.cellsOf e + P.cellsOf e) + (i - P.cellsOf e) by omega]
        exact this
    · simp only [List.map_cons, List.sum_cons, bulkAll]
      omega

theorem opens_slice {t e : TypeId} {A : Type} {av : A → AV} {sz : A → Nat} (ht : P.underlying t = some (.slice e)) {c : Nat} (hcc : P.cellsOf e = c) (hc : 0 < c) {n : Nat} (O : Opens P n e av sz) :
    Opens P (n + 1) t (fun l : List A => .sl c (l.map av) .no) (fun l => (l.map sz).sum + 1) := by
  subst hcc
  intro H enc w cs d ps hd
  have hagg : (AV.sl (P.cellsOf e) [] .no).one = !aggT P t := by simp [aggT, ht, AV.one]
  rcases DataW.trod_slice ht hd with ⟨rfl, hx⟩ | ⟨a, len, cap, elems, rest, m, hm, rfl, hx, _, hlc, hmax, hel, h1, h2, _⟩
  · cases hx
    exact ⟨[], ⟨rfl, hagg, RelL.cons (.slnil _ _ _ trivial) RelL.nil, by simp [AV.cells, AV.one]⟩, by simp [bulk]⟩
  · cases hx
    obtain rfl : n = m := by omega
    by_cases hz : cap = 0
    · have hl0 : len = 0 := by omega
      subst hz; subst hl0
      exact ⟨[], ⟨rfl, hagg, RelL.cons (.slnil _ _ _ trivial) RelL.nil, by simp [AV.cells, AV.one]⟩, by simp [bulk]⟩
    · have hspot : a.spot = none := by
        have hfirst : ∀ k x, (w.cells? 0 (a.add (k * P.cellsOf e)) (P.cellsOf e)).bind (DataW.trod enc P w 0 (fun _ => true) true n e) = some x → k = 0 → a.spot = none := by
          intro k x hk hk0
          obtain ⟨cs, hcs, _⟩ := Option.bind_eq_some_iff.1 hk
          obtain ⟨_, hl, hcell⟩ := World.cells?_some hcs
          have h0 := hcell 0 hc
          rw [hk0, Nat.zero_mul] at h0
          have e0 : (a.add 0).add 0 = a := by simp [Addr.add]
          rw [e0, List.getElem?_eq_getElem (by omega)] at h0
          exact (cell_kof h0).1
        by_cases hl : 0 < len
        · have := h1 0 hl
          rw [List.getElem?_eq_getElem (by omega)] at this
          exact hfirst 0 _ this rfl
        · obtain ⟨hr, hj⟩ := h2 rfl
          have := hj 0 (by omega)
          rw [List.getElem?_eq_getElem (by omega)] at this
          exact hfirst (len + 0) _ this (by omega)
      obtain ⟨b, off, spot⟩ := a
      simp only at hspot
      subst hspot
      obtain ⟨xs, vs, g1, g2, g3, g4, g5, g6⟩ := elems_get O (b := b) (off := off) elems 0 (fun i x hx => by
        have hi : i < elems.length := (List.getElem?_eq_some_iff.1 hx).1
        have := h1 i (by omega)
        rw [Nat.zero_add, this, hx])
      refine ⟨xs, ⟨rfl, hagg, RelL.cons ?_ RelL.nil, by simp [AV.cells, AV.one]⟩, ?_⟩
      · have hlen : (xs.map av).length = len := by rw [List.length_map, g1, hel]
        rw [← hlen]
        refine .sl (vs := vs) (by omega) hmax g2 g3 g4.1 g4.2 (fun i v hv => ?_) trivial
        have := g5 i v hv
        simpa using this
      · simp only [bulk]; omega

/-! ### structs -/
def tot (P : Program) (fs : List Field) : Nat := (fs.map fun f => P.cellsOf f.type).sum
def OpensF (P : Program) (n : Nat) (fs : List Field) (start : Nat) {A : Type} (avs : A → List AV) (sz : A → Nat) : Prop :=
  ∀ (H : Type) (enc : TypeId × Value → H) (w : World) (cs : List Value) (xs : List (DataW H × List MemPlace)), xs.length = fs.length →
    (∀ (i : Nat) (f : Field), fs[i]? = some f → DataW.trod enc P w 0 (fun _ => true) true n f.type ((cs.drop f.offset).take (P.cellsOf f.type)) = xs[i]?) →
    ∃ x, RelL (Kof w) (avs x) ((cs.drop start).take (tot P fs)) ∧ (∀ c ∈ avs x, c.one = true) ∧ sz x ≤ bulkAll (xs.map (·.1))
theorem opensF_nil {n start : Nat} : OpensF P n [] start (fun _ : Unit => []) (fun _ => 0) := by
  intro H enc w cs xs hl _
  exact ⟨(), by simpa [tot] using RelL.nil, by simp, by simp⟩
theorem opensF_cons {n start : Nat} {f : Field} {fs : List Field} {A B : Type} {av : A → AV} {sz : A → Nat} {avs : B → List AV} {szs : B → Nat} (ho : f.offset = start) {c : Nat} (hcc : P.cellsOf f.type = c) (O : Opens P n f.type av sz) (OF : OpensF P n fs (start + c) avs szs) :
    OpensF P n (f :: fs) start (fun x : A × B => (av x.1).cells ++ avs x.2) (fun x => sz x.1 + szs x.2) := by
  subst hcc
  intro H enc w cs xs hl h
  cases xs with
  | nil => simp at hl
  | cons d xs =>
    obtain ⟨y, g1, g2, g3⟩ := OF H enc w cs xs (by simpa using hl) (fun i g hg => by simpa using h (i + 1) g (by simpa using hg))
    obtain ⟨x, k1, k2⟩ := O H enc w _ d.1 d.2 (h 0 f rfl)
    refine ⟨(x, y), ?_, ?_, ?_⟩
    · have e : (cs.drop start).take (tot P (f :: fs)) = (cs.drop f.offset).take (P.cellsOf f.type) ++ (cs.drop (start + P.cellsOf f.type)).take (tot P fs) := by
        rw [ho]
        simp only [tot, List.map_cons, List.sum_cons]
        rw [List.take_add, List.drop_drop]
      rw [e]
      exact k1.rel.append g1
    · intro c hc
      rcases List.mem_append.1 hc with hc | hc
      · exact k1.ones c hc
      · exact g2 c hc
    · simp only [List.map_cons, bulkAll]; omega
theorem opens_struct {t : TypeId} {fs : Array Field} {A : Type} {avs : A → List AV} {sz : A → Nat} (ht : P.underlying t = some (.struct fs)) (hc : P.cellsOf t = tot P fs.toList) {n : Nat} (O : OpensF P n fs.toList 0 avs sz) :
    Opens P (n + 1) t (fun x => .agg (avs x)) (fun x => sz x + 1) := by
  intro H enc w cs d ps hd
  obtain ⟨xs, m, hm, hx, hl, hxl, hf⟩ := DataW.trod_struct ht hd
  cases hx
  obtain rfl : n = m := by omega
  obtain ⟨x, h1, h2, h3⟩ := O H enc w cs xs (by simpa using hxl) (fun i f hf' => hf i f (by simpa using hf'))
  refine ⟨x, ⟨rfl, by simp [aggT, ht, AV.one], ?_, h2⟩, by simp only [bulk]; omega⟩
  rw [List.drop_zero, List.take_of_length_le (by rw [hl, hc]; exact Nat.le_refl _)] at h1
  exact h1
theorem opens_zero {t : TypeId} {A : Type} {av : A → AV} {sz : A → Nat} : Opens P 0 t av sz := by
  intro H enc w cs d ps hd
  simp [DataW.trod] at hd
theorem opens_all {t : TypeId} {A : Type} {av : A → AV} {sz : A → Nat} (h : ∀ n, Opens P (n + 1) t av sz) (n : Nat) : Opens P n t av sz := by
  cases n with
  | zero => exact opens_zero
  | succ n => exact h n

/-! ### arguments -/
theorem got_rel {t : TypeId} {w : World} {r : Reach} {base : Nat} {v : Value} {av : AV} (h : Got P t w v.cells.toList av) (hv : Value.okWide P w r base t v) : Rel (Kof w) av v := by
  obtain ⟨h1, h2, h3, h4⟩ := h
  cases ha : aggT P t with
  | true =>
    rw [ha] at h2
    obtain ⟨cs, rfl⟩ : ∃ cs, v = .agg cs := by
      unfold aggT at ha
      unfold Value.okWide at hv
      split at ha
      · rename_i hu; rw [hu] at hv; obtain ⟨cs, rfl, _⟩ := hv; exact ⟨_, rfl⟩
      · rename_i hu; rw [hu] at hv; obtain ⟨cs, rfl, _⟩ := hv; exact ⟨_, rfl⟩
      · cases ha
    have : ∃ l, av = .agg l := by cases av <;> simp_all [AV.one, AV.plain]
    obtain ⟨l, rfl⟩ := this
    have := Rel.agg (K := Kof w) (cs := l) (vs := cs.toList) h4 h3.1 h3.2
    simpa using this
  | false =>
    rw [ha] at h2
    have hc : av.cells = [av] := by cases av <;> simp_all [AV.one, AV.cells]
    have hvc : v.cells = #[v] := by
      have hcell : Cell.okWide P w r base t v := by
        unfold aggT at ha
        unfold Value.okWide at hv
        split at ha
        · cases ha
        · cases ha
        · rename_i u1 u2
          split at hv
          · rename_i x hu; exact absurd hu (u1 x)
          · rename_i x y hu; exact absurd hu (u2 x y)
          · exact hv
      cases v <;> try rfl
      unfold Cell.okWide at hcell
      split at hcell <;> simp_all [Cell.ok]
    rw [hc, hvc] at h3
    exact h3.2 0 av v rfl rfl

def OpensArgs (P : Program) (ts : List TypeId) {A : Type} (avs : A → List AV) (sz : A → Nat) : Prop :=
  ∀ (H : Type) (enc : TypeId × Value → H) (w : World) (base : Nat) (vs : List Value) (ds : List (DataW H)) (ps : List MemPlace), DataW.TrodAll enc P w 0 (fun _ => true) true ts vs ds ps →
    (∀ (j : Nat) (t : TypeId) (v : Value), ts[j]? = some t → vs[j]? = some v → Value.okWide P w .any base t v) → ∃ x, RelL (Kof w) (avs x) vs ∧ sz x ≤ bulkAll ds
theorem opensArgs_nil : OpensArgs P [] (fun _ : Unit => []) (fun _ => 0) := by
  intro H enc w base vs ds ps h _
  obtain ⟨rfl, rfl, rfl⟩ := trodAll_nil h
  exact ⟨(), RelL.nil, by simp [bulkAll]⟩
theorem opensArgs_cons {t : TypeId} {ts : List TypeId} {A B : Type} {av : A → AV} {sz : A → Nat} {avs : B → List AV} {szs : B → Nat} (O : ∀ n, Opens P n t av sz) (OA : OpensArgs P ts avs szs) :
    OpensArgs P (t :: ts) (fun x : A × B => av x.1 :: avs x.2) (fun x => sz x.1 + szs x.2) := by
  intro H enc w base vs ds ps h hv
  obtain ⟨v, vs1, d, ds1, a, b, rfl, rfl, rfl, ⟨n, h1⟩, h2⟩ := trodAll_cons h
  obtain ⟨y, k1, k2⟩ := OA H enc w base vs1 ds1 b h2 (fun j t' v' e1 e2 => hv (j + 1) t' v' (by simpa using e1) (by simpa using e2))
  obtain ⟨x, g1, g2⟩ := O n H enc w _ d a h1
  exact ⟨(x, y), RelL.cons (got_rel g1 (hv 0 t v rfl rfl)) k1, by simp only [bulkAll]; omega⟩

/-! ### what a law's statement asks -/
theorem trodAll_carry {H : Type} {enc : TypeId × Value → H} {w w' : World} {base : Nat} {spare : Nat → Bool} {held : Bool} : ∀ {ts : List TypeId} {vs : List Value} {ds : List (DataW H)} {ps : List MemPlace},
    DataW.TrodAll enc P w base spare held ts vs ds ps → (∀ p ∈ ps, w.sameAt w' p) → DataW.TrodAll enc P w' base spare held ts vs ds ps
  | [], [], [], _, h, _ => h
  | _ :: _, _ :: _, _ :: _, _, ⟨p, q, ⟨n, h1⟩, h2, e⟩, hs =>
    ⟨p, q, ⟨n, DataW.trod_carry n _ _ _ h1 (fun x hx => hs x (by rw [e]; exact List.mem_append_left _ hx))⟩, trodAll_carry h2 (fun x hx => hs x (by rw [e]; exact List.mem_append_right _ hx)), e⟩

theorem law_contractG {f : FuncId} {fn : Func} (tb : TypeId) (hrt : fn.resultTypes = #[tb]) (htb : P.underlying tb = some .bool) (hl : laidOutB P = true) (hm : mapsRowed P = true)
    (hz : ((List.range P.types.size).all fun t => match P.underlying t with | some (.slice e) => decide (0 < P.cellsOf e) | _ => true) = true) (hts : (fn.params.toList.all fun t => Nat.blt t P.types.size) = true)
    {s : ChangeSpec} (hsv : s.vars = []) (hsf : ∀ (H : Type) (ds : List (DataW H)), ds.length = fn.params.toList.length → s.fn H ds = { results := [.lit (.bool true)], args := ds })
    {A : Type} {avs : A → List AV} {sz : A → Nat} (O : OpensArgs P fn.params.toList avs sz) {B : Nat → Prop} {S0 : List En} (hc : ∀ x, B (sz x) → ACall P f (avs x) S0 (fun r S => r = .bool true ∧ S = S0))
    {H : Type} {enc : TypeId × Value → H} {W : World} {base : Nat} {args : Array Value} {ds gs : List (DataW H)} {before : List MemPlace} (hS0 : RelS W (Kof W) S0 W)
    (hval : ∀ (j : Nat) t v, fn.params[j]? = some t → args[j]? = some v → Value.okWide P W .any base t v)
    (hW : DataW.Whole enc P fn.params.toList s.vars false W args.toList ds gs before) (hk : ∀ n, n ≤ bulkAll ds → B n) :
    Calls P f args W fun e W' => ∃ v, e = .returned v ∧ s.post enc P fn false true false false W args v W' := by
  have hW' := hW
  obtain ⟨p, q, hA, hV, he, hfz, hnd⟩ := hW
  rw [hsv] at hV
  obtain ⟨rfl, rfl⟩ := trodVars_none hV
  rw [List.append_nil] at he
  subst he
  obtain ⟨x, hx, hsz⟩ := O H enc W base args.toList ds before hA (fun j t v h1 h2 => hval j t v (by simpa using h1) (by simpa using h2))
  have hcall := hc x (hk _ hsz)
  unfold ACall at hcall
  have h := hcall W (Kof W) W args.toList hx hS0
  rw [Array.toArray_toList] at h
  rw [callsIn_wide] at h
  refine h.mono ?_
  rintro e W' ⟨v, K', av, S', rfl, _, hv, hS, rfl, rfl⟩
  refine ⟨v, rfl, ?_⟩
  obtain rfl : v = .bool true := by cases hv; rfl
  have hb := hS.below
  have hlt : ∀ y ∈ before, y.block < W.heap.size := hW'.lt
  have hsame : ∀ y ∈ before, W.sameAt W' y := fun y hy => hb.same (hlt y hy)
  have hlen : ds.length = fn.params.toList.length := (trodAll_length hA).2
  have hds : ds ++ [] = ds := List.append_nil ds
  have hK := kids_rows hl hm
  have hargs : ∀ sp : Nat → Bool, (∀ y ∈ before, sp y.block = true) → DataW.TrodAll enc P W' 0 sp true fn.params.toList args.toList ds before := fun sp hsp =>
    (trodAll_carry hA hsame).respare hK (slices_full_of P hz) (fun t ht => Nat.le_of_ble_eq_true (List.all_eq_true.1 hts t ht)) hsp
  have hres : ∀ (b : Nat) (sp : Nat → Bool) (hd : Bool), DataW.TrodAll enc P W' b sp hd fn.resultTypes.toList ((Value.bool true).resultList fn.resultTypes.size) [.lit (.bool true)] [] := by
    intro b sp hd
    rw [hrt]
    exact trodAll_cons_mk (shut_bool htb true) trodAll_mk0
  have hfn := hsf H ds hlen
  have hold : ∀ y ∈ before, (fun b => decide (b < W.heap.size)) y.block = true := fun y hy => by simpa using hlt y hy
  have hvars : ∀ sp, DataW.TrodVars enc P W' sp s.vars [] [] := by intro sp; rw [hsv]; rfl
  refine ⟨ds, [], before, [], before, [], hW', ?_, ?_, ?_, ?_, fun _ => ?_⟩
  · rw [hds, hfn]; exact hres _ _ _
  · rw [hds, hfn]; exact hargs _ hold
  · rw [hds, hfn]; exact hvars _
  · exact hb.frame _
  · refine ⟨ok_one hrt rfl (okWide_bool_mk htb true), [.lit (.bool true)] ++ ds, [], ([] ++ before) ++ [], ⟨[] ++ before, [], ?_, ?_, rfl, ?_, fun h => by cases h⟩, ?_⟩
    · exact trodAll_append (hargs _ (fun _ _ => rfl)) (hres _ _ _)
    · exact hvars _
    · intro b off hp
      have hp' : MemPlace.cell b off ∈ before := by simpa using hp
      rw [hb.frozen (p := ⟨b, off, none⟩) (hlt _ hp')]
      exact hfz b off (by simpa using hp')
    · intro y hy _
      simpa using hy
theorem relS_glob {W : World} {S : List En} (h : RelS W (Kof W) S W) {g : Nat} {cs : List AV} {vs : Array Value} {t : TypeId} {fr : Nat × Nat} (hh : W.heap[g]? = some (.cells vs t fr)) (h1 : ∀ c ∈ cs, c.one = true) (hr : RelL (Kof W) cs vs.toList) : RelS W (Kof W) (.glob g cs :: S) W := by
  refine ⟨h.below, h.kcell, fun e he => ?_, by have := h.apart; rw [List.filterMap_cons]; exact this⟩
  rcases List.mem_cons.1 he with rfl | he
  · exact ⟨(Array.getElem?_eq_some_iff.1 hh).1, h1, vs, t, fr, hh, hr, fun i v hv => by unfold Kof; rw [hh]; exact hv⟩
  · exact h.ents e he
end
end Go.Aw
