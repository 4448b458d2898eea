/-
  A region that draws, in parts: some in whatever order, then one alone, and so on. Own work.
-/
import Derived.Test.YtnkmjbjpmocnbaaDoorTab
set_option linter.all false
namespace Go.Proofs.YtnkmjbjpmocnbaaDoor
open Go.Aw Go.RowKit

theorem ev_congr {E E' : Env} (h : ∀ t, lk E.l t = lk E'.l t) : ev E = ev E' := by
  funext x
  cases x with
  | tmp t => exact h t
  | _ => rfl
theorem gval_congr {ops : List Oper} {E E' : Env} (h : ∀ t, lk E.l t = lk E'.l t) (j : Nat) : gval ops E j = gval ops E' j := by
  unfold gval
  cases (ops[j]?).bind (·.dst) with
  | none => rfl
  | some t => simp [h t]
theorem headOk_congr {P : Program} {τ : List (TypeId × TI)} {ops : List Oper} {o : Oper} {E E' : Env} {S : List En} {v : AV} (h : ∀ t, lk E.l t = lk E'.l t) (hh : headOk P τ ops o E S v) : headOk P τ ops o E' S v := by
  unfold headOk at hh ⊢
  rw [← ev_congr h]
  rcases hh with ⟨h1, h2⟩ | ⟨⟨j, want, h1, h2⟩, h3⟩
  · refine .inl ⟨?_, h2⟩
    rcases h1 with h1 | ⟨j, want, b, h1, h3, h4⟩
    · exact .inl h1
    · exact .inr ⟨j, want, b, h1, by rw [← gval_congr h]; exact h3, h4⟩
  · exact .inr ⟨⟨j, want, h1, by rw [← gval_congr h]; exact h2⟩, h3⟩
/-- what the slots of the first ones hold -/
def valsOf (E : Env) (r : List Oper) : List AV := r.map fun o => match o.dst with
  | some t => lk E.l t
  | none => .junk
theorem lk_self (E : Env) : ∀ (r : List Oper) (E' : Env), (∀ t, lk E'.l t = lk E.l t) → ∀ t, lk (putAll E' r (valsOf E r)).l t = lk E.l t
  | [], E', h, t => h t
  | o :: r, E', h, t => by
    refine lk_self E r _ (fun u => ?_) t
    cases hd : o.dst with
    | none => exact h u
    | some d =>
      simp only [Env.put, lk]
      by_cases hu : d = u
      · subst hu; rw [Nat.beq_refl]; simp [hd]
      · rw [natBeq_ne hu]; exact h u
theorem putAll_append : ∀ (r s : List Oper) (V W : List AV) (E : Env), V.length = r.length → putAll E (r ++ s) (V ++ W) = putAll (putAll E r V) s W
  | [], s, [], W, E, _ => rfl
  | [], s, _ :: _, W, E, h => by simp at h
  | o :: r, s, [], W, E, h => by simp at h
  | o :: r, s, v :: V, W, E, h => by
    simp only [List.cons_append, putAll]
    exact putAll_append r s V W _ (by simpa using h)

/-! ### the looks -/
def factsB (ops : Array Oper) (n : Nat) : Bool :=
  Nat.ble n ops.size &&
  (List.range ops.size).all (fun j => match ops[j]? with | some o => (deps o).all (fun i => Nat.blt i j) | none => false) &&
  (List.range n).all (fun j => (List.range n).all fun i => match ops[j]?, ops[i]? with
    | some o, some o' =>
      (!hits o'.dst (slotsOf o) || (Nat.blt i j && (deps o).any (Nat.beq i)) || (Nat.blt j i && (deps o').any (Nat.beq j))) && (Nat.beq i j || !sameDst o.dst o'.dst)
    | _, _ => false) &&
  (List.range n).all (fun j => match ops[j]? with
    | some o => (match o.guard with | some (g, _) => (deps o).any (Nat.beq g) | none => true)
    | none => false)
theorem segFacts_of {ops : Array Oper} {n : Nat} (h : factsB ops n = true) : DFacts0 ops n := by
  simp only [factsB, Bool.and_eq_true] at h
  obtain ⟨⟨⟨h1, h2⟩, h3⟩, h4⟩ := h
  have hn : n ≤ ops.size := Nat.le_of_ble_eq_true h1
  refine ⟨hn, ?_, ?_, ?_, ?_⟩
  · intro j o ho i hi
    have hj : j < ops.size := (Array.getElem?_eq_some_iff.1 ho).1
    have := List.all_eq_true.1 h2 j (List.mem_range.2 hj)
    simp only [ho] at this
    exact Nat.le_of_ble_eq_true (List.all_eq_true.1 this i hi)
  · intro j i o o' t hj hi ho ho' hd ht
    have := List.all_eq_true.1 (List.all_eq_true.1 h3 j (List.mem_range.2 hj)) i (List.mem_range.2 hi)
    simp only [ho, ho', hd, hits_of ht, Bool.not_true, Bool.false_or, Bool.and_eq_true, Bool.or_eq_true] at this
    rcases this.1 with h | h
    · exact .inl ⟨Nat.le_of_ble_eq_true h.1, any_beq h.2⟩
    · exact .inr ⟨Nat.le_of_ble_eq_true h.1, any_beq h.2⟩
  · intro j i o o' t hj hi ho ho' hd hd'
    have := List.all_eq_true.1 (List.all_eq_true.1 h3 j (List.mem_range.2 hj)) i (List.mem_range.2 hi)
    simp only [ho, ho', hd, hd', sameDst, Nat.beq_refl, Bool.not_true, Bool.or_false, Bool.and_eq_true] at this
    exact Nat.eq_of_beq_eq_true this.2
  · intro j o g want hj ho hg
    have := List.all_eq_true.1 h4 j (List.mem_range.2 hj)
    simp only [ho, hg] at this
    exact any_beq this
def waitsB (ops : Array Oper) (j i : Nat) : Bool := match ops[j]? with
  | some o => (deps o).any (Nat.beq i)
  | none => false
theorem segWaits_of {ops : Array Oper} {j i : Nat} (h : waitsB ops j i = true) : ∃ o, ops[j]? = some o ∧ i ∈ deps o := by
  unfold waitsB at h
  split at h
  · rename_i o ho; exact ⟨o, ho, any_beq h⟩
  · cases h
def sinkF (ops : Array Oper) (m n : Nat) : Bool := (List.range n).all fun i => Nat.blt i m || (List.range (n + 1)).any fun j => Nat.blt i j && waitsB ops j i
def chainF (ops : Array Oper) (n : Nat) : Bool := (List.range ops.size).all fun t => Nat.ble t n || (List.range t).any fun u => Nat.ble n u && waitsB ops t u
/-- none behind the first n is ready while one of these is not done -/
theorem seg_waits {ops : Array Oper} {m n : Nat} {listed : Array Bool} (hs : sinkF ops m n = true) (hc : chainF ops n = true) (inv : HeadInv .any ops n listed) :
    ∀ (d i : Nat), n - i = d → m ≤ i → i < n → listed.getD i false = false → ∀ t, n ≤ t → t ∉ Region.ready .any ops listed := by
  intro d
  induction d using Nat.strongRecOn with
  | _ d ih =>
    intro i hd hm hi hun t ht hr
    obtain ⟨_, ot, hot, hall⟩ := mem_ready'.1 hr
    have htlt : t < ops.size := (Array.getElem?_eq_some_iff.1 hot).1
    by_cases htn : t = n
    · subst htn
      have h1 := List.all_eq_true.1 hs i (List.mem_range.2 hi)
      simp only [Bool.or_eq_true] at h1
      rcases h1 with h1 | h1
      · have := Nat.le_of_ble_eq_true h1; omega
      obtain ⟨j, hj, hj2⟩ := List.any_eq_true.1 h1
      simp only [Bool.and_eq_true] at hj2
      have hij : i < j := Nat.le_of_ble_eq_true hj2.1
      obtain ⟨oj, hoj, hij2⟩ := segWaits_of hj2.2
      have hjle : j ≤ t := by have := List.mem_range.1 hj; omega
      by_cases hjt : j = t
      · subst hjt
        rw [hot] at hoj
        obtain rfl := Option.some.inj hoj
        rw [hall i hij2] at hun; cases hun
      · cases hl : listed.getD j false with
        | true =>
          obtain ⟨e, he, hb, rfl⟩ := mem_deps.1 hij2
          have := inv.closed j oj hoj hl e he hb
          rw [this] at hun; cases hun
        | false => exact ih (t - j) (by omega) j rfl (by omega) (by omega) hl t (Nat.le_refl _) hr
    · have h1 := List.all_eq_true.1 hc t (List.mem_range.2 htlt)
      simp only [Bool.or_eq_true] at h1
      rcases h1 with h1 | h1
      · have := Nat.le_of_ble_eq_true h1; omega
      obtain ⟨u, hu, hu2⟩ := List.any_eq_true.1 h1
      simp only [Bool.and_eq_true] at hu2
      obtain ⟨o', ho', hd'⟩ := segWaits_of hu2.2
      rw [hot] at ho'
      obtain rfl := Option.some.inj ho'
      have hut := List.mem_range.1 hu
      have := inv.tail u (Nat.le_of_ble_eq_true hu2.1) (by omega)
      rw [getD_tf (by rw [inv.size]; omega) true false, hall u hd'] at this
      cases this

/-- one of these is carried out -/
theorem seg_step {P : Program} {τ : List (TypeId × TI)} (hτ : AllOk P τ) {rd : Option Nat} {N m n : Nat} {ops : Array Oper} {w0 : World} {V : List AV} {E : Env} {S : List En} (hf : DFacts0 ops n) (hV : V.length = n) (hok : ops.toList.all (operOk N) = true)
    (hh : ∀ (j : Nat) (o : Oper) (v : AV), m ≤ j → j < n → ops[j]? = some o → V[j]? = some v → headOk P τ ops.toList o (putAll E (ops.toList.take j) (V.take j)) S v) {listed : Array Bool} {a : Act} {w : World} {K : Kn} (hs : Slots N n K ops V E listed a) (hS : RelS w0 K S w) {j : Nat} {o : Oper} (hmj : m ≤ j) (hj : j < n) (ho : ops[j]? = some o)
    (hsz : listed.size = ops.size) (hun : listed.getD j false = false) (hdone : ∀ i ∈ deps o, listed.getD i false = true) (hcl : ∀ (i : Nat) (o' : Oper), ops[i]? = some o' → listed.getD i false = true → ∀ e ∈ deps o', listed.getD e false = true)
    {Q : Exit → Act → World → Prop} {next : Act → World → Prop} (hnext : ∀ K' a' w', Kle K K' → Slots N n K' ops V E (listed.setIfInBounds j true) a' → RelS w0 K' S w' → next a' w') : wpOpIn (Fw rd) 0 P ops Q j next a w := by
  have hjV : j < V.length := by rw [hV]; exact hj
  have hokj : operOk N o = true := List.all_eq_true.1 hok o (by simpa using Array.mem_of_getElem? ho)
  have hhead := hh j o V[j] hmj hj ho (List.getElem?_eq_getElem hjV)
  have hmeet := fun {t : Nat} ht => Slots.meet (t := t) hs hf hV hj ho hun hdone hcl ht
  have hput : ∀ (K' : Kn) (v : Value), Kle K K' → Rel K' V[j] v → Slots N n K' ops V E (listed.setIfInBounds j true) (a.put o.dst v) := by
    intro K' v hK hv
    have hs' := hs.mono hK
    have hjl : (listed.setIfInBounds j true).getD j false = true := by
      have : j < listed.size := by rw [hsz]; have := hf.hn; omega
      simp [Array.getD_eq_getD_getElem?, this]
    refine ⟨by cases hd : o.dst <;> simp [Act.put, hs.size], by cases hd : o.dst <;> simp [Act.put, hs.defers], ?_, ?_⟩
    · intro i oi vi t hi hl hoi hvi hd
      by_cases hij : j = i
      · subst hij
        rw [ho] at hoi; cases hoi
        rw [List.getElem?_eq_getElem hjV] at hvi; cases hvi
        rw [hd, getD_put hs.size (operOk.dst hokj t hd), if_pos rfl]
        exact hv
      · rw [getD_set_ne false hij] at hl
        have hr := hs'.done i oi vi t hi hl hoi hvi hd
        cases hdj : o.dst with
        | none => exact hr
        | some d =>
          rw [getD_put hs.size (operOk.dst hokj d hdj), if_neg]
          · exact hr
          · intro hdt; subst hdt
            exact hij (hf.ds i j oi o d hi hj hoi ho hd hdj)
    · intro t ht
      have hne : o.dst ≠ some t := ht j o hj hjl ho
      have hr := hs'.todo t (fun i oi hi hl hoi => by
        by_cases hij : j = i
        · subst hij; rw [ho] at hoi; cases hoi; exact hne
        · exact ht i oi hi (by rw [getD_set_ne false hij]; exact hl) hoi)
      cases hdj : o.dst with
      | none => exact hr
      | some d =>
        rw [getD_put hs.size (operOk.dst hokj d hdj), if_neg]
        · exact hr
        · intro hdt; subst hdt; exact hne hdj
  have hguard : ∀ (g : Nat) (want : Bool) (gv : AV), o.guard = some (g, want) → gval ops.toList (putAll E (ops.toList.take j) (V.take j)) g = some gv →
      ∃ d, (ops[g]?).bind (·.dst) = some d ∧ Rel K gv (a.tmps.getD d undef) := by
    intro g want gv hg hgv
    unfold gval at hgv
    rw [Array.getElem?_toList] at hgv
    cases hog : ops[g]? with
    | none => rw [hog] at hgv; cases hgv
    | some og =>
      rw [hog] at hgv
      simp only [Option.bind_some] at hgv ⊢
      cases hd : og.dst with
      | none => rw [hd] at hgv; cases hgv
      | some d =>
        rw [hd] at hgv
        simp only [Option.map_some, Option.some.injEq] at hgv
        refine ⟨d, rfl, ?_⟩
        rw [← hgv]
        exact hmeet (.inr ⟨g, want, og, hg, hog, hd⟩)
  unfold wpOpIn
  simp only [ho]
  rcases hhead with ⟨hgu, hst⟩ | ⟨⟨g, want, hg, hgv⟩, hvj⟩
  · have hw : Region.wanted o (yielded ops a.tmps) = true := by
      rcases hgu with hg | ⟨g, want, b, hg, hgv, hb⟩
      · simp [Region.wanted, hg]
      · obtain ⟨d, hd, hr⟩ := hguard g want _ hg hgv
        simp only [Region.wanted, hg, yielded, hd, Option.bind_some]
        rw [Array.getD_eq_getD_getElem?] at hr
        cases hx : a.tmps[d]? with
        | none => rw [hx] at hr; simp [undef] at hr; cases hr
        | some x =>
          rw [hx] at hr; simp at hr; cases hr
          cases b <;> cases want <;> simp_all [beqB]
    simp only [hw, if_true]
    refine ⟨fun _ _ => trivial, ?_⟩
    rw [Oper.semAt_eq _ _ _ (astep_nodefer hst)]
    have hrop : ROp K (ev (putAll E (ops.toList.take j) (V.take j))) a o.op := by
      intro x hx
      cases x with
      | tmp t => exact hmeet (.inl (slots_mem hx))
      | const v =>
        simp only [operOk, Bool.and_eq_true] at hokj
        exact rel_ofV v (show opdOk (.const v) = true from List.all_eq_true.1 hokj.2 (.const v) (by simpa using hx))
      | global g => exact .gl g
      | func f => exact .fn (first := []) (cap := []) (vs := []) (us := []) (.func f) rfl (fun i c v hc _ => by simp at hc) rfl (fun i c v hc _ => by simp at hc)
    exact upon_of_rok (astep_ok hτ hst hrop hS) (fun K' av v S' w' h1 h2 h3 h4 => hnext K' _ w' h1 (hput K' v h1 (h4.1 K' v h2)) (h3.sub h4.2))
  · have hw : Region.wanted o (yielded ops a.tmps) = false := by
      simp only [Region.wanted, hg]
      rcases hgv with ⟨b, hgv, hb⟩ | hgv
      · obtain ⟨d, hd, hr⟩ := hguard g want _ hg hgv
        simp only [yielded, hd, Option.bind_some]
        rw [Array.getD_eq_getD_getElem?] at hr
        cases hx : a.tmps[d]? with
        | none => rw [hx] at hr; simp [undef] at hr; cases hr
        | some x =>
          rw [hx] at hr; simp at hr; cases hr
          cases b <;> cases want <;> simp_all [beqB]
      · obtain ⟨d, hd, hr⟩ := hguard g want _ hg hgv
        simp only [yielded, hd, Option.bind_some]
        rw [Array.getD_eq_getD_getElem?] at hr
        cases hx : a.tmps[d]? with
        | none => simp
        | some x => rw [hx] at hr; simp at hr; cases hr; simp
    simp only [hw, Bool.false_eq_true, if_false]
    refine ⟨fun _ _ => trivial, hnext K _ w (Kle.refl K) (hput K undef (Kle.refl K) ?_) hS⟩
    rw [hvj]
    exact .tup (vs := []) rfl (fun i c v hc _ => by simp at hc)

/-- these, in whatever order, and what comes behind them -/
theorem seg_any {P : Program} {τ : List (TypeId × TI)} (hτ : AllOk P τ) {rd : Option Nat} {N m n : Nat} {ops : Array Oper} {w0 : World} {V : List AV} {E E2 : Env} {S : List En} {Q : Exit → Act → World → Prop} (hf : DFacts0 ops n) (hV : V.length = n) (hok : ops.toList.all (operOk N) = true)
    (hsink : sinkF ops m n = true) (hch : n = ops.size ∨ chainF ops n = true)
    (hh : ∀ (j : Nat) (o : Oper) (v : AV), m ≤ j → j < n → ops[j]? = some o → V[j]? = some v → headOk P τ ops.toList o (putAll E (ops.toList.take j) (V.take j)) S v)
    (hE2 : ∀ t, lk E2.l t = lk (putAll E (ops.toList.take n) V).l t) (hm2 : E2.m = E.m) {K : Kn}
    (hnext : ∀ (K2 : Kn) (listed : Array Bool) (a : Act) (w : World), Kle K K2 → listed.size = ops.size → (∀ i, i < ops.size → listed.getD i false = decide (i < n)) → RelE N K2 E2 a → RelS w0 K2 S w → wpAnyIn (Fw rd) 0 P .any ops Q (ops.size - n) listed a w) :
    ∀ (f : Nat) (listed : Array Bool) (a : Act) (w : World) (K' : Kn), Kle K K' → HeadInv .any ops n listed → (∀ i, i < m → listed.getD i false = true) → unl ops.size listed = f → Slots N n K' ops V E listed a → RelS w0 K' S w →
      wpAnyIn (Fw rd) 0 P .any ops Q f listed a w := by
  have hh2 := hf.hn
  -- all of these are done
  have fin : ∀ (f : Nat) (listed : Array Bool) (a : Act) (w : World) (K' : Kn), Kle K K' → HeadInv .any ops n listed → unl ops.size listed = f → Slots N n K' ops V E listed a → RelS w0 K' S w → (∀ i, i < n → listed.getD i false = true) → wpAnyIn (Fw rd) 0 P .any ops Q f listed a w := by
    intro f listed a w K' hK inv hu hs hS hhd
    have hl : ∀ i, i < ops.size → listed.getD i false = decide (i < n) := by
      intro i hi
      by_cases hin : i < n
      · rw [hhd i hin]; simp [hin]
      · have := inv.tail i (by omega) hi
        rw [getD_tf (by rw [inv.size]; exact hi) true false] at this
        rw [this]; simp [hin]
    have hcount : unl ops.size listed = ops.size - n := by
      unfold unl
      have e1 : (List.range ops.size).countP (fun i => !listed.getD i false) = (List.range ops.size).countP (fun i => decide (n ≤ i)) :=
        List.countP_congr (fun i hi => by rw [hl i (List.mem_range.1 hi)]; simp)
      rw [e1]
      have hsp : List.range ops.size = List.range n ++ List.range' n (ops.size - n) := by
        have := List.range_add (n := n) (m := ops.size - n)
        rw [show n + (ops.size - n) = ops.size by omega] at this
        rw [this]; congr 1
        rw [List.range_eq_range', List.map_add_range']; simp
      rw [hsp, List.countP_append, List.countP_eq_zero.2 (by intro i hi; have := List.mem_range.1 hi; simp; omega), List.countP_eq_length.2 (by intro i hi; have := List.mem_range'.1 hi; simp; omega)]
      simp
    have hE : RelE N K' E2 a := by
      refine ⟨hs.size, fun t => ?_, by rw [hm2]; exact hs.defers⟩
      rw [hE2 t]
      by_cases hex : ∃ i o', i < n ∧ ops[i]? = some o' ∧ o'.dst = some t
      · obtain ⟨i, o', hi, ho', hd⟩ := hex
        have hiV : i < V.length := by omega
        rw [lk_putAll_some _ V E t i o' V[i] (by rw [List.getElem?_take, if_pos hi]; simpa using ho') (List.getElem?_eq_getElem hiV) hd (fun i2 o2 ho2 hd2 => by
          rw [List.getElem?_take] at ho2
          split at ho2
          · exact hf.ds i i2 o' o2 t hi (by assumption) ho' (by simpa using ho2) hd hd2
          · cases ho2)]
        exact hs.done i o' V[i] t hi (hhd i hi) ho' (List.getElem?_eq_getElem hiV) hd
      · rw [lk_putAll_none]
        · exact hs.todo t (fun i2 o2 h2 _ ho2 hd2 => hex ⟨i2, o2, h2, ho2, hd2⟩)
        · intro o2 ho2 hd2
          obtain ⟨q, hq, hqe⟩ := List.mem_iff_getElem.1 ho2
          have hq' : (ops.toList.take n)[q]? = some o2 := by rw [List.getElem?_eq_getElem hq, hqe]
          rw [List.getElem?_take] at hq'
          split at hq'
          · exact hex ⟨q, o2, by assumption, by simpa using hq', hd2⟩
          · cases hq'
    rw [← hu, hcount]
    exact hnext K' listed a w hK inv.size hl hE hS
  intro f
  induction f with
  | zero =>
    intro listed a w K' hK inv hm hu hs hS
    refine fin 0 listed a w K' hK inv hu hs hS (fun i hi => ?_)
    have := List.countP_eq_zero.1 hu i (List.mem_range.2 (by omega))
    simpa using this
  | succ f ih =>
    intro listed a w K' hK inv hm hu hs hS
    by_cases hhd : ∀ i, i < n → listed.getD i false = true
    · exact fin _ listed a w K' hK inv hu hs hS hhd
    · obtain ⟨i0, hi0, hun0⟩ : ∃ i, i < n ∧ listed.getD i false = false := by
        by_cases hc : ∃ i, i < n ∧ listed.getD i false = false
        · exact hc
        · exfalso; apply hhd; intro i hi
          cases hl : listed.getD i false with
          | true => rfl
          | false => exact absurd ⟨i, hi, hl⟩ hc
      have hcl : ∀ (i : Nat) (o' : Oper), ops[i]? = some o' → listed.getD i false = true → ∀ e ∈ deps o', listed.getD e false = true := by
        intro i o' ho' hl e he
        obtain ⟨ed, hed, hb, rfl⟩ := mem_deps.1 he
        exact inv.closed i o' ho' hl ed hed hb
      have hready : Region.ready .any ops listed ≠ [] := by
        have : ∀ (d i : Nat), i ≤ d → i < ops.size → listed.getD i false = false → Region.ready .any ops listed ≠ [] := by
          intro d
          induction d with
          | zero =>
            intro i hd hi hl
            obtain rfl : i = 0 := by omega
            obtain ⟨o, ho⟩ : ∃ o, ops[0]? = some o := ⟨ops[0], by simp [hi]⟩
            have : 0 ∈ Region.ready .any ops listed := mem_ready'.2 ⟨by rw [getD_tf (by rw [inv.size]; exact hi) true false]; exact hl, o, ho, fun e he => by have := hf.back 0 o ho e he; omega⟩
            intro hnil; rw [hnil] at this; simp at this
          | succ d ihd =>
            intro i hd hi hl
            obtain ⟨o, ho⟩ : ∃ o, ops[i]? = some o := ⟨ops[i], by simp [hi]⟩
            by_cases hall : ∀ e ∈ deps o, listed.getD e false = true
            · have : i ∈ Region.ready .any ops listed := mem_ready'.2 ⟨by rw [getD_tf (by rw [inv.size]; exact hi) true false]; exact hl, o, ho, hall⟩
              intro hnil; rw [hnil] at this; simp at this
            · obtain ⟨e, he, hle⟩ : ∃ e, e ∈ deps o ∧ listed.getD e false = false := by
                by_cases hc : ∃ e, e ∈ deps o ∧ listed.getD e false = false
                · exact hc
                · exfalso; apply hall; intro e he
                  cases hl : listed.getD e false with
                  | true => rfl
                  | false => exact absurd ⟨e, he, hl⟩ hc
              have := hf.back i o ho e he
              exact ihd e (by omega) (by omega) hle
        exact this i0 i0 (Nat.le_refl _) (by omega) hun0
      have hm0 : m ≤ i0 := by
        by_cases hc : i0 < m
        · rw [hm i0 hc] at hun0; cases hun0
        · omega
      refine ⟨fun hnil => absurd hnil hready, fun i hi => ?_⟩
      obtain ⟨h1, o, ho, hall⟩ := mem_ready'.1 hi
      have hlt : i < ops.size := (Array.getElem?_eq_some_iff.1 ho).1
      have hun : listed.getD i false = false := by rw [getD_tf (by rw [inv.size]; exact hlt) false true]; exact h1
      have hin : i < n := by
        by_cases hc : i < n
        · exact hc
        · exfalso
          rcases hch with htl | hch
          · omega
          · exact seg_waits hsink hch inv (n - i0) i0 rfl hm0 hi0 hun0 i (by omega) hi
      have hmi : m ≤ i := by
        by_cases hc : i < m
        · rw [hm i hc] at hun; cases hun
        · omega
      refine seg_step hτ hf hV hok hh hs hS hmi hin ho inv.size hun hall hcl (fun K2 a' w' hK2 hs2 hS2 => ?_)
      have hun2 := unl_set hlt (by rw [inv.size]; exact hlt) hun
      refine ih _ a' w' K2 (hK.trans hK2) (inv.set hi hin) (fun j hj => ?_) (by omega) hs2 hS2
      rw [getD_set_ne false (by omega)]
      exact hm j hj

/-! ### the walk -/
def aone (P : Program) (τ : List (TypeId × TI)) (ops : List Oper) (n : Nat) (o : Oper) (E : Env) (S : List En) (k : Env → List En → Prop) : Prop :=
  match o.guard with
  | none => astep P τ o.op (ev E) S fun v S' =>
      bif isG ops n then (match v with
        | .bool b => (b = true → k (E.put o.dst (.bool true)) S') ∧ (b = false → k (E.put o.dst (.bool false)) S')
        | _ => False)
      else k (E.put o.dst v) S'
  | some (j, want) => match gval ops E j with
    | some (.bool b) => bif beqB b want then astep P τ o.op (ev E) S fun v S' =>
        bif isG ops n then (match v with
          | .bool b => (b = true → k (E.put o.dst (.bool true)) S') ∧ (b = false → k (E.put o.dst (.bool false)) S')
          | _ => False)
        else k (E.put o.dst v) S'
      else k (E.put o.dst (.tup [])) S
    | some (.tup []) => k (E.put o.dst (.tup [])) S
    | _ => False
def asegs (P : Program) (τ : List (TypeId × TI)) (ops : List Oper) : List Nat → Nat → Env → List En → (Env → List En → Prop) → Prop
  | [], _, E, S, k => k E S
  | 0 :: r, m, E, S, k => match ops[m]? with
    | some o => aone P τ ops m o E S fun E' S' => asegs P τ ops r (m + 1) E' S' k
    | none => False
  | (h + 1) :: r, m, E, S, k => aheads P τ ops m ((ops.drop m).take (h + 1)) E S fun E' => asegs P τ ops r (m + (h + 1)) E' S k
def segsB (ops : Array Oper) : List Nat → Nat → Bool
  | [], m => Nat.beq m ops.size
  | 0 :: r, m => Nat.blt m ops.size && chainF ops m && segsB ops r (m + 1)
  | (h + 1) :: r, m => factsB ops (m + (h + 1)) && sinkF ops m (m + (h + 1)) && (Nat.beq (m + (h + 1)) ops.size || chainF ops (m + (h + 1))) && segsB ops r (m + (h + 1))

theorem segOne_ok {P : Program} {τ : List (TypeId × TI)} (hτ : AllOk P τ) {rd : Option Nat} {N : Nat} {ops : Array Oper} {w0 : World} {m : Nat} {o : Oper} (ho : ops[m]? = some o) (hok : operOk N o = true) {E : Env} {S : List En} {k : Env → List En → Prop} {Q : Exit → Act → World → Prop} {next : Act → World → Prop} {K : Kn}
    (h : aone P τ ops.toList m o E S k) {a : Act} {w : World} (hE : RelE N K E a) (hS : RelS w0 K S w)
    (hn : ∀ (K' : Kn) (E' : Env) (S' : List En) (a' : Act) (w' : World), Kle K K' → RelE N K' E' a' → RelS w0 K' S' w' → k E' S' → next a' w') : wpOpIn (Fw rd) 0 P ops Q m next a w := by
  have hdst := operOk.dst hok
  have hback : ∀ (K' : Kn) (av : AV) (v : Value) (S' : List En) (w' : World), Kle K K' → Rel K' av v → RelS w0 K' S' w' → k (E.put o.dst av) S' → next (a.put o.dst v) w' :=
    fun K' av v S' w' h1 h2 h3 h4 => hn K' _ S' _ w' h1 ((hE.mono h1).put o.dst hdst h2) h3 h4
  have hcont : ∀ (K' : Kn) (av : AV) (v : Value) (S' : List En) (w' : World), Kle K K' → Rel K' av v → RelS w0 K' S' w' →
      (bif isG ops.toList m then (match av with
        | .bool b => (b = true → k (E.put o.dst (.bool true)) S') ∧ (b = false → k (E.put o.dst (.bool false)) S')
        | _ => False)
      else k (E.put o.dst av) S') → next (a.put o.dst v) w' := by
    intro K' av v S' w' h1 h2 h3 h4
    cases hg : isG ops.toList m with
    | false => rw [hg] at h4; exact hback K' av v S' w' h1 h2 h3 h4
    | true =>
      rw [hg] at h4
      simp only [cond_true] at h4
      cases av <;> simp only [] at h4
      case bool b =>
        cases b with
        | true => exact hback K' _ v S' w' h1 h2 h3 (h4.1 rfl)
        | false => exact hback K' _ v S' w' h1 h2 h3 (h4.2 rfl)
  have hskip : k (E.put o.dst (.tup [])) S → next (a.put o.dst undef) w :=
    fun h4 => hback K (.tup []) undef S w (Kle.refl K) (.tup (vs := []) rfl (fun i c v hc _ => by simp at hc)) hS h4
  have hone : astep P τ o.op (ev E) S (fun v S' =>
      bif isG ops.toList m then (match v with
        | .bool b => (b = true → k (E.put o.dst (.bool true)) S') ∧ (b = false → k (E.put o.dst (.bool false)) S')
        | _ => False)
      else k (E.put o.dst v) S') → o.wpIn (Fw rd) 0 P a w next Q := by
    intro hs
    refine ⟨fun _ _ => trivial, ?_⟩
    rw [Oper.semAt_eq _ _ _ (astep_nodefer hs)]
    exact upon_of_rok (astep_ok hτ hs (operOk.rop hok hE) hS) hcont
  unfold wpOpIn
  simp only [ho]
  unfold aone at h
  cases hg : o.guard with
  | none =>
    rw [hg] at h
    simp only [] at h
    have hw : Region.wanted o (yielded ops a.tmps) = true := by simp [Region.wanted, hg]
    simp only [hw, if_true]
    exact hone h
  | some g =>
    obtain ⟨j, want⟩ := g
    rw [hg] at h
    simp only [] at h
    cases hv : gval ops.toList E j with
    | none => rw [hv] at h; exact h.elim
    | some gv =>
      rw [hv] at h
      cases gv <;> (try simp only [] at h) <;> (try exact (show False from h).elim)
      case bool b =>
        have hw := wanted_of hE hg hv
        cases hb : beqB b want with
        | true =>
          rw [hb] at h hw
          simp only [cond_true] at h
          simp only [hw, if_true]
          exact hone h
        | false =>
          rw [hb] at h hw
          simp only [cond_false] at h
          simp only [hw, Bool.false_eq_true, if_false]
          exact ⟨fun _ _ => trivial, hskip h⟩
      case tup vs =>
        cases vs with
        | cons _ _ => exact h.elim
        | nil =>
          have hw := wanted_undef hE hg hv
          simp only [hw, Bool.false_eq_true, if_false]
          exact ⟨fun _ _ => trivial, hskip h⟩

theorem segsAll_ok {P : Program} {τ : List (TypeId × TI)} (hτ : AllOk P τ) {rd : Option Nat} {N : Nat} {ops : Array Oper} {w0 : World} {k : Kt} {K0 : Kn} (hok : ops.toList.all (operOk N) = true) (hback : ∀ (j : Nat) (o : Oper), ops[j]? = some o → ∀ i ∈ deps o, i < j) : ∀ (segs : List Nat) (m : Nat) (E : Env) (S : List En) (listed : Array Bool) (a : Act) (w : World) (K : Kn),
    segsB ops segs m = true → Kle K0 K → listed.size = ops.size → (∀ i, i < ops.size → listed.getD i false = decide (i < m)) → RelE N K E a → RelS w0 K S w → asegs P τ ops.toList segs m E S (fun E' S' => k .normal E' S') →
    wpAnyIn (Fw rd) 0 P .any ops (APost w0 N K0 k) (ops.size - m) listed a w := by
  intro segs
  induction segs with
  | nil =>
    intro m E S listed a w K hs hK hsz hl hE hS h
    have hm : m = ops.size := Nat.eq_of_beq_eq_true hs
    subst hm
    rw [Nat.sub_self]
    refine ⟨?_, K, E, S, hK, hE, hS, h⟩
    apply List.eq_nil_iff_forall_not_mem.2
    intro i hi
    obtain ⟨h1, o, ho, _⟩ := mem_ready'.1 hi
    have hlt : i < ops.size := (Array.getElem?_eq_some_iff.1 ho).1
    rw [getD_tf (by omega) true false, hl i hlt] at h1
    simp at h1; omega
  | cons g r ih =>
    intro m E S listed a w K hs hK hsz hl hE hS h
    cases g with
    | zero =>
      simp only [segsB, Bool.and_eq_true] at hs
      obtain ⟨⟨hm, hc⟩, hr⟩ := hs
      have hm : m < ops.size := Nat.le_of_ble_eq_true hm
      obtain ⟨o, ho⟩ : ∃ o, ops[m]? = some o := ⟨ops[m], by simp [hm]⟩
      have hot : ops.toList[m]? = some o := by simpa using ho
      simp only [asegs, hot] at h
      have hready : m ∈ Region.ready .any ops listed := mem_ready'.2 ⟨by rw [getD_tf (by omega) true false, hl m hm]; simp, o, ho, fun e he => by
        have := hback m o ho e he
        rw [hl _ (by omega)]; simp; exact this⟩
      rw [show ops.size - m = (ops.size - (m + 1)) + 1 by omega]
      refine ⟨fun hnil => by rw [hnil] at hready; simp at hready, fun i hi => ?_⟩
      obtain ⟨h1, oi, hoi, hall⟩ := mem_ready'.1 hi
      have hlt : i < ops.size := (Array.getElem?_eq_some_iff.1 hoi).1
      rw [getD_tf (by omega) true false, hl i hlt] at h1
      have him : m ≤ i := by simpa using h1
      have hie : i = m := by
        by_cases hq : i = m
        · exact hq
        · exfalso
          have h2 := List.all_eq_true.1 hc i (List.mem_range.2 hlt)
          simp only [Bool.or_eq_true] at h2
          rcases h2 with h2 | h2
          · have := Nat.le_of_ble_eq_true h2; omega
          · obtain ⟨u, hu, hu2⟩ := List.any_eq_true.1 h2
            simp only [Bool.and_eq_true] at hu2
            obtain ⟨o', ho', hd'⟩ := segWaits_of hu2.2
            rw [hoi] at ho'
            obtain rfl := Option.some.inj ho'
            have hmu := Nat.le_of_ble_eq_true hu2.1
            have := hall u hd'
            have hul := List.mem_range.1 hu
            rw [hl u (by omega)] at this
            simp at this; omega
      subst hie
      refine segOne_ok hτ ho (List.all_eq_true.1 hok o (by simpa using Array.mem_of_getElem? ho)) h hE hS (fun K' E' S' a' w' h1 h2 h3 h4 => ?_)
      refine ih (i + 1) E' S' _ a' w' K' hr (hK.trans h1) (by simp [hsz]) (fun q hq => ?_) h2 h3 h4
      by_cases hqi : i = q
      · subst hqi
        have : i < listed.size := by omega
        simp [Array.getD_eq_getD_getElem?, this]
      · rw [getD_set_ne false hqi, hl q hq]
        by_cases hq1 : q < i
        · simp [hq1, show q < i + 1 by omega]
        · simp [hq1, show ¬ q < i + 1 by omega]
    | succ g =>
      simp only [segsB, Bool.and_eq_true] at hs
      obtain ⟨⟨⟨hf, hsk⟩, hch⟩, hr⟩ := hs
      have hf := segFacts_of hf
      obtain ⟨n, hn⟩ : ∃ n, n = m + (g + 1) := ⟨_, rfl⟩
      rw [← hn] at hf hsk hch hr
      have hnn := hf.hn
      simp only [asegs] at h
      rw [← hn] at h
      obtain ⟨V1, hV1, hk⟩ := heads_of _ _ _ h
      have hl1 : V1.length = g + 1 := by rw [heads_len _ _ _ hV1, List.length_take, List.length_drop, Array.length_toList]; omega
      have hl0 : (valsOf E (ops.toList.take m)).length = m := by simp [valsOf]; omega
      have etake : ∀ j, m ≤ j → ops.toList.take j = ops.toList.take m ++ (ops.toList.drop m).take (j - m) := fun j hj => by
        have := List.take_add (l := ops.toList) (i := m) (j := j - m)
        rw [show m + (j - m) = j by omega] at this
        exact this
      have eV : ∀ j, m ≤ j → (valsOf E (ops.toList.take m) ++ V1).take j = valsOf E (ops.toList.take m) ++ V1.take (j - m) := fun j hj => by
        rw [List.take_append, hl0, List.take_of_length_le (by omega)]
      have elk : ∀ j, m ≤ j → j ≤ n → ∀ t, lk (putAll E (ops.toList.take j) ((valsOf E (ops.toList.take m) ++ V1).take j)).l t = lk (putAll E (((ops.toList.drop m).take (g + 1)).take (j - m)) (V1.take (j - m))).l t := fun j hj hjn t => by
        rw [etake j hj, eV j hj, putAll_append _ _ _ _ _ (by rw [hl0, List.length_take, Array.length_toList]; omega)]
        rw [List.take_take, Nat.min_eq_left (by omega)]
        exact lk_putAll_congr _ _ _ _ _ (lk_self E _ E (fun _ => rfl) t)
      have hmn : m ≤ n := by omega
      have hu : unl ops.size listed = ops.size - m := by
        unfold unl
        have e1 : (List.range ops.size).countP (fun i => !listed.getD i false) = (List.range ops.size).countP (fun i => decide (m ≤ i)) :=
          List.countP_congr (fun i hi => by rw [hl i (List.mem_range.1 hi)]; simp)
        rw [e1]
        have hsp : List.range ops.size = List.range m ++ List.range' m (ops.size - m) := by
          have := List.range_add (n := m) (m := ops.size - m)
          rw [show m + (ops.size - m) = ops.size by omega] at this
          rw [this]; congr 1
          rw [List.range_eq_range', List.map_add_range']; simp
        rw [hsp, List.countP_append, List.countP_eq_zero.2 (by intro i hi; have := List.mem_range.1 hi; simp; omega), List.countP_eq_length.2 (by intro i hi; have := List.mem_range'.1 hi; simp; omega)]
        simp
      refine seg_any (m := m) (n := n) (V := valsOf E (ops.toList.take m) ++ V1) (E := E) (E2 := putAll E ((ops.toList.drop m).take (g + 1)) V1) (S := S) (K := K) hτ hf (by rw [List.length_append]; omega) hok hsk ?_ ?_ ?_ (putAll_m _ _ _) ?_ _ listed a w K (Kle.refl K) ?_ ?_ hu ?_ hS
      · simp only [Bool.or_eq_true] at hch
        rcases hch with hch | hch
        · exact .inl (Nat.eq_of_beq_eq_true hch)
        · exact .inr hch
      · intro j o v hmj hjn ho hv
        refine headOk_congr (fun t => (elk j hmj (by omega) t).symm) ?_
        refine heads_at _ _ _ hV1 (j - m) o v ?_ ?_
        · rw [List.getElem?_take, if_pos (by omega), List.getElem?_drop, show m + (j - m) = j by omega]; simpa using ho
        · rw [List.getElem?_append_right (by omega), hl0] at hv; exact hv
      · intro t
        have := elk n hmn (Nat.le_refl _) t
        rw [List.take_of_length_le (l := valsOf E (ops.toList.take m) ++ V1) (by rw [List.length_append]; omega)] at this
        rw [this, List.take_take, List.take_of_length_le (l := V1) (by omega), show min (n - m) (g + 1) = g + 1 by omega]
      · intro K2 listed2 a2 w2 hK2 hsz2 hl2 hE2 hS2
        exact ih n _ S listed2 a2 w2 K2 hr (hK.trans hK2) hsz2 hl2 hE2 hS2 hk
      · refine ⟨hsz, fun j oj hj hlj e he hb => ?_, fun t h1 h2 => ?_⟩
        · have hjs : j < ops.size := (Array.getElem?_eq_some_iff.1 hj).1
          rw [hl j hjs] at hlj
          have := hback j oj hj e.on (mem_deps.2 ⟨e, he, hb, rfl⟩)
          rw [hl _ (by omega)]
          simp at hlj ⊢; omega
        · rw [getD_tf (by omega) true false, hl t h2]; simp; omega
      · intro i hi
        rw [hl i (by omega)]; simp; exact hi
      · refine ⟨hE.size, hE.defers, fun i o v t hi hli hoi hvi hd => ?_, fun t _ => hE.slot t⟩
        have his : i < ops.size := (Array.getElem?_eq_some_iff.1 hoi).1
        rw [hl i his] at hli
        have him : i < m := by simpa using hli
        rw [List.getElem?_append_left (by omega)] at hvi
        have : (valsOf E (ops.toList.take m))[i]? = some (lk E.l t) := by
          unfold valsOf
          rw [List.getElem?_map, List.getElem?_take, if_pos him]
          have : ops.toList[i]? = some o := by simpa using hoi
          rw [this]
          simp [hd]
        rw [this] at hvi
        cases hvi
        exact hE.slot t
/-- a region that draws, in parts: (n + 1) operations in whatever order; 0: one alone -/
theorem AW_segs {P : Program} {N : Nat} {rd : Option Nat} {E : Env} {S : List En} {k : Kt} {τ : List (TypeId × TI)} (hτ : AllOk P τ) (hm : P.follows .mixedOrders = true) (segs : List Nat) {id : Nat} {ops : Array Oper}
    (hd : (segsB ops segs 0 && (List.range ops.size).all (fun j => match ops[j]? with | some o => (deps o).all (fun i => Nat.blt i j) | none => false)) = true)
    (h : asegs P τ ops.toList segs 0 E S (fun E' S' => k .normal E' S')) : AW P N rd (.region id ops true) E S k := by
  unfold AW
  intro hc w0 K a w hE hS
  simp only [Bool.and_eq_true] at hd
  refine wpIn_region_any hm ?_
  have hback : ∀ (j : Nat) (o : Oper), ops[j]? = some o → ∀ i ∈ deps o, i < j := by
    intro j o ho i hi
    have hj : j < ops.size := (Array.getElem?_eq_some_iff.1 ho).1
    have := List.all_eq_true.1 hd.2 j (List.mem_range.2 hj)
    simp only [ho] at this
    exact Nat.le_of_ble_eq_true (List.all_eq_true.1 this i hi)
  exact segsAll_ok hτ hc hback segs 0 E S (Array.replicate ops.size false) a w.drew K hd.1 (Kle.refl K) (by simp) (fun i hi => by rw [getD_replicate_false]; simp) ⟨hE.size, hE.slot, hE.defers⟩ hS.drew h
end Go.Proofs.YtnkmjbjpmocnbaaDoor

