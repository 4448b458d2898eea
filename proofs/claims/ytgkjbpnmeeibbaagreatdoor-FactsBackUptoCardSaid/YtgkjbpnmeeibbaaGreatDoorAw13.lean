/-
  Regions that draw their order, where some of the first operations (that touch no memory) may come late. Own work.
-/
import Derived.Test.YtgkjbpnmeeibbaaGreatDoorAw12
set_option linter.all false
namespace Go.Aw
open Go.RowKit

/-- operations whose step is the same whatever is owned -/
def pureOp : Op → Bool
  | .move _ | .assign _ => true
  | .binOp _ _ _ (.const (.slice ..)) _ => false
  | .binOp .. => true
  | _ => false

theorem aBin_mono {op : BinOp} {x y : AV} {k k' : AV → Prop} (hk : ∀ v, k v → k' v) (h : aBin op x y k) : aBin op x y k' := by
  obtain ⟨v, h1, h2⟩ := aBin_det h
  exact h1 _ (hk v h2)

theorem pure_any {P : Program} {τ : List (TypeId × TI)} {op : Op} {ρ : Operand → AV} {S S2 : List En} {v : AV} (hp : pureOp op = true) (h : astep P τ op ρ S (fun v' S' => AVle v' v ∧ S.Sublist S')) :
    astep P τ op ρ S2 (fun v' S' => AVle v' v ∧ S2.Sublist S') := by
  cases op <;> first | (exfalso; simp [pureOp] at hp; done) | skip
  case move x => exact ⟨h.1, List.Sublist.refl _⟩
  case assign x => exact ⟨h.1, List.Sublist.refl _⟩
  case binOp op t x y t' =>
    simp only [astep] at h ⊢
    split at h
    · obtain ⟨a, r, c, h⟩ := h
      cases op <;> simp only [] at h ⊢
      · exact ⟨a, r, c, h.1, List.Sublist.refl _⟩
      · exact ⟨a, r, c, h.1, List.Sublist.refl _⟩
    · exact ⟨h.1, aBin_mono (fun v hv => ⟨hv.1, List.Sublist.refl _⟩) h.2⟩
    · exact aBin_mono (fun v hv => ⟨hv.1, List.Sublist.refl _⟩) h
    · exact aBin_mono (fun v hv => ⟨hv.1, List.Sublist.refl _⟩) h
    · obtain ⟨rfl, _⟩ := h; simp [pureOp] at hp
    · obtain ⟨a, h⟩ := h
      cases op <;> simp only [] at h ⊢
      · exact ⟨a, fun _ => ⟨(h trivial).1, List.Sublist.refl _⟩⟩
      · exact ⟨a, fun _ => ⟨(h trivial).1, List.Sublist.refl _⟩⟩
    · obtain ⟨a, h⟩ := h
      cases op <;> simp only [] at h ⊢
      · exact ⟨a, fun _ => ⟨(h trivial).1, List.Sublist.refl _⟩⟩
      · exact ⟨a, fun _ => ⟨(h trivial).1, List.Sublist.refl _⟩⟩
    · obtain ⟨a, b, h⟩ := h
      cases op <;> simp only [] at h ⊢
      · exact ⟨a, b, fun _ => ⟨(h trivial).1, List.Sublist.refl _⟩⟩
      · exact ⟨a, b, fun _ => ⟨(h trivial).1, List.Sublist.refl _⟩⟩
    · obtain ⟨a, h⟩ := h
      cases op <;> simp only [] at h ⊢
      · exact ⟨a, fun _ => ⟨(h trivial).1, List.Sublist.refl _⟩⟩
      · exact ⟨a, fun _ => ⟨(h trivial).1, List.Sublist.refl _⟩⟩
    · obtain ⟨a, b, h⟩ := h
      cases op <;> simp only [] at h ⊢
      · exact ⟨a, b, fun _ => ⟨(h trivial).1, List.Sublist.refl _⟩⟩
      · exact ⟨a, b, fun _ => ⟨(h trivial).1, List.Sublist.refl _⟩⟩
    · exact h.elim

def memB (l : List Nat) (i : Nat) : Bool := l.any (Nat.beq i)
/-- the look at such a region: the late ones are given -/
def lateOk0 (ops : Array Oper) (n : Nat) (late : List Nat) : Bool :=
  Nat.blt n ops.size &&
  (List.range ops.size).all (fun j => match ops[j]? with | some o => (deps o).all (fun i => Nat.blt i j) && o.guard.isNone | none => false) &&
  (List.range n).all (fun j => (List.range n).all fun i => match ops[j]?, ops[i]? with
    | some o, some o' =>
      (!hits o'.dst (slotsOf o) || (Nat.blt i j && (deps o).any (Nat.beq i)) || (Nat.blt j i && (deps o').any (Nat.beq j))) && (Nat.beq i j || !sameDst o.dst o'.dst)
    | _, _ => false) &&
  (List.range n).all (fun j => memB late j || (match ops[n]? with | some o => memB (deps o) j | none => false) ||
    (List.range n).any (fun i => Nat.blt j i && !memB late i && (match ops[i]? with | some o => memB (deps o) j | none => false))) &&
  (List.range ops.size).all (fun i => Nat.blt i n || Nat.beq i n || (match ops[i]? with | some o => memB (deps o) (i - 1) | none => false)) &&
  (List.range ops.size).all (fun i => Nat.blt i n || (List.range n).all fun j => match ops[i]?, ops[j]? with
    | some o, some o' => (!hits o'.dst (slotsOf o) || memB (deps o) j) && !sameDst o.dst o'.dst && (!memB late j || !hits o.dst (slotsOf o'))
    | _, _ => false)
def lateOk (ops : Array Oper) (n : Nat) (late : List Nat) : Bool := lateOk0 ops n late && late.all (fun j => match ops[j]? with | some o => pureOp o.op | none => false)

structure LFacts (ops : Array Oper) (n : Nat) (late : List Nat) : Prop where
  hn : n < ops.size
  back : ∀ (j : Nat) (o : Oper), ops[j]? = some o → ∀ i ∈ deps o, i < j
  ng : ∀ (j : Nat) (o : Oper), ops[j]? = some o → o.guard = none
  sl : ∀ (j i : Nat) (o o' : Oper) (t : Nat), j < n → i < n → ops[j]? = some o → ops[i]? = some o' → o'.dst = some t → t ∈ slotsOf o → (i < j ∧ i ∈ deps o) ∨ (j < i ∧ j ∈ deps o')
  ds : ∀ (j i : Nat) (o o' : Oper) (t : Nat), j < n → i < n → ops[j]? = some o → ops[i]? = some o' → o.dst = some t → o'.dst = some t → i = j
  sink : ∀ j, j < n → j ∉ late → (∃ o, ops[n]? = some o ∧ j ∈ deps o) ∨ ∃ i o, i < n ∧ j < i ∧ i ∉ late ∧ ops[i]? = some o ∧ j ∈ deps o
  chain : ∀ i o, n < i → ops[i]? = some o → i - 1 ∈ deps o
  rd : ∀ i j o o' t, n ≤ i → j < n → ops[i]? = some o → ops[j]? = some o' → o'.dst = some t → t ∈ slotsOf o → j ∈ deps o
  dd : ∀ i j o o' t, n ≤ i → j < n → ops[i]? = some o → ops[j]? = some o' → o.dst = some t → o'.dst ≠ some t
  ld : ∀ i j o o' t, n ≤ i → j < n → j ∈ late → ops[i]? = some o → ops[j]? = some o' → o.dst = some t → t ∉ slotsOf o'

theorem memB_iff {l : List Nat} {i : Nat} : memB l i = true ↔ i ∈ l := by
  constructor
  · intro h; exact any_beq h
  · intro h; exact List.any_eq_true.2 ⟨i, h, Nat.beq_refl i⟩
theorem memB_false {l : List Nat} {i : Nat} : memB l i = false ↔ i ∉ l := by
  rw [← memB_iff]; simp

theorem lfacts_of {ops : Array Oper} {n : Nat} {late : List Nat} (h : lateOk0 ops n late = true) : LFacts ops n late := by
  simp only [lateOk0, Bool.and_eq_true] at h
  obtain ⟨⟨⟨⟨⟨h1, h2⟩, h3⟩, h5⟩, h6⟩, h7⟩ := h
  have hn : n < ops.size := Nat.le_of_ble_eq_true h1
  have g2 : ∀ (j : Nat) (o : Oper), ops[j]? = some o → (deps o).all (fun i => Nat.blt i j) = true ∧ o.guard.isNone = true := by
    intro j o ho
    have hj : j < ops.size := (Array.getElem?_eq_some_iff.1 ho).1
    have := List.all_eq_true.1 h2 j (List.mem_range.2 hj)
    simpa only [ho, Bool.and_eq_true] using this
  have g7 : ∀ i j o o', n ≤ i → j < n → ops[i]? = some o → ops[j]? = some o' → ((!hits o'.dst (slotsOf o) || memB (deps o) j) = true ∧ (!sameDst o.dst o'.dst) = true) ∧ (!memB late j || !hits o.dst (slotsOf o')) = true := by
    intro i j o o' hi hj ho ho'
    have his : i < ops.size := (Array.getElem?_eq_some_iff.1 ho).1
    have := List.all_eq_true.1 h7 i (List.mem_range.2 his)
    rw [Bool.or_eq_true] at this
    rcases this with hh | hh
    · have : i < n := Nat.le_of_ble_eq_true hh
      omega
    · have := List.all_eq_true.1 hh j (List.mem_range.2 hj)
      simpa only [ho, ho', Bool.and_eq_true] using this
  refine ⟨hn, ?_, ?_, ?_, ?_, ?_, ?_, ?_, ?_, ?_⟩
  · intro j o ho i hi
    exact Nat.le_of_ble_eq_true (List.all_eq_true.1 (g2 j o ho).1 i hi)
  · intro j o ho; exact Option.isNone_iff_eq_none.1 (g2 j o ho).2
  · intro j i o o' t hj hi ho ho' hd ht
    have := List.all_eq_true.1 (List.all_eq_true.1 h3 j (List.mem_range.2 hj)) i (List.mem_range.2 hi)
    simp only [ho, ho', hd, hits_of ht, Bool.not_true, Bool.false_or, Bool.and_eq_true, Bool.or_eq_true] at this
    rcases this.1 with h | h
    · exact .inl ⟨Nat.le_of_ble_eq_true h.1, any_beq h.2⟩
    · exact .inr ⟨Nat.le_of_ble_eq_true h.1, any_beq h.2⟩
  · intro j i o o' t hj hi ho ho' hd hd'
    have := List.all_eq_true.1 (List.all_eq_true.1 h3 j (List.mem_range.2 hj)) i (List.mem_range.2 hi)
    simp only [ho, ho', hd, hd', sameDst, Nat.beq_refl, Bool.not_true, Bool.or_false, Bool.and_eq_true] at this
    exact Nat.eq_of_beq_eq_true this.2
  · intro j hj hl
    have := List.all_eq_true.1 h5 j (List.mem_range.2 hj)
    simp only [Bool.or_eq_true] at this
    rcases this with (hh | hh) | hh
    · exact absurd (memB_iff.1 hh) hl
    · cases ho : ops[n]? with
      | none => rw [ho] at hh; cases hh
      | some o => rw [ho] at hh; exact .inl ⟨o, rfl, memB_iff.1 hh⟩
    · obtain ⟨i, hi, hh⟩ := List.any_eq_true.1 hh
      simp only [Bool.and_eq_true] at hh
      cases ho : ops[i]? with
      | none => rw [ho] at hh; cases hh.2
      | some o =>
        rw [ho] at hh
        refine .inr ⟨i, o, List.mem_range.1 hi, Nat.le_of_ble_eq_true hh.1.1, memB_false.1 ?_, ho, memB_iff.1 hh.2⟩
        simpa using hh.1.2
  · intro i o hi ho
    have his : i < ops.size := (Array.getElem?_eq_some_iff.1 ho).1
    have := List.all_eq_true.1 h6 i (List.mem_range.2 his)
    simp only [ho, Bool.or_eq_true] at this
    rcases this with (hh | hh) | hh
    · have : i < n := Nat.le_of_ble_eq_true hh
      omega
    · have := Nat.eq_of_beq_eq_true hh; omega
    · exact memB_iff.1 hh
  · intro i j o o' t hi hj ho ho' hd ht
    have := (g7 i j o o' hi hj ho ho').1.1
    rw [hd, hits_of ht] at this
    exact memB_iff.1 (by simpa using this)
  · intro i j o o' t hi hj ho ho' hd hd'
    have := (g7 i j o o' hi hj ho ho').1.2
    rw [hd, hd'] at this
    simp [sameDst] at this
  · intro i j o o' t hi hj hl ho ho' hd ht
    have := (g7 i j o o' hi hj ho ho').2
    rw [hd, hits_of ht, memB_iff.2 hl] at this
    cases this

theorem LFacts.d0 {ops : Array Oper} {n : Nat} {late : List Nat} (h : LFacts ops n late) : DFacts0 ops n :=
  ⟨Nat.le_of_lt h.hn, h.back, h.sl, h.ds, fun j o g want _ ho hg => by rw [h.ng j o ho] at hg; cases hg⟩

/-- an environment without the last ones' slots -/
def tailDst (ops : Array Oper) (n t : Nat) : Bool := (ops.toList.drop n).any fun o => match o.dst with | some d => Nat.beq d t | none => false
theorem tailDst_iff {ops : Array Oper} {n t : Nat} : tailDst ops n t = true ↔ ∃ i o, n ≤ i ∧ ops[i]? = some o ∧ o.dst = some t := by
  simp only [tailDst, List.any_eq_true]
  constructor
  · rintro ⟨o, ho, hd⟩
    obtain ⟨q, hq, hqe⟩ := List.mem_iff_getElem.1 ho
    have hq' : (ops.toList.drop n)[q]? = some o := by rw [List.getElem?_eq_getElem hq, hqe]
    rw [List.getElem?_drop] at hq'
    refine ⟨n + q, o, by omega, by simpa using hq', ?_⟩
    cases hdo : o.dst with
    | none => rw [hdo] at hd; cases hd
    | some d => rw [hdo] at hd; rw [Nat.eq_of_beq_eq_true hd]
  · rintro ⟨i, o, hi, ho, hd⟩
    refine ⟨o, List.mem_of_getElem? (i := i - n) ?_, by rw [hd]; exact Nat.beq_refl t⟩
    rw [List.getElem?_drop, Array.getElem?_toList, show n + (i - n) = i by omega]; exact ho

/-- what holds while the last operations go on, and late ones are still to come -/
structure Late (N n m : Nat) (late : List Nat) (K : Kn) (ops : Array Oper) (V : List AV) (E Em : Env) (listed : Array Bool) (a : Act) : Prop where
  hsz : listed.size = ops.size
  tail : ∀ i, n ≤ i → i < ops.size → listed.getD i false = decide (i < m)
  closed : ∀ (i : Nat) (o' : Oper), ops[i]? = some o' → listed.getD i false = true → ∀ e ∈ deps o', listed.getD e false = true
  hnm : n ≤ m
  hms : m ≤ ops.size
  nl : ∀ j, j < n → j ∉ late → listed.getD j false = true
  size : a.tmps.size = N
  defers : a.defers = Em.m.map markOf
  done : ∀ (i : Nat) (o : Oper) (v : AV) (t : Nat), i < n → listed.getD i false = true → ops[i]? = some o → V[i]? = some v → o.dst = some t → Rel K v (a.tmps.getD t undef)
  todo : ∀ t, tailDst ops n t = false → (∀ (i : Nat) (o : Oper), i < n → listed.getD i false = true → ops[i]? = some o → o.dst ≠ some t) → Rel K (lk E.l t) (a.tmps.getD t undef)
  rest : ∀ t, (∀ (i : Nat) (o : Oper), i < n → listed.getD i false = false → ops[i]? = some o → o.dst ≠ some t) → Rel K (lk Em.l t) (a.tmps.getD t undef)
  emV : ∀ (i : Nat) (o : Oper) (v : AV) (t : Nat), i < n → ops[i]? = some o → V[i]? = some v → o.dst = some t → lk Em.l t = v

/-- the environment as the late ones see it -/
def strip (ops : Array Oper) (n : Nat) (E : Env) : List (Nat × AV) → List (Nat × AV)
  | [] => []
  | p :: r => (p.1, bif tailDst ops n p.1 then .junk else p.2) :: strip ops n E r
theorem lk_strip (ops : Array Oper) (n : Nat) (E : Env) : ∀ (l : List (Nat × AV)) (t : Nat), lk (strip ops n E l) t = bif tailDst ops n t then .junk else lk l t
  | [], t => by simp only [strip, lk]; cases tailDst ops n t <;> rfl
  | (j, v) :: r, t => by
    simp only [strip, lk]
    by_cases h : j = t
    · subst h; rw [Nat.beq_refl]; rfl
    · rw [natBeq_ne h]; exact lk_strip ops n E r t

theorem Late.slots {N n m : Nat} {late : List Nat} {K : Kn} {ops : Array Oper} {V : List AV} {E Em : Env} {listed : Array Bool} {a : Act} (h : Late N n m late K ops V E Em listed a) : Slots N n K ops V ⟨strip ops n E E.l, Em.m⟩ listed a := by
  refine ⟨h.size, h.defers, h.done, fun t ht => ?_⟩
  simp only [lk_strip]
  cases hd : tailDst ops n t with
  | true => exact .junk _
  | false => exact h.todo t hd ht

theorem lk_putAll_congr : ∀ (r : List Oper) (V : List AV) (E E' : Env) (t : Nat), lk E.l t = lk E'.l t → lk (putAll E r V).l t = lk (putAll E' r V).l t
  | [], V, E, E', t, h => by cases V <;> exact h
  | o :: r, [], E, E', t, h => h
  | o :: r, v :: V, E, E', t, h => by
    simp only [putAll]
    refine lk_putAll_congr r V _ _ t ?_
    cases hd : o.dst with
    | none => exact h
    | some d =>
      simp only [Env.put, lk]
      by_cases hdt : d = t
      · subst hdt; rw [Nat.beq_refl]; rfl
      · rw [natBeq_ne hdt]; exact h

/-- a late one is carried out -/
theorem late_step {P : Program} {τ : List (TypeId × TI)} (hτ : AllOk P τ) {rd : Option Nat} {N n m : Nat} {late : List Nat} {ops : Array Oper} {w0 : World} {V : List AV} {E Em : Env} {S Sm : List En} (hf : LFacts ops n late) (hV : V.length = n) (hok : ops.toList.all (operOk N) = true)
    (hh : heads P τ ops.toList S (ops.toList.take n) V E)
    (hp : ∀ (j : Nat) (o : Oper) (v : AV), j ∈ late → j < n → ops[j]? = some o → V[j]? = some v → ∀ Sm, astep P τ o.op (ev (putAll E (ops.toList.take j) (V.take j))) Sm (fun v' S' => AVle v' v ∧ Sm.Sublist S')) {listed : Array Bool} {a : Act} {w : World} {K : Kn} (hs : Late N n m late K ops V E Em listed a) (hS : RelS w0 K Sm w) {j : Nat} {o : Oper} (hj : j < n) (ho : ops[j]? = some o)
    (hun : listed.getD j false = false) (hdone : ∀ i ∈ deps o, listed.getD i false = true)
    {Q : Exit → Act → World → Prop} {next : Act → World → Prop} (hnext : ∀ K' a' w', Kle K K' → Late N n m late K' ops V E Em (listed.setIfInBounds j true) a' → RelS w0 K' Sm w' → next a' w') : wpOpIn (Fw rd) 0 P ops Q j next a w := by
  have hjV : j < V.length := by rw [hV]; exact hj
  have hjl : j ∈ late := by
    by_cases hc : j ∈ late
    · exact hc
    · have := hs.nl j hj hc; rw [hun] at this; cases this
  have hokj : operOk N o = true := List.all_eq_true.1 hok o (by simpa using Array.mem_of_getElem? ho)
  have hng := hf.ng j o ho
  have hst := hp j o V[j] hjl hj ho (List.getElem?_eq_getElem hjV) Sm
  have hmeet : ∀ {t : Nat}, t ∈ slotsOf o → Rel K (lk (putAll E (ops.toList.take j) (V.take j)).l t) (a.tmps.getD t undef) := by
    intro t ht
    have h1 := Slots.meet (t := t) hs.slots hf.d0 hV hj ho hun hdone hs.closed (.inl ht)
    have hnt : tailDst ops n t = false := by
      cases hd : tailDst ops n t with
      | false => rfl
      | true =>
        obtain ⟨i, oi, hi, hoi, hdi⟩ := tailDst_iff.1 hd
        exact absurd ht (hf.ld i j oi o t hi hj hjl hoi ho hdi)
    rw [lk_putAll_congr _ _ ⟨strip ops n E E.l, Em.m⟩ E t (by simp only [lk_strip, hnt]; rfl)] at h1
    exact h1
  have hput : ∀ (K' : Kn) (v : Value), Kle K K' → Rel K' V[j] v → Late N n m late K' ops V E Em (listed.setIfInBounds j true) (a.put o.dst v) := by
    intro K' v hK hv
    have hjsz : j < listed.size := by rw [hs.hsz]; have := hf.hn; omega
    have hjt : (listed.setIfInBounds j true).getD j false = true := by simp [Array.getD_eq_getD_getElem?, hjsz]
    have hsl : Slots N n K' ops V ⟨strip ops n E E.l, Em.m⟩ (listed.setIfInBounds j true) (a.put o.dst v) := by
      have hs' := hs.slots.mono hK
      refine ⟨by cases hd : o.dst <;> simp [Act.put, hs.size], by cases hd : o.dst <;> simp [Act.put, hs.defers], ?_, ?_⟩
      · intro i oi vi t hi hl hoi hvi hd
        by_cases hij : j = i
        · subst hij
          rw [ho] at hoi; cases hoi
          rw [List.getElem?_eq_getElem hjV] at hvi; cases hvi
          rw [hd, getD_put hs.size (operOk.dst hokj t hd), if_pos rfl]
          exact hv
        · rw [getD_set_ne false hij] at hl
          have hr := hs'.done i oi vi t hi hl hoi hvi hd
          cases hdj : o.dst with
          | none => exact hr
          | some d =>
            rw [getD_put hs.size (operOk.dst hokj d hdj), if_neg]
            · exact hr
            · intro hdt; subst hdt
              exact hij (hf.ds i j oi o d hi hj hoi ho hd hdj)
      · intro t ht
        have hne : o.dst ≠ some t := ht j o hj hjt ho
        have hr := hs'.todo t (fun i oi hi hl hoi => by
          by_cases hij : j = i
          · subst hij; rw [ho] at hoi; cases hoi; exact hne
          · exact ht i oi hi (by rw [getD_set_ne false hij]; exact hl) hoi)
        cases hdj : o.dst with
        | none => exact hr
        | some d =>
          rw [getD_put hs.size (operOk.dst hokj d hdj), if_neg]
          · exact hr
          · intro hdt; subst hdt; exact hne hdj
    refine ⟨by simp [hs.hsz], ?_, ?_, hs.hnm, hs.hms, ?_, hsl.size, hsl.defers, hsl.done, ?_, ?_, hs.emV⟩
    · intro i hi his
      rw [getD_set_ne false (by omega)]; exact hs.tail i hi his
    · intro i o' ho' hl e he
      by_cases hij : j = i
      · subst hij
        rw [ho] at ho'; cases ho'
        have hej : j ≠ e := by have := hf.back j o ho e he; omega
        rw [getD_set_ne false hej]; exact hdone e he
      · rw [getD_set_ne false hij] at hl
        by_cases hej : j = e
        · subst hej; exact hjt
        · rw [getD_set_ne false hej]; exact hs.closed i o' ho' hl e he
    · intro i hi hil
      by_cases hij : j = i
      · subst hij; exact hjt
      · rw [getD_set_ne false hij]; exact hs.nl i hi hil
    · intro t hnt ht
      have := hsl.todo t ht
      simp only [lk_strip, hnt] at this
      exact this
    · intro t ht
      cases hdj : o.dst with
      | none =>
        refine (hs.rest t (fun i oi hi hl hoi hd => ?_)).mono hK
        by_cases hij : j = i
        · subst hij; rw [ho] at hoi; cases hoi; rw [hdj] at hd; cases hd
        · exact ht i oi hi (by rw [getD_set_ne false hij]; exact hl) hoi hd
      | some d =>
        rw [getD_put hs.size (operOk.dst hokj d hdj)]
        by_cases hdt : d = t
        · subst hdt
          rw [if_pos rfl, hs.emV j o V[j] d hj ho (List.getElem?_eq_getElem hjV) hdj]
          exact hv
        · rw [if_neg hdt]
          refine (hs.rest t (fun i oi hi hl hoi hd => ?_)).mono hK
          by_cases hij : j = i
          · subst hij; rw [ho] at hoi; cases hoi; rw [hdj] at hd; cases hd; exact hdt rfl
          · exact ht i oi hi (by rw [getD_set_ne false hij]; exact hl) hoi hd
  unfold wpOpIn
  simp only [ho]
  have hw : Region.wanted o (yielded ops a.tmps) = true := by simp [Region.wanted, hng]
  simp only [hw, if_true]
  refine ⟨fun _ _ => trivial, ?_⟩
  rw [Oper.semAt_eq _ _ _ (astep_nodefer hst)]
  have hrop : ROp K (ev (putAll E (ops.toList.take j) (V.take j))) a o.op := by
    intro x hx
    cases x with
    | tmp t => exact hmeet (slots_mem hx)
    | const v =>
      simp only [operOk, Bool.and_eq_true] at hokj
      exact rel_ofV v (show opdOk (.const v) = true from List.all_eq_true.1 hokj.2 (.const v) (by simpa using hx))
    | global g => exact .gl g
    | func f => exact .fn (first := []) (cap := []) (vs := []) (us := []) (.func f) rfl (fun i c v hc _ => by simp at hc) rfl (fun i c v hc _ => by simp at hc)
  exact upon_of_rok (astep_ok hτ hst hrop hS) (fun K' av v S' w' h1 h2 h3 h4 => hnext K' _ w' h1 (hput K' v h1 (h4.1 K' v h2)) (h3.sub h4.2))

theorem aops_one {P : Program} {τ : List (TypeId × TI)} {ops : Array Oper} (hng : ∀ (j : Nat) (o : Oper), ops[j]? = some o → o.guard = none) {m : Nat} {o : Oper} (ho : ops[m]? = some o) {E : Env} {S : List En} {k : Env → List En → Prop}
    (h : aops P τ ops.toList m (ops.toList.drop m) E S k) : astep P τ o.op (ev E) S (fun v S' => aops P τ ops.toList (m + 1) (ops.toList.drop (m + 1)) (E.put o.dst v) S' k) := by
  have hm : m < ops.toList.length := by have := (Array.getElem?_eq_some_iff.1 ho).1; simpa using this
  have e : ops.toList.drop m = o :: ops.toList.drop (m + 1) := by
    rw [← List.getElem_cons_drop hm]
    congr 1
    have := (Array.getElem?_eq_some_iff.1 ho).2
    simpa using this
  rw [e] at h
  simp only [aops, hng m o ho] at h
  have hg : isG (ops.toList.drop (m + 1)) m = false := by
    simp only [isG, List.any_eq_false]
    intro x hx
    obtain ⟨q, hq, hqe⟩ := List.mem_iff_getElem.1 (List.mem_of_mem_drop hx)
    have := hng q x (by rw [← Array.getElem?_toList, List.getElem?_eq_getElem hq, hqe])
    rw [this]; simp
  simp only [hg, cond_false] at h
  exact h

theorem late_any {P : Program} {τ : List (TypeId × TI)} (hτ : AllOk P τ) {rd : Option Nat} {N n : Nat} {late : List Nat} {ops : Array Oper} {w0 : World} {V : List AV} {E : Env} {S : List En} {k : Env → List En → Prop} (hf : LFacts ops n late) (hV : V.length = n) (hok : ops.toList.all (operOk N) = true)
    (hh : heads P τ ops.toList S (ops.toList.take n) V E)
    (hp : ∀ (j : Nat) (o : Oper) (v : AV), j ∈ late → j < n → ops[j]? = some o → V[j]? = some v → ∀ Sm, astep P τ o.op (ev (putAll E (ops.toList.take j) (V.take j))) Sm (fun v' S' => AVle v' v ∧ Sm.Sublist S')) (K : Kn) :
    ∀ (f m : Nat) (listed : Array Bool) (a : Act) (w : World) (K' : Kn) (Em : Env) (Sm : List En), Kle K K' → unl ops.size listed = f → Late N n m late K' ops V E Em listed a → RelS w0 K' Sm w → aops P τ ops.toList m (ops.toList.drop m) Em Sm k →
      wpAnyIn (Fw rd) 0 P .any ops (APost w0 N K fun x E' S' => x = .normal ∧ k E' S') f listed a w := by
  intro f
  induction f with
  | zero =>
    intro m listed a w K' Em Sm hK hu hs hS ht
    have hall : ∀ i, i < ops.size → listed.getD i false = true := by
      intro i hi
      have := List.countP_eq_zero.1 hu i (List.mem_range.2 hi)
      simpa using this
    have hn := hf.hn
    have hm : m = ops.size := by
      have := hs.hms
      by_cases hc : m < ops.size
      · have := hs.tail m hs.hnm hc
        rw [hall m hc] at this; simp at this
      · omega
    refine ⟨?_, ?_⟩
    · apply List.eq_nil_iff_forall_not_mem.2
      intro i hi
      obtain ⟨h1, o, ho, _⟩ := mem_ready.1 hi
      have hlt : i < ops.size := (Array.getElem?_eq_some_iff.1 ho).1
      rw [getD_tf (by rw [hs.hsz]; exact hlt) true false, hall i hlt] at h1
      cases h1
    · rw [List.drop_eq_nil_of_le (by rw [Array.length_toList]; omega)] at ht
      exact ⟨K', Em, Sm, hK, ⟨hs.size, fun t => hs.rest t (fun i o hi hl ho => by rw [hall i (by omega)] at hl; cases hl), hs.defers⟩, hS, rfl, ht⟩
  | succ f ih =>
    intro m listed a w K' Em Sm hK hu hs hS ht
    have hn := hf.hn
    obtain ⟨i0, hi0, hun0⟩ : ∃ i, i < ops.size ∧ listed.getD i false = false := by
      by_cases hc : ∃ i, i < ops.size ∧ listed.getD i false = false
      · exact hc
      · exfalso
        have : unl ops.size listed = 0 := List.countP_eq_zero.2 (fun i hi => by
          cases hl : listed.getD i false with
          | true => simp
          | false => exact absurd ⟨i, List.mem_range.1 hi, hl⟩ hc)
        omega
    have hready : Region.ready .any ops listed ≠ [] := by
      have : ∀ (d i : Nat), i ≤ d → i < ops.size → listed.getD i false = false → Region.ready .any ops listed ≠ [] := by
        intro d
        induction d with
        | zero =>
          intro i hd hi hl
          obtain rfl : i = 0 := by omega
          obtain ⟨o, ho⟩ : ∃ o, ops[0]? = some o := ⟨ops[0], by simp [hi]⟩
          have : 0 ∈ Region.ready .any ops listed := mem_ready.2 ⟨by rw [getD_tf (by rw [hs.hsz]; exact hi) true false]; exact hl, o, ho, fun e he hb => by
            have := hf.back 0 o ho e.on (mem_deps.2 ⟨e, he, hb, rfl⟩); omega⟩
          intro hnil; rw [hnil] at this; simp at this
        | succ d ihd =>
          intro i hd hi hl
          obtain ⟨o, ho⟩ : ∃ o, ops[i]? = some o := ⟨ops[i], by simp [hi]⟩
          by_cases hall : ∀ e ∈ deps o, listed.getD e false = true
          · have : i ∈ Region.ready .any ops listed := mem_ready.2 ⟨by rw [getD_tf (by rw [hs.hsz]; exact hi) true false]; exact hl, o, ho, fun e he hb => hall e.on (mem_deps.2 ⟨e, he, hb, rfl⟩)⟩
            intro hnil; rw [hnil] at this; simp at this
          · obtain ⟨e, he, hle⟩ : ∃ e, e ∈ deps o ∧ listed.getD e false = false := by
              by_cases hc : ∃ e, e ∈ deps o ∧ listed.getD e false = false
              · exact hc
              · exfalso; apply hall; intro e he
                cases hl : listed.getD e false with
                | true => rfl
                | false => exact absurd ⟨e, he, hl⟩ hc
            have := hf.back i o ho e he
            exact ihd e (by omega) (by omega) hle
      exact this i0 i0 (Nat.le_refl _) hi0 hun0
    refine ⟨fun hnil => absurd hnil hready, fun i hi => ?_⟩
    obtain ⟨h1, o, ho, hall⟩ := mem_ready.1 hi
    have hlt : i < ops.size := (Array.getElem?_eq_some_iff.1 ho).1
    have hun : listed.getD i false = false := by rw [getD_tf (by rw [hs.hsz]; exact hlt) false true]; exact h1
    have hdone : ∀ e ∈ deps o, listed.getD e false = true := fun e he => by obtain ⟨ed, hed, hb, rfl⟩ := mem_deps.1 he; exact hall ed hed hb
    have hun2 := unl_set hlt (by rw [hs.hsz]; exact hlt) hun
    by_cases hin : i < n
    · exact late_step hτ hf hV hok hh hp hs hS hin ho hun hdone (fun K2 a' w' hK2 hs2 hS2 => ih m _ a' w' K2 Em Sm (hK.trans hK2) (by omega) hs2 hS2 ht)
    · -- the next of the last ones
      have him : i = m := by
        have h2 := hs.tail i (by omega) hlt
        rw [hun] at h2
        have h3 : ¬ i < m := by simpa using h2.symm
        by_cases hc : i = m
        · exact hc
        · exfalso
          have hnm := hs.hnm
          have := hdone _ (hf.chain i o (by omega) ho)
          rw [hs.tail (i - 1) (by omega) (by omega)] at this
          simp at this; omega
      subst him
      have hst := aops_one hf.ng ho ht
      have hoki : operOk N o = true := List.all_eq_true.1 hok o (by simpa using Array.mem_of_getElem? ho)
      have hng := hf.ng i o ho
      have hrop : ROp K' (ev Em) a o.op := by
        intro x hx
        cases x with
        | tmp t =>
          refine hs.rest t (fun j oj hj hl hoj hd => ?_)
          have := hdone j (hf.rd i j o oj t (by omega) hj ho hoj hd (slots_mem hx))
          rw [hl] at this; cases this
        | const v =>
          simp only [operOk, Bool.and_eq_true] at hoki
          exact rel_ofV v (show opdOk (.const v) = true from List.all_eq_true.1 hoki.2 (.const v) (by simpa using hx))
        | global g => exact .gl g
        | func f => exact .fn (first := []) (cap := []) (vs := []) (us := []) (.func f) rfl (fun i c v hc _ => by simp at hc) rfl (fun i c v hc _ => by simp at hc)
      unfold wpOpIn
      simp only [ho]
      have hw : Region.wanted o (yielded ops a.tmps) = true := by simp [Region.wanted, hng]
      simp only [hw, if_true]
      refine ⟨fun _ _ => trivial, ?_⟩
      rw [Oper.semAt_eq _ _ _ (astep_nodefer hst)]
      refine upon_of_rok (astep_ok hτ hst hrop hS) (fun K2 av v S' w' h1 h2 h3 h4 => ih (i + 1) _ _ w' K2 _ S' (hK.trans h1) (by omega) ?_ h3 h4)
      have hit : (listed.setIfInBounds i true).getD i false = true := by
        have : i < listed.size := by rw [hs.hsz]; exact hlt
        simp [Array.getD_eq_getD_getElem?, this]
      refine ⟨by simp [hs.hsz], ?_, ?_, by omega, by omega, ?_, by cases hd : o.dst <;> simp [Act.put, hs.size], by cases hd : o.dst <;> simp [Act.put, hs.defers, Env.put], ?_, ?_, ?_, ?_⟩
      · intro q hq hqs
        by_cases hqi : i = q
        · subst hqi; rw [hit]; simp
        · rw [getD_set_ne false hqi, hs.tail q hq hqs]
          by_cases hqm : q < i
          · simp [hqm, show q < i + 1 by omega]
          · simp [hqm, show ¬ q < i + 1 by omega]
      · intro q o' ho' hl e he
        by_cases hij : i = q
        · subst hij
          rw [ho] at ho'; cases ho'
          have hej : i ≠ e := by have := hf.back i o ho e he; omega
          rw [getD_set_ne false hej]; exact hdone e he
        · rw [getD_set_ne false hij] at hl
          by_cases hej : i = e
          · subst hej; exact hit
          · rw [getD_set_ne false hej]; exact hs.closed q o' ho' hl e he
      · intro j hj hjl; rw [getD_set_ne false (by omega)]; exact hs.nl j hj hjl
      · intro j oj vj t hj hl hoj hvj hd
        rw [getD_set_ne false (by omega)] at hl
        have hr := (hs.done j oj vj t hj hl hoj hvj hd).mono h1
        cases hdo : o.dst with
        | none => exact hr
        | some d =>
          rw [getD_put hs.size (operOk.dst hoki d hdo), if_neg]
          · exact hr
          · intro hdt; subst hdt; exact hf.dd i j o oj d (by omega) hj ho hoj hdo hd
      · intro t hnt ht'
        have hne : o.dst ≠ some t := fun hd => by rw [tailDst_iff.2 ⟨i, o, by omega, ho, hd⟩] at hnt; cases hnt
        have hr := (hs.todo t hnt (fun j oj hj hl hoj => ht' j oj hj (by rw [getD_set_ne false (by omega)]; exact hl) hoj)).mono h1
        cases hdo : o.dst with
        | none => exact hr
        | some d =>
          rw [getD_put hs.size (operOk.dst hoki d hdo), if_neg]
          · exact hr
          · intro hdt; subst hdt; exact hne hdo
      · intro t ht'
        have hr := fun (hne : o.dst ≠ some t) => (hs.rest t (fun j oj hj hl hoj => ht' j oj hj (by rw [getD_set_ne false (by omega)]; exact hl) hoj)).mono h1
        cases hdo : o.dst with
        | none => exact hr (by rw [hdo]; simp)
        | some d =>
          rw [getD_put hs.size (operOk.dst hoki d hdo)]
          by_cases hdt : d = t
          · subst hdt
            rw [if_pos rfl, lk_put_same]; exact h2
          · rw [if_neg hdt, lk_put_other _ _ (by simp [hdt])]
            exact hr (by rw [hdo]; simp [hdt])
      · intro j oj vj t hj hoj hvj hd
        rw [lk_put_other _ _ (fun hdo => hf.dd i j o oj t (by omega) hj ho hoj hdo hd)]
        exact hs.emV j oj vj t hj hoj hvj hd

theorem draw_late {P : Program} {τ : List (TypeId × TI)} (hτ : AllOk P τ) {rd : Option Nat} {N n : Nat} {late : List Nat} {ops : Array Oper} {w0 : World} {V : List AV} {E : Env} {S : List En} {k : Env → List En → Prop} (hf : LFacts ops n late) (hV : V.length = n) (hok : ops.toList.all (operOk N) = true)
    (hh : heads P τ ops.toList S (ops.toList.take n) V E)
    (hp : ∀ (j : Nat) (o : Oper) (v : AV), j ∈ late → j < n → ops[j]? = some o → V[j]? = some v → ∀ Sm, astep P τ o.op (ev (putAll E (ops.toList.take j) (V.take j))) Sm (fun v' S' => AVle v' v ∧ Sm.Sublist S')) (ht : aops P τ ops.toList n (ops.toList.drop n) (putAll E (ops.toList.take n) V) S k) (K : Kn) :
    ∀ (f : Nat) (listed : Array Bool) (a : Act) (w : World) (K' : Kn), Kle K K' → HeadInv .any ops n listed → unl ops.size listed = f → Slots N n K' ops V E listed a → RelS w0 K' S w →
      wpAnyIn (Fw rd) 0 P .any ops (APost w0 N K fun x E' S' => x = .normal ∧ k E' S') f listed a w := by
  intro f
  induction f with
  | zero =>
    intro listed a w K' hK inv hu hs hS
    exfalso
    have hn := hf.hn
    have := List.countP_eq_zero.1 hu n (List.mem_range.2 hn)
    have h2 := inv.tail n (Nat.le_refl _) hn
    rw [getD_tf (by rw [inv.size]; exact hn) true false] at h2
    rw [h2] at this; simp at this
  | succ f ih =>
    intro listed a w K' hK inv hu hs hS
    have hn := hf.hn
    have hcl : ∀ (i : Nat) (o' : Oper), ops[i]? = some o' → listed.getD i false = true → ∀ e ∈ deps o', listed.getD e false = true := by
      intro i o' ho' hl e he
      obtain ⟨ed, hed, hb, rfl⟩ := mem_deps.1 he
      exact inv.closed i o' ho' hl ed hed hb
    by_cases hnl : ∀ j, j < n → j ∉ late → listed.getD j false = true
    · -- all but late ones are done
      refine late_any hτ hf hV hok hh hp K (f + 1) n listed a w K' _ S hK hu ?_ hS ht
      refine ⟨inv.size, ?_, hcl, Nat.le_refl _, Nat.le_of_lt hn, hnl, hs.size, by rw [putAll_m]; exact hs.defers, hs.done, fun t _ ht' => hs.todo t ht', ?_, ?_⟩
      · intro i hi his
        have := inv.tail i hi his
        rw [getD_tf (by rw [inv.size]; exact his) true false] at this
        rw [this]; simp; omega
      · intro t ht'
        by_cases hex : ∃ i o', i < n ∧ ops[i]? = some o' ∧ o'.dst = some t
        · obtain ⟨i, o', hi, ho', hd⟩ := hex
          have hiV : i < V.length := by omega
          have hl : listed.getD i false = true := by
            cases hl : listed.getD i false with
            | true => rfl
            | false => exact absurd hd (ht' i o' hi hl ho')
          rw [lk_putAll_some _ V E t i o' V[i] (by rw [List.getElem?_take, if_pos hi]; simpa using ho') (List.getElem?_eq_getElem hiV) hd (fun i2 o2 ho2 hd2 => by
            rw [List.getElem?_take] at ho2
            split at ho2
            · exact hf.ds i i2 o' o2 t hi (by assumption) ho' (by simpa using ho2) hd hd2
            · cases ho2)]
          exact hs.done i o' V[i] t hi hl ho' (List.getElem?_eq_getElem hiV) hd
        · rw [lk_putAll_none]
          · exact hs.todo t (fun i2 o2 h2 _ ho2 hd2 => hex ⟨i2, o2, h2, ho2, hd2⟩)
          · intro o2 ho2 hd2
            obtain ⟨q, hq, hqe⟩ := List.mem_iff_getElem.1 ho2
            have hq' : (ops.toList.take n)[q]? = some o2 := by rw [List.getElem?_eq_getElem hq, hqe]
            rw [List.getElem?_take] at hq'
            split at hq'
            · exact hex ⟨q, o2, by assumption, by simpa using hq', hd2⟩
            · cases hq'
      · intro i o v t hi ho hv hd
        exact lk_putAll_some _ V E t i o v (by rw [List.getElem?_take, if_pos hi]; simpa using ho) hv hd (fun i2 o2 ho2 hd2 => by
          rw [List.getElem?_take] at ho2
          split at ho2
          · exact hf.ds i i2 o o2 t hi (by assumption) ho (by simpa using ho2) hd hd2
          · cases ho2)
    · obtain ⟨i0, hi0, hl0, hun0⟩ : ∃ i, i < n ∧ i ∉ late ∧ listed.getD i false = false := by
        by_cases hc : ∃ i, i < n ∧ i ∉ late ∧ listed.getD i false = false
        · exact hc
        · exfalso; apply hnl; intro i hi hil
          cases hl : listed.getD i false with
          | true => rfl
          | false => exact absurd ⟨i, hi, hil, hl⟩ hc
      have hready : Region.ready .any ops listed ≠ [] := by
        have : ∀ (d i : Nat), i ≤ d → i < ops.size → listed.getD i false = false → Region.ready .any ops listed ≠ [] := by
          intro d
          induction d with
          | zero =>
            intro i hd hi hl
            obtain rfl : i = 0 := by omega
            obtain ⟨o, ho⟩ : ∃ o, ops[0]? = some o := ⟨ops[0], by simp [hi]⟩
            have : 0 ∈ Region.ready .any ops listed := mem_ready.2 ⟨by rw [getD_tf (by rw [inv.size]; exact hi) true false]; exact hl, o, ho, fun e he hb => by
              have := hf.back 0 o ho e.on (mem_deps.2 ⟨e, he, hb, rfl⟩); omega⟩
            intro hnil; rw [hnil] at this; simp at this
          | succ d ihd =>
            intro i hd hi hl
            obtain ⟨o, ho⟩ : ∃ o, ops[i]? = some o := ⟨ops[i], by simp [hi]⟩
            by_cases hall : ∀ e ∈ deps o, listed.getD e false = true
            · have : i ∈ Region.ready .any ops listed := mem_ready.2 ⟨by rw [getD_tf (by rw [inv.size]; exact hi) true false]; exact hl, o, ho, fun e he hb => hall e.on (mem_deps.2 ⟨e, he, hb, rfl⟩)⟩
              intro hnil; rw [hnil] at this; simp at this
            · obtain ⟨e, he, hle⟩ : ∃ e, e ∈ deps o ∧ listed.getD e false = false := by
                by_cases hc : ∃ e, e ∈ deps o ∧ listed.getD e false = false
                · exact hc
                · exfalso; apply hall; intro e he
                  cases hl : listed.getD e false with
                  | true => rfl
                  | false => exact absurd ⟨e, he, hl⟩ hc
              have := hf.back i o ho e he
              exact ihd e (by omega) (by omega) hle
        exact this i0 i0 (Nat.le_refl _) (by omega) hun0
      refine ⟨fun hnil => absurd hnil hready, fun i hi => ?_⟩
      obtain ⟨h1, o, ho, hall⟩ := mem_ready.1 hi
      have hlt : i < ops.size := (Array.getElem?_eq_some_iff.1 ho).1
      have hun : listed.getD i false = false := by rw [getD_tf (by rw [inv.size]; exact hlt) false true]; exact h1
      have hdone : ∀ e ∈ deps o, listed.getD e false = true := fun e he => by obtain ⟨ed, hed, hb, rfl⟩ := mem_deps.1 he; exact hall ed hed hb
      have hin : i < n := by
        by_cases hc : i < n
        · exact hc
        · exfalso
          have hin : i = n := by
            by_cases hc2 : i = n
            · exact hc2
            · exfalso
              have h2 := hdone _ (hf.chain i o (by omega) ho)
              have h3 := inv.tail (i - 1) (by omega) (by omega)
              rw [getD_tf (by rw [inv.size]; omega) true false, h2] at h3; cases h3
          subst hin
          -- all but late ones were done
          have : ∀ (d j : Nat), i - j ≤ d → j < i → j ∉ late → listed.getD j false = true := by
            intro d
            induction d with
            | zero => intro j h1 h2; omega
            | succ d ihd =>
              intro j h1 h2 hjl
              rcases hf.sink j h2 hjl with ⟨o', ho', hd⟩ | ⟨q, oq, hq, hjq, hql, hoq, hd⟩
              · rw [ho] at ho'; cases ho'; exact hdone j hd
              · exact hcl q oq hoq (ihd q (by omega) hq hql) j hd
          have := this i i0 (by omega) hi0 hl0
          rw [hun0] at this; cases this
      refine head_step hτ hf.d0 hV hok hh hs hS hin ho inv.size hun hdone hcl (fun K2 a' w' hK2 hs2 hS2 => ?_)
      have hun2 := unl_set hlt (by rw [inv.size]; exact hlt) hun
      exact ih _ a' w' K2 (hK.trans hK2) (inv.set hi hin) (by omega) hs2 hS2
/-- a region that draws: some of the first n may come late (all orders) -/
theorem late_all {P : Program} {N : Nat} {rd : Option Nat} {E : Env} {S : List En} {k : Kt} {τ : List (TypeId × TI)} (hτ : AllOk P τ) (n : Nat) (late : List Nat) {ops : Array Oper} (hd : lateOk0 ops n late = true) {V : List AV} (hV : heads P τ ops.toList S (ops.toList.take n) V E)
    (hp : ∀ (j : Nat) (o : Oper) (v : AV), j ∈ late → j < n → ops[j]? = some o → V[j]? = some v → ∀ Sm, astep P τ o.op (ev (putAll E (ops.toList.take j) (V.take j))) Sm (fun v' S' => AVle v' v ∧ Sm.Sublist S'))
    (hk : aops P τ ops.toList n (ops.toList.drop n) (putAll E (ops.toList.take n) V) S (fun E' S' => k .normal E' S')) (hc : ops.toList.all (operOk N) = true) {w0 : World} {K : Kn} {a : Act} {w : World} (hE : RelE N K E a) (hS : RelS w0 K S w) :
    wpAnyIn (Fw rd) 0 P .any ops (APost w0 N K k) ops.size (Array.replicate ops.size false) a w := by
  have hf := lfacts_of hd
  have hVn : V.length = n := by rw [heads_len _ _ _ hV, List.length_take, Array.length_toList]; have := hf.hn; omega
  have := draw_late hτ (rd := rd) (N := N) (w0 := w0) hf hVn hc hV hp hk K (unl ops.size (Array.replicate ops.size false)) (Array.replicate ops.size false) a w K (Kle.refl K)
    ⟨by simp, (fun j oj _ hl => by rw [getD_replicate_false] at hl; cases hl), (fun t h1 h2 => by simp [Array.getD_eq_getD_getElem?, h2])⟩ rfl
    ⟨hE.size, hE.defers, (fun i o v t _ hl => by rw [getD_replicate_false] at hl; cases hl), fun t _ => hE.slot t⟩ hS
  have hu : unl ops.size (Array.replicate ops.size false) = ops.size := by
    unfold unl
    rw [List.countP_eq_length.2 (by intro i hi; rw [getD_replicate_false]; rfl)]; simp
  rw [hu] at this
  have key : ∀ (f : Nat) (l : Array Bool) (a : Act) (w : World), wpAnyIn (Fw rd) 0 P .any ops (APost w0 N K fun x E' S' => x = .normal ∧ k .normal E' S') f l a w → wpAnyIn (Fw rd) 0 P .any ops (APost w0 N K k) f l a w := by
    have hpost : ∀ e a w, APost w0 N K (fun x E' S' => x = .normal ∧ k .normal E' S') e a w → APost w0 N K k e a w := by
      rintro e a' w' ⟨K', E', S', h1, h2, h3, rfl, h4⟩
      exact ⟨K', E', S', h1, h2, h3, h4⟩
    intro f
    induction f with
    | zero => exact fun l a w hh => ⟨hh.1, hpost _ _ _ hh.2⟩
    | succ f ih =>
      intro l a w hh
      refine ⟨fun hn => hpost _ _ _ (hh.1 hn), fun i hi => ?_⟩
      have h1 := wpOpIn_mono (fun a w hx => ih _ a w hx) (hh.2 i hi)
      unfold wpOpIn at h1 ⊢
      split at h1
      · exact h1
      · split at h1
        · rename_i hw
          rw [if_pos hw]
          refine ⟨h1.1, ?_⟩
          have h5 := h1.2
          revert h5
          generalize (Oper.semAt _ _ _).run P w = rr
          intro h5
          cases rr with
          | halt x w => cases x <;> first | exact h5.elim | exact hpost _ _ _ (show APost w0 N K _ _ a _ from h5)
          | ok x w =>
            cases x <;> first
              | exact h5.elim
              | exact h5
              | exact ⟨h5.1, CallsIn.mono h5.2 (fun e w'' he => by
                  cases e with
                  | returned v => exact he
                  | panicked c => exact hpost _ _ _ he
                  | outgrown => obtain ⟨a0, w00, hq⟩ := he; exact ⟨a0, w00, hpost _ _ _ hq⟩)⟩
              | exact ⟨h5.1, RowsIn.mono h5.2 (fun _ _ he => he)⟩
              | exact ⟨h5.1, RoundIn.mono h5.2 (fun e w'' he => by
                  cases e with
                  | returned v => exact he
                  | panicked c => exact hpost _ _ _ he
                  | outgrown => obtain ⟨a0, w00, hq⟩ := he; exact ⟨a0, w00, hpost _ _ _ hq⟩)⟩
        · rename_i hw
          rw [if_neg hw]; exact h1
  exact key _ _ _ _ this

/-- a region that draws: some of the first n may come late -/
theorem AW_drawl {P : Program} {N : Nat} {rd : Option Nat} {E : Env} {S : List En} {k : Kt} {τ : List (TypeId × TI)} (hτ : AllOk P τ) (hm : P.follows .mixedOrders = true) (n : Nat) (late : List Nat) {id : Nat} {ops : Array Oper} (hd : lateOk ops n late = true)
    (h : aheads P τ ops.toList 0 (ops.toList.take n) E S (fun E' => aops P τ ops.toList n (ops.toList.drop n) E' S (fun E' S' => k .normal E' S'))) : AW P N rd (.region id ops true) E S k := by
  unfold AW
  intro hc w0 K a w hE hS
  obtain ⟨hd, hpu⟩ := (Bool.and_eq_true _ _).mp hd
  have hf := lfacts_of hd
  obtain ⟨V, hV, hk⟩ := heads_of _ _ _ h
  have hVn : V.length = n := by rw [heads_len _ _ _ hV, List.length_take, Array.length_toList]; have := hf.hn; omega
  refine wpIn_region_any hm ?_
  refine late_all hτ n late hd hV (fun j o v hjl hj ho hv Sm => ?_) hk hc ⟨hE.size, hE.slot, hE.defers⟩ hS.drew
  have hhead := heads_at _ _ _ hV j o v (by rw [List.getElem?_take, if_pos hj]; simpa using ho) hv
  rw [List.take_take, Nat.min_eq_left (Nat.le_of_lt hj)] at hhead
  have hpo : pureOp o.op = true := by
    have := List.all_eq_true.1 hpu j hjl
    simpa only [ho] using this
  rcases hhead with ⟨_, hst⟩ | ⟨⟨g, want, hg, _⟩, _⟩
  · exact pure_any hpo hst
  · rw [hf.ng j o ho] at hg; cases hg

end Go.Aw
