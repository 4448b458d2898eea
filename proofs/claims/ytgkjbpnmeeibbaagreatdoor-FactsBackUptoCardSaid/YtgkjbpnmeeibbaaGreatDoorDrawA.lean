/-
  A region that draws, with one operation among its heads that makes a thing anew (an alloc): the heads are shown whatever else is owned. Own work.
-/
import Derived.Test.YtgkjbpnmeeibbaaGreatDoorDraw2
set_option linter.all false
namespace Go.Proofs.YtgkjbpnmeeibbaaGreatDoor
open Go.Aw Go.RowKit

theorem astep_app {P : Program} {τ : List (TypeId × TI)} {op : Op} {ρ : Operand → AV} {S X : List En} {k k' : AV → List En → Prop} (hd : det op = true) (h : astep P τ op ρ S k) (hk : ∀ v, k v S → k' v (S ++ X)) :
    astep P τ op ρ (S ++ X) k' := by
  have ga : ∀ {p : Nat} {e : En}, S[p]? = some e → (S ++ X)[p]? = some e := fun {p e} hp => by
    rw [List.getElem?_append_left (List.getElem?_eq_some_iff.1 hp).1]; exact hp
  have gm : ∀ {e : En}, e ∈ S → e ∈ S ++ X := fun he => List.mem_append_left _ he
  cases op <;> first | (exfalso; simp [det] at hd; done) | skip
  case move x => exact hk _ (h)
  case assign x => exact hk _ (h)
  case makeFunc f a b => exact hk _ (h)
  case makeInterface t x => simp only [astep] at h ⊢; exact ⟨h.1, hk _ (h.2)⟩
  case lookup t m x ok =>
    simp only [astep] at h ⊢
    split at h
    · obtain ⟨kt, e, z, p, l, a, b, c, d, r, g, f⟩ := h; exact ⟨kt, e, z, p, l, a, b, c, ga d, r, g, hk _ (f)⟩
    · exact h.elim
  case pick c a b =>
    simp only [astep] at h ⊢
    cases hc : ρ c <;> rw [hc] at h <;> simp only [] at h ⊢
    exact hk _ (h)
  case build t ps =>
    simp only [astep] at h ⊢
    cases hd : (lkT τ t).d <;> rw [hd] at h <;> simp only [] at h ⊢
    · obtain ⟨a, cs, b, c⟩ := h; exact ⟨a, cs, b, hk _ (c)⟩
    · obtain ⟨a, cs, b, c⟩ := h; exact ⟨a, cs, b, hk _ (c)⟩
  case buildSlice t len ps =>
    simp only [astep] at h ⊢
    cases hd : (lkT τ t).d <;> rw [hd] at h <;> simp only [] at h ⊢
    obtain ⟨a, b, c, d, e, f⟩ := h; exact ⟨a, b, c, d, e, hk _ (f)⟩
  case load t x =>
    simp only [astep] at h ⊢
    obtain ⟨h0, h⟩ := h
    cases hc : ρ x <;> rw [hc] at h <;> simp only [] at h ⊢
    · obtain ⟨a, v, e, b⟩ := h; exact ⟨h0, a, v, e, hk _ (b)⟩
    · obtain ⟨p, cs, a, b, v, e, c⟩ := h; exact ⟨h0, p, cs, ga a, b, v, e, hk _ (c)⟩
    · obtain ⟨cs, a, b, v, e, c⟩ := h; exact ⟨h0, cs, gm a, b, v, e, hk _ (c)⟩
  case unOp op t x =>
    simp only [astep] at h ⊢
    split at h
    · exact hk _ (h)
    · exact hk _ (h)
    · exact hk _ (h)
    · exact h.elim
  case convert s d x =>
    simp only [astep] at h ⊢
    split at h
    · exact hk _ (h)
    · exact hk _ (h)
    · obtain ⟨a, l, b, c⟩ := h; exact ⟨a, l, b, hk _ (c)⟩
    · obtain ⟨a, l, b, c, d⟩ := h; exact ⟨a, l, b, c.imp id (fun ⟨p, cur, x, y⟩ => ⟨p, cur, ga x, y⟩), hk _ (d)⟩
    · obtain ⟨a, b, p, cs, c, d, e⟩ := h; exact ⟨a, b, p, cs, ga c, d, hk _ (e)⟩
    · obtain ⟨a, p, cs, T, c, d, e, f⟩ := h; exact ⟨a, p, cs, T, ga c, gm d, e, hk _ (f)⟩
    · exact h.elim
  case extract x i =>
    simp only [astep] at h ⊢
    cases hc : ρ x <;> rw [hc] at h <;> simp only [] at h ⊢
    obtain ⟨v, a, b⟩ := h; exact ⟨v, a, hk _ (b)⟩
  case nilCheck x =>
    simp only [astep] at h ⊢
    cases hc : ρ x <;> rw [hc] at h <;> simp only [] at h ⊢
    · exact hk _ (h)
    · exact hk _ (h)
  case fieldAddr t x f =>
    simp only [astep] at h ⊢
    cases hd : (lkT τ t).d <;> rw [hd] at h <;> simp only [] at h ⊢
    obtain ⟨o, ft, a, b, c, h⟩ := h
    cases hc : ρ x <;> rw [hc] at h <;> simp only [] at h ⊢
    · obtain ⟨d, e⟩ := h; exact ⟨o, ft, a, b, c, d, hk _ (e)⟩
    · exact ⟨o, ft, a, b, c, hk _ (h)⟩
  case field t x f =>
    simp only [astep] at h ⊢
    split at h
    · obtain ⟨o, ft, a, b, c, e⟩ := h; exact ⟨o, ft, a, b, c, hk _ (e)⟩
    · exact h.elim
  case indexAddr t x i =>
    simp only [astep] at h ⊢
    split at h
    · obtain ⟨a, b, c, v, e, g⟩ := h; exact ⟨a, b, c, v, e, hk _ (g)⟩
    · obtain ⟨a, b, c, o, e, g⟩ := h; exact ⟨a, b, c, o, e, hk _ (g)⟩
    · obtain ⟨a, b, c, o, e, g⟩ := h; exact ⟨a, b, c, o, e, hk _ (g)⟩
    · obtain ⟨a, b, c, cs, m, r, e, g⟩ := h; exact ⟨a, b, c, cs, gm m, r, e, hk _ (g)⟩
    · exact h.elim
  case index t x i =>
    simp only [astep] at h ⊢
    split at h
    · obtain ⟨a, c, b, g⟩ := h; exact ⟨a, c, b, hk _ (g)⟩
    · obtain ⟨a, b, c, e, g⟩ := h; exact ⟨a, b, c, e, hk _ (g)⟩
    · exact h.elim
  case slice t x lo hi mx =>
    simp only [astep] at h ⊢
    split at h
    · obtain ⟨a, b, c, e, r, hr, g⟩ := h; exact ⟨a, b, c, e, r, hr, hk _ (g)⟩
    · obtain ⟨a, b, c, e, f, g, i, r, hr, j⟩ := h; exact ⟨a, b, c, e, f, g, i, r, hr, hk _ (j)⟩
    · obtain ⟨a, b, c, e, f, g, o, n', c', e1, e2, e3, j⟩ := h; exact ⟨a, b, c, e, f, g, o, n', c', e1, e2, e3, hk _ (j)⟩
    · exact h.elim
  case binOp op t x y t' =>
    simp only [astep] at h ⊢
    split at h
    · obtain ⟨a, r, c, h⟩ := h
      cases op <;> simp only [] at h ⊢
      · exact ⟨a, r, c, hk _ (h)⟩
      · exact ⟨a, r, c, hk _ (h)⟩
    · obtain ⟨v, e1, e2⟩ := aBin_det h.2; exact ⟨h.1, e1 _ (hk _ e2)⟩
    · obtain ⟨v, e1, e2⟩ := aBin_det h; exact e1 _ (hk _ e2)
    · obtain ⟨v, e1, e2⟩ := aBin_det h; exact e1 _ (hk _ e2)
    · obtain ⟨rfl, _⟩ := h; simp [det] at hd
    · obtain ⟨a, h⟩ := h
      cases op <;> simp only [] at h ⊢
      · exact ⟨a, fun _ => hk _ (h trivial)⟩
      · exact ⟨a, fun _ => hk _ (h trivial)⟩
    · obtain ⟨a, h⟩ := h
      cases op <;> simp only [] at h ⊢
      · exact ⟨a, fun _ => hk _ (h trivial)⟩
      · exact ⟨a, fun _ => hk _ (h trivial)⟩
    · obtain ⟨a, b, h⟩ := h
      cases op <;> simp only [] at h ⊢
      · exact ⟨a, b, fun _ => hk _ (h trivial)⟩
      · exact ⟨a, b, fun _ => hk _ (h trivial)⟩
    · obtain ⟨a, h⟩ := h
      cases op <;> simp only [] at h ⊢
      · exact ⟨a, fun _ => hk _ (h trivial)⟩
      · exact ⟨a, fun _ => hk _ (h trivial)⟩
    · obtain ⟨a, b, h⟩ := h
      cases op <;> simp only [] at h ⊢
      · exact ⟨a, b, fun _ => hk _ (h trivial)⟩
      · exact ⟨a, b, fun _ => hk _ (h trivial)⟩
    · exact h.elim
  case call c =>
    simp only [astep] at h ⊢
    cases hc : c.callee <;> simp only [det, hc] at hd <;> rw [hc] at h <;> simp only [] at h ⊢
    case builtin b =>
      unfold aBuiltin at h ⊢
      split at h <;> first
        | exact h.elim
        | (exfalso; simp at hd; done)
        | (obtain ⟨a, b⟩ := h; exact ⟨a, hk _ (b)⟩)
        | exact hk _ (h)
    all_goals cases hd

/-- where the last operations stand: ahead of the one that makes a thing anew, behind it, behind the next -/
def MidA (P : Program) (τ : List (TypeId × TI)) (ops : Array Oper) (n : Nat) (lt : List Nat) (S : List En) (listed : Array Bool) (m : Nat) (Em : Env) (Sm : List En) (k : Env → List En → Prop) : Prop :=
  (m = n ∧ (∃ X, Sm.Perm (S ++ X)) ∧ ∃ o, ops[n]? = some o ∧ astep P τ o.op (ev Em) Sm (fun v S' => (∃ X, S'.Perm (S ++ X)) ∧ aops P τ ops.toList (n + 1) (ops.toList.drop (n + 1)) (Em.put o.dst v) S' k)) ∨
  (m = n + 1 ∧ (∃ X, Sm.Perm (S ++ X)) ∧ aops P τ ops.toList m (ops.toList.drop m) Em Sm k) ∨
  (n + 1 < m ∧ (∀ j, j < n → j ∉ lt → listed.getD j false = true) ∧ aops P τ ops.toList m (ops.toList.drop m) Em Sm k)
theorem MidA.fin {P : Program} {τ : List (TypeId × TI)} {ops : Array Oper} {n m : Nat} {lt : List Nat} {S Sm : List En} {listed : Array Bool} {Em : Env} {k : Env → List En → Prop} (h : MidA P τ ops n lt S listed m Em Sm k) (hn : n < ops.size) (hm : m = ops.size) : aops P τ ops.toList m (ops.toList.drop m) Em Sm k := by
  rcases h with ⟨h, _⟩ | ⟨_, _, h⟩ | ⟨_, _, h⟩
  · omega
  · exact h
  · exact h
theorem MidA.head {P : Program} {τ : List (TypeId × TI)} {ops : Array Oper} {n m : Nat} {lt : List Nat} {S Sm : List En} {listed : Array Bool} {Em : Env} {k : Env → List En → Prop} (h : MidA P τ ops n lt S listed m Em Sm k) {i : Nat} (hi : i < n) (hu : listed.getD i false = false) : (∃ X, Sm.Perm (S ++ X)) ∨ i ∈ lt := by
  rcases h with ⟨_, h, _⟩ | ⟨_, h, _⟩ | ⟨_, h, _⟩
  · exact .inl h
  · exact .inl h
  · by_cases hc : i ∈ lt
    · exact .inr hc
    · have := h i hi hc; rw [hu] at this; cases this
theorem getD_set_up {l : Array Bool} {i j : Nat} (h : l.getD j false = true) : (l.setIfInBounds i true).getD j false = true := by
  by_cases hij : i = j
  · subst hij
    have : i < l.size := by
      by_cases hc : i < l.size
      · exact hc
      · simp [Array.getD_eq_getD_getElem?, hc] at h
    simp [Array.getD_eq_getD_getElem?, this]
  · rw [getD_set_ne false hij]; exact h
theorem MidA.set {P : Program} {τ : List (TypeId × TI)} {ops : Array Oper} {n m : Nat} {lt : List Nat} {S Sm : List En} {listed : Array Bool} {Em : Env} {k : Env → List En → Prop} (h : MidA P τ ops n lt S listed m Em Sm k) (i : Nat) : MidA P τ ops n lt S (listed.setIfInBounds i true) m Em Sm k := by
  rcases h with h | h | ⟨h1, h2, h3⟩
  · exact .inl h
  · exact .inr (.inl h)
  · exact .inr (.inr ⟨h1, fun j hj hl => getD_set_up (h2 j hj hl), h3⟩)
theorem MidA.step {P : Program} {τ : List (TypeId × TI)} {ops : Array Oper} {n m : Nat} {late lt : List Nat} {S Sm : List En} {listed : Array Bool} {Em : Env} {k : Env → List En → Prop} (h : MidA P τ ops n lt S listed m Em Sm k) (hf : LFacts ops n late)
    (hsink : ∀ j, j < n → j ∉ lt → (∃ o, ops[n + 1]? = some o ∧ j ∈ deps o) ∨ ∃ i o, i < n ∧ j < i ∧ i ∉ lt ∧ ops[i]? = some o ∧ j ∈ deps o) {o : Oper} (ho : ops[m]? = some o) (hnm : n ≤ m) (hdone : ∀ e ∈ deps o, listed.getD e false = true)
    (hcl : ∀ (i : Nat) (o' : Oper), ops[i]? = some o' → listed.getD i false = true → ∀ e ∈ deps o', listed.getD e false = true) :
    ∃ post : AV → List En → Prop, astep P τ o.op (ev Em) Sm post ∧ ∀ v S', post v S' → MidA P τ ops n lt S (listed.setIfInBounds m true) (m + 1) (Em.put o.dst v) S' k := by
  rcases h with ⟨rfl, _, o', ho', h⟩ | ⟨rfl, hX, h⟩ | ⟨h1, h2, h3⟩
  · rw [ho] at ho'; cases ho'
    exact ⟨_, h, fun v S' hh => .inr (.inl ⟨rfl, hh.1, hh.2⟩)⟩
  · refine ⟨_, aops_one hf.ng ho h, fun v S' hh => .inr (.inr ⟨by omega, fun j hj hl => getD_set_up ?_, hh⟩)⟩
    have : ∀ (d j : Nat), n - j ≤ d → j < n → j ∉ lt → listed.getD j false = true := by
      intro d
      induction d with
      | zero => intro j h1 h2; omega
      | succ d ihd =>
        intro j h1 h2 hjl
        rcases hsink j h2 hjl with ⟨o', ho', hd⟩ | ⟨q, oq, hq, hjq, hql, hoq, hd⟩
        · rw [ho] at ho'; cases ho'; exact hdone j hd
        · exact hcl q oq hoq (ihd q (by omega) hq hql) j hd
    exact this (n - j) j (Nat.le_refl _) hj hl
  · exact ⟨_, aops_one hf.ng ho h3, fun v S' hh => .inr (.inr ⟨by omega, fun j hj hl => getD_set_up (h2 j hj hl), hh⟩)⟩

theorem late_stepA {P : Program} {τ : List (TypeId × TI)} (hτ : AllOk P τ) {rd : Option Nat} {N n m : Nat} {late : List Nat} {ops : Array Oper} {w0 : World} {V : List AV} {E Em : Env} {Sm : List En} (hf : LFacts ops n late) (hV : V.length = n) (hok : ops.toList.all (operOk N) = true)
    {listed : Array Bool} {a : Act} {w : World} {K : Kn} (hs : Late N n m late K ops V E Em listed a) (hS : RelS w0 K Sm w) {j : Nat} {o : Oper} (hj : j < n) (ho : ops[j]? = some o)
    (hp : ∀ v, V[j]? = some v → astep P τ o.op (ev (putAll E (ops.toList.take j) (V.take j))) Sm (fun v' S' => AVle v' v ∧ Sm.Sublist S'))
    (hun : listed.getD j false = false) (hdone : ∀ i ∈ deps o, listed.getD i false = true)
    {Q : Exit → Act → World → Prop} {next : Act → World → Prop} (hnext : ∀ K' a' w', Kle K K' → Late N n m late K' ops V E Em (listed.setIfInBounds j true) a' → RelS w0 K' Sm w' → next a' w') : wpOpIn (Fw rd) 0 P ops Q j next a w := by
  have hjV : j < V.length := by rw [hV]; exact hj
  have hjl : j ∈ late := by
    by_cases hc : j ∈ late
    · exact hc
    · have := hs.nl j hj hc; rw [hun] at this; cases this
  have hokj : operOk N o = true := List.all_eq_true.1 hok o (by simpa using Array.mem_of_getElem? ho)
  have hng := hf.ng j o ho
  have hst := hp V[j] (List.getElem?_eq_getElem hjV)
  have hmeet : ∀ {t : Nat}, t ∈ slotsOf o → Rel K (lk (putAll E (ops.toList.take j) (V.take j)).l t) (a.tmps.getD t undef) := by
    intro t ht
    have h1 := Slots.meet (t := t) hs.slots hf.d0 hV hj ho hun hdone hs.closed (.inl ht)
    have hnt : tailDst ops n t = false := by
      cases hd : tailDst ops n t with
      | false => rfl
      | true =>
        obtain ⟨i, oi, hi, hoi, hdi⟩ := tailDst_iff.1 hd
        exact absurd ht (hf.ld i j oi o t hi hj hjl hoi ho hdi)
    rw [lk_putAll_congr _ _ ⟨strip ops n E E.l, Em.m⟩ E t (by simp only [lk_strip, hnt]; rfl)] at h1
    exact h1
  have hput : ∀ (K' : Kn) (v : Value), Kle K K' → Rel K' V[j] v → Late N n m late K' ops V E Em (listed.setIfInBounds j true) (a.put o.dst v) := by
    intro K' v hK hv
    have hjsz : j < listed.size := by rw [hs.hsz]; have := hf.hn; omega
    have hjt : (listed.setIfInBounds j true).getD j false = true := by simp [Array.getD_eq_getD_getElem?, hjsz]
    have hsl : Slots N n K' ops V ⟨strip ops n E E.l, Em.m⟩ (listed.setIfInBounds j true) (a.put o.dst v) := by
      have hs' := hs.slots.mono hK
      refine ⟨by cases hd : o.dst <;> simp [Act.put, hs.size], by cases hd : o.dst <;> simp [Act.put, hs.defers], ?_, ?_⟩
      · intro i oi vi t hi hl hoi hvi hd
        by_cases hij : j = i
        · subst hij
          rw [ho] at hoi; cases hoi
          rw [List.getElem?_eq_getElem hjV] at hvi; cases hvi
          rw [hd, getD_put hs.size (operOk.dst hokj t hd), if_pos rfl]
          exact hv
        · rw [getD_set_ne false hij] at hl
          have hr := hs'.done i oi vi t hi hl hoi hvi hd
          cases hdj : o.dst with
          | none => exact hr
          | some d =>
            rw [getD_put hs.size (operOk.dst hokj d hdj), if_neg]
            · exact hr
            · intro hdt; subst hdt
              exact hij (hf.ds i j oi o d hi hj hoi ho hd hdj)
      · intro t ht
        have hne : o.dst ≠ some t := ht j o hj hjt ho
        have hr := hs'.todo t (fun i oi hi hl hoi => by
          by_cases hij : j = i
          · subst hij; rw [ho] at hoi; cases hoi; exact hne
          · exact ht i oi hi (by rw [getD_set_ne false hij]; exact hl) hoi)
        cases hdj : o.dst with
        | none => exact hr
        | some d =>
          rw [getD_put hs.size (operOk.dst hokj d hdj), if_neg]
          · exact hr
          · intro hdt; subst hdt; exact hne hdj
    refine ⟨by simp [hs.hsz], ?_, ?_, hs.hnm, hs.hms, ?_, hsl.size, hsl.defers, hsl.done, ?_, ?_, hs.emV⟩
    · intro i hi his
      rw [getD_set_ne false (by omega)]; exact hs.tail i hi his
    · intro i o' ho' hl e he
      by_cases hij : j = i
      · subst hij
        rw [ho] at ho'; cases ho'
        have hej : j ≠ e := by have := hf.back j o ho e he; omega
        rw [getD_set_ne false hej]; exact hdone e he
      · rw [getD_set_ne false hij] at hl
        by_cases hej : j = e
        · subst hej; exact hjt
        · rw [getD_set_ne false hej]; exact hs.closed i o' ho' hl e he
    · intro i hi hil
      by_cases hij : j = i
      · subst hij; exact hjt
      · rw [getD_set_ne false hij]; exact hs.nl i hi hil
    · intro t hnt ht
      have := hsl.todo t ht
      simp only [lk_strip, hnt] at this
      exact this
    · intro t ht
      cases hdj : o.dst with
      | none =>
        refine (hs.rest t (fun i oi hi hl hoi hd => ?_)).mono hK
        by_cases hij : j = i
        · subst hij; rw [ho] at hoi; cases hoi; rw [hdj] at hd; cases hd
        · exact ht i oi hi (by rw [getD_set_ne false hij]; exact hl) hoi hd
      | some d =>
        rw [getD_put hs.size (operOk.dst hokj d hdj)]
        by_cases hdt : d = t
        · subst hdt
          rw [if_pos rfl, hs.emV j o V[j] d hj ho (List.getElem?_eq_getElem hjV) hdj]
          exact hv
        · rw [if_neg hdt]
          refine (hs.rest t (fun i oi hi hl hoi hd => ?_)).mono hK
          by_cases hij : j = i
          · subst hij; rw [ho] at hoi; cases hoi; rw [hdj] at hd; cases hd; exact hdt rfl
          · exact ht i oi hi (by rw [getD_set_ne false hij]; exact hl) hoi hd
  unfold wpOpIn
  simp only [ho]
  have hw : Region.wanted o (yielded ops a.tmps) = true := by simp [Region.wanted, hng]
  simp only [hw, if_true]
  refine ⟨fun _ _ => trivial, ?_⟩
  rw [Oper.semAt_eq _ _ _ (astep_nodefer hst)]
  have hrop : ROp K (ev (putAll E (ops.toList.take j) (V.take j))) a o.op := by
    intro x hx
    cases x with
    | tmp t => exact hmeet (slots_mem hx)
    | const v =>
      simp only [operOk, Bool.and_eq_true] at hokj
      exact rel_ofV v (show opdOk (.const v) = true from List.all_eq_true.1 hokj.2 (.const v) (by simpa using hx))
    | global g => exact .gl g
    | func f => exact .fn (first := []) (cap := []) (vs := []) (us := []) (.func f) rfl (fun i c v hc _ => by simp at hc) rfl (fun i c v hc _ => by simp at hc)
  exact upon_of_rok (astep_ok hτ hst hrop hS) (fun K' av v S' w' h1 h2 h3 h4 => hnext K' _ w' h1 (hput K' v h1 (h4.1 K' v h2)) (h3.sub h4.2))

theorem late_anyA {P : Program} {τ : List (TypeId × TI)} (hτ : AllOk P τ) {rd : Option Nat} {N n : Nat} {late : List Nat} {ops : Array Oper} {w0 : World} {V : List AV} {E : Env} {S : List En} {lt : List Nat} {k : Env → List En → Prop} (hf : LFacts ops n late) (hV : V.length = n) (hok : ops.toList.all (operOk N) = true)
    (hpX : ∀ (j : Nat) (o : Oper) (v : AV), j < n → ops[j]? = some o → V[j]? = some v → ∀ X, astep P τ o.op (ev (putAll E (ops.toList.take j) (V.take j))) (S ++ X) (fun v' S' => AVle v' v ∧ (S ++ X).Sublist S'))
    (hp : ∀ (j : Nat) (o : Oper) (v : AV), j ∈ lt → j < n → ops[j]? = some o → V[j]? = some v → ∀ Sm, astep P τ o.op (ev (putAll E (ops.toList.take j) (V.take j))) Sm (fun v' S' => AVle v' v ∧ Sm.Sublist S'))
    (hlate : ∀ j, j < n → j ∈ late)
    (hsink : ∀ j, j < n → j ∉ lt → (∃ o, ops[n + 1]? = some o ∧ j ∈ deps o) ∨ ∃ i o, i < n ∧ j < i ∧ i ∉ lt ∧ ops[i]? = some o ∧ j ∈ deps o) (K : Kn) :
    ∀ (f m : Nat) (listed : Array Bool) (a : Act) (w : World) (K' : Kn) (Em : Env) (Sm : List En), Kle K K' → unl ops.size listed = f → Late N n m late K' ops V E Em listed a → RelS w0 K' Sm w → MidA P τ ops n lt S listed m Em Sm k →
      wpAnyIn (Fw rd) 0 P .any ops (APost w0 N K fun x E' S' => x = .normal ∧ k E' S') f listed a w := by
  intro f
  induction f with
  | zero =>
    intro m listed a w K' Em Sm hK hu hs hS ht
    have hall : ∀ i, i < ops.size → listed.getD i false = true := by
      intro i hi
      have := List.countP_eq_zero.1 hu i (List.mem_range.2 hi)
      simpa using this
    have hn := hf.hn
    have hm : m = ops.size := by
      have := hs.hms
      by_cases hc : m < ops.size
      · have := hs.tail m hs.hnm hc
        rw [hall m hc] at this; simp at this
      · omega
    refine ⟨?_, ?_⟩
    · apply List.eq_nil_iff_forall_not_mem.2
      intro i hi
      obtain ⟨h1, o, ho, _⟩ := mem_ready.1 hi
      have hlt : i < ops.size := (Array.getElem?_eq_some_iff.1 ho).1
      rw [getD_tf (by rw [hs.hsz]; exact hlt) true false, hall i hlt] at h1
      cases h1
    · have ht := ht.fin hf.hn (by omega)
      rw [List.drop_eq_nil_of_le (by rw [Array.length_toList]; omega)] at ht
      exact ⟨K', Em, Sm, hK, ⟨hs.size, fun t => hs.rest t (fun i o hi hl ho => by rw [hall i (by omega)] at hl; cases hl), hs.defers⟩, hS, rfl, ht⟩
  | succ f ih =>
    intro m listed a w K' Em Sm hK hu hs hS ht
    have hn := hf.hn
    obtain ⟨i0, hi0, hun0⟩ : ∃ i, i < ops.size ∧ listed.getD i false = false := by
      by_cases hc : ∃ i, i < ops.size ∧ listed.getD i false = false
      · exact hc
      · exfalso
        have : unl ops.size listed = 0 := List.countP_eq_zero.2 (fun i hi => by
          cases hl : listed.getD i false with
          | true => simp
          | false => exact absurd ⟨i, List.mem_range.1 hi, hl⟩ hc)
        omega
    have hready : Region.ready .any ops listed ≠ [] := by
      have : ∀ (d i : Nat), i ≤ d → i < ops.size → listed.getD i false = false → Region.ready .any ops listed ≠ [] := by
        intro d
        induction d with
        | zero =>
          intro i hd hi hl
          obtain rfl : i = 0 := by omega
          obtain ⟨o, ho⟩ : ∃ o, ops[0]? = some o := ⟨ops[0], by simp [hi]⟩
          have : 0 ∈ Region.ready .any ops listed := mem_ready.2 ⟨by rw [getD_tf (by rw [hs.hsz]; exact hi) true false]; exact hl, o, ho, fun e he hb => by
            have := hf.back 0 o ho e.on (mem_deps.2 ⟨e, he, hb, rfl⟩); omega⟩
          intro hnil; rw [hnil] at this; simp at this
        | succ d ihd =>
          intro i hd hi hl
          obtain ⟨o, ho⟩ : ∃ o, ops[i]? = some o := ⟨ops[i], by simp [hi]⟩
          by_cases hall : ∀ e ∈ deps o, listed.getD e false = true
          · have : i ∈ Region.ready .any ops listed := mem_ready.2 ⟨by rw [getD_tf (by rw [hs.hsz]; exact hi) true false]; exact hl, o, ho, fun e he hb => hall e.on (mem_deps.2 ⟨e, he, hb, rfl⟩)⟩
            intro hnil; rw [hnil] at this; simp at this
          · obtain ⟨e, he, hle⟩ : ∃ e, e ∈ deps o ∧ listed.getD e false = false := by
              by_cases hc : ∃ e, e ∈ deps o ∧ listed.getD e false = false
              · exact hc
              · exfalso; apply hall; intro e he
                cases hl : listed.getD e false with
                | true => rfl
                | false => exact absurd ⟨e, he, hl⟩ hc
            have := hf.back i o ho e he
            exact ihd e (by omega) (by omega) hle
      exact this i0 i0 (Nat.le_refl _) hi0 hun0
    refine ⟨fun hnil => absurd hnil hready, fun i hi => ?_⟩
    obtain ⟨h1, o, ho, hall⟩ := mem_ready.1 hi
    have hlt : i < ops.size := (Array.getElem?_eq_some_iff.1 ho).1
    have hun : listed.getD i false = false := by rw [getD_tf (by rw [hs.hsz]; exact hlt) false true]; exact h1
    have hdone : ∀ e ∈ deps o, listed.getD e false = true := fun e he => by obtain ⟨ed, hed, hb, rfl⟩ := mem_deps.1 he; exact hall ed hed hb
    have hun2 := unl_set hlt (by rw [hs.hsz]; exact hlt) hun
    by_cases hin : i < n
    · rcases ht.head hin hun with ⟨X, hX⟩ | hlt2
      · refine late_stepA (Sm := S ++ X) hτ hf hV hok hs (hS.perm hX.symm) hin ho (fun v hv => hpX i o v hin ho hv X) hun hdone (fun K2 a' w' hK2 hs2 hS2 => ih m _ a' w' K2 Em Sm (hK.trans hK2) (by omega) hs2 (hS2.perm hX) (ht.set i))
      · exact late_stepA hτ hf hV hok hs hS hin ho (fun v hv => hp i o v hlt2 hin ho hv Sm) hun hdone (fun K2 a' w' hK2 hs2 hS2 => ih m _ a' w' K2 Em Sm (hK.trans hK2) (by omega) hs2 hS2 (ht.set i))
    · -- the next of the last ones
      have him : i = m := by
        have h2 := hs.tail i (by omega) hlt
        rw [hun] at h2
        have h3 : ¬ i < m := by simpa using h2.symm
        by_cases hc : i = m
        · exact hc
        · exfalso
          have hnm := hs.hnm
          have := hdone _ (hf.chain i o (by omega) ho)
          rw [hs.tail (i - 1) (by omega) (by omega)] at this
          simp at this; omega
      subst him
      obtain ⟨post, hst, hpost⟩ := ht.step hf hsink ho hs.hnm hdone hs.closed
      have hoki : operOk N o = true := List.all_eq_true.1 hok o (by simpa using Array.mem_of_getElem? ho)
      have hng := hf.ng i o ho
      have hrop : ROp K' (ev Em) a o.op := by
        intro x hx
        cases x with
        | tmp t =>
          refine hs.rest t (fun j oj hj hl hoj hd => ?_)
          have := hdone j (hf.rd i j o oj t (by omega) hj ho hoj hd (slots_mem hx))
          rw [hl] at this; cases this
        | const v =>
          simp only [operOk, Bool.and_eq_true] at hoki
          exact rel_ofV v (show opdOk (.const v) = true from List.all_eq_true.1 hoki.2 (.const v) (by simpa using hx))
        | global g => exact .gl g
        | func f => exact .fn (first := []) (cap := []) (vs := []) (us := []) (.func f) rfl (fun i c v hc _ => by simp at hc) rfl (fun i c v hc _ => by simp at hc)
      unfold wpOpIn
      simp only [ho]
      have hw : Region.wanted o (yielded ops a.tmps) = true := by simp [Region.wanted, hng]
      simp only [hw, if_true]
      refine ⟨fun _ _ => trivial, ?_⟩
      rw [Oper.semAt_eq _ _ _ (astep_nodefer hst)]
      refine upon_of_rok (astep_ok hτ hst hrop hS) (fun K2 av v S' w' h1 h2 h3 h4 => ih (i + 1) _ _ w' K2 _ S' (hK.trans h1) (by omega) ?_ h3 (hpost _ _ h4))
      have hit : (listed.setIfInBounds i true).getD i false = true := by
        have : i < listed.size := by rw [hs.hsz]; exact hlt
        simp [Array.getD_eq_getD_getElem?, this]
      refine ⟨by simp [hs.hsz], ?_, ?_, by omega, by omega, ?_, by cases hd : o.dst <;> simp [Act.put, hs.size], by cases hd : o.dst <;> simp [Act.put, hs.defers, Env.put], ?_, ?_, ?_, ?_⟩
      · intro q hq hqs
        by_cases hqi : i = q
        · subst hqi; rw [hit]; simp
        · rw [getD_set_ne false hqi, hs.tail q hq hqs]
          by_cases hqm : q < i
          · simp [hqm, show q < i + 1 by omega]
          · simp [hqm, show ¬ q < i + 1 by omega]
      · intro q o' ho' hl e he
        by_cases hij : i = q
        · subst hij
          rw [ho] at ho'; cases ho'
          have hej : i ≠ e := by have := hf.back i o ho e he; omega
          rw [getD_set_ne false hej]; exact hdone e he
        · rw [getD_set_ne false hij] at hl
          by_cases hej : i = e
          · subst hej; exact hit
          · rw [getD_set_ne false hej]; exact hs.closed q o' ho' hl e he
      · intro j hj hjl; rw [getD_set_ne false (by omega)]; exact hs.nl j hj hjl
      · intro j oj vj t hj hl hoj hvj hd
        rw [getD_set_ne false (by omega)] at hl
        have hr := (hs.done j oj vj t hj hl hoj hvj hd).mono h1
        cases hdo : o.dst with
        | none => exact hr
        | some d =>
          rw [getD_put hs.size (operOk.dst hoki d hdo), if_neg]
          · exact hr
          · intro hdt; subst hdt; exact hf.dd i j o oj d (by omega) hj ho hoj hdo hd
      · intro t hnt ht'
        have hne : o.dst ≠ some t := fun hd => by rw [tailDst_iff.2 ⟨i, o, by omega, ho, hd⟩] at hnt; cases hnt
        have hr := (hs.todo t hnt (fun j oj hj hl hoj => ht' j oj hj (by rw [getD_set_ne false (by omega)]; exact hl) hoj)).mono h1
        cases hdo : o.dst with
        | none => exact hr
        | some d =>
          rw [getD_put hs.size (operOk.dst hoki d hdo), if_neg]
          · exact hr
          · intro hdt; subst hdt; exact hne hdo
      · intro t ht'
        have hr := fun (hne : o.dst ≠ some t) => (hs.rest t (fun j oj hj hl hoj => ht' j oj hj (by rw [getD_set_ne false (by omega)]; exact hl) hoj)).mono h1
        cases hdo : o.dst with
        | none => exact hr (by rw [hdo]; simp)
        | some d =>
          rw [getD_put hs.size (operOk.dst hoki d hdo)]
          by_cases hdt : d = t
          · subst hdt
            rw [if_pos rfl, lk_put_same]; exact h2
          · rw [if_neg hdt, lk_put_other _ _ (by simp [hdt])]
            exact hr (by rw [hdo]; simp [hdt])
      · intro j oj vj t hj hoj hvj hd
        rw [lk_put_other _ _ (fun hdo => hf.dd i j o oj t (by omega) hj ho hoj hdo hd)]
        exact hs.emV j oj vj t hj hoj hvj hd

theorem wpAny_weakA {P : Program} {rd : Option Nat} {N : Nat} {ops : Array Oper} {w0 : World} {K : Kn} {k : Kt} {f : Nat} {l : Array Bool} {a : Act} {w : World} (this : wpAnyIn (Fw rd) 0 P .any ops (APost w0 N K fun x E' S' => x = .normal ∧ k .normal E' S') f l a w) : wpAnyIn (Fw rd) 0 P .any ops (APost w0 N K k) f l a w := by
  have key : ∀ (f : Nat) (l : Array Bool) (a : Act) (w : World), wpAnyIn (Fw rd) 0 P .any ops (APost w0 N K fun x E' S' => x = .normal ∧ k .normal E' S') f l a w → wpAnyIn (Fw rd) 0 P .any ops (APost w0 N K k) f l a w := by
    have hpost : ∀ e a w, APost w0 N K (fun x E' S' => x = .normal ∧ k .normal E' S') e a w → APost w0 N K k e a w := by
      rintro e a' w' ⟨K', E', S', h1, h2, h3, rfl, h4⟩
      exact ⟨K', E', S', h1, h2, h3, h4⟩
    intro f
    induction f with
    | zero => exact fun l a w hh => ⟨hh.1, hpost _ _ _ hh.2⟩
    | succ f ih =>
      intro l a w hh
      refine ⟨fun hn => hpost _ _ _ (hh.1 hn), fun i hi => ?_⟩
      have h1 := wpOpIn_mono (fun a w hx => ih _ a w hx) (hh.2 i hi)
      unfold wpOpIn at h1 ⊢
      split at h1
      · exact h1
      · split at h1
        · rename_i hw
          rw [if_pos hw]
          refine ⟨h1.1, ?_⟩
          have h5 := h1.2
          revert h5
          generalize (Oper.semAt _ _ _).run P w = rr
          intro h5
          cases rr with
          | halt x w => cases x <;> first | exact h5.elim | exact hpost _ _ _ (show APost w0 N K _ _ a _ from h5)
          | ok x w =>
            cases x <;> first
              | exact h5.elim
              | exact h5
              | exact ⟨h5.1, CallsIn.mono h5.2 (fun e w'' he => by
                  cases e with
                  | returned v => exact he
                  | panicked c => exact hpost _ _ _ he
                  | outgrown => obtain ⟨a0, w00, hq⟩ := he; exact ⟨a0, w00, hpost _ _ _ hq⟩)⟩
              | exact ⟨h5.1, RowsIn.mono h5.2 (fun _ _ he => he)⟩
              | exact ⟨h5.1, RoundIn.mono h5.2 (fun e w'' he => by
                  cases e with
                  | returned v => exact he
                  | panicked c => exact hpost _ _ _ he
                  | outgrown => obtain ⟨a0, w00, hq⟩ := he; exact ⟨a0, w00, hpost _ _ _ hq⟩)⟩
        · rename_i hw
          rw [if_neg hw]; exact h1
  exact key _ _ _ _ this

/-- the heads, whatever else is owned -/
def aheadsX (P : Program) (τ : List (TypeId × TI)) (late : List Nat) : Nat → List Oper → Env → List En → (Env → Prop) → Prop
  | _, [], E, _, k => k E
  | n, o :: r, E, S, k => (bif memB late n then pureAt2 o.op (ev E) else true) = true ∧ ∃ v, (∀ X, astep P τ o.op (ev E) (S ++ X) (fun v' S' => AVle v' v ∧ (S ++ X).Sublist S')) ∧ aheadsX P τ late (n + 1) r (E.put o.dst v) S k
theorem headsX_of {P : Program} {τ : List (TypeId × TI)} {late : List Nat} {S : List En} {k : Env → Prop} : ∀ (r : List Oper) (n : Nat) (E : Env), aheadsX P τ late n r E S k →
    ∃ V, V.length = r.length ∧ (∀ (j : Nat) (o : Oper) (v : AV), r[j]? = some o → V[j]? = some v → ∀ X, astep P τ o.op (ev (putAll E (r.take j) (V.take j))) (S ++ X) (fun v' S' => AVle v' v ∧ (S ++ X).Sublist S')) ∧
      (∀ (j : Nat) (o : Oper), r[j]? = some o → (n + j) ∈ late → pureAt2 o.op (ev (putAll E (r.take j) (V.take j))) = true) ∧ k (putAll E r V) := by
  intro r
  induction r with
  | nil => exact fun n E h => ⟨[], rfl, (fun j o v h => by simp at h), (fun j o h => by simp at h), h⟩
  | cons o r ih =>
    intro n E h
    obtain ⟨hl, v, hv, hr⟩ := h
    obtain ⟨V, h0, h1, h2, h3⟩ := ih (n + 1) (E.put o.dst v) hr
    refine ⟨v :: V, by simp [h0], fun j oj vj hj hvj => ?_, fun j oj hj hm => ?_, h3⟩
    · cases j with
      | zero =>
        simp only [List.getElem?_cons_zero, Option.some.injEq] at hj hvj
        subst hj; subst hvj
        exact hv
      | succ j => exact h1 j oj vj (by simpa using hj) (by simpa using hvj)
    · cases j with
      | zero =>
        simp only [List.getElem?_cons_zero, Option.some.injEq] at hj
        subst hj
        rw [Nat.add_zero] at hm
        rw [memB_iff.2 hm] at hl
        exact hl
      | succ j => exact h2 j oj (by simpa using hj) (by rw [show n + 1 + j = n + (j + 1) by omega]; exact hm)
theorem det_stepX {P : Program} {τ : List (TypeId × TI)} {op : Op} {ρ : Operand → AV} {S : List En} {F : AV → Prop} (hd : det op = true) (h : astep P τ op ρ S (fun v _ => F v)) :
    ∃ v, (∀ X, astep P τ op ρ (S ++ X) (fun v' S' => AVle v' v ∧ (S ++ X).Sublist S')) ∧ F v := by
  obtain ⟨v, h1, h2⟩ := astep_det hd h
  refine ⟨v, fun X => astep_app (k := fun v' _ => v' = v) hd (h1 _ rfl) (fun v' e => ?_), h2⟩
  subst e
  exact ⟨AVle.refl _, List.Sublist.refl _⟩
/-- the looks -/
def drawAB (ops : Array Oper) (n : Nat) (lt : List Nat) : Bool :=
  lateOk0 ops n (List.range n) &&
  (List.range n).all (fun j => memB lt j || (match ops[n + 1]? with | some o => memB (deps o) j | none => false) ||
    (List.range n).any (fun i => Nat.blt j i && !memB lt i && (match ops[i]? with | some o => memB (deps o) j | none => false)))
theorem AW_drawB {P : Program} {N : Nat} {rd : Option Nat} {E : Env} {S : List En} (S0 : List En) {k : Kt} {τ : List (TypeId × TI)} (hτ : AllOk P τ) (hm : P.follows .mixedOrders = true) (n : Nat) (lt : List Nat) {id : Nat} {ops : Array Oper} {o : Oper}
    (hd : drawAB ops n lt = true) (ho : ops[n]? = some o) (h0 : ∃ X, S.Perm (S0 ++ X))
    (h : aheadsX P τ lt 0 (ops.toList.take n) E S0 (fun E' => astep P τ o.op (ev E') S (fun v S' => (∃ X, S'.Perm (S0 ++ X)) ∧ aops P τ ops.toList (n + 1) (ops.toList.drop (n + 1)) (E'.put o.dst v) S' (fun E' S' => k .normal E' S')))) : AW P N rd (.region id ops true) E S k := by
  unfold AW
  intro hc w0 K a w hE hS
  obtain ⟨hd, hs⟩ := (Bool.and_eq_true _ _).mp hd
  have hf := lfacts_of hd
  have hn := hf.hn
  obtain ⟨V, hV, h1, h2, hk⟩ := headsX_of _ _ _ h
  have hVn : V.length = n := by rw [hV, List.length_take, Array.length_toList]; omega
  have hget : ∀ {j : Nat} {o : Oper}, j < n → ops[j]? = some o → (ops.toList.take n)[j]? = some o := fun hj ho => by
    rw [List.getElem?_take, if_pos hj]; simpa using ho
  have htk : ∀ {j : Nat}, j < n → (ops.toList.take n).take j = ops.toList.take j := fun hj => by rw [List.take_take, Nat.min_eq_left (Nat.le_of_lt hj)]
  have hpX : ∀ (j : Nat) (o : Oper) (v : AV), j < n → ops[j]? = some o → V[j]? = some v → ∀ X, astep P τ o.op (ev (putAll E (ops.toList.take j) (V.take j))) (S0 ++ X) (fun v' S' => AVle v' v ∧ (S0 ++ X).Sublist S') := fun j o v hj ho hv X => by
    have := h1 j o v (hget hj ho) hv X
    rw [htk hj] at this
    exact this
  have hp : ∀ (j : Nat) (o : Oper) (v : AV), j ∈ lt → j < n → ops[j]? = some o → V[j]? = some v → ∀ Sm, astep P τ o.op (ev (putAll E (ops.toList.take j) (V.take j))) Sm (fun v' S' => AVle v' v ∧ Sm.Sublist S') := fun j o v hl hj ho hv Sm => by
    have := h2 j o (hget hj ho) (by rw [Nat.zero_add]; exact hl)
    rw [htk hj] at this
    exact pureAt2_any this (hpX j o v hj ho hv [])
  have hsink : ∀ j, j < n → j ∉ lt → (∃ o, ops[n + 1]? = some o ∧ j ∈ deps o) ∨ ∃ i o, i < n ∧ j < i ∧ i ∉ lt ∧ ops[i]? = some o ∧ j ∈ deps o := by
    intro j hj hl
    have := List.all_eq_true.1 hs j (List.mem_range.2 hj)
    simp only [Bool.or_eq_true] at this
    rcases this with (hh | hh) | hh
    · exact absurd (memB_iff.1 hh) hl
    · cases ho : ops[n + 1]? with
      | none => rw [ho] at hh; cases hh
      | some o => rw [ho] at hh; exact .inl ⟨o, rfl, memB_iff.1 hh⟩
    · obtain ⟨i, hi, hh⟩ := List.any_eq_true.1 hh
      simp only [Bool.and_eq_true] at hh
      cases ho : ops[i]? with
      | none => rw [ho] at hh; cases hh.2
      | some o =>
        rw [ho] at hh
        refine .inr ⟨i, o, List.mem_range.1 hi, Nat.le_of_ble_eq_true hh.1.1, memB_false.1 ?_, ho, memB_iff.1 hh.2⟩
        simpa using hh.1.2
  refine wpIn_region_any hm ?_
  have hu : unl ops.size (Array.replicate ops.size false) = ops.size := by
    unfold unl
    rw [List.countP_eq_length.2 (by intro i hi; rw [getD_replicate_false]; rfl)]; simp
  have hmain := late_anyA hτ (rd := rd) (N := N) (w0 := w0) (k := fun E' S' => k .normal E' S') hf hVn hc hpX hp (fun j hj => List.mem_range.2 hj) hsink K ops.size n (Array.replicate ops.size false) a w.drew K (putAll E (ops.toList.take n) V) S (Kle.refl K) hu
    ⟨by simp, fun i hi his => by rw [getD_replicate_false]; simp; omega, (fun j oj _ hl => by rw [getD_replicate_false] at hl; cases hl), Nat.le_refl _, Nat.le_of_lt hn, fun j hj hl => absurd (List.mem_range.2 hj) hl, hE.size, by rw [putAll_m]; exact hE.defers,
      (fun i o v t _ hl => by rw [getD_replicate_false] at hl; cases hl), fun t _ _ => hE.slot t, fun t ht => ?_, fun i o v t hi ho hv hd => ?_⟩ hS.drew (.inl ⟨rfl, h0, o, ho, hk⟩)
  · exact wpAny_weakA hmain
  · rw [lk_putAll_none]
    · exact hE.slot t
    · intro o2 ho2 hd2
      obtain ⟨q, hq, hqe⟩ := List.mem_iff_getElem.1 ho2
      have hq' : (ops.toList.take n)[q]? = some o2 := by rw [List.getElem?_eq_getElem hq, hqe]
      rw [List.getElem?_take] at hq'
      split at hq'
      · exact ht q o2 (by assumption) (by rw [getD_replicate_false]) (by simpa using hq') hd2
      · cases hq'
  · exact lk_putAll_some _ V E t i o v (by rw [List.getElem?_take, if_pos hi]; simpa using ho) hv hd (fun i2 o2 ho2 hd2 => by
      rw [List.getElem?_take] at ho2
      split at ho2
      · exact hf.ds i i2 o o2 t hi (by assumption) ho (by simpa using ho2) hd hd2
      · cases ho2)
end Go.Proofs.YtgkjbpnmeeibbaaGreatDoor
