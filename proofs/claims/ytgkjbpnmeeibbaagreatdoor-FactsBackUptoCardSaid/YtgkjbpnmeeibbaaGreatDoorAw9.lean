/-
  A region's operations in their order; code; a function's body. Own work.
-/
import Derived.Test.YtgkjbpnmeeibbaaGreatDoorAw8
set_option linter.all false
namespace Go.Aw
open Go.RowKit

def Fw (rd : Option Nat) : Fence := { Fence.wide with round := rd }
theorem fw_room (rd : Option Nat) (n : Nat) : (Fw rd).room n := fun _ h => by simp [Fw, Fence.wide] at h

def gval (ops : List Oper) (E : Env) (j : Nat) : Option AV := ((ops[j]?).bind (·.dst)).map (lk E.l)
def isG (r : List Oper) (n : Nat) : Bool := r.any fun o => match o.guard with
  | some (j, _) => Nat.beq j n
  | none => false
def beqB (a b : Bool) : Bool := bif a then b else !b

def aops (P : Program) (τ : List (TypeId × TI)) (ops : List Oper) : Nat → List Oper → Env → List En → (Env → List En → Prop) → Prop
  | _, [], E, S, k => k E S
  | n, o :: r, E, S, k =>
    match o.guard with
    | none => astep P τ o.op (ev E) S fun v S' =>
        bif isG r n then (match v with
          | .bool b => (b = true → aops P τ ops (n + 1) r (E.put o.dst (.bool true)) S' k) ∧ (b = false → aops P τ ops (n + 1) r (E.put o.dst (.bool false)) S' k)
          | _ => False)
        else aops P τ ops (n + 1) r (E.put o.dst v) S' k
    | some (j, want) => match gval ops E j with
      | some (.bool b) => bif beqB b want then astep P τ o.op (ev E) S fun v S' =>
          bif isG r n then (match v with
            | .bool b => (b = true → aops P τ ops (n + 1) r (E.put o.dst (.bool true)) S' k) ∧ (b = false → aops P τ ops (n + 1) r (E.put o.dst (.bool false)) S' k)
            | _ => False)
          else aops P τ ops (n + 1) r (E.put o.dst v) S' k
        else aops P τ ops (n + 1) r (E.put o.dst (.tup [])) S k
      | some (.tup []) => aops P τ ops (n + 1) r (E.put o.dst (.tup [])) S k
      | _ => False

def operOk (N : Nat) (o : Oper) : Bool := (match o.dst with | some d => Nat.blt d N | none => true) && o.op.operands.toList.all opdOk

theorem operOk.dst {N : Nat} {o : Oper} (h : operOk N o = true) : ∀ i, o.dst = some i → i < N := by
  intro i hi
  simp only [operOk, Bool.and_eq_true, hi] at h
  exact Nat.le_of_ble_eq_true h.1
theorem operOk.rop {N : Nat} {o : Oper} (h : operOk N o = true) {K : Kn} {E : Env} {a : Act} (hE : RelE N K E a) : ROp K (ev E) a o.op := by
  simp only [operOk, Bool.and_eq_true] at h
  intro x hx
  exact hE.ev x (List.all_eq_true.1 h.2 x (by simpa using hx))

/-- what a walk owes behind it -/
def APost (w0 : World) (N : Nat) (K : Kn) (k : Exit → Env → List En → Prop) : Exit → Act → World → Prop :=
  fun x a' w' => ∃ K' E' S', Kle K K' ∧ RelE N K' E' a' ∧ RelS w0 K' S' w' ∧ k x E' S'

theorem APost.le {w0 : World} {N : Nat} {K K' : Kn} (h : Kle K K') {k : Exit → Env → List En → Prop} {x : Exit} {a : Act} {w : World} (hp : APost w0 N K' k x a w) : APost w0 N K k x a w :=
  let ⟨K2, E, S, h1, h2, h3, h4⟩ := hp; ⟨K2, E, S, h.trans h1, h2, h3, h4⟩

/-- from what is owed of a result to the model's own judgement -/
theorem upon_of_rok {P : Program} {rd : Option Nat} {w0 : World} {K : Kn} {k : AV → List En → Prop} {o : Oper} {a : Act} {next : Act → World → Prop} {Q : Exit → Act → World → Prop} {r : Result Next} (h : ROk P w0 K k r)
    (hn : ∀ K' av v S' w', Kle K K' → Rel K' av v → RelS w0 K' S' w' → k av S' → next (a.put o.dst v) w') : o.uponIn (Fw rd) 0 P a next Q r := by
  cases r with
  | halt x w => cases x <;> exact h.elim
  | ok x w =>
    cases x <;> simp only [ROk] at h
    case value v => obtain ⟨K', av, S', h1, h2, h3, h4⟩ := h; exact hn K' av v S' w h1 h2 h3 h4
    case skip => obtain ⟨K', S', h1, h3, h4⟩ := h; exact hn K' .junk undef S' w h1 (.junk _) h3 h4
    case enter f args =>
      refine ⟨fun hc => by simp [Fw, Fence.wide] at hc, ?_⟩
      exact CallsIn.mono h fun e w' ⟨v, K', av, S', he, h1, h2, h3, h4⟩ => by subst he; exact hn K' av v S' w' h1 h2 h3 h4
    case round l f tmps assign body =>
      refine ⟨fun hc => by simp [Fw, Fence.wide] at hc, ?_⟩
      exact RoundIn.mono h fun e w' ⟨v, K', av, S', he, h1, h2, h3, h4⟩ => by subst he; exact hn K' av v S' w' h1 h2 h3 h4

theorem astep_nodefer {P : Program} {τ : List (TypeId × TI)} {op : Op} {ρ : Operand → AV} {S : List En} {k : AV → List En → Prop} (h : astep P τ op ρ S k) : ∀ c, op ≠ .defer c := by
  intro c hc; subst hc; exact h

theorem relE_getD {N : Nat} {K : Kn} {E : Env} {a : Act} (h : RelE N K E a) (d : Nat) : ∀ b, lk E.l d = .bool b → a.tmps[d]? = some (.bool b) := by
  intro b hb
  have := h.slot d
  rw [hb] at this
  rw [Array.getD_eq_getD_getElem?] at this
  cases hx : a.tmps[d]? with
  | none => rw [hx] at this; simp [undef] at this; cases this
  | some v => rw [hx] at this; simp at this; cases this; rfl
theorem relE_undef {N : Nat} {K : Kn} {E : Env} {a : Act} (h : RelE N K E a) (d : Nat) (hb : lk E.l d = .tup []) : ∀ b, a.tmps[d]? ≠ some (.bool b) := by
  intro b hx
  have := h.slot d
  rw [hb, Array.getD_eq_getD_getElem?, hx] at this
  simp at this
  cases this

theorem wanted_of {ops : Array Oper} {N : Nat} {K : Kn} {E : Env} {a : Act} (hE : RelE N K E a) {o : Oper} {j : Nat} {want b : Bool} (hg : o.guard = some (j, want)) (hv : gval ops.toList E j = some (.bool b)) :
    Region.wanted o (yielded ops a.tmps) = beqB b want := by
  simp only [Region.wanted, hg, yielded]
  unfold gval at hv
  rw [Array.getElem?_toList] at hv
  cases hd : (ops[j]?).bind (·.dst) with
  | none => rw [hd] at hv; cases hv
  | some d =>
    rw [hd] at hv
    simp only [Option.map_some, Option.some.injEq] at hv
    simp only [Option.bind_some, relE_getD hE d b hv]
    cases b <;> cases want <;> rfl
theorem wanted_undef {ops : Array Oper} {N : Nat} {K : Kn} {E : Env} {a : Act} (hE : RelE N K E a) {o : Oper} {j : Nat} {want : Bool} (hg : o.guard = some (j, want)) (hv : gval ops.toList E j = some (.tup [])) :
    Region.wanted o (yielded ops a.tmps) = false := by
  simp only [Region.wanted, hg, yielded]
  unfold gval at hv
  rw [Array.getElem?_toList] at hv
  cases hd : (ops[j]?).bind (·.dst) with
  | none => rw [hd] at hv; cases hv
  | some d =>
    rw [hd] at hv
    simp only [Option.map_some, Option.some.injEq] at hv
    simp only [Option.bind_some]
    have := relE_undef hE d hv
    cases hx : a.tmps[d]? with
    | none => rfl
    | some v => cases v <;> first | rfl | exact absurd hx (this _)

theorem opOne {P : Program} {τ : List (TypeId × TI)} (hτ : AllOk P τ) {rd : Option Nat} {N : Nat} {ops : Array Oper} {w0 : World} {o : Oper} (hok : operOk N o = true) {E : Env} {S : List En} {rest : List Nat} {Q : Exit → Act → World → Prop}
    {k : AV → List En → Prop} (hs : astep P τ o.op (ev E) S k) {K : Kn} {a : Act} {w : World} (hE : RelE N K E a) (hS : RelS w0 K S w)
    (hn : ∀ K' av v S' w', Kle K K' → Rel K' av v → RelS w0 K' S' w' → k av S' → wpOpsIn (Fw rd) 0 P ops Q rest (a.put o.dst v) w') : o.wpIn (Fw rd) 0 P a w (wpOpsIn (Fw rd) 0 P ops Q rest) Q := by
  refine ⟨fun _ _ => trivial, ?_⟩
  rw [Oper.semAt_eq _ _ _ (astep_nodefer hs)]
  exact upon_of_rok (astep_ok hτ hs (operOk.rop hok hE) hS) hn

theorem wpOpsIn_post {P : Program} {F : Fence} {ops : Array Oper} {Q Q' : Exit → Act → World → Prop} (hQ : ∀ e a w, Q e a w → Q' e a w) : ∀ (l : List Nat) (a : Act) (w : World), wpOpsIn F 0 P ops Q l a w → wpOpsIn F 0 P ops Q' l a w := by
  intro l
  induction l with
  | nil => intro a w hh; exact hQ _ _ _ hh
  | cons i l ihl =>
    intro a w hh
    rw [wpOpsIn_cons] at hh ⊢
    unfold wpOpIn at hh ⊢
    split at hh
    · exact ihl _ _ hh
    · rename_i o' ho
      split at hh
      · rename_i hw
        rw [if_pos hw]
        refine ⟨hh.1, ?_⟩
        have h5 := hh.2
        generalize (o'.semAt F.round a.eval).run P w = rr at h5 ⊢
        cases rr with
        | halt x w => cases x <;> first | exact h5.elim | exact hQ _ _ _ (show Q _ a _ from h5)
        | ok x w =>
          cases x <;> first
            | exact h5.elim
            | exact ihl _ _ h5
            | exact ⟨h5.1, CallsIn.mono h5.2 (fun e w'' he => by
                cases e with
                | returned v => exact ihl _ _ he
                | panicked c => exact hQ _ _ _ he
                | outgrown => obtain ⟨a0, w00, hq⟩ := he; exact ⟨a0, w00, hQ _ _ _ hq⟩)⟩
            | exact ⟨h5.1, RowsIn.mono h5.2 (fun _ _ he => ihl _ _ he)⟩
            | exact ⟨h5.1, RoundIn.mono h5.2 (fun e w'' he => by
                cases e with
                | returned v => exact ihl _ _ he
                | panicked c => exact hQ _ _ _ he
                | outgrown => obtain ⟨a0, w00, hq⟩ := he; exact ⟨a0, w00, hQ _ _ _ hq⟩)⟩
      · rename_i hw
        rw [if_neg hw]
        exact ⟨hh.1, ihl _ _ hh.2⟩

theorem aops_ok {P : Program} {τ : List (TypeId × TI)} (hτ : AllOk P τ) {rd : Option Nat} {N : Nat} {ops : Array Oper} {w0 : World} {k : Env → List En → Prop} : ∀ (r : List Oper) (n : Nat) (E : Env) (S : List En), ops.toList.drop n = r → (r.all (operOk N)) = true →
    aops P τ ops.toList n r E S k → ∀ (K : Kn) (a : Act) (w : World), RelE N K E a → RelS w0 K S w →
    wpOpsIn (Fw rd) 0 P ops (APost w0 N K fun x E' S' => x = .normal ∧ k E' S') (List.range' n r.length) a w := by
  intro r
  induction r with
  | nil =>
    intro n E S _ _ h K a w hE hS
    exact ⟨K, E, S, Kle.refl K, hE, hS, rfl, h⟩
  | cons o r ih =>
    intro n E S hdrop hok h K a w hE hS
    simp only [List.all_cons, Bool.and_eq_true] at hok
    have hon : ops[n]? = some o := by
      have : (ops.toList.drop n)[0]? = some o := by rw [hdrop]; rfl
      simpa using this
    have hdrop' : ops.toList.drop (n + 1) = r := by
      have := congrArg List.tail hdrop
      simpa using this
    have hdst := operOk.dst hok.1
    -- behind the operation
    have hback : ∀ (K' : Kn) (av : AV) (v : Value) (S' : List En) (w' : World), Kle K K' → Rel K' av v → RelS w0 K' S' w' → aops P τ ops.toList (n + 1) r (E.put o.dst av) S' k →
        wpOpsIn (Fw rd) 0 P ops (APost w0 N K fun x E' S' => x = .normal ∧ k E' S') (List.range' (n + 1) r.length) (a.put o.dst v) w' := by
      intro K' av v S' w' h1 h2 h3 h4
      have := ih (n + 1) _ S' hdrop' hok.2 h4 K' _ w' ((hE.mono h1).put o.dst hdst h2) h3
      exact wpOpsIn_post (fun e a w hq => APost.le h1 hq) _ _ _ this
    have hcont : ∀ (K' : Kn) (av : AV) (v : Value) (S' : List En) (w' : World), Kle K K' → Rel K' av v → RelS w0 K' S' w' →
        (bif isG r n then (match av with
          | .bool b => (b = true → aops P τ ops.toList (n + 1) r (E.put o.dst (.bool true)) S' k) ∧ (b = false → aops P τ ops.toList (n + 1) r (E.put o.dst (.bool false)) S' k)
          | _ => False)
        else aops P τ ops.toList (n + 1) r (E.put o.dst av) S' k) →
        wpOpsIn (Fw rd) 0 P ops (APost w0 N K fun x E' S' => x = .normal ∧ k E' S') (List.range' (n + 1) r.length) (a.put o.dst v) w' := by
      intro K' av v S' w' h1 h2 h3 h4
      cases hg : isG r n with
      | false => rw [hg] at h4; exact hback K' av v S' w' h1 h2 h3 h4
      | true =>
        rw [hg] at h4
        simp only [cond_true] at h4
        cases av <;> simp only [] at h4
        case bool b =>
          cases b with
          | true => exact hback K' _ v S' w' h1 h2 h3 (h4.1 rfl)
          | false => exact hback K' _ v S' w' h1 h2 h3 (h4.2 rfl)
    have hskip : aops P τ ops.toList (n + 1) r (E.put o.dst (.tup [])) S k → wpOpsIn (Fw rd) 0 P ops (APost w0 N K fun x E' S' => x = .normal ∧ k E' S') (List.range' (n + 1) r.length) (a.put o.dst undef) w :=
      fun h4 => hback K (.tup []) undef S w (Kle.refl K) (.tup (vs := []) rfl (fun i c v hc _ => by simp at hc)) hS h4
    rw [List.length_cons, List.range'_succ, wpOpsIn_cons]
    unfold wpOpIn
    simp only [hon]
    simp only [aops] at h
    cases hg : o.guard with
    | none =>
      rw [hg] at h
      simp only [] at h
      have hw : Region.wanted o (yielded ops a.tmps) = true := by simp [Region.wanted, hg]
      simp only [hw, if_true]
      exact opOne hτ hok.1 h hE hS hcont
    | some g =>
      obtain ⟨j, want⟩ := g
      rw [hg] at h
      simp only [] at h
      cases hv : gval ops.toList E j with
      | none => rw [hv] at h; exact h.elim
      | some gv =>
        rw [hv] at h
        cases gv <;> (try simp only [] at h) <;> (try exact (show False from h).elim)
        case bool b =>
          have hw := wanted_of hE hg hv
          cases hb : beqB b want with
          | true =>
            rw [hb] at h hw
            simp only [cond_true] at h
            simp only [hw, if_true]
            exact opOne hτ hok.1 h hE hS hcont
          | false =>
            rw [hb] at h hw
            simp only [cond_false] at h
            simp only [hw, Bool.false_eq_true, if_false]
            exact ⟨fun _ _ => trivial, hskip h⟩
        case tup vs =>
          cases vs with
          | cons _ _ => exact h.elim
          | nil =>
            have hw := wanted_undef hE hg hv
            simp only [hw, Bool.false_eq_true, if_false]
            exact ⟨fun _ _ => trivial, hskip h⟩
end Go.Aw
