/-
  Code, and a function's body. Own work.
-/
import Derived.Test.YtgkjbpnmeeibbaaGreatDoorAw10
set_option linter.all false
namespace Go.Aw
open Go.RowKit

def codeOk (N : Nat) : Code → Bool
  | .region _ ops _ => ops.toList.all (operOk N)
  | .seq a b => codeOk N a && codeOk N b
  | .cond c a b => opdOk c && codeOk N a && codeOk N b
  | .block _ c => codeOk N c
  | .loop c => codeOk N c
  | .rangeFunc f ps a b => opdOk f && ps.toList.all (fun p => Nat.blt p N) && codeOk N a && codeOk N b
  | .scope c => codeOk N c
  | _ => true

abbrev Kt := Exit → Env → List En → Prop

def AW (P : Program) (N : Nat) (rd : Option Nat) (c : Code) (E : Env) (S : List En) (k : Kt) : Prop :=
  codeOk N c = true → ∀ w0 K a w, RelE N K E a → RelS w0 K S w → c.wpIn (Fw rd) 0 P (APost w0 N K k) a w

section
variable {P : Program} {N : Nat} {rd : Option Nat} {E : Env} {S : List En} {k : Kt}

theorem AW.mono {c : Code} {k' : Kt} (h : AW P N rd c E S k) (hk : ∀ x E S, k x E S → k' x E S) : AW P N rd c E S k' :=
  fun hc w0 K a w hE hS => wpIn_mono (h hc w0 K a w hE hS) fun x a w ⟨K', E', S', h1, h2, h3, h4⟩ => ⟨K', E', S', h1, h2, h3, hk _ _ _ h4⟩

/-- what stands after what -/
def kThen (y : Env → List En → Prop) (k : Kt) : Kt := fun x E S => match x with
  | .normal => y E S
  | x => k x E S
def kBlock (id : Nat) (k : Kt) : Kt := fun x E S => match x with
  | .exit i => bif Nat.beq i id then k .normal E S else k (.exit i) E S
  | x => k x E S

theorem stepR_scope {P : Program} {b : Frame} {a : Act} {k : List Item} {cs : List Frame} {w : World} {c : Code} : step P (lone (b.atR a (.code (.scope c) :: k)) cs w) = .next (lone (b.atR a (.code c :: .inScope c :: k)) cs w) :=
  step_lone_go (by simp [stepG, stepG.exec, Frame.atR])
theorem stepR_inScope {P : Program} {b : Frame} {a : Act} {k : List Item} {cs : List Frame} {w : World} {c : Code} : step P (lone (b.atR a (.inScope c :: k)) cs w) = .next (lone (b.atR a k) cs w) :=
  step_lone_go (by simp [stepG, stepG.exec, Frame.atR])
def kScope (k : Kt) : Kt := fun x E S => match x with
  | .goto _ => False
  | x => k x E S
/-- a scope that no jump is made in -/
theorem AW_scope {c : Code} (h : AW P N rd c E S (kScope k)) : AW P N rd (.scope c) E S k := by
  intro hc w0 K a w hE hS
  have h1 := h hc w0 K a w hE hS
  intro b kk cs hro hb hr
  have h0 : (lone (b.atR a (.code (.scope c) :: kk)) cs w).fenced P (Fw rd) := fenced_calm hb hr rfl
  obtain ⟨e, a₁, w₁, ⟨K1, E1, S1, g1, g2, g3, g4⟩, harr⟩ := h1 b (.inScope c :: kk) cs hro hb hr
  cases e with
  | normal => exact ⟨.normal, a₁, w₁, ⟨K1, E1, S1, g1, g2, g3, g4⟩, .head h0 stepR_scope (StepsIn.trans harr (.one (fenced_calm hb hr rfl) stepR_inScope))⟩
  | exit id =>
    have hx : exitTo id (.inScope c :: kk) = exitTo id kk := by simp [exitTo]
    exact ⟨.exit id, a₁, w₁, ⟨K1, E1, S1, g1, g2, g3, g4⟩, fun k' hk => .head h0 stepR_scope (harr.1 k' (by rw [hx]; exact hk)),
      fun hr' hk => let ⟨k₁, e1, e2⟩ := harr.2 hr' (by rw [hx]; exact hk); ⟨k₁, e1, .head h0 stepR_scope e2⟩⟩
  | goto l => exact (show False from g4).elim
  | ret => exact ⟨_, a₁, w₁, ⟨K1, E1, S1, g1, g2, g3, g4⟩, .of_steps (.one h0 stepR_scope) harr⟩
  | panic ch => exact ⟨_, a₁, w₁, ⟨K1, E1, S1, g1, g2, g3, g4⟩, .of_steps (.one h0 stepR_scope) harr⟩
  | outgrown => exact ⟨_, a₁, w₁, ⟨K1, E1, S1, g1, g2, g3, g4⟩, .of_steps (.one h0 stepR_scope) harr⟩
theorem AW_skip (h : k .normal E S) : AW P N rd .skip E S k :=
  fun _ w0 K a w hE hS => wpIn_skip ⟨K, E, S, Kle.refl K, hE, hS, h⟩
theorem AW_label {l : Nat} (h : k .normal E S) : AW P N rd (.label l) E S k :=
  fun _ w0 K a w hE hS => wpIn_label ⟨K, E, S, Kle.refl K, hE, hS, h⟩
theorem AW_exit {id : Nat} (h : k (.exit id) E S) : AW P N rd (.exit id) E S k :=
  fun _ w0 K a w hE hS => wpIn_exit ⟨K, E, S, Kle.refl K, hE, hS, h⟩
theorem AW_goto {l : Nat} (h : k (.goto l) E S) : AW P N rd (.goto l) E S k :=
  fun _ w0 K a w hE hS => wpIn_goto ⟨K, E, S, Kle.refl K, hE, hS, h⟩
theorem AW_ret (h : k .ret E S) : AW P N rd .ret E S k :=
  fun _ w0 K a w hE hS => wpIn_ret ⟨K, E, S, Kle.refl K, hE, hS, h⟩

theorem AW_seq {x y : Code} (h : AW P N rd x E S (kThen (fun E S => AW P N rd y E S k) k)) : AW P N rd (.seq x y) E S k := by
  intro hc w0 K a w hE hS
  simp only [codeOk, Bool.and_eq_true] at hc
  refine wpIn_seq (wpIn_mono (h hc.1 w0 K a w hE hS) ?_)
  rintro e a' w' ⟨K', E', S', h1, h2, h3, h4⟩
  cases e with
  | normal => exact wpIn_mono (h4 hc.2 w0 K' a' w' h2 h3) fun x a w hp => APost.le h1 hp
  | _ => exact ⟨K', E', S', h1, h2, h3, h4⟩

theorem AW_cond {c : Operand} {x y : Code} {b : Bool} (hb : ev E c = .bool b) (ht : b = true → AW P N rd x E S k) (hf : b = false → AW P N rd y E S k) : AW P N rd (.cond c x y) E S k := by
  intro hc w0 K a w hE hS
  simp only [codeOk, Bool.and_eq_true] at hc
  have hv := hE.ev c hc.1.1
  rw [hb] at hv
  generalize hx : a.eval c = v at hv
  cases hv
  cases b with
  | true => exact wpIn_cond_true hx (ht rfl hc.1.2 w0 K a w hE hS)
  | false => exact wpIn_cond_false hx (hf rfl hc.2 w0 K a w hE hS)

theorem AW_block {id : Nat} {c : Code} (h : AW P N rd c E S (kBlock id k)) : AW P N rd (.block id c) E S k := by
  intro hc w0 K a w hE hS
  refine wpIn_block (wpIn_mono (h hc w0 K a w hE hS) ?_)
  rintro e a' w' ⟨K', E', S', h1, h2, h3, h4⟩
  cases e with
  | exit i =>
    simp only [Exit.inBlock]
    simp only [kBlock] at h4
    by_cases hi : i = id
    · subst hi
      rw [if_pos rfl]
      have : Nat.beq i i = true := Nat.beq_refl i
      rw [this] at h4
      exact ⟨K', E', S', h1, h2, h3, h4⟩
    · rw [if_neg hi]
      rw [natBeq_ne hi] at h4
      exact ⟨K', E', S', h1, h2, h3, h4⟩
  | _ => exact ⟨K', E', S', h1, h2, h3, h4⟩

theorem AW_region {τ : List (TypeId × TI)} (hτ : AllOk P τ) {id : Nat} {ops : Array Oper} (h : aops P τ ops.toList 0 ops.toList E S (fun E' S' => k .normal E' S')) : AW P N rd (.region id ops false) E S k := by
  intro hc w0 K a w hE hS
  have := aops_ok hτ (rd := rd) (N := N) (ops := ops) (w0 := w0) ops.toList 0 E S rfl hc h K a w hE hS
  refine wpIn_region (wpOpsIn_post ?_ _ a w (by rw [List.range_eq_range']; simpa using this))
  rintro e a' w' ⟨K', E', S', h1, h2, h3, rfl, h4⟩
  exact ⟨K', E', S', h1, h2, h3, h4⟩

/-- a region that draws: the first n in whatever order -/
theorem AW_draw {τ : List (TypeId × TI)} (hτ : AllOk P τ) (hm : P.follows .mixedOrders = true) (n : Nat) {id : Nat} {ops : Array Oper} (hd : drawOk ops n = true)
    (h : aheads P τ ops.toList 0 (ops.toList.take n) E S (fun E' => aops P τ ops.toList n (ops.toList.drop n) E' S (fun E' S' => k .normal E' S'))) : AW P N rd (.region id ops true) E S k := by
  intro hc w0 K a w hE hS
  have hf := dfacts_of hd
  obtain ⟨V, hV, hk⟩ := heads_of _ _ _ h
  have hVn : V.length = n := by rw [heads_len _ _ _ hV, List.length_take, Array.length_toList]; have := hf.hn; omega
  refine wpIn_region_any hm ?_
  have hS' := hS.drew
  have := draw_any hτ (rd := rd) (N := N) (w0 := w0) hf hVn hc hV hk K (unl ops.size (Array.replicate ops.size false)) (Array.replicate ops.size false) a w.drew K (Kle.refl K)
    ⟨by simp, (fun j oj _ hl => by rw [getD_replicate_false] at hl; cases hl), (fun t h1 h2 => by simp [Array.getD_eq_getD_getElem?, h2])⟩ rfl
    ⟨hE.size, hE.defers, (fun i o v t _ hl => by rw [getD_replicate_false] at hl; cases hl), fun t _ => hE.slot t⟩ hS'
  have hu : unl ops.size (Array.replicate ops.size false) = ops.size := by
    unfold unl
    rw [List.countP_eq_length.2 (by intro i hi; rw [getD_replicate_false]; rfl)]; simp
  rw [hu] at this
  have key : ∀ (f : Nat) (l : Array Bool) (a : Act) (w : World), wpAnyIn (Fw rd) 0 P .any ops (APost w0 N K fun x E' S' => x = .normal ∧ k .normal E' S') f l a w → wpAnyIn (Fw rd) 0 P .any ops (APost w0 N K k) f l a w := by
    have hpost : ∀ e a w, APost w0 N K (fun x E' S' => x = .normal ∧ k .normal E' S') e a w → APost w0 N K k e a w := by
      rintro e a' w' ⟨K', E', S', h1, h2, h3, rfl, h4⟩
      exact ⟨K', E', S', h1, h2, h3, h4⟩
    intro f
    induction f with
    | zero => exact fun l a w hh => ⟨hh.1, hpost _ _ _ hh.2⟩
    | succ f ih =>
      intro l a w hh
      refine ⟨fun hn => hpost _ _ _ (hh.1 hn), fun i hi => ?_⟩
      have h1 := wpOpIn_mono (fun a w hx => ih _ a w hx) (hh.2 i hi)
      unfold wpOpIn at h1 ⊢
      split at h1
      · exact h1
      · split at h1
        · rename_i hw
          rw [if_pos hw]
          refine ⟨h1.1, ?_⟩
          have h5 := h1.2
          revert h5
          generalize (Oper.semAt _ _ _).run P w = rr
          intro h5
          cases rr with
          | halt x w => cases x <;> first | exact h5.elim | exact hpost _ _ _ (show APost w0 N K _ _ a _ from h5)
          | ok x w =>
            cases x <;> first
              | exact h5.elim
              | exact h5
              | exact ⟨h5.1, CallsIn.mono h5.2 (fun e w'' he => by
                  cases e with
                  | returned v => exact he
                  | panicked c => exact hpost _ _ _ he
                  | outgrown => obtain ⟨a0, w00, hq⟩ := he; exact ⟨a0, w00, hpost _ _ _ hq⟩)⟩
              | exact ⟨h5.1, RowsIn.mono h5.2 (fun _ _ he => he)⟩
              | exact ⟨h5.1, RoundIn.mono h5.2 (fun e w'' he => by
                  cases e with
                  | returned v => exact he
                  | panicked c => exact hpost _ _ _ he
                  | outgrown => obtain ⟨a0, w00, hq⟩ := he; exact ⟨a0, w00, hpost _ _ _ hq⟩)⟩
        · rename_i hw
          rw [if_neg hw]; exact h1
  exact key _ _ _ _ this

/-! ### what is known may be forgotten, or said otherwise -/
def Weak (E : Env) (S : List En) (E' : Env) (S' : List En) : Prop :=
  ∀ w0 N K a w, RelE N K E a → RelS w0 K S w → ∃ K', Kle K K' ∧ RelE N K' E' a ∧ RelS w0 K' S' w
theorem AW_weak {c : Code} {E' : Env} {S' : List En} (hw : Weak E S E' S') (h : AW P N rd c E' S' k) : AW P N rd c E S k :=
  fun hc w0 K a w hE hS => let ⟨_, hK, h1, h2⟩ := hw w0 N K a w hE hS; wpIn_mono (h hc w0 _ a w h1 h2) fun _ _ _ hp => APost.le hK hp

/-- an environment of these slots alone -/
def envLe : List (Nat × AV) → Env → Prop
  | [], _ => True
  | p :: r, E => AVle (lk E.l p.1) p.2 ∧ envLe r E
theorem envLe_lk : ∀ (l : List (Nat × AV)) (E : Env), envLe l E → ∀ i, AVle (lk E.l i) (lk l i)
  | [], E, _, i => fun _ _ _ => .junk _
  | (j, v) :: r, E, h, i => by
    simp only [lk]
    by_cases hj : j = i
    · subst hj; rw [Nat.beq_refl j]; exact h.1
    · rw [natBeq_ne hj]; exact envLe_lk r E h.2 i
/-- the same things, or fewer -/
def SLe (S S' : List En) : Prop := ∀ w0 K w, RelS w0 K S w → RelS w0 K S' w
theorem SLe.rfl {S : List En} : SLe S S := fun _ _ _ h => h
theorem SLe.tail {S S' : List En} {e : En} (h : SLe S S') : SLe (e :: S) S' := fun w0 K w hs => h w0 K w hs.tail
theorem SLe.sub {S S' : List En} (h : S'.Sublist S) : SLe S S' := fun _ _ _ hs => hs.sub h
theorem SLe.trans {A B C : List En} (h : SLe A B) (h' : SLe B C) : SLe A C := fun w0 K w hs => h' w0 K w (h w0 K w hs)
theorem SLe.full {S S' : List En} (h : SLe S S') : SLe S (.grow .full :: S') := fun w0 K w hs => (h w0 K w hs).addFull
theorem SLe.cons {S S' : List En} {e : En} (h : SLe S S') (hf : S'.Sublist S) : SLe (e :: S) (e :: S') := SLe.sub (hf.cons_cons e)
theorem weak_of {l : List (Nat × AV)} {m : List Nat} {S' : List En} (h : envLe l E) (hm : m = E.m) (hS : SLe S S') : Weak E S ⟨l, m⟩ S' :=
  fun w0 N K a w hE hS' => ⟨K, Kle.refl K, ⟨hE.size, fun i => envLe_lk l E h i K _ (hE.slot i), by rw [hE.defers, hm]⟩, hS w0 K w hS'⟩
theorem AW_drop {c : Code} {S' : List En} (hS : SLe S S') (h : AW P N rd c E S' k) : AW P N rd c E S k :=
  AW_weak (fun w0 N K a w hE hs => ⟨K, Kle.refl K, hE, hS w0 K w hs⟩) h

theorem AW_loop {c : Code} (I : Nat → Env → List En → Prop) (h0 : ∃ n E' S', Weak E S E' S' ∧ I n E' S')
    (hr : ∀ n E S, I n E S → AW P N rd c E S (kThen (fun E1 S1 => ∃ m E' S', m < n ∧ Weak E1 S1 E' S' ∧ I m E' S') k)) : AW P N rd (.loop c) E S k := by
  intro hc w0 K a w hE hS
  obtain ⟨n0, E0, S0, hw0, hi0⟩ := h0
  obtain ⟨K00, hK00, hE0, hS0⟩ := hw0 w0 N K a w hE hS
  have key : ∀ n K' E S a w, Kle K K' → I n E S → RelE N K' E a → RelS w0 K' S w →
      ∀ (b : Frame) (kk : List Item) (cs : List Frame), b.roundOf = (Fw rd).round →
        ∃ e a' w', APost w0 N K k e a' w' ∧ ArrivesIn (Machine.fenced P (Fw rd)) P (lone (b.atR a (.code c :: .inLoop c :: kk)) cs w) b kk cs e a' w' := by
    intro n
    induction n using Nat.strongRecOn with
    | _ n ih =>
      intro K' E S a w hK hI hE hS b kk cs hro
      obtain ⟨e, a₁, w₁, ⟨K1, E1, S1, h1, h2, h3, h4⟩, harr⟩ := hr n E S hI hc w0 K' a w hE hS b (.inLoop c :: kk) cs hro trivial (fw_room _ _)
      cases e with
      | normal =>
        obtain ⟨m, E2, S2, hm, hw2, hi2⟩ := h4
        obtain ⟨K2, hK2, hE2, hS2⟩ := hw2 w0 N K1 a₁ w₁ h2 h3
        obtain ⟨e₂, a₂, w₂, hq₂, harr₂⟩ := ih m hm K2 E2 S2 a₁ w₁ ((hK.trans h1).trans hK2) hi2 hE2 hS2 b kk cs hro
        exact ⟨e₂, a₂, w₂, hq₂, .of_steps (StepsIn.trans harr (.one (fenced_calm (n := 0) trivial (fw_room _ _) rfl) stepR_inLoop)) harr₂⟩
      | exit id => exact ⟨_, a₁, w₁, ⟨K1, E1, S1, hK.trans h1, h2, h3, h4⟩, .pass (x := .inLoop c) rfl (fun _ _ => .inl (by simp)) harr⟩
      | goto l => exact ⟨_, a₁, w₁, ⟨K1, E1, S1, hK.trans h1, h2, h3, h4⟩, .pass (x := .inLoop c) rfl (fun _ _ => .inl (by simp)) harr⟩
      | ret => exact ⟨_, a₁, w₁, ⟨K1, E1, S1, hK.trans h1, h2, h3, h4⟩, .pass (x := .inLoop c) rfl (fun _ _ => .inl (by simp)) harr⟩
      | panic ch => exact ⟨_, a₁, w₁, ⟨K1, E1, S1, hK.trans h1, h2, h3, h4⟩, .pass (x := .inLoop c) rfl (fun _ _ => .inl (by simp)) harr⟩
      | outgrown => exact ⟨_, a₁, w₁, ⟨K1, E1, S1, hK.trans h1, h2, h3, h4⟩, .pass (x := .inLoop c) rfl (fun _ _ => .inl (by simp)) harr⟩
  intro b kk cs hro hb hrm
  obtain ⟨e, a', w', hq, harr⟩ := key n0 K00 E0 S0 a w hK00 hi0 hE0 hS0 b kk cs hro
  exact ⟨e, a', w', hq, .of_steps (.one (fenced_calm hb hrm rfl) stepR_loop) harr⟩
end

/-! ### a body -/
def envOf : Nat → List AV → List (Nat × AV)
  | _, [] => []
  | n, v :: r => (n, v) :: envOf (n + 1) r

theorem lk_envOf : ∀ (vs : List AV) (n i : Nat), lk (envOf n vs) i = if n ≤ i then (vs[i - n]?).getD .junk else .junk
  | [], n, i => by simp [envOf, lk]
  | v :: r, n, i => by
    simp only [envOf, lk]
    by_cases h : n = i
    · subst h; rw [Nat.beq_refl n]; simp
    · rw [natBeq_ne h]
      simp only [cond_false]
      rw [lk_envOf r (n + 1) i]
      by_cases h1 : n + 1 ≤ i
      · rw [if_pos h1, if_pos (by omega)]
        rw [show i - n = (i - (n + 1)) + 1 by omega, List.getElem?_cons_succ]
      · rw [if_neg h1, if_neg (by omega)]

/-- what a function hands back -/
def retVals (τ : List (TypeId × TI)) : List ResultVar → Env → List En → (List AV → Prop) → Prop
  | [], _, _, k => k []
  | .tmp t :: r, E, S, k => retVals τ r E S (fun vs => k (lk E.l t :: vs))
  | .cell a t :: r, E, S, k => (lkT τ t).d.known = true ∧ match lk E.l a with
    | .ptr b off => ∃ (p : Nat) (cs : List AV), S[p]? = some (En.cells b cs) ∧ (1 ≤ (lkT τ t).sz ∧ (lkT τ t).sz ≤ (cs.drop off).length) ∧ retVals τ r E S (fun vs => k (aLoad (lkT τ t) (cs.drop off) :: vs))
    | _ => False
def retJoin : List AV → AV
  | [v] => v
  | vs => .tup vs
def retOk (τ : List (TypeId × TI)) (rs : List ResultVar) (E : Env) (S : List En) (k : AV → List En → Prop) : Prop :=
  retVals τ rs E S (fun vs => k (retJoin vs) S)

def kLe (k : AV → List En → Prop) : AV → List En → Prop := fun v S => ∃ v' S', AVle v v' ∧ (∀ w0 K w, RelS w0 K S w → RelS w0 K S' w) ∧ k v' S'
/-- the marks of loops over functions that a function leaves with -/
def unmarks : List Nat → List En → (List En → Prop) → Prop
  | [], S, k => k S
  | d :: m, S, k => ∃ p, S[p]? = some (.obj d (.deferred (some []))) ∧ unmarks m (S.eraseIdx p) k
def bodyK (τ : List (TypeId × TI)) (rs : List ResultVar) (k : AV → List En → Prop) : Kt := fun x E S => match x with
  | .normal => unmarks E.m S fun S => retOk τ rs E S (kLe k)
  | .ret => unmarks E.m S fun S => retOk τ rs E S (kLe k)
  | _ => False

def resRead (tmps : Array Value) : ResultVar → Sem Value
  | .tmp t => pure (tmps.getD t undef)
  | .cell a t => do loadVar t (← asAddr (tmps.getD a undef))

theorem retVals_run {P : Program} {τ : List (TypeId × TI)} (hτ : AllOk P τ) {w0 : World} {N : Nat} {K : Kn} {E : Env} {S : List En} {a : Act} {w : World} (hE : RelE N K E a) (hS : RelS w0 K S w) : ∀ (rs : List ResultVar) (k : List AV → Prop), retVals τ rs E S k →
    ∃ vs avs, (rs.mapM (resRead a.tmps)).run P w = .ok vs w ∧ RelL K avs vs ∧ k avs
  | [], k, h => ⟨[], [], rfl, RelL.nil, h⟩
  | .tmp t :: r, k, h => by
    obtain ⟨vs, avs, h1, h2, h3⟩ := retVals_run hτ hE hS r _ h
    refine ⟨a.tmps.getD t undef :: vs, _, ?_, RelL.cons (hE.slot t) h2, h3⟩
    rw [List.mapM_cons]
    simp only [resRead]
    rw [run_bind_ok (Sem.run_pure P w _), run_bind_ok h1]; rfl
  | .cell c t :: r, k, h => by
    obtain ⟨hk, h⟩ := h
    have hv := hE.slot c
    cases hlk : lk E.l c <;> rw [hlk] at h hv <;> simp only [] at h
    case ptr b off =>
      obtain ⟨p, cs, hp, hs, h⟩ := h
      obtain ⟨vs, avs, h1, h2, h3⟩ := retVals_run hτ hE hS r _ h
      obtain ⟨x, e1, e2⟩ := run_load_ptr (lkT_ok hτ t (TD.known_ne hk)) hk hS hp hv hs
      refine ⟨x :: vs, _, ?_, RelL.cons e2 h2, h3⟩
      generalize hpv : a.tmps.getD c undef = pv at hv e1
      cases hv
      rw [List.mapM_cons]
      have e3 : (resRead a.tmps (.cell c t)).run P w = .ok x w := by
        simp only [resRead]
        rw [hpv]
        exact e1
      rw [run_bind_ok e3, run_bind_ok h1]; rfl

theorem ret_run {P : Program} {τ : List (TypeId × TI)} (hτ : AllOk P τ) {w0 : World} {fn : Func} {rs : List ResultVar} (hr : fn.results = rs.toArray) {N : Nat} {K : Kn} {E : Env} {S : List En} {k : AV → List En → Prop} {a : Act} {w : World} (hE : RelE N K E a) (hS : RelS w0 K S w) (h : retOk τ rs E S k) :
    ∃ v av, (results fn a.tmps).run P w = .ok v w ∧ Rel K av v ∧ k av S := by
  obtain ⟨vs, avs, h1, h2, h3⟩ := retVals_run hτ hE hS rs _ h
  have e : (results fn a.tmps).run P w = .ok (if h : vs.toArray.size = 1 then vs.toArray[0] else .tuple vs.toArray) w := by
    have e1 : (fn.results.mapM (resRead a.tmps)).run P w = .ok vs.toArray w := by
      rw [hr, List.mapM_toArray]
      simp [h1]
    show ((do let vs ← fn.results.mapM (resRead a.tmps); pure (if h : vs.size = 1 then vs[0] else .tuple vs) : Sem Value)).run P w = _
    rw [run_bind_ok e1]; rfl
  refine ⟨_, _, e, ?_, h3⟩
  match vs, avs, h2 with
  | [], avs, h2 =>
    have : avs = [] := by have := h2.1; simpa using this
    subst this
    exact .tup (vs := []) rfl (fun i c v hc _ => by simp at hc)
  | [v], avs, h2 =>
    obtain ⟨av, rfl⟩ : ∃ av, avs = [av] := by
      have := h2.1
      match avs, this with
      | [av], _ => exact ⟨av, rfl⟩
    exact h2.2 0 _ _ rfl rfl
  | v :: u :: r, avs, h2 =>
    have hl := h2.1
    match avs, hl with
    | x :: y :: t, _ =>
      simp only [retJoin]
      rw [dif_neg (by simp)]
      exact .tup h2.1 h2.2

theorem RelS.unobj {w0 w : World} {K : Kn} {S : List En} {p d : Nat} {o : Obj} (h : RelS w0 K S w) (hp : S[p]? = some (.obj d o)) (o' : Obj) (ho : isCells o' = false) : RelS w0 K (S.eraseIdx p) (w.putObj d o') := by
  obtain ⟨hB, hK, hh, hoc⟩ := h.ents _ (List.mem_of_getElem? hp)
  have hd : d < w.heap.size := (Array.getElem?_eq_some_iff.1 hh).1
  have := h.turn (w' := w.putObj d o') hp (b := d) rfl (Kle.refl K) (fun _ _ => rfl) (fun c hc => World.putObj_heap_other hc) (by simp) rfl rfl rfl (fun i v hv => by rw [hK] at hv; simp at hv) (fun c t fr hc => by rw [hh] at hc; cases hc; cases hoc) (.inl rfl)
    (e' := .obj d o') ⟨hB, hK, World.putObj_heap_same hd, ho⟩
  have e : (S.set p (.obj d o')).eraseIdx p = S.eraseIdx p := by
    apply List.ext_getElem?
    intro i
    rw [List.getElem?_eraseIdx, List.getElem?_eraseIdx]
    split
    · rw [List.getElem?_set_ne (by omega)]
    · rw [List.getElem?_set_ne (by omega)]
  have h2 := this.sub (List.eraseIdx_sublist _ p)
  rw [e] at h2
  exact h2
theorem leaves_marks {P : Program} {τ : List (TypeId × TI)} (hτ : AllOk P τ) {w0 : World} {fn : Func} {rs : List ResultVar} (hr : fn.results = rs.toArray) {N : Nat} {K0 K : Kn} (hK : Kle K0 K) {E : Env} {k : AV → List En → Prop} {a : Act} (hE : RelE N K E a) : ∀ (m : List Nat) (S : List En) (w : World), RelS w0 K S w →
    unmarks m S (fun S => retOk τ rs E S (kLe k)) → LeavesInM Fence.wide 0 P fn a.tmps (fun e w' => ∃ v K' av S', e = .returned v ∧ Kle K0 K' ∧ Rel K' av v ∧ RelS w0 K' S' w' ∧ k av S') (m.map markOf) .returning w
  | [], S, w, hS, h => by
    obtain ⟨v, av, e1, e2, av', S2, e4, e5, e3⟩ := ret_run hτ hr hE hS h
    exact ⟨v, e1, v, K, av', S2, rfl, hK, e4 K _ e2, e5 _ _ _ hS, e3⟩
  | d :: m, S, w, hS, h => by
    obtain ⟨p, hp, h⟩ := h
    obtain ⟨_, _, hh, _⟩ := hS.ents _ (List.mem_of_getElem? hp)
    refine ⟨by simp, .inl ⟨d, _, rfl, run_takeDeferred hh, ?_⟩⟩
    exact leaves_marks hτ hr hK hE m _ _ (hS.unobj hp _ rfl) h
theorem ACall_body {P : Program} {τ : List (TypeId × TI)} (hτ : AllOk P τ) {f : FuncId} {fn : Func} {c : Code} {rs : List ResultVar} {N : Nat} (hf : P.funcs[f]? = some fn) (hb : fn.body = some c) (hN : fn.ntmps = N) (hrs : fn.results = rs.toArray) (hok : codeOk N c = true) {args : List AV} {S : List En} {k : AV → List En → Prop}
    (hargs : args.length ≤ N) (h : AW P N none c ⟨envOf 0 args, []⟩ S (bodyK τ rs k)) : ACall P f args S k := by
  unfold ACall
  intro w0 K w vs hv hS
  refine callsIn_of_wp_marks hf hb trivial ?_ rfl
  have hE : RelE N K ⟨envOf 0 args, []⟩ { tmps := vs.toArray ++ Array.replicate (fn.ntmps - vs.toArray.size) undef, defers := [] } := by
    refine ⟨by simp [hN, ← hv.1]; omega, fun i => ?_, rfl⟩
    rw [lk_envOf, if_pos (Nat.zero_le i), Nat.sub_zero]
    cases ha : args[i]? with
    | none => exact .junk _
    | some a =>
      obtain ⟨x, hx, hr⟩ := hv.get ha
      have hi : i < vs.length := (List.getElem?_eq_some_iff.1 hx).1
      have : (vs.toArray ++ Array.replicate (fn.ntmps - vs.toArray.size) undef).getD i undef = x := by
        rw [Array.getD_eq_getD_getElem?, Array.getElem?_append_left (by simpa using hi)]
        simp [hx]
      simp only [Option.getD_some]
      rw [this]; exact hr
  refine wpIn_mono (h hok w0 K _ w hE hS) ?_
  rintro x a' w' ⟨K', E', S', h1, h2, h3, h4⟩
  have fin : unmarks E'.m S' (fun S => retOk τ rs E' S (kLe k)) → LeavesInM Fence.wide 0 P fn a'.tmps (fun e w' => ∃ v K' av S', e = .returned v ∧ Kle K K' ∧ Rel K' av v ∧ RelS w0 K' S' w' ∧ k av S') a'.defers .returning w' := by
    intro hr
    rw [h2.defers]
    exact leaves_marks hτ hrs h1 h2 _ _ _ h3 hr
  cases x with
  | normal => exact fin h4
  | ret => exact fin h4
  | _ => exact h4.elim
/-! ### what stands for something is within bounds -/
def Sat (a : AV) : Prop := ∃ K v, Rel K a v
theorem Sat.int {q : IntKind} {n : Int} (h : Sat (.int q n)) : q.has n := by
  obtain ⟨K, v, h⟩ := h; cases h; assumption
theorem Sat.str {s : List UInt8} (h : Sat (.str s)) : s.length ≤ 9223372036854775807 := by
  obtain ⟨K, v, h⟩ := h; cases h; assumption
theorem Sat.sl {sz : Nat} {es : List AV} {t : Tk} (h : Sat (.sl sz es t)) : es.length ≤ 9223372036854775807 := by
  show es.length ≤ maxLen
  obtain ⟨K, v, h⟩ := h
  rcases sl_cases h with ⟨a0, _, rfl, _⟩ | ⟨b, o, c, vs, ha, _⟩
  · simp
  · exact Nat.le_trans ha.hcap ha.hmax
theorem Sat.msl {b off n cap : Nat} (h : Sat (.msl b off n cap)) : n ≤ cap ∧ cap ≤ 9223372036854775807 := by
  show n ≤ cap ∧ cap ≤ maxLen
  obtain ⟨K, v, h⟩ := h
  cases h with
  | mslnil => simp
  | msl _ _ _ _ h1 h2 _ => exact ⟨h1, h2⟩
theorem Sat.flat {sz : Nat} {es : List AV} {t : Tk} (h : Sat (.sl sz es t)) {c : AV} (hc : c ∈ flat es) : Sat c := by
  obtain ⟨K, v, h⟩ := h
  rcases sl_cases h with ⟨a0, _, rfl, _⟩ | ⟨b, o, cc, vs, ha, _⟩
  · simp [Aw.flat] at hc
  · obtain ⟨i, hi, rfl⟩ := List.mem_iff_getElem.1 hc
    obtain ⟨u, _, hu⟩ := ha.rel.get (List.getElem?_eq_getElem hi)
    exact ⟨K, u, hu⟩
theorem Sat.agg {cs : List AV} (h : Sat (.agg cs)) {c : AV} (hc : c ∈ cs) : Sat c := by
  obtain ⟨K, v, h⟩ := h
  cases h with
  | @agg _ vs h1 hl h =>
    obtain ⟨i, hi, rfl⟩ := List.mem_iff_getElem.1 hc
    exact ⟨K, vs[i]'(hl ▸ hi), h i _ _ (List.getElem?_eq_getElem hi) (List.getElem?_eq_getElem (hl ▸ hi))⟩
theorem Sat.ifc {t : TypeId} {x : AV} (h : Sat (.ifc t x)) : Sat x := by
  obtain ⟨K, v, h⟩ := h; cases h with | ifc _ h => exact ⟨K, _, h⟩

theorem ACall_sat {P : Program} {f : FuncId} {args : List AV} {S : List En} {k : AV → List En → Prop} (h : (∀ a ∈ args, Sat a) → ACall P f args S k) : ACall P f args S k := by
  unfold ACall at h ⊢
  intro w0 K w vs hv hS
  refine h (fun a ha => ?_) w0 K w vs hv hS
  obtain ⟨i, hi, rfl⟩ := List.mem_iff_getElem.1 ha
  obtain ⟨u, _, hu⟩ := hv.get (List.getElem?_eq_getElem hi)
  exact ⟨K, u, hu⟩

/-! ### forgetting how a slice ends; a mutable block that is mutable no more -/
theorem AVle.tk {sz : Nat} {es : List AV} {t : Tk} : AVle (.sl sz es t) (.sl sz es .no) := by
  intro K v h
  rcases sl_cases h with ⟨a0, rfl, rfl, _⟩ | ⟨b, o, c, vs, ha, _⟩
  · exact .slnil _ _ _ trivial
  · rw [ha.eq]; exact .sl ha.hcap ha.hmax ha.szs ha.one ha.rel.1 ha.rel.2 ha.known trivial
theorem AVle.nil {sz sz' : Nat} {t : Tk} : AVle (.sl sz [] t) (.sl sz' [] .no) := by
  intro K v h
  rcases sl_cases h with ⟨a0, rfl, _, _⟩ | ⟨b, o, c, vs, ha, _⟩
  · exact .slnil _ _ _ trivial
  · rw [ha.eq]; exact .sl (es := []) ha.hcap ha.hmax (by simp) (by simp [Aw.flat]) ha.rel.1 ha.rel.2 ha.known trivial
theorem AVle.nilFull {sz sz' : Nat} : AVle (.sl sz [] .full) (.sl sz' [] .full) := by
  intro K v h
  rcases sl_cases h with ⟨a0, rfl, _, _⟩ | ⟨b, o, c, vs, ha, ht⟩
  · exact .slnil _ _ _ trivial
  · rw [ha.eq]; exact .sl (es := []) ha.hcap ha.hmax (by simp) (by simp [Aw.flat]) ha.rel.1 ha.rel.2 ha.known ht
/-- the same, part by part -/
theorem AVle.slMap {sz : Nat} {es es' : List AV} {t : Tk} (hl : es.length = es'.length) (h : ∀ (i : Nat) (a b : AV), es[i]? = some a → es'[i]? = some b → AVle a b ∧ a.one = true ∧ b.one = true) : AVle (.sl sz es t) (.sl sz es' t) := by
  intro K v hv
  have hc : ∀ l : List AV, (∀ a ∈ l, a.one = true) → flat l = l := by
    intro l
    induction l with
    | nil => intro _; rfl
    | cons a l ih =>
      intro h
      have h1 : a.cells = [a] := by have := h a (by simp); cases a <;> simp_all [AV.one, AV.cells]
      rw [Aw.flat, List.flatMap_cons, h1]
      exact congrArg (a :: ·) (ih fun x hx => h x (by simp [hx]))
  have h1 : ∀ a ∈ es, a.one = true := by
    intro a ha
    obtain ⟨i, hi, rfl⟩ := List.mem_iff_getElem.1 ha
    exact (h i _ _ (List.getElem?_eq_getElem hi) (List.getElem?_eq_getElem (hl ▸ hi))).2.1
  have h2 : ∀ a ∈ es', a.one = true := by
    intro a ha
    obtain ⟨i, hi, rfl⟩ := List.mem_iff_getElem.1 ha
    exact (h i _ _ (List.getElem?_eq_getElem (hl ▸ hi)) (List.getElem?_eq_getElem hi)).2.2
  have e1 := hc es h1
  have e2 := hc es' h2
  rcases sl_cases hv with ⟨a0, rfl, rfl, ht⟩ | ⟨b, o, c, vs, ha, ht⟩
  · have : es' = [] := by simpa using hl.symm
    subst this; exact .slnil _ _ _ ht
  · rw [ha.eq, hl]
    have hr := ha.rel
    rw [e1] at hr
    refine .sl (by rw [← hl]; exact ha.hcap) ha.hmax (fun e he => ?_) (by rw [e2]; exact h2) (by rw [e2, ← hl]; exact hr.1) (fun i c v hc' hv' => ?_) ha.known (by rw [← hl]; exact ht)
    · have g1 : e.cells = [e] := by have := h2 e he; cases e <;> simp_all [AV.one, AV.cells]
      have hne : es ≠ [] := by intro h0; rw [h0] at hl; have : es' = [] := by simpa using hl.symm
                               rw [this] at he; simp at he
      obtain ⟨x, hx⟩ : ∃ x, x ∈ es := by cases es with
        | nil => exact absurd rfl hne
        | cons x _ => exact ⟨x, by simp⟩
      have g2 := ha.szs x hx
      have g3 : x.cells = [x] := by have := h1 x hx; cases x <;> simp_all [AV.one, AV.cells]
      rw [g1]; rw [g3] at g2; exact g2
    · rw [e2] at hc'
      have hi : i < es.length := by rw [hl]; exact (List.getElem?_eq_some_iff.1 hc').1
      exact (h i _ _ (List.getElem?_eq_getElem hi) hc').1 K v (hr.2 i _ v (List.getElem?_eq_getElem hi) hv')

theorem AVle.nilMsl {sz b off : Nat} : AVle (.sl sz [] .full) (.msl b off 0 0) := by
  intro K v h
  rcases sl_cases h with ⟨a0, rfl, _, _⟩ | ⟨b', o, c, vs, ha, ht⟩
  · exact .mslnil _ _ _
  · simp only [TkOk] at ht
    rw [ha.eq]; subst ht; exact .msl _ _ _ _ (by simp) (by simp) (.inr (by simp))
theorem RelS.freeze {w0 w : World} {K : Kn} {S : List En} {p b : Nat} {cs : List AV} (h : RelS w0 K S w) (hp : S[p]? = some (.cells b cs)) :
    ∃ K', Kle K K' ∧ RelS w0 K' (S.eraseIdx p) w ∧ ∃ vs, K' b = vs ∧ RelL K' cs vs ∧ ∀ c ∈ cs, c.one = true := by
  obtain ⟨hB, hK, h1, vs, T, hh, hr⟩ := h.ents _ (List.mem_of_getElem? hp)
  have hle : Kle K (K.put b vs.toList) := Kn.put_le (by rw [hK]; intro i v hv; simp at hv)
  refine ⟨_, hle, ?_, vs.toList, Kn.put_same _ _ _, hr.mono hle, h1⟩
  have := h.turn (e' := .grow .full) hp (b := b) rfl hle (fun c hc => Kn.put_other _ _ hc) (fun _ _ => rfl) (Nat.le_refl _) rfl rfl rfl (fun i v hv => by
    rw [Kn.put_same] at hv; rw [cell_of_heap hh]; simpa using hv) (fun c t fr hc => ⟨c, fr, hc⟩) (.inr rfl) trivial
  have h2 := this.perm (set_perm hp).symm
  exact h2.tail
theorem AVle_frozen {K' : Kn} {b : Nat} {vs : List Value} {cs es : List AV} (hK : K' b = vs) (hr : RelL K' cs vs) (h1 : ∀ c ∈ cs, c.one = true) {off n cap sz : Nat} (hn : es.length = n) (hsz : ∀ e ∈ es, e.cells.length = sz)
    (hf : flat es = (cs.drop off).take (n * sz)) {v : Value} (hv : Rel K' (.msl b off n cap) v) : Rel K' (.sl sz es .no) v := by
  have hlen := flat_take hsz
  cases hv with
  | mslnil =>
    have : es = [] := by simpa using hn
    subst this; exact .slnil _ _ _ trivial
  | @msl _ _ _ _ b' o' hle hmax ho =>
    subst hn
    rcases ho with ⟨rfl, rfl⟩ | ho
    · refine .sl (vs := (vs.drop o').take (es.length * sz)) hle hmax hsz (fun c hc => ?_) ?_ ?_ (fun i v hv => ?_) trivial
      · rw [hf] at hc; exact h1 c (List.mem_of_mem_drop (List.mem_of_mem_take hc))
      · rw [hf]; exact ((hr.drop o').take _).1
      · rw [hf]; exact ((hr.drop o').take _).2
      · rw [hK]
        rw [List.getElem?_take] at hv
        split at hv
        · rw [List.getElem?_drop] at hv; exact hv
        · cases hv
    · have : es = [] := by have : es.length = 0 := by omega
                           simpa using this
      subst this
      exact .sl (vs := []) hle hmax (by simp) (by simp [Aw.flat]) rfl (fun i c v hc _ => by simp [Aw.flat] at hc) (fun i v hv => by simp at hv) trivial

/-- a mutable slice is now that slice -/
theorem AW_freeze {P : Program} {N : Nat} {rd : Option Nat} {l : List (Nat × AV)} {m : List Nat} {R : List En} {k : Kt} {c : Code} (i : Nat) {b off n n' cap sz : Nat} {cs es : List AV} (hn' : n' = 0 → n = 0)
    (hi : lk l i = .msl b off n cap) (hn : es.length = n) (hsz : ∀ e ∈ es, e.cells.length = sz) (hf : flat es = (cs.drop off).take (n * sz))
    (h : AW P N rd c ⟨(i, .sl sz es .no) :: l, m⟩ R k) : AW P N rd c ⟨l, m⟩ (hold n' b cs R) k := by
  refine AW_weak ?_ h
  intro w0 N K a w hE hS
  by_cases h0 : n' = 0
  · rw [hold, if_pos h0] at hS
    have h0 := hn' h0
    refine ⟨K, Kle.refl K, ⟨hE.size, fun j => ?_, hE.defers⟩, hS⟩
    simp only [lk]
    by_cases hj : i = j
    · subst hj
      rw [Nat.beq_refl i]
      have hv := hE.slot i
      simp only [hi] at hv
      subst h0
      have : es = [] := by simpa using hn
      subst this
      generalize a.tmps.getD i undef = v at hv
      show Rel K (.sl sz [] .no) v
      cases hv with
      | mslnil => exact .slnil _ _ _ trivial
      | msl _ _ _ _ hle hmax _ => exact .sl (es := []) (vs := []) hle hmax (by simp) (by simp [Aw.flat]) rfl (fun i c v hc _ => by simp [Aw.flat] at hc) (fun i v hv => by simp at hv) trivial
    · rw [natBeq_ne hj]; exact hE.slot j
  · rw [hold, if_neg h0] at hS
    obtain ⟨K', hK, hS', vs, e1, hr, h1⟩ := hS.freeze (p := 0) rfl
    refine ⟨K', hK, ⟨hE.size, fun j => ?_, hE.defers⟩, hS'⟩
    simp only [lk]
    by_cases hj : i = j
    · subst hj
      rw [Nat.beq_refl i]
      have hv := (hE.slot i).mono hK
      simp only [hi] at hv
      exact AVle_frozen e1 hr h1 hn hsz hf hv
    · rw [natBeq_ne hj]; exact (hE.slot j).mono hK
attribute [irreducible] AW
end Go.Aw
