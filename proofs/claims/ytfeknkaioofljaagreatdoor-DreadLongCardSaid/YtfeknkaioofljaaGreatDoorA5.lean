/-
 A region's operations in their order; code; a function's body. Own work.
-/
import Derived.Test.YtfeknkaioofljaaGreatDoorA4
import Derived.StillTail
set_option linter.all false
namespace Go.Aw
open Go.RowKit
def Fw (rd : Option Nat) : Fence := { Fence.wide with round := rd }
theorem fw_room (rd : Option Nat) (n : Nat) : (Fw rd).room n := fun _ h => by simp [Fw,Fence.wide] at h
def gval (ops : List Oper) (E : Env) (j : Nat) : Option AV := ((ops[j]?).bind (·.dst)).map (lk E.l)
def isG (r : List Oper) (n : Nat) : Bool := r.any fun o => match o.guard with
 | some (j,_) => Nat.beq j n
 | none => false
def beqB (a b : Bool) : Bool := bif a then b else !b
def aops (P : Program) (τ : List (TypeId × TI)) (ops : List Oper) : Nat → List Oper → Env → List En → (Env → List En → Prop) → Prop
 | _, [],E,S,k => k E S
 | n,o :: r,E,S,k =>
  match o.guard with
  | none => astep P τ o.op (ev E) S fun v S' =>
    bif isG r n then (match v with
     | .bool b => (b = true → aops P τ ops (n + 1) r (E.put o.dst (.bool true)) S' k) ∧ (b = false → aops P τ ops (n + 1) r (E.put o.dst (.bool false)) S' k)
     | _ => False)
    else aops P τ ops (n + 1) r (E.put o.dst v) S' k
  | some (j,want) => match gval ops E j with
   | some (.bool b) => bif beqB b want then astep P τ o.op (ev E) S fun v S' =>
     bif isG r n then (match v with
      | .bool b => (b = true → aops P τ ops (n + 1) r (E.put o.dst (.bool true)) S' k) ∧ (b = false → aops P τ ops (n + 1) r (E.put o.dst (.bool false)) S' k)
      | _ => False)
     else aops P τ ops (n + 1) r (E.put o.dst v) S' k
    else aops P τ ops (n + 1) r (E.put o.dst (.tup [])) S k
   | some (.tup []) => aops P τ ops (n + 1) r (E.put o.dst (.tup [])) S k
   | _ => False
def operOk (N : Nat) (o : Oper) : Bool := (match o.dst with | some d => Nat.blt d N | none => true) && o.op.operands.toList.all opdOk
theorem operOk.dst {N : Nat} {o : Oper} (h : operOk N o = true) : ∀ i,o.dst = some i → i < N := by
 intro i hi
 simp only [operOk,Bool.and_eq_true,hi] at h
 exact Nat.le_of_ble_eq_true h.1
theorem operOk.rop {N : Nat} {o : Oper} (h : operOk N o = true) {K : Kn} {E : Env} {a : Act} (hE : RelE N K E a) : ROp K (ev E) a o.op := by
 simp only [operOk,Bool.and_eq_true] at h
 intro x hx
 exact hE.ev x (List.all_eq_true.1 h.2 x (by simpa using hx))
def APost (w0 : World) (N : Nat) (K : Kn) (k : Exit → Env → List En → Prop) : Exit → Act → World → Prop :=
 fun x a' w' => ∃ K' E' S',Kle K K' ∧ RelE N K' E' a' ∧ RelS w0 K' S' w' ∧ k x E' S'
theorem APost.le {w0 : World} {N : Nat} {K K' : Kn} (h : Kle K K') {k : Exit → Env → List En → Prop} {x : Exit} {a : Act} {w : World} (hp : APost w0 N K' k x a w) : APost w0 N K k x a w :=
 let ⟨K2,E,S,h1,h2,h3,h4⟩ := hp; ⟨K2,E,S,h.trans h1,h2,h3,h4⟩
theorem upon_of_rok {P : Program} {rd : Option Nat} {w0 : World} {K : Kn} {k : AV → List En → Prop} {o : Oper} {a : Act} {next : Act → World → Prop} {Q : Exit → Act → World → Prop} {r : Result Next} (h : ROk P w0 K k r)
  (hn : ∀ K' av v S' w',Kle K K' → Rel K' av v → RelS w0 K' S' w' → k av S' → next (a.put o.dst v) w') : o.uponIn (Fw rd) 0 P a next Q r := by
 cases r with
 | halt x w => cases x <;> exact h.elim
 | ok x w =>
  cases x <;> simp only [ROk] at h
  case value v => obtain ⟨K',av,S',h1,h2,h3,h4⟩ := h; exact hn K' av v S' w h1 h2 h3 h4
  case skip => obtain ⟨K',S',h1,h3,h4⟩ := h; exact hn K' .junk undef S' w h1 (.junk _) h3 h4
  case enter f args =>
   refine ⟨fun hc => by simp [Fw,Fence.wide] at hc,?_⟩
   exact CallsIn.mono h fun e w' ⟨v,K',av,S',he,h1,h2,h3,h4⟩ => by subst he; exact hn K' av v S' w' h1 h2 h3 h4
  case round l f tmps assign body =>
   refine ⟨fun hc => by simp [Fw,Fence.wide] at hc,?_⟩
   exact RoundIn.mono h fun e w' ⟨v,K',av,S',he,h1,h2,h3,h4⟩ => by subst he; exact hn K' av v S' w' h1 h2 h3 h4
theorem astep_nodefer {P : Program} {τ : List (TypeId × TI)} {op : Op} {ρ : Operand → AV} {S : List En} {k : AV → List En → Prop} (h : astep P τ op ρ S k) : ∀ c,op ≠ .defer c := by
 intro c hc; subst hc; exact h
theorem relE_getD {N : Nat} {K : Kn} {E : Env} {a : Act} (h : RelE N K E a) (d : Nat) : ∀ b,lk E.l d = .bool b → a.tmps[d]? = some (.bool b) := by
 intro b hb
 have := h.slot d
 rw [hb] at this
 rw [Array.getD_eq_getD_getElem?] at this
 cases hx : a.tmps[d]? with
 | none => rw [hx] at this; simp [undef] at this; cases this
 | some v => rw [hx] at this; simp at this; cases this; rfl
theorem relE_undef {N : Nat} {K : Kn} {E : Env} {a : Act} (h : RelE N K E a) (d : Nat) (hb : lk E.l d = .tup []) : ∀ b,a.tmps[d]? ≠ some (.bool b) := by
 intro b hx
 have := h.slot d
 rw [hb,Array.getD_eq_getD_getElem?,hx] at this
 simp at this
 cases this
theorem wanted_of {ops : Array Oper} {N : Nat} {K : Kn} {E : Env} {a : Act} (hE : RelE N K E a) {o : Oper} {j : Nat} {want b : Bool} (hg : o.guard = some (j,want)) (hv : gval ops.toList E j = some (.bool b)) :
  Region.wanted o (yielded ops a.tmps) = beqB b want := by
 simp only [Region.wanted,hg,yielded]
 unfold gval at hv
 rw [Array.getElem?_toList] at hv
 cases hd : (ops[j]?).bind (·.dst) with
 | none => rw [hd] at hv; cases hv
 | some d =>
  rw [hd] at hv
  simp only [Option.map_some,Option.some.injEq] at hv
  simp only [Option.bind_some,relE_getD hE d b hv]
  cases b <;> cases want <;> rfl
theorem wanted_undef {ops : Array Oper} {N : Nat} {K : Kn} {E : Env} {a : Act} (hE : RelE N K E a) {o : Oper} {j : Nat} {want : Bool} (hg : o.guard = some (j,want)) (hv : gval ops.toList E j = some (.tup [])) :
  Region.wanted o (yielded ops a.tmps) = false := by
 simp only [Region.wanted,hg,yielded]
 unfold gval at hv
 rw [Array.getElem?_toList] at hv
 cases hd : (ops[j]?).bind (·.dst) with
 | none => rw [hd] at hv; cases hv
 | some d =>
  rw [hd] at hv
  simp only [Option.map_some,Option.some.injEq] at hv
  simp only [Option.bind_some]
  have := relE_undef hE d hv
  cases hx : a.tmps[d]? with
  | none => rfl
  | some v => cases v <;> first | rfl | exact absurd hx (this _)
theorem opOne {P : Program} {τ : List (TypeId × TI)} (hτ : AllOk P τ) {rd : Option Nat} {N : Nat} {ops : Array Oper} {w0 : World} {o : Oper} (hok : operOk N o = true) {E : Env} {S : List En} {rest : List Nat} {Q : Exit → Act → World → Prop}
  {k : AV → List En → Prop} (hs : astep P τ o.op (ev E) S k) {K : Kn} {a : Act} {w : World} (hE : RelE N K E a) (hS : RelS w0 K S w)
  (hn : ∀ K' av v S' w',Kle K K' → Rel K' av v → RelS w0 K' S' w' → k av S' → wpOpsIn (Fw rd) 0 P ops Q rest (a.put o.dst v) w') : o.wpIn (Fw rd) 0 P a w (wpOpsIn (Fw rd) 0 P ops Q rest) Q := by
 refine ⟨fun _ _ => trivial,?_⟩
 rw [Oper.semAt_eq _ _ _ (astep_nodefer hs)]
 exact upon_of_rok (astep_ok hτ hs (operOk.rop hok hE) hS) hn
theorem wpOpsIn_post {P : Program} {F : Fence} {ops : Array Oper} {Q Q' : Exit → Act → World → Prop} (hQ : ∀ e a w,Q e a w → Q' e a w) : ∀ (l : List Nat) (a : Act) (w : World),wpOpsIn F 0 P ops Q l a w → wpOpsIn F 0 P ops Q' l a w := by
 intro l
 induction l with
 | nil => intro a w hh; exact hQ _ _ _ hh
 | cons i l ihl =>
  intro a w hh
  rw [wpOpsIn_cons] at hh ⊢
  unfold wpOpIn at hh ⊢
  split at hh
  ·exact ihl _ _ hh
  ·rename_i o' ho
   split at hh
   ·rename_i hw
    rw [if_pos hw]
    refine ⟨hh.1,?_⟩
    have h5 := hh.2
    generalize (o'.semAt F.round a.eval).run P w = rr at h5 ⊢
    cases rr with
    | halt x w => cases x <;> first | exact h5.elim | exact hQ _ _ _ (show Q _ a _ from h5)
    | ok x w =>
     cases x <;> first
      | exact h5.elim
      | exact ihl _ _ h5
      | exact ⟨h5.1,CallsIn.mono h5.2 (fun e w'' he => by
        cases e with
        | returned v => exact ihl _ _ he
        | panicked c => exact hQ _ _ _ he
        | outgrown => obtain ⟨a0,w00,hq⟩ := he; exact ⟨a0,w00,hQ _ _ _ hq⟩)⟩
      | exact ⟨h5.1,RowsIn.mono h5.2 (fun _ _ he => ihl _ _ he)⟩
      | exact ⟨h5.1,RoundIn.mono h5.2 (fun e w'' he => by
        cases e with
        | returned v => exact ihl _ _ he
        | panicked c => exact hQ _ _ _ he
        | outgrown => obtain ⟨a0,w00,hq⟩ := he; exact ⟨a0,w00,hQ _ _ _ hq⟩)⟩
   ·rename_i hw
    rw [if_neg hw]
    exact ⟨hh.1,ihl _ _ hh.2⟩
theorem aops_ok {P : Program} {τ : List (TypeId × TI)} (hτ : AllOk P τ) {rd : Option Nat} {N : Nat} {ops : Array Oper} {w0 : World} {k : Env → List En → Prop} : ∀ (r : List Oper) (n : Nat) (E : Env) (S : List En),ops.toList.drop n = r → (r.all (operOk N)) = true →
  aops P τ ops.toList n r E S k → ∀ (K : Kn) (a : Act) (w : World),RelE N K E a → RelS w0 K S w →
  wpOpsIn (Fw rd) 0 P ops (APost w0 N K fun x E' S' => x = .normal ∧ k E' S') (List.range' n r.length) a w := by
 intro r
 induction r with
 | nil =>
  intro n E S _ _ h K a w hE hS
  exact ⟨K,E,S,Kle.refl K,hE,hS,rfl,h⟩
 | cons o r ih =>
  intro n E S hdrop hok h K a w hE hS
  simp only [List.all_cons,Bool.and_eq_true] at hok
  have hon : ops[n]? = some o := by
   have : (ops.toList.drop n)[0]? = some o := by rw [hdrop]; rfl
   simpa using this
  have hdrop' : ops.toList.drop (n + 1) = r := by
   have := congrArg List.tail hdrop
   simpa using this
  have hdst := operOk.dst hok.1
  -- behind the operation
  have hback : ∀ (K' : Kn) (av : AV) (v : Value) (S' : List En) (w' : World),Kle K K' → Rel K' av v → RelS w0 K' S' w' → aops P τ ops.toList (n + 1) r (E.put o.dst av) S' k →
    wpOpsIn (Fw rd) 0 P ops (APost w0 N K fun x E' S' => x = .normal ∧ k E' S') (List.range' (n + 1) r.length) (a.put o.dst v) w' := by
   intro K' av v S' w' h1 h2 h3 h4
   have := ih (n + 1) _ S' hdrop' hok.2 h4 K' _ w' ((hE.mono h1).put o.dst hdst h2) h3
   exact wpOpsIn_post (fun e a w hq => APost.le h1 hq) _ _ _ this
  have hcont : ∀ (K' : Kn) (av : AV) (v : Value) (S' : List En) (w' : World),Kle K K' → Rel K' av v → RelS w0 K' S' w' →
    (bif isG r n then (match av with
     | .bool b => (b = true → aops P τ ops.toList (n + 1) r (E.put o.dst (.bool true)) S' k) ∧ (b = false → aops P τ ops.toList (n + 1) r (E.put o.dst (.bool false)) S' k)
     | _ => False)
    else aops P τ ops.toList (n + 1) r (E.put o.dst av) S' k) →
    wpOpsIn (Fw rd) 0 P ops (APost w0 N K fun x E' S' => x = .normal ∧ k E' S') (List.range' (n + 1) r.length) (a.put o.dst v) w' := by
   intro K' av v S' w' h1 h2 h3 h4
   cases hg : isG r n with
   | false => rw [hg] at h4; exact hback K' av v S' w' h1 h2 h3 h4
   | true =>
    rw [hg] at h4
    simp only [cond_true] at h4
    cases av <;> simp only [] at h4
    case bool b =>
     cases b with
     | true => exact hback K' _ v S' w' h1 h2 h3 (h4.1 rfl)
     | false => exact hback K' _ v S' w' h1 h2 h3 (h4.2 rfl)
  have hskip : aops P τ ops.toList (n + 1) r (E.put o.dst (.tup [])) S k → wpOpsIn (Fw rd) 0 P ops (APost w0 N K fun x E' S' => x = .normal ∧ k E' S') (List.range' (n + 1) r.length) (a.put o.dst undef) w :=
   fun h4 => hback K (.tup []) undef S w (Kle.refl K) (.tup (vs := []) rfl (fun i c v hc _ => by simp at hc)) hS h4
  rw [List.length_cons,List.range'_succ,wpOpsIn_cons]
  unfold wpOpIn
  simp only [hon]
  simp only [aops] at h
  cases hg : o.guard with
  | none =>
   rw [hg] at h
   simp only [] at h
   have hw : Region.wanted o (yielded ops a.tmps) = true := by simp [Region.wanted,hg]
   simp only [hw,if_true]
   exact opOne hτ hok.1 h hE hS hcont
  | some g =>
   obtain ⟨j,want⟩ := g
   rw [hg] at h
   simp only [] at h
   cases hv : gval ops.toList E j with
   | none => rw [hv] at h; exact h.elim
   | some gv =>
    rw [hv] at h
    cases gv <;> (try simp only [] at h) <;> (try exact (show False from h).elim)
    case bool b =>
     have hw := wanted_of hE hg hv
     cases hb : beqB b want with
     | true =>
      rw [hb] at h hw
      simp only [cond_true] at h
      simp only [hw,if_true]
      exact opOne hτ hok.1 h hE hS hcont
     | false =>
      rw [hb] at h hw
      simp only [cond_false] at h
      simp only [hw,Bool.false_eq_true,if_false]
      exact ⟨fun _ _ => trivial,hskip h⟩
    case tup vs =>
     cases vs with
     | cons _ _ => exact h.elim
     | nil =>
      have hw := wanted_undef hE hg hv
      simp only [hw,Bool.false_eq_true,if_false]
      exact ⟨fun _ _ => trivial,hskip h⟩
end Go.Aw
namespace Go.Aw
open Go.RowKit
def AVle (a b : AV) : Prop := ∀ (K : Kn) (x : Value),Rel K a x → Rel K b x
theorem AVle.refl (a : AV) : AVle a a := fun _ _ h => h
def aheads (P : Program) (τ : List (TypeId × TI)) (ops : List Oper) : Nat → List Oper → Env → List En → (Env → Prop) → Prop
 | _, [],E,_,k => k E
 | n,o :: r,E,S,k =>
  match o.guard with
  | none => ∃ v,astep P τ o.op (ev E) S (fun v' S' => AVle v' v ∧ S.Sublist S') ∧
    (bif isG ops n then (match v with
     | .bool b => (b = true → aheads P τ ops (n + 1) r (E.put o.dst (.bool true)) S k) ∧ (b = false → aheads P τ ops (n + 1) r (E.put o.dst (.bool false)) S k)
     | _ => False)
    else aheads P τ ops (n + 1) r (E.put o.dst v) S k)
  | some (j,want) => match gval ops E j with
   | some (.bool b) => bif beqB b want then ∃ v,astep P τ o.op (ev E) S (fun v' S' => AVle v' v ∧ S.Sublist S') ∧
     (bif isG ops n then (match v with
      | .bool b => (b = true → aheads P τ ops (n + 1) r (E.put o.dst (.bool true)) S k) ∧ (b = false → aheads P τ ops (n + 1) r (E.put o.dst (.bool false)) S k)
      | _ => False)
     else aheads P τ ops (n + 1) r (E.put o.dst v) S k)
    else aheads P τ ops (n + 1) r (E.put o.dst (.tup [])) S k
   | some (.tup []) => aheads P τ ops (n + 1) r (E.put o.dst (.tup [])) S k
   | _ => False
def headOk (P : Program) (τ : List (TypeId × TI)) (ops : List Oper) (o : Oper) (E : Env) (S : List En) (v : AV) : Prop :=
 (((o.guard = none) ∨ ∃ j want b,o.guard = some (j,want) ∧ gval ops E j = some (.bool b) ∧ beqB b want = true) ∧ astep P τ o.op (ev E) S (fun v' S' => AVle v' v ∧ S.Sublist S')) ∨
 ((∃ j want,o.guard = some (j,want) ∧ ((∃ b,gval ops E j = some (.bool b) ∧ beqB b want = false) ∨ gval ops E j = some (.tup []))) ∧ v = .tup [])
def putAll (E : Env) : List Oper → List AV → Env
 | o :: r,v :: V => putAll (E.put o.dst v) r V
 | _,_ => E
def heads (P : Program) (τ : List (TypeId × TI)) (ops : List Oper) (S : List En) : List Oper → List AV → Env → Prop
 | [], [],_ => True
 | o :: r,v :: V,E => headOk P τ ops o E S v ∧ heads P τ ops S r V (E.put o.dst v)
 | _,_,_ => False
theorem heads_of {P : Program} {τ : List (TypeId × TI)} {ops : List Oper} {S : List En} {k : Env → Prop} : ∀ (r : List Oper) (n : Nat) (E : Env),aheads P τ ops n r E S k → ∃ V,heads P τ ops S r V E ∧ k (putAll E r V) := by
 intro r
 induction r with
 | nil => intro n E h; exact ⟨[],trivial,h⟩
 | cons o r ih =>
  intro n E h
  have cont : ∀ v,(∀ b,v = .bool b → headOk P τ ops o E S (.bool b)) → headOk P τ ops o E S v →
    (bif isG ops n then (match v with
     | .bool b => (b = true → aheads P τ ops (n + 1) r (E.put o.dst (.bool true)) S k) ∧ (b = false → aheads P τ ops (n + 1) r (E.put o.dst (.bool false)) S k)
     | _ => False)
    else aheads P τ ops (n + 1) r (E.put o.dst v) S k) → ∃ V,heads P τ ops S (o :: r) V E ∧ k (putAll E (o :: r) V) := by
   intro v hb hv hc
   cases hg : isG ops n with
   | false =>
    rw [hg] at hc
    obtain ⟨V,h1,h2⟩ := ih _ _ hc
    exact ⟨v :: V,⟨hv,h1⟩,h2⟩
   | true =>
    rw [hg] at hc
    simp only [cond_true] at hc
    cases v <;> simp only [] at hc
    case bool b =>
     cases b with
     | true => obtain ⟨V,h1,h2⟩ := ih _ _ (hc.1 rfl); exact ⟨_ :: V,⟨hv,h1⟩,h2⟩
     | false => obtain ⟨V,h1,h2⟩ := ih _ _ (hc.2 rfl); exact ⟨_ :: V,⟨hv,h1⟩,h2⟩
  have skip : headOk P τ ops o E S (.tup []) → aheads P τ ops (n + 1) r (E.put o.dst (.tup [])) S k → ∃ V,heads P τ ops S (o :: r) V E ∧ k (putAll E (o :: r) V) := by
   intro hv hc
   obtain ⟨V,h1,h2⟩ := ih _ _ hc
   exact ⟨_ :: V,⟨hv,h1⟩,h2⟩
  simp only [aheads] at h
  cases hg : o.guard with
  | none =>
   rw [hg] at h
   obtain ⟨v,h1,h2⟩ := h
   exact cont v (fun b hb => .inl ⟨.inl hg,hb ▸ h1⟩) (.inl ⟨.inl hg,h1⟩) h2
  | some g =>
   obtain ⟨j,want⟩ := g
   rw [hg] at h
   simp only [] at h
   cases hv : gval ops E j with
   | none => rw [hv] at h; exact h.elim
   | some gv =>
    rw [hv] at h
    cases gv <;> (try simp only [] at h) <;> (try exact (show False from h).elim)
    case bool b =>
     cases hb : beqB b want with
     | true =>
      rw [hb] at h
      simp only [cond_true] at h
      obtain ⟨v,h1,h2⟩ := h
      exact cont v (fun b' hb' => .inl ⟨.inr ⟨j,want,b,hg,hv,hb⟩,hb' ▸ h1⟩) (.inl ⟨.inr ⟨j,want,b,hg,hv,hb⟩,h1⟩) h2
     | false =>
      rw [hb] at h
      exact skip (.inr ⟨⟨j,want,hg, .inl ⟨b,hv,hb⟩⟩,rfl⟩) h
    case tup vs =>
     cases vs with
     | cons _ _ => exact h.elim
     | nil => exact skip (.inr ⟨⟨j,want,hg, .inr hv⟩,rfl⟩) h
def deps (o : Oper) : List Nat := (o.after.toList.filter (Region.binds .any)).map (·.on)
def slotsOf (o : Oper) : List Nat := o.op.operands.toList.filterMap fun | .tmp t => some t | _ => none
def hits (t : Option Nat) (l : List Nat) : Bool := match t with
 | some t => l.any (Nat.beq t)
 | none => false
def sameDst (a b : Option Nat) : Bool := match a,b with
 | some a,some b => Nat.beq a b
 | _,_ => false
def drawOk (ops : Array Oper) (n : Nat) : Bool :=
 Nat.ble n ops.size &&
 (List.range ops.size).all (fun j => match ops[j]? with | some o => (deps o).all (fun i => Nat.blt i j) | none => false) &&
 (List.range n).all (fun j => (List.range n).all fun i => match ops[j]?,ops[i]? with
  | some o,some o' =>
   (!hits o'.dst (slotsOf o) || (Nat.blt i j && (deps o).any (Nat.beq i)) || (Nat.blt j i && (deps o').any (Nat.beq j))) && (Nat.beq i j || !sameDst o.dst o'.dst)
  | _,_ => false) &&
 (List.range n).all (fun j => match ops[j]? with
  | some o => (match o.guard with | some (g,_) => (deps o).any (Nat.beq g) | none => true)
  | none => false) &&
 (Nat.beq n ops.size || (Region.sinkB .any ops n && Region.chainB .any ops n))
structure DFacts0 (ops : Array Oper) (n : Nat) : Prop where
 hn : n ≤ ops.size
 back : ∀ (j : Nat) (o : Oper),ops[j]? = some o → ∀ i ∈ deps o,i < j
 sl : ∀ (j i : Nat) (o o' : Oper) (t : Nat),j < n → i < n → ops[j]? = some o → ops[i]? = some o' → o'.dst = some t → t ∈ slotsOf o → (i < j ∧ i ∈ deps o) ∨ (j < i ∧ j ∈ deps o')
 ds : ∀ (j i : Nat) (o o' : Oper) (t : Nat),j < n → i < n → ops[j]? = some o → ops[i]? = some o' → o.dst = some t → o'.dst = some t → i = j
 gd : ∀ (j : Nat) (o : Oper) (g : Nat) (want : Bool),j < n → ops[j]? = some o → o.guard = some (g,want) → g ∈ deps o
structure DFacts (ops : Array Oper) (n : Nat) : Prop extends DFacts0 ops n where
 tl : n = ops.size ∨ (Region.sinkB .any ops n = true ∧ Region.chainB .any ops n = true)
theorem any_beq {l : List Nat} {i : Nat} (h : l.any (Nat.beq i) = true) : i ∈ l := by
 obtain ⟨x,hx,he⟩ := List.any_eq_true.1 h
 rw [Nat.eq_of_beq_eq_true he]; exact hx
theorem hits_of {t : Nat} {l : List Nat} (h : t ∈ l) : hits (some t) l = true := List.any_eq_true.2 ⟨t,h,Nat.beq_refl t⟩
theorem dfacts_of {ops : Array Oper} {n : Nat} (h : drawOk ops n = true) : DFacts ops n := by
 simp only [drawOk,Bool.and_eq_true] at h
 obtain ⟨⟨⟨⟨h1,h2⟩,h3⟩,h4⟩,h5⟩ := h
 have hn : n ≤ ops.size := Nat.le_of_ble_eq_true h1
 refine ⟨⟨hn,?_,?_,?_,?_⟩,?_⟩
 ·intro j o ho i hi
  have hj : j < ops.size := (Array.getElem?_eq_some_iff.1 ho).1
  have := List.all_eq_true.1 h2 j (List.mem_range.2 hj)
  simp only [ho] at this
  exact Nat.le_of_ble_eq_true (List.all_eq_true.1 this i hi)
 ·intro j i o o' t hj hi ho ho' hd ht
  have := List.all_eq_true.1 (List.all_eq_true.1 h3 j (List.mem_range.2 hj)) i (List.mem_range.2 hi)
  simp only [ho,ho',hd,hits_of ht,Bool.not_true,Bool.false_or,Bool.and_eq_true,Bool.or_eq_true] at this
  rcases this.1 with h | h
  ·exact .inl ⟨Nat.le_of_ble_eq_true h.1,any_beq h.2⟩
  ·exact .inr ⟨Nat.le_of_ble_eq_true h.1,any_beq h.2⟩
 ·intro j i o o' t hj hi ho ho' hd hd'
  have := List.all_eq_true.1 (List.all_eq_true.1 h3 j (List.mem_range.2 hj)) i (List.mem_range.2 hi)
  simp only [ho,ho',hd,hd',sameDst,Nat.beq_refl,Bool.not_true,Bool.or_false,Bool.and_eq_true] at this
  exact Nat.eq_of_beq_eq_true this.2
 ·intro j o g want hj ho hg
  have := List.all_eq_true.1 h4 j (List.mem_range.2 hj)
  simp only [ho,hg] at this
  exact any_beq this
 ·simp only [Bool.or_eq_true,Bool.and_eq_true] at h5
  rcases h5 with h | h
  ·exact .inl (Nat.eq_of_beq_eq_true h)
  ·exact .inr h
theorem mem_deps {o : Oper} {i : Nat} : i ∈ deps o ↔ ∃ e ∈ o.after,Region.binds .any e = true ∧ e.on = i := by
 simp only [deps,List.mem_map,List.mem_filter]
 constructor
 ·rintro ⟨e,⟨h1,h2⟩,h3⟩; exact ⟨e,by simpa using h1,h2,h3⟩
 ·rintro ⟨e,h1,h2,h3⟩; exact ⟨e,⟨by simpa using h1,h2⟩,h3⟩
theorem lk_put_same (E : Env) (t : Nat) (v : AV) : lk (E.put (some t) v).l t = v := by simp [Env.put,lk,Nat.beq_refl]
theorem lk_put_other (E : Env) {d : Option Nat} {t : Nat} (v : AV) (h : d ≠ some t) : lk (E.put d v).l t = lk E.l t := by
 cases d with
 | none => rfl
 | some i => simp only [Env.put,lk]; rw [natBeq_ne (fun e => h (by rw [e]))]; rfl
theorem lk_putAll_none : ∀ (r : List Oper) (V : List AV) (E : Env) (t : Nat),(∀ o ∈ r,o.dst ≠ some t) → lk (putAll E r V).l t = lk E.l t
 | [],V,E,t,_ => by cases V <;> rfl
 | o :: r, [],E,t,_ => rfl
 | o :: r,v :: V,E,t,h => by
  simp only [putAll]
  rw [lk_putAll_none r V _ t (fun o' ho' => h o' (by simp [ho'])),lk_put_other _ _ (h o (by simp))]
theorem lk_putAll_some : ∀ (r : List Oper) (V : List AV) (E : Env) (t i : Nat) (o : Oper) (v : AV),r[i]? = some o → V[i]? = some v → o.dst = some t → (∀ (i' : Nat) (o' : Oper),r[i']? = some o' → o'.dst = some t → i' = i) → lk (putAll E r V).l t = v
 | [],V,E,t,i,o,v,h,_,_,_ => by simp at h
 | o' :: r, [],E,t,i,o,v,_,h,_,_ => by simp at h
 | o' :: r,v' :: V,E,t,i,o,v,h1,h2,h3,h4 => by
  simp only [putAll]
  cases i with
  | zero =>
   simp at h1 h2
   subst h1; subst h2
   rw [lk_putAll_none r V _ t,h3,lk_put_same]
   intro o2 ho2 hd
   obtain ⟨q,hq,hqe⟩ := List.mem_iff_getElem.1 ho2
   have := h4 (q + 1) o2 (by simp [List.getElem?_eq_getElem hq,hqe]) hd
   omega
  | succ i =>
   exact lk_putAll_some r V _ t i o v (by simpa using h1) (by simpa using h2) h3 (fun i' o2 ho2 hd => by
    have := h4 (i' + 1) o2 (by simpa using ho2) hd; omega)
theorem putAll_m : ∀ (r : List Oper) (V : List AV) (E : Env),(putAll E r V).m = E.m
 | [],V,E => by cases V <;> rfl
 | o :: r, [],E => rfl
 | o :: r,v :: V,E => by simp only [putAll]; rw [putAll_m r V]; cases o.dst <;> rfl
theorem heads_len {P : Program} {τ : List (TypeId × TI)} {ops : List Oper} {S : List En} : ∀ (r : List Oper) (V : List AV) (E : Env),heads P τ ops S r V E → V.length = r.length
 | [], [],_,_ => rfl
 | [],_ :: _,_,h => h.elim
 | _ :: _, [],_,h => h.elim
 | o :: r,v :: V,E,h => by simp [heads_len r V _ h.2]
theorem heads_at {P : Program} {τ : List (TypeId × TI)} {ops : List Oper} {S : List En} : ∀ (r : List Oper) (V : List AV) (E : Env),heads P τ ops S r V E → ∀ (j : Nat) (o : Oper) (v : AV),r[j]? = some o → V[j]? = some v → headOk P τ ops o (putAll E (r.take j) (V.take j)) S v
 | [], [],_,_,j,o,v,h,_ => by simp at h
 | [],_ :: _,_,h,_,_,_,_,_ => h.elim
 | _ :: _, [],_,h,_,_,_,_,_ => h.elim
 | o' :: r,v' :: V,E,h,j,o,v,h1,h2 => by
  cases j with
  | zero => simp at h1 h2; subst h1; subst h2; simpa [putAll] using h.1
  | succ j =>
   simp only [List.take_succ_cons,putAll]
   exact heads_at r V _ h.2 j o v (by simpa using h1) (by simpa using h2)
structure Slots (N n : Nat) (K : Kn) (ops : Array Oper) (V : List AV) (E : Env) (listed : Array Bool) (a : Act) : Prop where
 size : a.tmps.size = N
 defers : a.defers = E.m.map markOf
 done : ∀ (i : Nat) (o : Oper) (v : AV) (t : Nat),i < n → listed.getD i false = true → ops[i]? = some o → V[i]? = some v → o.dst = some t → Rel K v (a.tmps.getD t undef)
 todo : ∀ t,(∀ (i : Nat) (o : Oper),i < n → listed.getD i false = true → ops[i]? = some o → o.dst ≠ some t) → Rel K (lk E.l t) (a.tmps.getD t undef)
theorem Slots.mono {N n : Nat} {K K' : Kn} {ops : Array Oper} {V : List AV} {E : Env} {listed : Array Bool} {a : Act} (hK : Kle K K') (h : Slots N n K ops V E listed a) : Slots N n K' ops V E listed a :=
 ⟨h.size,h.defers,fun i o v t a b c d e => (h.done i o v t a b c d e).mono hK,fun t ht => (h.todo t ht).mono hK⟩
theorem getD_put {N : Nat} {a : Act} (hs : a.tmps.size = N) {d : Nat} (hd : d < N) (v : Value) (t : Nat) : (a.put (some d) v).tmps.getD t undef = if d = t then v else a.tmps.getD t undef := by
 simp only [Act.put]
 split
 ·rename_i h; subst h
  have : d < a.tmps.size := by rw [hs]; exact hd
  simp [Array.getD_eq_getD_getElem?,this]
 ·rename_i h
  simp [Array.getD_eq_getD_getElem?,Array.getElem?_setIfInBounds_ne h]
theorem Slots.meet {N n : Nat} {K : Kn} {ops : Array Oper} {V : List AV} {E : Env} {listed : Array Bool} {a : Act} (h : Slots N n K ops V E listed a) (hf : DFacts0 ops n) (hV : V.length = n) {j : Nat} {o : Oper} (hj : j < n) (ho : ops[j]? = some o)
  (hun : listed.getD j false = false) (hdone : ∀ i ∈ deps o,listed.getD i false = true) (hcl : ∀ (i : Nat) (o' : Oper),ops[i]? = some o' → listed.getD i false = true → ∀ e ∈ deps o',listed.getD e false = true)
  {t : Nat} (ht : t ∈ slotsOf o ∨ ∃ g want og,o.guard = some (g,want) ∧ ops[g]? = some og ∧ og.dst = some t) : Rel K (lk (putAll E (ops.toList.take j) (V.take j)).l t) (a.tmps.getD t undef) := by
 by_cases hex : ∃ i o',i < n ∧ ops[i]? = some o' ∧ o'.dst = some t
 ·obtain ⟨i,o',hi,ho',hd⟩ := hex
  have huniq : ∀ (i2 : Nat) (o2 : Oper),i2 < n → ops[i2]? = some o2 → o2.dst = some t → i2 = i := fun i2 o2 h2 ho2 hd2 => hf.ds i i2 o' o2 t hi h2 ho' ho2 hd hd2
  have hor : (i < j ∧ i ∈ deps o) ∨ (j < i ∧ j ∈ deps o') := by
   rcases ht with ht | ⟨g,want,og,hg,hog,hdg⟩
   ·exact hf.sl j i o o' t hj hi ho ho' hd ht
   ·have hgd := hf.gd j o g want hj ho hg
    have hgj := hf.back j o ho g hgd
    have := huniq g og (by omega) hog hdg
    subst this
    exact .inl ⟨hgj,hgd⟩
  rcases hor with ⟨hij,hdep⟩ | ⟨hji,hdep⟩
  ·have hiV : i < V.length := by rw [hV]; exact hi
   have hlk := lk_putAll_some (ops.toList.take j) (V.take j) E t i o' V[i] (by rw [List.getElem?_take,if_pos hij]; simpa using ho') (by rw [List.getElem?_take,if_pos hij,List.getElem?_eq_getElem hiV]) hd (fun i2 o2 ho2 hd2 => by
    rw [List.getElem?_take] at ho2
    split at ho2
    ·exact huniq i2 o2 (by omega) (by simpa using ho2) hd2
    ·cases ho2)
   rw [hlk]
   exact h.done i o' V[i] t hi (hdone i hdep) ho' (List.getElem?_eq_getElem hiV) hd
  ·have hnl : listed.getD i false = false := by
    cases hl : listed.getD i false with
    | false => rfl
    | true => have := hcl i o' ho' hl j hdep; rw [hun] at this; cases this
   rw [lk_putAll_none]
   ·refine h.todo t (fun i2 o2 h2 hl2 ho2 hd2 => ?_)
    have := huniq i2 o2 h2 ho2 hd2
    subst this; rw [hnl] at hl2; cases hl2
   ·intro o2 ho2 hd2
    obtain ⟨q,hq,hqe⟩ := List.mem_iff_getElem.1 ho2
    have hq' : (ops.toList.take j)[q]? = some o2 := by rw [List.getElem?_eq_getElem hq,hqe]
    rw [List.getElem?_take] at hq'
    split at hq'
    ·rename_i hqj
     have := huniq q o2 (by omega) (by simpa using hq') hd2
     omega
    ·cases hq'
 ·rw [lk_putAll_none]
  ·exact h.todo t (fun i2 o2 h2 _ ho2 hd2 => hex ⟨i2,o2,h2,ho2,hd2⟩)
  ·intro o2 ho2 hd2
   obtain ⟨q,hq,hqe⟩ := List.mem_iff_getElem.1 ho2
   have hq' : (ops.toList.take j)[q]? = some o2 := by rw [List.getElem?_eq_getElem hq,hqe]
   rw [List.getElem?_take] at hq'
   split at hq'
   ·exact hex ⟨q,o2,by omega,by simpa using hq',hd2⟩
   ·cases hq'
theorem slots_mem {o : Oper} {t : Nat} (h : Operand.tmp t ∈ o.op.operands) : t ∈ slotsOf o := List.mem_filterMap.2 ⟨.tmp t,by simpa using h,rfl⟩
theorem head_step {P : Program} {τ : List (TypeId × TI)} (hτ : AllOk P τ) {rd : Option Nat} {N n : Nat} {ops : Array Oper} {w0 : World} {V : List AV} {E : Env} {S : List En} (hf : DFacts0 ops n) (hV : V.length = n) (hok : ops.toList.all (operOk N) = true)
  (hh : heads P τ ops.toList S (ops.toList.take n) V E) {listed : Array Bool} {a : Act} {w : World} {K : Kn} (hs : Slots N n K ops V E listed a) (hS : RelS w0 K S w) {j : Nat} {o : Oper} (hj : j < n) (ho : ops[j]? = some o)
  (hsz : listed.size = ops.size) (hun : listed.getD j false = false) (hdone : ∀ i ∈ deps o,listed.getD i false = true) (hcl : ∀ (i : Nat) (o' : Oper),ops[i]? = some o' → listed.getD i false = true → ∀ e ∈ deps o',listed.getD e false = true)
  {Q : Exit → Act → World → Prop} {next : Act → World → Prop} (hnext : ∀ K' a' w',Kle K K' → Slots N n K' ops V E (listed.setIfInBounds j true) a' → RelS w0 K' S w' → next a' w') : wpOpIn (Fw rd) 0 P ops Q j next a w := by
 have hjV : j < V.length := by rw [hV]; exact hj
 have hokj : operOk N o = true := List.all_eq_true.1 hok o (by simpa using Array.mem_of_getElem? ho)
 have hhead := heads_at _ _ _ hh j o V[j] (by rw [List.getElem?_take,if_pos hj]; simpa using ho) (List.getElem?_eq_getElem hjV)
 rw [List.take_take,Nat.min_eq_left (Nat.le_of_lt hj)] at hhead
 have hmeet := fun {t : Nat} ht => Slots.meet (t := t) hs hf hV hj ho hun hdone hcl ht
 -- the slots behind it
 have hput : ∀ (K' : Kn) (v : Value),Kle K K' → Rel K' V[j] v → Slots N n K' ops V E (listed.setIfInBounds j true) (a.put o.dst v) := by
  intro K' v hK hv
  have hs' := hs.mono hK
  have hjl : (listed.setIfInBounds j true).getD j false = true := by
   have : j < listed.size := by rw [hsz]; have := hf.hn; omega
   simp [Array.getD_eq_getD_getElem?,this]
  refine ⟨by cases hd : o.dst <;> simp [Act.put,hs.size],by cases hd : o.dst <;> simp [Act.put,hs.defers],?_,?_⟩
  ·intro i oi vi t hi hl hoi hvi hd
   by_cases hij : j = i
   ·subst hij
    rw [ho] at hoi; cases hoi
    rw [List.getElem?_eq_getElem hjV] at hvi; cases hvi
    rw [hd,getD_put hs.size (operOk.dst hokj t hd),if_pos rfl]
    exact hv
   ·rw [getD_set_ne false hij] at hl
    have hr := hs'.done i oi vi t hi hl hoi hvi hd
    cases hdj : o.dst with
    | none => exact hr
    | some d =>
     rw [getD_put hs.size (operOk.dst hokj d hdj),if_neg]
     ·exact hr
     ·intro hdt; subst hdt
      exact hij (hf.ds i j oi o d hi hj hoi ho hd hdj)
  ·intro t ht
   have hne : o.dst ≠ some t := ht j o hj hjl ho
   have hr := hs'.todo t (fun i oi hi hl hoi => by
    by_cases hij : j = i
    ·subst hij; rw [ho] at hoi; cases hoi; exact hne
    ·exact ht i oi hi (by rw [getD_set_ne false hij]; exact hl) hoi)
   cases hdj : o.dst with
   | none => exact hr
   | some d =>
    rw [getD_put hs.size (operOk.dst hokj d hdj),if_neg]
    ·exact hr
    ·intro hdt; subst hdt; exact hne hdj
 -- the guard,as it is met
 have hguard : ∀ (g : Nat) (want : Bool) (gv : AV),o.guard = some (g,want) → gval ops.toList (putAll E (ops.toList.take j) (V.take j)) g = some gv →
   ∃ d,(ops[g]?).bind (·.dst) = some d ∧ Rel K gv (a.tmps.getD d undef) := by
  intro g want gv hg hgv
  unfold gval at hgv
  rw [Array.getElem?_toList] at hgv
  cases hog : ops[g]? with
  | none => rw [hog] at hgv; cases hgv
  | some og =>
   rw [hog] at hgv
   simp only [Option.bind_some] at hgv ⊢
   cases hd : og.dst with
   | none => rw [hd] at hgv; cases hgv
   | some d =>
    rw [hd] at hgv
    simp only [Option.map_some,Option.some.injEq] at hgv
    refine ⟨d,rfl,?_⟩
    rw [← hgv]
    exact hmeet (.inr ⟨g,want,og,hg,hog,hd⟩)
 unfold wpOpIn
 simp only [ho]
 rcases hhead with ⟨hgu,hst⟩ | ⟨⟨g,want,hg,hgv⟩,hvj⟩
 ·have hw : Region.wanted o (yielded ops a.tmps) = true := by
   rcases hgu with hg | ⟨g,want,b,hg,hgv,hb⟩
   ·simp [Region.wanted,hg]
   ·obtain ⟨d,hd,hr⟩ := hguard g want _ hg hgv
    simp only [Region.wanted,hg,yielded,hd,Option.bind_some]
    rw [Array.getD_eq_getD_getElem?] at hr
    cases hx : a.tmps[d]? with
    | none => rw [hx] at hr; simp [undef] at hr; cases hr
    | some x =>
     rw [hx] at hr; simp at hr; cases hr
     cases b <;> cases want <;> simp_all [beqB]
  simp only [hw,if_true]
  refine ⟨fun _ _ => trivial,?_⟩
  rw [Oper.semAt_eq _ _ _ (astep_nodefer hst)]
  have hrop : ROp K (ev (putAll E (ops.toList.take j) (V.take j))) a o.op := by
   intro x hx
   cases x with
   | tmp t => exact hmeet (.inl (slots_mem hx))
   | const v =>
    simp only [operOk,Bool.and_eq_true] at hokj
    exact rel_ofV v (show opdOk (.const v) = true from List.all_eq_true.1 hokj.2 (.const v) (by simpa using hx))
   | global g => exact .gl g
   | func f => exact .fn (first := []) (cap := []) (vs := []) (us := []) (.func f) rfl (fun i c v hc _ => by simp at hc) rfl (fun i c v hc _ => by simp at hc)
  exact upon_of_rok (astep_ok hτ hst hrop hS) (fun K' av v S' w' h1 h2 h3 h4 => hnext K' _ w' h1 (hput K' v h1 (h4.1 K' v h2)) (h3.sub h4.2))
 ·have hw : Region.wanted o (yielded ops a.tmps) = false := by
   simp only [Region.wanted,hg]
   rcases hgv with ⟨b,hgv,hb⟩ | hgv
   ·obtain ⟨d,hd,hr⟩ := hguard g want _ hg hgv
    simp only [yielded,hd,Option.bind_some]
    rw [Array.getD_eq_getD_getElem?] at hr
    cases hx : a.tmps[d]? with
    | none => rw [hx] at hr; simp [undef] at hr; cases hr
    | some x =>
     rw [hx] at hr; simp at hr; cases hr
     cases b <;> cases want <;> simp_all [beqB]
   ·obtain ⟨d,hd,hr⟩ := hguard g want _ hg hgv
    simp only [yielded,hd,Option.bind_some]
    rw [Array.getD_eq_getD_getElem?] at hr
    cases hx : a.tmps[d]? with
    | none => simp
    | some x => rw [hx] at hr; simp at hr; cases hr; simp
  simp only [hw,Bool.false_eq_true,if_false]
  refine ⟨fun _ _ => trivial,hnext K _ w (Kle.refl K) (hput K undef (Kle.refl K) ?_) hS⟩
  rw [hvj]
  exact .tup (vs := []) rfl (fun i c v hc _ => by simp at hc)
def unl (n : Nat) (listed : Array Bool) : Nat := (List.range n).countP fun i => !listed.getD i false
theorem countP_split {α : Type} (p q : α → Bool) (x : α) : ∀ (l : List α),l.Nodup → x ∈ l → p x = true → q x = false → (∀ y ∈ l,y ≠ x → q y = p y) → l.countP p = l.countP q + 1
 | [],_,h,_,_,_ => by simp at h
 | y :: l,hn,hx,hp,hq,hy => by
  have hn' := List.nodup_cons.1 hn
  rcases List.mem_cons.1 hx with rfl | hx
  ·have hrest : l.countP p = l.countP q := List.countP_congr (fun z hz => by rw [hy z (by simp [hz]) (fun e => hn'.1 (e ▸ hz))])
   simp [List.countP_cons,hp,hq,hrest]
  ·have hyx : y ≠ x := fun e => hn'.1 (e ▸ hx)
   have hrest := countP_split p q x l hn'.2 hx hp hq (fun z hz => hy z (by simp [hz]))
   have hyy := hy y (by simp) hyx
   simp only [List.countP_cons,hyy,hrest]; omega
theorem unl_set {n : Nat} {listed : Array Bool} {j : Nat} (hj : j < n) (hs : j < listed.size) (hun : listed.getD j false = false) : unl n listed = unl n (listed.setIfInBounds j true) + 1 := by
 refine countP_split _ _ j (List.range n) List.nodup_range (List.mem_range.2 hj) (by simp [hun]) ?_ ?_
 ·simp [Array.getD_eq_getD_getElem?,hs]
 ·intro y _ hy
  rw [getD_set_ne false (Ne.symm hy)]
theorem getD_tf {listed : Array Bool} {i : Nat} (hi : i < listed.size) (b c : Bool) : listed.getD i b = listed.getD i c := by
 simp [Array.getD_eq_getD_getElem?,hi]
theorem wpOpsIn_weak {P : Program} {F : Fence} {ops : Array Oper} {Q : Exit → Act → World → Prop} {i : Nat} {l : List Nat} {a : Act} {w : World} (h : wpOpsIn F 0 P ops Q (i :: l) a w) {next : Act → World → Prop} (hn : ∀ a w,wpOpsIn F 0 P ops Q l a w → next a w) :
  wpOpIn F 0 P ops Q i next a w := by
 rw [wpOpsIn_cons] at h
 exact wpOpIn_mono hn h
theorem tail_seq {P : Program} {F : Fence} {ops : Array Oper} {n : Nat} (hf : DFacts ops n) {Q : Exit → Act → World → Prop} : ∀ (f m : Nat) (listed : Array Bool) (a : Act) (w : World),n ≤ m → m + f = ops.size → listed.size = ops.size →
  (∀ i,i < ops.size → listed.getD i false = decide (i < m)) → wpOpsIn F 0 P ops Q (List.range' m f) a w → wpAnyIn F 0 P .any ops Q f listed a w := by
 intro f
 induction f with
 | zero =>
  intro m listed a w hnm hmf hsz hl h
  refine ⟨?_,h⟩
  apply List.eq_nil_iff_forall_not_mem.2
  intro i hi
  obtain ⟨h1,o,ho,_⟩ := mem_ready.1 hi
  have hlt : i < ops.size := (Array.getElem?_eq_some_iff.1 ho).1
  rw [getD_tf (by omega) true false,hl i hlt] at h1
  simp at h1; omega
 | succ f ih =>
  intro m listed a w hnm hmf hsz hl h
  have hm : m < ops.size := by omega
  obtain ⟨om,hom⟩ : ∃ o,ops[m]? = some o := ⟨ops[m],by simp [hm]⟩
  have hready : m ∈ Region.ready .any ops listed := by
   refine mem_ready.2 ⟨?_,om,hom,fun e he hb => ?_⟩
   ·rw [getD_tf (by omega) true false,hl m hm]; simp
   ·have := hf.back m om hom e.on (mem_deps.2 ⟨e,he,hb,rfl⟩)
    rw [hl _ (by omega)]; simp; exact this
  refine ⟨fun hnil => by rw [hnil] at hready; simp at hready,fun i hi => ?_⟩
  obtain ⟨h1,o,ho,hall⟩ := mem_ready.1 hi
  have hlt : i < ops.size := (Array.getElem?_eq_some_iff.1 ho).1
  rw [getD_tf (by omega) true false,hl i hlt] at h1
  have him : m ≤ i := by simpa using h1
  have hie : i = m := by
   by_cases hc : i = m
   ·exact hc
   ·exfalso
    rcases hf.tl with htl | ⟨_,hch⟩
    ·omega
    ·have h2 := List.all_eq_true.1 hch i (List.mem_range.2 hlt)
     simp only [Bool.or_eq_true,decide_eq_true_eq] at h2
     rcases h2 with h2 | h2
     ·omega
     ·obtain ⟨o',ho',e,he,hb,hon⟩ := Region.waitsFor_spec h2
      rw [ho] at ho'; cases ho'
      have := hall e he hb
      rw [hon,hl _ (by omega)] at this
      simp at this; omega
  subst hie
  rw [List.range'_succ] at h
  refine wpOpsIn_weak h (fun a' w' h' => ih (i + 1) _ a' w' (by omega) (by omega) (by simp [hsz]) ?_ h')
  intro q hq
  by_cases hqi : i = q
  ·subst hqi
   have : i < listed.size := by omega
   simp [Array.getD_eq_getD_getElem?,this]
  ·rw [getD_set_ne false hqi,hl q hq]
   by_cases hq1 : q < i
   ·simp [hq1,show q < i + 1 by omega]
   ·simp [hq1,show ¬ q < i + 1 by omega]
theorem draw_any {P : Program} {τ : List (TypeId × TI)} (hτ : AllOk P τ) {rd : Option Nat} {N n : Nat} {ops : Array Oper} {w0 : World} {V : List AV} {E : Env} {S : List En} {k : Env → List En → Prop} (hf : DFacts ops n) (hV : V.length = n) (hok : ops.toList.all (operOk N) = true)
  (hh : heads P τ ops.toList S (ops.toList.take n) V E) (ht : aops P τ ops.toList n (ops.toList.drop n) (putAll E (ops.toList.take n) V) S k) (K : Kn) :
  ∀ (f : Nat) (listed : Array Bool) (a : Act) (w : World) (K' : Kn),Kle K K' → HeadInv .any ops n listed → unl ops.size listed = f → Slots N n K' ops V E listed a → RelS w0 K' S w →
   wpAnyIn (Fw rd) 0 P .any ops (APost w0 N K fun x E' S' => x = .normal ∧ k E' S') f listed a w := by
 intro f
 induction f with
 | zero =>
  intro listed a w K' hK inv hu hs hS
  -- all are listed: there is no last one
  have hall : ∀ i,i < ops.size → listed.getD i false = true := by
   intro i hi
   have := List.countP_eq_zero.1 hu i (List.mem_range.2 hi)
   simpa using this
  have hns : n = ops.size := by
   by_cases hc : n < ops.size
   ·have := inv.tail n (Nat.le_refl _) hc
    rw [getD_tf (by rw [inv.size]; exact hc) true false,hall n hc] at this; cases this
   ·have := hf.hn; omega
  refine tail_seq hf 0 n listed a w (Nat.le_refl _) (by omega) inv.size (fun i hi => by rw [hall i hi]; simp; omega) ?_
  have hE : RelE N K' (putAll E (ops.toList.take n) V) a := by
   refine ⟨hs.size,fun t => ?_,by rw [putAll_m]; exact hs.defers⟩
   by_cases hex : ∃ i o',i < n ∧ ops[i]? = some o' ∧ o'.dst = some t
   ·obtain ⟨i,o',hi,ho',hd⟩ := hex
    have hiV : i < V.length := by omega
    rw [lk_putAll_some _ V E t i o' V[i] (by rw [List.getElem?_take,if_pos hi]; simpa using ho') (List.getElem?_eq_getElem hiV) hd (fun i2 o2 ho2 hd2 => by
     rw [List.getElem?_take] at ho2
     split at ho2
     ·exact hf.ds i i2 o' o2 t hi (by assumption) ho' (by simpa using ho2) hd hd2
     ·cases ho2)]
    exact hs.done i o' V[i] t hi (hall i (by omega)) ho' (List.getElem?_eq_getElem hiV) hd
   ·rw [lk_putAll_none]
    ·exact hs.todo t (fun i2 o2 h2 _ ho2 hd2 => hex ⟨i2,o2,h2,ho2,hd2⟩)
    ·intro o2 ho2 hd2
     obtain ⟨q,hq,hqe⟩ := List.mem_iff_getElem.1 ho2
     have hq' : (ops.toList.take n)[q]? = some o2 := by rw [List.getElem?_eq_getElem hq,hqe]
     rw [List.getElem?_take] at hq'
     split at hq'
     ·exact hex ⟨q,o2,by assumption,by simpa using hq',hd2⟩
     ·cases hq'
  have hdn : ops.toList.drop n = [] := List.drop_eq_nil_of_le (by rw [Array.length_toList]; omega)
  rw [hdn] at ht
  exact ⟨K',_,_,hK,hE,hS,rfl,ht⟩
 | succ f ih =>
  intro listed a w K' hK inv hu hs hS
  by_cases hhd : ∀ i,i < n → listed.getD i false = true
  · -- the first ones are done
   have hl : ∀ i,i < ops.size → listed.getD i false = decide (i < n) := by
    intro i hi
    by_cases hin : i < n
    ·rw [hhd i hin]; simp [hin]
    ·have := inv.tail i (by omega) hi
     rw [getD_tf (by rw [inv.size]; exact hi) true false] at this
     rw [this]; simp [hin]
   have hcount : unl ops.size listed = ops.size - n := by
    unfold unl
    have e1 : (List.range ops.size).countP (fun i => !listed.getD i false) = (List.range ops.size).countP (fun i => decide (n ≤ i)) :=
     List.countP_congr (fun i hi => by rw [hl i (List.mem_range.1 hi)]; simp)
    rw [e1]
    have hsp : List.range ops.size = List.range n ++ List.range' n (ops.size - n) := by
     have := List.range_add (n := n) (m := ops.size - n)
     have hh2 := hf.hn
     rw [show n + (ops.size - n) = ops.size by omega] at this
     rw [this]; congr 1
     rw [List.range_eq_range',List.map_add_range']; simp
    rw [hsp,List.countP_append,List.countP_eq_zero.2 (by intro i hi; have := List.mem_range.1 hi; simp; omega),List.countP_eq_length.2 (by intro i hi; have := List.mem_range'.1 hi; simp; omega)]
    simp
   have hfe : f + 1 = ops.size - n := by rw [← hu,hcount]
   have hE : RelE N K' (putAll E (ops.toList.take n) V) a := by
    refine ⟨hs.size,fun t => ?_,by rw [putAll_m]; exact hs.defers⟩
    by_cases hex : ∃ i o',i < n ∧ ops[i]? = some o' ∧ o'.dst = some t
    ·obtain ⟨i,o',hi,ho',hd⟩ := hex
     have hiV : i < V.length := by omega
     rw [lk_putAll_some _ V E t i o' V[i] (by rw [List.getElem?_take,if_pos hi]; simpa using ho') (List.getElem?_eq_getElem hiV) hd (fun i2 o2 ho2 hd2 => by
      rw [List.getElem?_take] at ho2
      split at ho2
      ·exact hf.ds i i2 o' o2 t hi (by assumption) ho' (by simpa using ho2) hd hd2
      ·cases ho2)]
     exact hs.done i o' V[i] t hi (hhd i hi) ho' (List.getElem?_eq_getElem hiV) hd
    ·rw [lk_putAll_none]
     ·exact hs.todo t (fun i2 o2 h2 _ ho2 hd2 => hex ⟨i2,o2,h2,ho2,hd2⟩)
     ·intro o2 ho2 hd2
      obtain ⟨q,hq,hqe⟩ := List.mem_iff_getElem.1 ho2
      have hq' : (ops.toList.take n)[q]? = some o2 := by rw [List.getElem?_eq_getElem hq,hqe]
      rw [List.getElem?_take] at hq'
      split at hq'
      ·exact hex ⟨q,o2,by assumption,by simpa using hq',hd2⟩
      ·cases hq'
   have hh2 := hf.hn
   refine tail_seq hf (f + 1) n listed a w (Nat.le_refl _) (by omega) inv.size hl ?_
   have hrun := aops_ok hτ (rd := rd) (N := N) (ops := ops) (w0 := w0) (k := k) (ops.toList.drop n) n _ S rfl (List.all_eq_true.2 fun o ho => List.all_eq_true.1 hok o (List.mem_of_mem_drop ho)) ht K' a w hE hS
   have hlen : (ops.toList.drop n).length = f + 1 := by rw [List.length_drop,Array.length_toList]; omega
   rw [hlen] at hrun
   have key : ∀ (l : List Nat) (a : Act) (w : World),wpOpsIn (Fw rd) 0 P ops (APost w0 N K' fun x E' S' => x = .normal ∧ k E' S') l a w → wpOpsIn (Fw rd) 0 P ops (APost w0 N K fun x E' S' => x = .normal ∧ k E' S') l a w :=
    fun l a w hx => wpOpsIn_post (fun e a w hq => APost.le hK hq) l a w hx
   exact key _ _ _ hrun
  ·obtain ⟨i0,hi0,hun0⟩ : ∃ i,i < n ∧ listed.getD i false = false := by
    by_cases hc : ∃ i,i < n ∧ listed.getD i false = false
    ·exact hc
    ·exfalso; apply hhd; intro i hi
     cases hl : listed.getD i false with
     | true => rfl
     | false => exact absurd ⟨i,hi,hl⟩ hc
   have hcl : ∀ (i : Nat) (o' : Oper),ops[i]? = some o' → listed.getD i false = true → ∀ e ∈ deps o',listed.getD e false = true := by
    intro i o' ho' hl e he
    obtain ⟨ed,hed,hb,rfl⟩ := mem_deps.1 he
    exact inv.closed i o' ho' hl ed hed hb
   have hh2 := hf.hn
   -- the first that is not listed is ready
   have hready : Region.ready .any ops listed ≠ [] := by
    have : ∀ (d i : Nat),i ≤ d → i < ops.size → listed.getD i false = false → Region.ready .any ops listed ≠ [] := by
     intro d
     induction d with
     | zero =>
      intro i hd hi hl
      obtain rfl : i = 0 := by omega
      obtain ⟨o,ho⟩ : ∃ o,ops[0]? = some o := ⟨ops[0],by simp [hi]⟩
      have : 0 ∈ Region.ready .any ops listed := mem_ready.2 ⟨by rw [getD_tf (by rw [inv.size]; exact hi) true false]; exact hl,o,ho,fun e he hb => by
       have := hf.back 0 o ho e.on (mem_deps.2 ⟨e,he,hb,rfl⟩); omega⟩
      intro hnil; rw [hnil] at this; simp at this
     | succ d ihd =>
      intro i hd hi hl
      obtain ⟨o,ho⟩ : ∃ o,ops[i]? = some o := ⟨ops[i],by simp [hi]⟩
      by_cases hall : ∀ e ∈ deps o,listed.getD e false = true
      ·have : i ∈ Region.ready .any ops listed := mem_ready.2 ⟨by rw [getD_tf (by rw [inv.size]; exact hi) true false]; exact hl,o,ho,fun e he hb => hall e.on (mem_deps.2 ⟨e,he,hb,rfl⟩)⟩
       intro hnil; rw [hnil] at this; simp at this
      ·obtain ⟨e,he,hle⟩ : ∃ e,e ∈ deps o ∧ listed.getD e false = false := by
        by_cases hc : ∃ e,e ∈ deps o ∧ listed.getD e false = false
        ·exact hc
        ·exfalso; apply hall; intro e he
         cases hl : listed.getD e false with
         | true => rfl
         | false => exact absurd ⟨e,he,hl⟩ hc
       have := hf.back i o ho e he
       exact ihd e (by omega) (by omega) hle
    exact this i0 i0 (Nat.le_refl _) (by omega) hun0
   refine ⟨fun hnil => absurd hnil hready,fun i hi => ?_⟩
   obtain ⟨h1,o,ho,hall⟩ := mem_ready.1 hi
   have hlt : i < ops.size := (Array.getElem?_eq_some_iff.1 ho).1
   have hin : i < n := by
    by_cases hc : i < n
    ·exact hc
    ·exfalso
     rcases hf.tl with htl | ⟨hsk,hch⟩
     ·omega
     ·exact tail_waits hsk hch (by omega) inv (n - i0) i0 rfl hi0 (by rw [getD_tf (by rw [inv.size]; omega) true false]; exact hun0) i (by omega) hi
   have hun : listed.getD i false = false := by rw [getD_tf (by rw [inv.size]; exact hlt) false true]; exact h1
   refine head_step hτ hf.toDFacts0 hV hok hh hs hS hin ho inv.size hun (fun e he => by obtain ⟨ed,hed,hb,rfl⟩ := mem_deps.1 he; exact hall ed hed hb) hcl (fun K2 a' w' hK2 hs2 hS2 => ?_)
   have hun2 := unl_set hlt (by rw [inv.size]; exact hlt) hun
   exact ih _ a' w' K2 (hK.trans hK2) (inv.set hi hin) (by omega) hs2 hS2
end Go.Aw
