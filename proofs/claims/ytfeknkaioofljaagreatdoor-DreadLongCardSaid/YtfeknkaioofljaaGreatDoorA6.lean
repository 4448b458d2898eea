/-
  Code,and a function's body. Own work.
-/
import Derived.Test.YtfeknkaioofljaaGreatDoorA5
set_option linter.all false
namespace Go.Aw
open Go.RowKit
def codeOk (N : Nat) : Code → Bool
  | .region _ ops _ => ops.toList.all (operOk N)
  | .seq a b => codeOk N a && codeOk N b
  | .cond c a b => opdOk c && codeOk N a && codeOk N b
  | .block _ c => codeOk N c
  | .loop c => codeOk N c
  | .rangeFunc f ps a b => opdOk f && ps.toList.all (fun p => Nat.blt p N) && codeOk N a && codeOk N b
  | .scope c => codeOk N c
  | _ => true
abbrev Kt := Exit → Env → List En → Prop
def AW (P : Program) (N : Nat) (rd : Option Nat) (c : Code) (E : Env) (S : List En) (k : Kt) : Prop :=
  codeOk N c = true → ∀ w0 K a w,RelE N K E a → RelS w0 K S w → c.wpIn (Fw rd) 0 P (APost w0 N K k) a w
section
variable {P : Program} {N : Nat} {rd : Option Nat} {E : Env} {S : List En} {k : Kt}
theorem AW.mono {c : Code} {k' : Kt} (h : AW P N rd c E S k) (hk : ∀ x E S,k x E S → k' x E S) : AW P N rd c E S k' :=
  fun hc w0 K a w hE hS => wpIn_mono (h hc w0 K a w hE hS) fun x a w ⟨K',E',S',h1,h2,h3,h4⟩ => ⟨K',E',S',h1,h2,h3,hk _ _ _ h4⟩
def kThen (y : Env → List En → Prop) (k : Kt) : Kt := fun x E S => match x with
  | .normal => y E S
  | x => k x E S
def kBlock (id : Nat) (k : Kt) : Kt := fun x E S => match x with
  | .exit i => bif Nat.beq i id then k .normal E S else k (.exit i) E S
  | x => k x E S
theorem stepR_scope {P : Program} {b : Frame} {a : Act} {k : List Item} {cs : List Frame} {w : World} {c : Code} : step P (lone (b.atR a (.code (.scope c) :: k)) cs w) = .next (lone (b.atR a (.code c :: .inScope c :: k)) cs w) :=
  step_lone_go (by simp [stepG,stepG.exec,Frame.atR])
theorem stepR_inScope {P : Program} {b : Frame} {a : Act} {k : List Item} {cs : List Frame} {w : World} {c : Code} : step P (lone (b.atR a (.inScope c :: k)) cs w) = .next (lone (b.atR a k) cs w) :=
  step_lone_go (by simp [stepG,stepG.exec,Frame.atR])
def kScope (k : Kt) : Kt := fun x E S => match x with
  | .goto _ => False
  | x => k x E S
theorem AW_scope {c : Code} (h : AW P N rd c E S (kScope k)) : AW P N rd (.scope c) E S k := by
  intro hc w0 K a w hE hS
  have h1 := h hc w0 K a w hE hS
  intro b kk cs hro hb hr
  have h0 : (lone (b.atR a (.code (.scope c) :: kk)) cs w).fenced P (Fw rd) := fenced_calm hb hr rfl
  obtain ⟨e,a₁,w₁,⟨K1,E1,S1,g1,g2,g3,g4⟩,harr⟩ := h1 b (.inScope c :: kk) cs hro hb hr
  cases e with
  | normal => exact ⟨.normal,a₁,w₁,⟨K1,E1,S1,g1,g2,g3,g4⟩, .head h0 stepR_scope (StepsIn.trans harr (.one (fenced_calm hb hr rfl) stepR_inScope))⟩
  | exit id =>
    have hx : exitTo id (.inScope c :: kk) = exitTo id kk := by simp [exitTo]
    exact ⟨.exit id,a₁,w₁,⟨K1,E1,S1,g1,g2,g3,g4⟩,fun k' hk => .head h0 stepR_scope (harr.1 k' (by rw [hx]; exact hk)),
      fun hr' hk => let ⟨k₁,e1,e2⟩ := harr.2 hr' (by rw [hx]; exact hk); ⟨k₁,e1, .head h0 stepR_scope e2⟩⟩
  | goto l => exact (show False from g4).elim
  | ret => exact ⟨_,a₁,w₁,⟨K1,E1,S1,g1,g2,g3,g4⟩, .of_steps (.one h0 stepR_scope) harr⟩
  | panic ch => exact ⟨_,a₁,w₁,⟨K1,E1,S1,g1,g2,g3,g4⟩, .of_steps (.one h0 stepR_scope) harr⟩
  | outgrown => exact ⟨_,a₁,w₁,⟨K1,E1,S1,g1,g2,g3,g4⟩, .of_steps (.one h0 stepR_scope) harr⟩
theorem AW_skip (h : k .normal E S) : AW P N rd .skip E S k :=
  fun _ w0 K a w hE hS => wpIn_skip ⟨K,E,S,Kle.refl K,hE,hS,h⟩
theorem AW_label {l : Nat} (h : k .normal E S) : AW P N rd (.label l) E S k :=
  fun _ w0 K a w hE hS => wpIn_label ⟨K,E,S,Kle.refl K,hE,hS,h⟩
theorem AW_exit {id : Nat} (h : k (.exit id) E S) : AW P N rd (.exit id) E S k :=
  fun _ w0 K a w hE hS => wpIn_exit ⟨K,E,S,Kle.refl K,hE,hS,h⟩
theorem AW_goto {l : Nat} (h : k (.goto l) E S) : AW P N rd (.goto l) E S k :=
  fun _ w0 K a w hE hS => wpIn_goto ⟨K,E,S,Kle.refl K,hE,hS,h⟩
theorem AW_ret (h : k .ret E S) : AW P N rd .ret E S k :=
  fun _ w0 K a w hE hS => wpIn_ret ⟨K,E,S,Kle.refl K,hE,hS,h⟩
theorem AW_seq {x y : Code} (h : AW P N rd x E S (kThen (fun E S => AW P N rd y E S k) k)) : AW P N rd (.seq x y) E S k := by
  intro hc w0 K a w hE hS
  simp only [codeOk,Bool.and_eq_true] at hc
  refine wpIn_seq (wpIn_mono (h hc.1 w0 K a w hE hS) ?_)
  rintro e a' w' ⟨K',E',S',h1,h2,h3,h4⟩
  cases e with
  | normal => exact wpIn_mono (h4 hc.2 w0 K' a' w' h2 h3) fun x a w hp => APost.le h1 hp
  | _ => exact ⟨K',E',S',h1,h2,h3,h4⟩
theorem AW_cond {c : Operand} {x y : Code} {b : Bool} (hb : ev E c = .bool b) (ht : b = true → AW P N rd x E S k) (hf : b = false → AW P N rd y E S k) : AW P N rd (.cond c x y) E S k := by
  intro hc w0 K a w hE hS
  simp only [codeOk,Bool.and_eq_true] at hc
  have hv := hE.ev c hc.1.1
  rw [hb] at hv
  generalize hx : a.eval c = v at hv
  cases hv
  cases b with
  | true => exact wpIn_cond_true hx (ht rfl hc.1.2 w0 K a w hE hS)
  | false => exact wpIn_cond_false hx (hf rfl hc.2 w0 K a w hE hS)
theorem AW_block {id : Nat} {c : Code} (h : AW P N rd c E S (kBlock id k)) : AW P N rd (.block id c) E S k := by
  intro hc w0 K a w hE hS
  refine wpIn_block (wpIn_mono (h hc w0 K a w hE hS) ?_)
  rintro e a' w' ⟨K',E',S',h1,h2,h3,h4⟩
  cases e with
  | exit i =>
    simp only [Exit.inBlock]
    simp only [kBlock] at h4
    by_cases hi : i = id
    · subst hi
      rw [if_pos rfl]
      have : Nat.beq i i = true := Nat.beq_refl i
      rw [this] at h4
      exact ⟨K',E',S',h1,h2,h3,h4⟩
    · rw [if_neg hi]
      rw [natBeq_ne hi] at h4
      exact ⟨K',E',S',h1,h2,h3,h4⟩
  | _ => exact ⟨K',E',S',h1,h2,h3,h4⟩
theorem AW_region {τ : List (TypeId × TI)} (hτ : AllOk P τ) {id : Nat} {ops : Array Oper} (h : aops P τ ops.toList 0 ops.toList E S (fun E' S' => k .normal E' S')) : AW P N rd (.region id ops false) E S k := by
  intro hc w0 K a w hE hS
  have := aops_ok hτ (rd := rd) (N := N) (ops := ops) (w0 := w0) ops.toList 0 E S rfl hc h K a w hE hS
  refine wpIn_region (wpOpsIn_post ?_ _ a w (by rw [List.range_eq_range']; simpa using this))
  rintro e a' w' ⟨K',E',S',h1,h2,h3,rfl,h4⟩
  exact ⟨K',E',S',h1,h2,h3,h4⟩
theorem AW_draw {τ : List (TypeId × TI)} (hτ : AllOk P τ) (hm : P.follows .mixedOrders = true) (n : Nat) {id : Nat} {ops : Array Oper} (hd : drawOk ops n = true)
    (h : aheads P τ ops.toList 0 (ops.toList.take n) E S (fun E' => aops P τ ops.toList n (ops.toList.drop n) E' S (fun E' S' => k .normal E' S'))) : AW P N rd (.region id ops true) E S k := by
  intro hc w0 K a w hE hS
  have hf := dfacts_of hd
  obtain ⟨V,hV,hk⟩ := heads_of _ _ _ h
  have hVn : V.length = n := by rw [heads_len _ _ _ hV,List.length_take,Array.length_toList]; have := hf.hn; omega
  refine wpIn_region_any hm ?_
  have hS' := hS.drew
  have := draw_any hτ (rd := rd) (N := N) (w0 := w0) hf hVn hc hV hk K (unl ops.size (Array.replicate ops.size false)) (Array.replicate ops.size false) a w.drew K (Kle.refl K)
    ⟨by simp,(fun j oj _ hl => by rw [getD_replicate_false] at hl; cases hl),(fun t h1 h2 => by simp [Array.getD_eq_getD_getElem?,h2])⟩ rfl
    ⟨hE.size,hE.defers,(fun i o v t _ hl => by rw [getD_replicate_false] at hl; cases hl),fun t _ => hE.slot t⟩ hS'
  have hu : unl ops.size (Array.replicate ops.size false) = ops.size := by
    unfold unl
    rw [List.countP_eq_length.2 (by intro i hi; rw [getD_replicate_false]; rfl)]; simp
  rw [hu] at this
  have key : ∀ (f : Nat) (l : Array Bool) (a : Act) (w : World),wpAnyIn (Fw rd) 0 P .any ops (APost w0 N K fun x E' S' => x = .normal ∧ k .normal E' S') f l a w → wpAnyIn (Fw rd) 0 P .any ops (APost w0 N K k) f l a w := by
    have hpost : ∀ e a w,APost w0 N K (fun x E' S' => x = .normal ∧ k .normal E' S') e a w → APost w0 N K k e a w := by
      rintro e a' w' ⟨K',E',S',h1,h2,h3,rfl,h4⟩
      exact ⟨K',E',S',h1,h2,h3,h4⟩
    intro f
    induction f with
    | zero => exact fun l a w hh => ⟨hh.1,hpost _ _ _ hh.2⟩
    | succ f ih =>
      intro l a w hh
      refine ⟨fun hn => hpost _ _ _ (hh.1 hn),fun i hi => ?_⟩
      have h1 := wpOpIn_mono (fun a w hx => ih _ a w hx) (hh.2 i hi)
      unfold wpOpIn at h1 ⊢
      split at h1
      · exact h1
      · split at h1
        · rename_i hw
          rw [if_pos hw]
          refine ⟨h1.1,?_⟩
          have h5 := h1.2
          revert h5
          generalize (Oper.semAt _ _ _).run P w = rr
          intro h5
          cases rr with
          | halt x w => cases x <;> first | exact h5.elim | exact hpost _ _ _ (show APost w0 N K _ _ a _ from h5)
          | ok x w =>
            cases x <;> first
              | exact h5.elim
              | exact h5
              | exact ⟨h5.1,CallsIn.mono h5.2 (fun e w'' he => by
                  cases e with
                  | returned v => exact he
                  | panicked c => exact hpost _ _ _ he
                  | outgrown => obtain ⟨a0,w00,hq⟩ := he; exact ⟨a0,w00,hpost _ _ _ hq⟩)⟩
              | exact ⟨h5.1,RowsIn.mono h5.2 (fun _ _ he => he)⟩
              | exact ⟨h5.1,RoundIn.mono h5.2 (fun e w'' he => by
                  cases e with
                  | returned v => exact he
                  | panicked c => exact hpost _ _ _ he
                  | outgrown => obtain ⟨a0,w00,hq⟩ := he; exact ⟨a0,w00,hpost _ _ _ hq⟩)⟩
        · rename_i hw
          rw [if_neg hw]; exact h1
  exact key _ _ _ _ this
def Weak (E : Env) (S : List En) (E' : Env) (S' : List En) : Prop :=
  ∀ w0 N K a w,RelE N K E a → RelS w0 K S w → ∃ K',Kle K K' ∧ RelE N K' E' a ∧ RelS w0 K' S' w
theorem AW_weak {c : Code} {E' : Env} {S' : List En} (hw : Weak E S E' S') (h : AW P N rd c E' S' k) : AW P N rd c E S k :=
  fun hc w0 K a w hE hS => let ⟨_,hK,h1,h2⟩ := hw w0 N K a w hE hS; wpIn_mono (h hc w0 _ a w h1 h2) fun _ _ _ hp => APost.le hK hp
def envLe : List (Nat × AV) → Env → Prop
  | [],_ => True
  | p :: r,E => AVle (lk E.l p.1) p.2 ∧ envLe r E
theorem envLe_lk : ∀ (l : List (Nat × AV)) (E : Env),envLe l E → ∀ i,AVle (lk E.l i) (lk l i)
  | [],E,_,i => fun _ _ _ => .junk _
  | (j,v) :: r,E,h,i => by
    simp only [lk]
    by_cases hj : j = i
    · subst hj; rw [Nat.beq_refl j]; exact h.1
    · rw [natBeq_ne hj]; exact envLe_lk r E h.2 i
def SLe (S S' : List En) : Prop := ∀ w0 K w,RelS w0 K S w → RelS w0 K S' w
theorem SLe.rfl {S : List En} : SLe S S := fun _ _ _ h => h
theorem SLe.tail {S S' : List En} {e : En} (h : SLe S S') : SLe (e :: S) S' := fun w0 K w hs => h w0 K w hs.tail
theorem SLe.sub {S S' : List En} (h : S'.Sublist S) : SLe S S' := fun _ _ _ hs => hs.sub h
theorem SLe.trans {A B C : List En} (h : SLe A B) (h' : SLe B C) : SLe A C := fun w0 K w hs => h' w0 K w (h w0 K w hs)
theorem SLe.full {S S' : List En} (h : SLe S S') : SLe S (.grow .full :: S') := fun w0 K w hs => (h w0 K w hs).addFull
theorem SLe.cons {S S' : List En} {e : En} (h : SLe S S') (hf : S'.Sublist S) : SLe (e :: S) (e :: S') := SLe.sub (hf.cons_cons e)
theorem weak_of {l : List (Nat × AV)} {m : List Nat} {S' : List En} (h : envLe l E) (hm : m = E.m) (hS : SLe S S') : Weak E S ⟨l,m⟩ S' :=
  fun w0 N K a w hE hS' => ⟨K,Kle.refl K,⟨hE.size,fun i => envLe_lk l E h i K _ (hE.slot i),by rw [hE.defers,hm]⟩,hS w0 K w hS'⟩
theorem AW_loop {c : Code} (I : Nat → Env → List En → Prop) (h0 : ∃ n E' S',Weak E S E' S' ∧ I n E' S')
    (hr : ∀ n E S,I n E S → AW P N rd c E S (kThen (fun E1 S1 => ∃ m E' S',m < n ∧ Weak E1 S1 E' S' ∧ I m E' S') k)) : AW P N rd (.loop c) E S k := by
  intro hc w0 K a w hE hS
  obtain ⟨n0,E0,S0,hw0,hi0⟩ := h0
  obtain ⟨K00,hK00,hE0,hS0⟩ := hw0 w0 N K a w hE hS
  have key : ∀ n K' E S a w,Kle K K' → I n E S → RelE N K' E a → RelS w0 K' S w →
      ∀ (b : Frame) (kk : List Item) (cs : List Frame),b.roundOf = (Fw rd).round →
        ∃ e a' w',APost w0 N K k e a' w' ∧ ArrivesIn (Machine.fenced P (Fw rd)) P (lone (b.atR a (.code c :: .inLoop c :: kk)) cs w) b kk cs e a' w' := by
    intro n
    induction n using Nat.strongRecOn with
    | _ n ih =>
      intro K' E S a w hK hI hE hS b kk cs hro
      obtain ⟨e,a₁,w₁,⟨K1,E1,S1,h1,h2,h3,h4⟩,harr⟩ := hr n E S hI hc w0 K' a w hE hS b (.inLoop c :: kk) cs hro trivial (fw_room _ _)
      cases e with
      | normal =>
        obtain ⟨m,E2,S2,hm,hw2,hi2⟩ := h4
        obtain ⟨K2,hK2,hE2,hS2⟩ := hw2 w0 N K1 a₁ w₁ h2 h3
        obtain ⟨e₂,a₂,w₂,hq₂,harr₂⟩ := ih m hm K2 E2 S2 a₁ w₁ ((hK.trans h1).trans hK2) hi2 hE2 hS2 b kk cs hro
        exact ⟨e₂,a₂,w₂,hq₂, .of_steps (StepsIn.trans harr (.one (fenced_calm (n := 0) trivial (fw_room _ _) rfl) stepR_inLoop)) harr₂⟩
      | exit id => exact ⟨_,a₁,w₁,⟨K1,E1,S1,hK.trans h1,h2,h3,h4⟩, .pass (x := .inLoop c) rfl (fun _ _ => .inl (by simp)) harr⟩
      | goto l => exact ⟨_,a₁,w₁,⟨K1,E1,S1,hK.trans h1,h2,h3,h4⟩, .pass (x := .inLoop c) rfl (fun _ _ => .inl (by simp)) harr⟩
      | ret => exact ⟨_,a₁,w₁,⟨K1,E1,S1,hK.trans h1,h2,h3,h4⟩, .pass (x := .inLoop c) rfl (fun _ _ => .inl (by simp)) harr⟩
      | panic ch => exact ⟨_,a₁,w₁,⟨K1,E1,S1,hK.trans h1,h2,h3,h4⟩, .pass (x := .inLoop c) rfl (fun _ _ => .inl (by simp)) harr⟩
      | outgrown => exact ⟨_,a₁,w₁,⟨K1,E1,S1,hK.trans h1,h2,h3,h4⟩, .pass (x := .inLoop c) rfl (fun _ _ => .inl (by simp)) harr⟩
  intro b kk cs hro hb hrm
  obtain ⟨e,a',w',hq,harr⟩ := key n0 K00 E0 S0 a w hK00 hi0 hE0 hS0 b kk cs hro
  exact ⟨e,a',w',hq, .of_steps (.one (fenced_calm hb hrm rfl) stepR_loop) harr⟩
end
def envOf : Nat → List AV → List (Nat × AV)
  | _, [] => []
  | n,v :: r => (n,v) :: envOf (n + 1) r
theorem lk_envOf : ∀ (vs : List AV) (n i : Nat),lk (envOf n vs) i = if n ≤ i then (vs[i - n]?).getD .junk else .junk
  | [],n,i => by simp [envOf,lk]
  | v :: r,n,i => by
    simp only [envOf,lk]
    by_cases h : n = i
    · subst h; rw [Nat.beq_refl n]; simp
    · rw [natBeq_ne h]
      simp only [cond_false]
      rw [lk_envOf r (n + 1) i]
      by_cases h1 : n + 1 ≤ i
      · rw [if_pos h1,if_pos (by omega)]
        rw [show i - n = (i - (n + 1)) + 1 by omega,List.getElem?_cons_succ]
      · rw [if_neg h1,if_neg (by omega)]
def retVals (τ : List (TypeId × TI)) : List ResultVar → Env → List En → (List AV → Prop) → Prop
  | [],_,_,k => k []
  | .tmp t :: r,E,S,k => retVals τ r E S (fun vs => k (lk E.l t :: vs))
  | .cell a t :: r,E,S,k => (lkT τ t).d.known = true ∧ match lk E.l a with
    | .ptr b off => ∃ (p : Nat) (cs : List AV),S[p]? = some (En.cells b cs) ∧ (1 ≤ (lkT τ t).sz ∧ (lkT τ t).sz ≤ (cs.drop off).length) ∧ retVals τ r E S (fun vs => k (aLoad (lkT τ t) (cs.drop off) :: vs))
    | _ => False
def retJoin : List AV → AV
  | [v] => v
  | vs => .tup vs
def retOk (τ : List (TypeId × TI)) (rs : List ResultVar) (E : Env) (S : List En) (k : AV → List En → Prop) : Prop :=
  retVals τ rs E S (fun vs => k (retJoin vs) S)
def kLe (k : AV → List En → Prop) : AV → List En → Prop := fun v S => ∃ v' S',AVle v v' ∧ (∀ w0 K w,RelS w0 K S w → RelS w0 K S' w) ∧ k v' S'
def unmarks : List Nat → List En → (List En → Prop) → Prop
  | [],S,k => k S
  | d :: m,S,k => ∃ p,S[p]? = some (.obj d (.deferred (some []))) ∧ unmarks m (S.eraseIdx p) k
def bodyK (τ : List (TypeId × TI)) (rs : List ResultVar) (k : AV → List En → Prop) : Kt := fun x E S => match x with
  | .normal => unmarks E.m S fun S => retOk τ rs E S (kLe k)
  | .ret => unmarks E.m S fun S => retOk τ rs E S (kLe k)
  | _ => False
def resRead (tmps : Array Value) : ResultVar → Sem Value
  | .tmp t => pure (tmps.getD t undef)
  | .cell a t => do loadVar t (← asAddr (tmps.getD a undef))
theorem retVals_run {P : Program} {τ : List (TypeId × TI)} (hτ : AllOk P τ) {w0 : World} {N : Nat} {K : Kn} {E : Env} {S : List En} {a : Act} {w : World} (hE : RelE N K E a) (hS : RelS w0 K S w) : ∀ (rs : List ResultVar) (k : List AV → Prop),retVals τ rs E S k →
    ∃ vs avs,(rs.mapM (resRead a.tmps)).run P w = .ok vs w ∧ RelL K avs vs ∧ k avs
  | [],k,h => ⟨[], [],rfl,RelL.nil,h⟩
  | .tmp t :: r,k,h => by
    obtain ⟨vs,avs,h1,h2,h3⟩ := retVals_run hτ hE hS r _ h
    refine ⟨a.tmps.getD t undef :: vs,_,?_,RelL.cons (hE.slot t) h2,h3⟩
    rw [List.mapM_cons]
    simp only [resRead]
    rw [run_bind_ok (Sem.run_pure P w _),run_bind_ok h1]; rfl
  | .cell c t :: r,k,h => by
    obtain ⟨hk,h⟩ := h
    have hv := hE.slot c
    cases hlk : lk E.l c <;> rw [hlk] at h hv <;> simp only [] at h
    case ptr b off =>
      obtain ⟨p,cs,hp,hs,h⟩ := h
      obtain ⟨vs,avs,h1,h2,h3⟩ := retVals_run hτ hE hS r _ h
      obtain ⟨x,e1,e2⟩ := run_load_ptr (lkT_ok hτ t (TD.known_ne hk)) hk hS hp hv hs
      refine ⟨x :: vs,_,?_,RelL.cons e2 h2,h3⟩
      generalize hpv : a.tmps.getD c undef = pv at hv e1
      cases hv
      rw [List.mapM_cons]
      have e3 : (resRead a.tmps (.cell c t)).run P w = .ok x w := by
        simp only [resRead]
        rw [hpv]
        exact e1
      rw [run_bind_ok e3,run_bind_ok h1]; rfl
theorem ret_run {P : Program} {τ : List (TypeId × TI)} (hτ : AllOk P τ) {w0 : World} {fn : Func} {rs : List ResultVar} (hr : fn.results = rs.toArray) {N : Nat} {K : Kn} {E : Env} {S : List En} {k : AV → List En → Prop} {a : Act} {w : World} (hE : RelE N K E a) (hS : RelS w0 K S w) (h : retOk τ rs E S k) :
    ∃ v av,(results fn a.tmps).run P w = .ok v w ∧ Rel K av v ∧ k av S := by
  obtain ⟨vs,avs,h1,h2,h3⟩ := retVals_run hτ hE hS rs _ h
  have e : (results fn a.tmps).run P w = .ok (if h : vs.toArray.size = 1 then vs.toArray[0] else .tuple vs.toArray) w := by
    have e1 : (fn.results.mapM (resRead a.tmps)).run P w = .ok vs.toArray w := by
      rw [hr,List.mapM_toArray]
      simp [h1]
    show ((do let vs ← fn.results.mapM (resRead a.tmps); pure (if h : vs.size = 1 then vs[0] else .tuple vs) : Sem Value)).run P w = _
    rw [run_bind_ok e1]; rfl
  refine ⟨_,_,e,?_,h3⟩
  match vs,avs,h2 with
  | [],avs,h2 =>
    have : avs = [] := by have := h2.1; simpa using this
    subst this
    exact .tup (vs := []) rfl (fun i c v hc _ => by simp at hc)
  | [v],avs,h2 =>
    obtain ⟨av,rfl⟩ : ∃ av,avs = [av] := by
      have := h2.1
      match avs,this with
      | [av],_ => exact ⟨av,rfl⟩
    exact h2.2 0 _ _ rfl rfl
  | v :: u :: r,avs,h2 =>
    have hl := h2.1
    match avs,hl with
    | x :: y :: t,_ =>
      simp only [retJoin]
      rw [dif_neg (by simp)]
      exact .tup h2.1 h2.2
theorem RelS.unobj {w0 w : World} {K : Kn} {S : List En} {p d : Nat} {o : Obj} (h : RelS w0 K S w) (hp : S[p]? = some (.obj d o)) (o' : Obj) (ho : isCells o' = false) : RelS w0 K (S.eraseIdx p) (w.putObj d o') := by
  obtain ⟨hB,hK,hh,hoc⟩ := h.ents _ (List.mem_of_getElem? hp)
  have hd : d < w.heap.size := (Array.getElem?_eq_some_iff.1 hh).1
  have := h.turn (w' := w.putObj d o') hp (b := d) rfl (Kle.refl K) (fun _ _ => rfl) (fun c hc => World.putObj_heap_other hc) (by simp) rfl rfl rfl (fun i v hv => by rw [hK] at hv; simp at hv) (fun c t fr hc => by rw [hh] at hc; cases hc; cases hoc) (.inl rfl)
    (e' := .obj d o') ⟨hB,hK,World.putObj_heap_same hd,ho⟩
  have e : (S.set p (.obj d o')).eraseIdx p = S.eraseIdx p := by
    apply List.ext_getElem?
    intro i
    rw [List.getElem?_eraseIdx,List.getElem?_eraseIdx]
    split
    · rw [List.getElem?_set_ne (by omega)]
    · rw [List.getElem?_set_ne (by omega)]
  have h2 := this.sub (List.eraseIdx_sublist _ p)
  rw [e] at h2
  exact h2
theorem leaves_marks {P : Program} {τ : List (TypeId × TI)} (hτ : AllOk P τ) {w0 : World} {fn : Func} {rs : List ResultVar} (hr : fn.results = rs.toArray) {N : Nat} {K0 K : Kn} (hK : Kle K0 K) {E : Env} {k : AV → List En → Prop} {a : Act} (hE : RelE N K E a) : ∀ (m : List Nat) (S : List En) (w : World),RelS w0 K S w →
    unmarks m S (fun S => retOk τ rs E S (kLe k)) → LeavesInM Fence.wide 0 P fn a.tmps (fun e w' => ∃ v K' av S',e = .returned v ∧ Kle K0 K' ∧ Rel K' av v ∧ RelS w0 K' S' w' ∧ k av S') (m.map markOf) .returning w
  | [],S,w,hS,h => by
    obtain ⟨v,av,e1,e2,av',S2,e4,e5,e3⟩ := ret_run hτ hr hE hS h
    exact ⟨v,e1,v,K,av',S2,rfl,hK,e4 K _ e2,e5 _ _ _ hS,e3⟩
  | d :: m,S,w,hS,h => by
    obtain ⟨p,hp,h⟩ := h
    obtain ⟨_,_,hh,_⟩ := hS.ents _ (List.mem_of_getElem? hp)
    refine ⟨by simp, .inl ⟨d,_,rfl,run_takeDeferred hh,?_⟩⟩
    exact leaves_marks hτ hr hK hE m _ _ (hS.unobj hp _ rfl) h
theorem ACall_body {P : Program} {τ : List (TypeId × TI)} (hτ : AllOk P τ) {f : FuncId} {fn : Func} {c : Code} {rs : List ResultVar} {N : Nat} (hf : P.funcs[f]? = some fn) (hb : fn.body = some c) (hN : fn.ntmps = N) (hrs : fn.results = rs.toArray) (hok : codeOk N c = true) {args : List AV} {S : List En} {k : AV → List En → Prop}
    (hargs : args.length ≤ N) (h : AW P N none c ⟨envOf 0 args, []⟩ S (bodyK τ rs k)) : ACall P f args S k := by
  unfold ACall
  intro w0 K w vs hv hS
  refine callsIn_of_wp_marks hf hb trivial ?_ rfl
  have hE : RelE N K ⟨envOf 0 args, []⟩ { tmps := vs.toArray ++ Array.replicate (fn.ntmps - vs.toArray.size) undef,defers := [] } := by
    refine ⟨by simp [hN, ← hv.1]; omega,fun i => ?_,rfl⟩
    rw [lk_envOf,if_pos (Nat.zero_le i),Nat.sub_zero]
    cases ha : args[i]? with
    | none => exact .junk _
    | some a =>
      obtain ⟨x,hx,hr⟩ := hv.get ha
      have hi : i < vs.length := (List.getElem?_eq_some_iff.1 hx).1
      have : (vs.toArray ++ Array.replicate (fn.ntmps - vs.toArray.size) undef).getD i undef = x := by
        rw [Array.getD_eq_getD_getElem?,Array.getElem?_append_left (by simpa using hi)]
        simp [hx]
      simp only [Option.getD_some]
      rw [this]; exact hr
  refine wpIn_mono (h hok w0 K _ w hE hS) ?_
  rintro x a' w' ⟨K',E',S',h1,h2,h3,h4⟩
  have fin : unmarks E'.m S' (fun S => retOk τ rs E' S (kLe k)) → LeavesInM Fence.wide 0 P fn a'.tmps (fun e w' => ∃ v K' av S',e = .returned v ∧ Kle K K' ∧ Rel K' av v ∧ RelS w0 K' S' w' ∧ k av S') a'.defers .returning w' := by
    intro hr
    rw [h2.defers]
    exact leaves_marks hτ hrs h1 h2 _ _ _ h3 hr
  cases x with
  | normal => exact fin h4
  | ret => exact fin h4
  | _ => exact h4.elim
def Sat (a : AV) : Prop := ∃ K v,Rel K a v
theorem Sat.int {q : IntKind} {n : Int} (h : Sat (.int q n)) : q.has n := by
  obtain ⟨K,v,h⟩ := h; cases h; assumption
theorem Sat.str {s : List UInt8} (h : Sat (.str s)) : s.length ≤ 9223372036854775807 := by
  obtain ⟨K,v,h⟩ := h; cases h; assumption
theorem Sat.sl {sz : Nat} {es : List AV} {t : Tk} (h : Sat (.sl sz es t)) : es.length ≤ 9223372036854775807 := by
  show es.length ≤ maxLen
  obtain ⟨K,v,h⟩ := h
  rcases sl_cases h with ⟨a0,_,rfl,_⟩ | ⟨b,o,c,vs,ha,_⟩
  · simp
  · exact Nat.le_trans ha.hcap ha.hmax
theorem Sat.msl {b off n cap : Nat} (h : Sat (.msl b off n cap)) : n ≤ cap ∧ cap ≤ 9223372036854775807 := by
  show n ≤ cap ∧ cap ≤ maxLen
  obtain ⟨K,v,h⟩ := h
  cases h with
  | mslnil => simp
  | msl _ _ _ _ h1 h2 _ => exact ⟨h1,h2⟩
theorem Sat.flat {sz : Nat} {es : List AV} {t : Tk} (h : Sat (.sl sz es t)) {c : AV} (hc : c ∈ flat es) : Sat c := by
  obtain ⟨K,v,h⟩ := h
  rcases sl_cases h with ⟨a0,_,rfl,_⟩ | ⟨b,o,cc,vs,ha,_⟩
  · simp [Aw.flat] at hc
  · obtain ⟨i,hi,rfl⟩ := List.mem_iff_getElem.1 hc
    obtain ⟨u,_,hu⟩ := ha.rel.get (List.getElem?_eq_getElem hi)
    exact ⟨K,u,hu⟩
theorem Sat.agg {cs : List AV} (h : Sat (.agg cs)) {c : AV} (hc : c ∈ cs) : Sat c := by
  obtain ⟨K,v,h⟩ := h
  cases h with
  | @agg _ vs h1 hl h =>
    obtain ⟨i,hi,rfl⟩ := List.mem_iff_getElem.1 hc
    exact ⟨K,vs[i]'(hl ▸ hi),h i _ _ (List.getElem?_eq_getElem hi) (List.getElem?_eq_getElem (hl ▸ hi))⟩
theorem Sat.ifc {t : TypeId} {x : AV} (h : Sat (.ifc t x)) : Sat x := by
  obtain ⟨K,v,h⟩ := h; cases h with | ifc _ h => exact ⟨K,_,h⟩
theorem ACall_sat {P : Program} {f : FuncId} {args : List AV} {S : List En} {k : AV → List En → Prop} (h : (∀ a ∈ args,Sat a) → ACall P f args S k) : ACall P f args S k := by
  unfold ACall at h ⊢
  intro w0 K w vs hv hS
  refine h (fun a ha => ?_) w0 K w vs hv hS
  obtain ⟨i,hi,rfl⟩ := List.mem_iff_getElem.1 ha
  obtain ⟨u,_,hu⟩ := hv.get (List.getElem?_eq_getElem hi)
  exact ⟨K,u,hu⟩
theorem AVle.tk {sz : Nat} {es : List AV} {t : Tk} : AVle (.sl sz es t) (.sl sz es .no) := by
  intro K v h
  rcases sl_cases h with ⟨a0,rfl,rfl,_⟩ | ⟨b,o,c,vs,ha,_⟩
  · exact .slnil _ _ _ trivial
  · rw [ha.eq]; exact .sl ha.hcap ha.hmax ha.szs ha.one ha.rel.1 ha.rel.2 ha.known trivial
theorem AVle.nil {sz sz' : Nat} {t : Tk} : AVle (.sl sz [] t) (.sl sz' [] .no) := by
  intro K v h
  rcases sl_cases h with ⟨a0,rfl,_,_⟩ | ⟨b,o,c,vs,ha,_⟩
  · exact .slnil _ _ _ trivial
  · rw [ha.eq]; exact .sl (es := []) ha.hcap ha.hmax (by simp) (by simp [Aw.flat]) ha.rel.1 ha.rel.2 ha.known trivial
theorem AVle.nilFull {sz sz' : Nat} : AVle (.sl sz [] .full) (.sl sz' [] .full) := by
  intro K v h
  rcases sl_cases h with ⟨a0,rfl,_,_⟩ | ⟨b,o,c,vs,ha,ht⟩
  · exact .slnil _ _ _ trivial
  · rw [ha.eq]; exact .sl (es := []) ha.hcap ha.hmax (by simp) (by simp [Aw.flat]) ha.rel.1 ha.rel.2 ha.known ht
theorem RelS.freeze {w0 w : World} {K : Kn} {S : List En} {p b : Nat} {cs : List AV} (h : RelS w0 K S w) (hp : S[p]? = some (.cells b cs)) :
    ∃ K',Kle K K' ∧ RelS w0 K' (S.eraseIdx p) w ∧ ∃ vs,K' b = vs ∧ RelL K' cs vs ∧ ∀ c ∈ cs,c.one = true := by
  obtain ⟨hB,hK,h1,vs,T,hh,hr⟩ := h.ents _ (List.mem_of_getElem? hp)
  have hle : Kle K (K.put b vs.toList) := Kn.put_le (by rw [hK]; intro i v hv; simp at hv)
  refine ⟨_,hle,?_,vs.toList,Kn.put_same _ _ _,hr.mono hle,h1⟩
  have := h.turn (e' := .grow .full) hp (b := b) rfl hle (fun c hc => Kn.put_other _ _ hc) (fun _ _ => rfl) (Nat.le_refl _) rfl rfl rfl (fun i v hv => by
    rw [Kn.put_same] at hv; rw [cell_of_heap hh]; simpa using hv) (fun c t fr hc => ⟨c,fr,hc⟩) (.inr rfl) trivial
  have h2 := this.perm (set_perm hp).symm
  exact h2.tail
theorem AVle_frozen {K' : Kn} {b : Nat} {vs : List Value} {cs es : List AV} (hK : K' b = vs) (hr : RelL K' cs vs) (h1 : ∀ c ∈ cs,c.one = true) {off n cap sz : Nat} (hn : es.length = n) (hsz : ∀ e ∈ es,e.cells.length = sz)
    (hf : flat es = (cs.drop off).take (n * sz)) {v : Value} (hv : Rel K' (.msl b off n cap) v) : Rel K' (.sl sz es .no) v := by
  have hlen := flat_take hsz
  cases hv with
  | mslnil =>
    have : es = [] := by simpa using hn
    subst this; exact .slnil _ _ _ trivial
  | @msl _ _ _ _ b' o' hle hmax ho =>
    subst hn
    rcases ho with ⟨rfl,rfl⟩ | ho
    · refine .sl (vs := (vs.drop o').take (es.length * sz)) hle hmax hsz (fun c hc => ?_) ?_ ?_ (fun i v hv => ?_) trivial
      · rw [hf] at hc; exact h1 c (List.mem_of_mem_drop (List.mem_of_mem_take hc))
      · rw [hf]; exact ((hr.drop o').take _).1
      · rw [hf]; exact ((hr.drop o').take _).2
      · rw [hK]
        rw [List.getElem?_take] at hv
        split at hv
        · rw [List.getElem?_drop] at hv; exact hv
        · cases hv
    · have : es = [] := by have : es.length = 0 := by omega
                           simpa using this
      subst this
      exact .sl (vs := []) hle hmax (by simp) (by simp [Aw.flat]) rfl (fun i c v hc _ => by simp [Aw.flat] at hc) (fun i v hv => by simp at hv) trivial
attribute [irreducible] AW
end Go.Aw
namespace Go.Aw
open Go.RowKit
theorem AVle.eq {a b : AV} (h : a = b) : AVle a b := h ▸ AVle.refl a
theorem wrap_has_eq {k : IntKind} {n : Int} (h : k.has n) : k.wrap n = n := by
 revert h
 cases k <;> simp only [IntKind.has,IntKind.wrap,IntKind.min,IntKind.max,IntKind.bits,IntKind.signed] <;> (simp; try split) <;> omega
theorem has_i64 {n : Int} (h : -9223372036854775808 ≤ n ∧ n ≤ 9223372036854775807) : IntKind.i64.has n := by
 simp only [IntKind.has,IntKind.min,IntKind.max,IntKind.bits,IntKind.signed]; simp; omega
theorem i64_of {n : Int} (h : IntKind.i64.has n) : -9223372036854775808 ≤ n ∧ n ≤ 9223372036854775807 := by
 simp only [IntKind.has,IntKind.min,IntKind.max,IntKind.bits,IntKind.signed] at h; simp at h; omega
theorem wrap_i64 {n : Int} (h : -9223372036854775808 ≤ n ∧ n ≤ 9223372036854775807) : IntKind.i64.wrap n = n := wrap_has_eq (has_i64 h)
theorem le_maxLen {n : Nat} : n ≤ maxLen ↔ n ≤ 9223372036854775807 := Iff.rfl
def det : Op → Bool
 | .lookup .. | .makeInterface .. | .move _ | .assign _ | .pick .. | .unOp .. | .convert .. | .fieldAddr .. | .field .. | .indexAddr .. | .index .. | .extract .. | .nilCheck _ | .slice .. | .makeFunc .. | .load .. | .build .. | .buildSlice .. => true
 | .binOp _ _ _ (.const (.slice ..)) _ => false
 | .binOp .. => true
 | .call c => match c.callee with
  | .builtin .len | .builtin .cap | .builtin .min | .builtin .max | .builtin .unsafeSliceData => true
  | _ => false
 | _ => false
theorem aBin_det {op : BinOp} {x y : AV} {k : AV → Prop} (h : aBin op x y k) : ∃ v,(∀ k' : AV → Prop,k' v → aBin op x y k') ∧ k v := by
 unfold aBin at h
 split at h <;> first
  | exact h.elim
  | (obtain ⟨h1,h2,h3,h4⟩ := h; exact ⟨_,fun k' hk => ⟨h1,h2,h3,hk⟩,h4⟩)
  | (obtain ⟨h1,h2,h3⟩ := h; exact ⟨_,fun k' hk => ⟨h1,h2,hk⟩,h3⟩)
  | (obtain ⟨h1,h2⟩ := h; exact ⟨_,fun k' hk => ⟨h1,hk⟩,h2⟩)
  | exact ⟨_,fun k' hk => hk,h⟩
theorem astep_det {P : Program} {τ : List (TypeId × TI)} {op : Op} {ρ : Operand → AV} {S : List En} {k : AV → List En → Prop} (hd : det op = true) (h : astep P τ op ρ S k) :
  ∃ v,(∀ k' : AV → List En → Prop,k' v S → astep P τ op ρ S k') ∧ k v S := by
 cases op <;> first | (exfalso; simp [det] at hd; done) | skip
 case move x => exact ⟨_,fun k' h' => h',h⟩
 case assign x => exact ⟨_,fun k' h' => h',h⟩
 case makeFunc f a b => exact ⟨_,fun k' h' => h',h⟩
 case makeInterface t x => simp only [astep] at h ⊢; exact ⟨_,fun k' h' => ⟨h.1,h'⟩,h.2⟩
 case lookup t m x ok =>
  simp only [astep] at h ⊢
  split at h
  ·obtain ⟨kt,e,z,p,l,a,b,c,d,r,g,f⟩ := h; exact ⟨_,fun k' h' => ⟨kt,e,z,p,l,a,b,c,d,r,g,h'⟩,f⟩
  ·exact h.elim
 case pick c a b =>
  simp only [astep] at h ⊢
  cases hc : ρ c <;> rw [hc] at h <;> simp only [] at h ⊢
  exact ⟨_,fun k' h' => h',h⟩
 case build t ps =>
  simp only [astep] at h ⊢
  cases hd : (lkT τ t).d <;> rw [hd] at h <;> simp only [] at h ⊢
  ·obtain ⟨a,cs,b,c⟩ := h; exact ⟨_,fun k' h' => ⟨a,cs,b,h'⟩,c⟩
  ·obtain ⟨a,cs,b,c⟩ := h; exact ⟨_,fun k' h' => ⟨a,cs,b,h'⟩,c⟩
 case buildSlice t len ps =>
  simp only [astep] at h ⊢
  cases hd : (lkT τ t).d <;> rw [hd] at h <;> simp only [] at h ⊢
  obtain ⟨a,b,c,d,e,f⟩ := h; exact ⟨_,fun k' h' => ⟨a,b,c,d,e,h'⟩,f⟩
 case load t x =>
  simp only [astep] at h ⊢
  obtain ⟨h0,h⟩ := h
  cases hc : ρ x <;> rw [hc] at h <;> simp only [] at h ⊢
  ·obtain ⟨a,v,e,b⟩ := h; exact ⟨_,fun k' h' => ⟨h0,a,v,e,h'⟩,b⟩
  ·obtain ⟨p,cs,a,b,v,e,c⟩ := h; exact ⟨_,fun k' h' => ⟨h0,p,cs,a,b,v,e,h'⟩,c⟩
  ·obtain ⟨cs,a,b,v,e,c⟩ := h; exact ⟨_,fun k' h' => ⟨h0,cs,a,b,v,e,h'⟩,c⟩
 case unOp op t x =>
  simp only [astep] at h ⊢
  split at h
  ·exact ⟨_,fun k' h' => h',h⟩
  ·exact ⟨_,fun k' h' => h',h⟩
  ·exact ⟨_,fun k' h' => h',h⟩
  ·exact h.elim
 case convert s d x =>
  simp only [astep] at h ⊢
  split at h
  ·exact ⟨_,fun k' h' => h',h⟩
  ·exact ⟨_,fun k' h' => h',h⟩
  ·obtain ⟨a,l,b,c⟩ := h; exact ⟨_,fun k' h' => ⟨a,l,b,h'⟩,c⟩
  ·obtain ⟨a,l,b,c,d⟩ := h; exact ⟨_,fun k' h' => ⟨a,l,b,c,h'⟩,d⟩
  ·obtain ⟨a,b,p,cs,c,d,e⟩ := h; exact ⟨_,fun k' h' => ⟨a,b,p,cs,c,d,h'⟩,e⟩
  ·obtain ⟨a,p,cs,T,c,d,e,f⟩ := h; exact ⟨_,fun k' h' => ⟨a,p,cs,T,c,d,e,h'⟩,f⟩
  ·exact h.elim
 case extract x i =>
  simp only [astep] at h ⊢
  cases hc : ρ x <;> rw [hc] at h <;> simp only [] at h ⊢
  obtain ⟨v,a,b⟩ := h; exact ⟨_,fun k' h' => ⟨v,a,h'⟩,b⟩
 case nilCheck x =>
  simp only [astep] at h ⊢
  cases hc : ρ x <;> rw [hc] at h <;> simp only [] at h ⊢
  ·exact ⟨_,fun k' h' => h',h⟩
  ·exact ⟨_,fun k' h' => h',h⟩
 case fieldAddr t x f =>
  simp only [astep] at h ⊢
  cases hd : (lkT τ t).d <;> rw [hd] at h <;> simp only [] at h ⊢
  obtain ⟨o,ft,a,b,c,h⟩ := h
  cases hc : ρ x <;> rw [hc] at h <;> simp only [] at h ⊢
  ·obtain ⟨d,e⟩ := h; exact ⟨_,fun k' h' => ⟨o,ft,a,b,c,d,h'⟩,e⟩
  ·exact ⟨_,fun k' h' => ⟨o,ft,a,b,c,h'⟩,h⟩
 case field t x f =>
  simp only [astep] at h ⊢
  split at h
  ·obtain ⟨o,ft,a,b,c,e⟩ := h; exact ⟨_,fun k' h' => ⟨o,ft,a,b,c,h'⟩,e⟩
  ·exact h.elim
 case indexAddr t x i =>
  simp only [astep] at h ⊢
  split at h
  ·obtain ⟨a,b,c,v,e,g⟩ := h; exact ⟨_,fun k' h' => ⟨a,b,c,v,e,h'⟩,g⟩
  ·obtain ⟨a,b,c,o,e,g⟩ := h; exact ⟨_,fun k' h' => ⟨a,b,c,o,e,h'⟩,g⟩
  ·obtain ⟨a,b,c,o,e,g⟩ := h; exact ⟨_,fun k' h' => ⟨a,b,c,o,e,h'⟩,g⟩
  ·obtain ⟨a,b,c,cs,m,r,e,g⟩ := h; exact ⟨_,fun k' h' => ⟨a,b,c,cs,m,r,e,h'⟩,g⟩
  ·exact h.elim
 case index t x i =>
  simp only [astep] at h ⊢
  split at h
  ·obtain ⟨a,c,b,g⟩ := h; exact ⟨_,fun k' h' => ⟨a,c,b,h'⟩,g⟩
  ·obtain ⟨a,b,c,e,g⟩ := h; exact ⟨_,fun k' h' => ⟨a,b,c,e,h'⟩,g⟩
  ·exact h.elim
 case slice t x lo hi mx =>
  simp only [astep] at h ⊢
  split at h
  ·obtain ⟨a,b,c,e,r,hr,g⟩ := h; exact ⟨_,fun k' h' => ⟨a,b,c,e,r,hr,h'⟩,g⟩
  ·obtain ⟨a,b,c,e,f,g,i,r,hr,j⟩ := h; exact ⟨_,fun k' h' => ⟨a,b,c,e,f,g,i,r,hr,h'⟩,j⟩
  ·obtain ⟨a,b,c,e,f,g,o,n',c',e1,e2,e3,j⟩ := h; exact ⟨_,fun k' h' => ⟨a,b,c,e,f,g,o,n',c',e1,e2,e3,h'⟩,j⟩
  ·exact h.elim
 case binOp op t x y t' =>
  simp only [astep] at h ⊢
  split at h
  ·obtain ⟨a,r,c,h⟩ := h
   cases op <;> simp only [] at h ⊢
   ·exact ⟨_,fun k' h' => ⟨a,r,c,h'⟩,h⟩
   ·exact ⟨_,fun k' h' => ⟨a,r,c,h'⟩,h⟩
  ·obtain ⟨v,e1,e2⟩ := aBin_det h.2; exact ⟨v,fun k' h' => ⟨h.1,e1 _ h'⟩,e2⟩
  ·obtain ⟨v,e1,e2⟩ := aBin_det h; exact ⟨v,fun k' h' => e1 _ h',e2⟩
  ·obtain ⟨v,e1,e2⟩ := aBin_det h; exact ⟨v,fun k' h' => e1 _ h',e2⟩
  ·obtain ⟨rfl,_⟩ := h; simp [det] at hd
  ·obtain ⟨a,h⟩ := h
   cases op <;> simp only [] at h ⊢
   ·exact ⟨_,fun k' h' => ⟨a,fun _ => h'⟩,h trivial⟩
   ·exact ⟨_,fun k' h' => ⟨a,fun _ => h'⟩,h trivial⟩
  ·obtain ⟨a,h⟩ := h
   cases op <;> simp only [] at h ⊢
   ·exact ⟨_,fun k' h' => ⟨a,fun _ => h'⟩,h trivial⟩
   ·exact ⟨_,fun k' h' => ⟨a,fun _ => h'⟩,h trivial⟩
  ·obtain ⟨a,b,h⟩ := h
   cases op <;> simp only [] at h ⊢
   ·exact ⟨_,fun k' h' => ⟨a,b,fun _ => h'⟩,h trivial⟩
   ·exact ⟨_,fun k' h' => ⟨a,b,fun _ => h'⟩,h trivial⟩
  ·obtain ⟨a,h⟩ := h
   cases op <;> simp only [] at h ⊢
   ·exact ⟨_,fun k' h' => ⟨a,fun _ => h'⟩,h trivial⟩
   ·exact ⟨_,fun k' h' => ⟨a,fun _ => h'⟩,h trivial⟩
  ·obtain ⟨a,b,h⟩ := h
   cases op <;> simp only [] at h ⊢
   ·exact ⟨_,fun k' h' => ⟨a,b,fun _ => h'⟩,h trivial⟩
   ·exact ⟨_,fun k' h' => ⟨a,b,fun _ => h'⟩,h trivial⟩
  ·exact h.elim
 case call c =>
  simp only [astep] at h ⊢
  cases hc : c.callee <;> simp only [det,hc] at hd <;> rw [hc] at h <;> simp only [] at h ⊢
  case builtin b =>
   unfold aBuiltin at h ⊢
   split at h <;> first
    | exact h.elim
    | (exfalso; simp at hd; done)
    | (obtain ⟨a,b⟩ := h; exact ⟨_,fun k' h' => ⟨a,h'⟩,b⟩)
    | exact ⟨_,fun k' h' => h',h⟩
  all_goals cases hd
theorem det_step {P : Program} {τ : List (TypeId × TI)} {op : Op} {ρ : Operand → AV} {S : List En} {F : AV → Prop} (hd : det op = true) (h : astep P τ op ρ S (fun v _ => F v)) :
  ∃ v,astep P τ op ρ S (fun v' S' => AVle v' v ∧ S.Sublist S') ∧ F v := by
 obtain ⟨v,h1,h2⟩ := astep_det hd h
 exact ⟨v,h1 _ ⟨AVle.refl _,List.Sublist.refl _⟩,h2⟩
theorem aCallV_mono {P : Program} {f : AV} {args : List AV} {S : List En} {k k' : AV → List En → Prop} (hk : ∀ v S,k v S → k' v S) (h : aCallV P f args S k) : aCallV P f args S k' := by
 unfold aCallV at h ⊢
 split at h
 ·rcases h with h | ⟨fn,ex,h1,h2,h3,h4,h5,hE⟩
  ·exact .inl ⟨h.1,h.2.mono hk⟩
  ·exact .inr ⟨fn,ex,h1,h2,h3,h4,h5,fun w0 K w vs a b => by
    obtain ⟨v,w',K',av,S',x1,x2,x3,x4,x5⟩ := hE w0 K w vs a b
    exact ⟨v,w',K',av,S',x1,x2,x3,x4,hk _ _ x5⟩⟩
 ·exact h.mono hk
 ·exact h.elim
def isVal (c : Call) : Bool := match c.callee with
 | .value _ => true
 | _ => false
theorem call_step {P : Program} {τ : List (TypeId × TI)} {c : Call} {ρ : Operand → AV} {S : List En} {F : AV → Prop} (v : AV) (hc : isVal c = true) (h : astep P τ (.call c) ρ S (fun v' S' => v' = v ∧ S' = S)) (hF : F v) :
  ∃ v,astep P τ (.call c) ρ S (fun v' S' => AVle v' v ∧ S.Sublist S') ∧ F v := by
 refine ⟨v,?_,hF⟩
 simp only [astep] at h ⊢
 cases hcc : c.callee <;> simp only [isVal,hcc] at hc <;> rw [hcc] at h <;> simp only [] at h ⊢
 all_goals first
  | (exact aCallV_mono (fun _ _ h => by obtain ⟨rfl,rfl⟩ := h; exact ⟨AVle.refl _,List.Sublist.refl _⟩) h)
  | cases hc
section
variable {P : Program} {N : Nat} {rd : Option Nat} {E : Env} {S : List En} {k : Kt}
theorem AW_iff {c : Operand} {x y : Code} {b : Bool} (p : Prop) (hb : ev E c = .bool b) (hp : b = true ↔ p) (ht : p → AW P N rd x E S k) (hf : ¬p → AW P N rd y E S k) : AW P N rd (.cond c x y) E S k :=
 AW_cond hb (fun h => ht (hp.1 h)) (fun h => hf (fun e => by rw [hp.2 e] at h; cases h))
theorem AW_for {c : Code} {α : Type} (env : α → Env) (st : α → List En) (μ : α → Nat) (inv : α → Prop) (x0 : α) (h0 : inv x0) (hE : Weak E S (env x0) (st x0))
  (hr : ∀ x,inv x → AW P N rd c (env x) (st x) (kThen (fun E1 S1 => ∃ y, μ y < μ x ∧ inv y ∧ Weak E1 S1 (env y) (st y)) k)) : AW P N rd (.loop c) E S k := by
 refine AW_loop (fun n E S => ∃ x,n = μ x ∧ inv x ∧ E = env x ∧ S = st x) ⟨_,_,_,hE,x0,rfl,h0,rfl,rfl⟩ ?_
 rintro n E S ⟨x,rfl,hx,rfl,rfl⟩
 refine (hr x hx).mono ?_
 intro e E1 S1 h
 cases e with
 | normal =>
  obtain ⟨y,h1,h2,h3⟩ := h
  exact ⟨_,_,_,h1,h3,y,rfl,h2,rfl,rfl⟩
 | _ => exact h
end
theorem room {n b : Nat} (h : n ≤ 1073741824) (hb : Nat.ble b 32768 = true) : roomFor n b := by
 have hb := Nat.le_of_ble_eq_true hb
 refine ⟨?_,by omega,by omega⟩
 have := Nat.mul_le_mul h hb
 omega
theorem AVle.slEq {sz : Nat} {es es' : List AV} {t : Tk} (h : es = es') : AVle (.sl sz es t) (.sl sz es' .no) := h ▸ AVle.tk
def AVleL : List AV → List AV → Prop
 | [], [] => True
 | a :: as,b :: bs => AVle a b ∧ AVleL as bs
 | _,_ => False
theorem AVleL.rel {K : Kn} : ∀ {as bs : List AV} {vs : List Value},AVleL as bs → RelL K as vs → RelL K bs vs
 | [], [],vs,_,h => h
 | a :: as,b :: bs,vs,hl,h => by
  obtain ⟨v,r,rfl,h1,h2⟩ := h.cons_inv
  exact RelL.cons (hl.1 K v h1) (AVleL.rel hl.2 h2)
 | [],_ :: _,_,hl,_ => hl.elim
 | _ :: _, [],_,hl,_ => hl.elim
theorem AVleL.get : ∀ {as bs : List AV},AVleL as bs → as.length = bs.length ∧ ∀ (i : Nat) (a b : AV),as[i]? = some a → bs[i]? = some b → AVle a b
 | [], [],_ => ⟨rfl,fun i a b h _ => by simp at h⟩
 | a :: as,b :: bs,h => by
  obtain ⟨h1,h2⟩ := AVleL.get h.2
  refine ⟨by simp [h1],fun i x y hx hy => ?_⟩
  cases i with
  | zero => simp at hx hy; subst hx; subst hy; exact h.1
  | succ i => exact h2 i x y (by simpa using hx) (by simpa using hy)
 | [],_ :: _,h => h.elim
 | _ :: _, [],h => h.elim
theorem AVle.tup {as bs : List AV} (h : AVleL as bs) : AVle (.tup as) (.tup bs) := by
 intro K v hv
 cases hv with
 | tup hl h' =>
  have := h.rel (K := K) ⟨hl,h'⟩
  exact .tup this.1 this.2
theorem ACall_args {P : Program} {f : FuncId} {args args' : List AV} {S : List En} {k : AV → List En → Prop} (hc : ACall P f args' S k) (h : AVleL args args') : ACall P f args S k := by
 unfold ACall at hc ⊢
 exact fun w0 K w vs hv hS => hc w0 K w vs (h.rel hv) hS
theorem gsplit {b : Bool} {A B : Prop} (p : Prop) (hb : b = true ↔ p) (h1 : p → A) (h2 : ¬p → B) : (b = true → A) ∧ (b = false → B) :=
 ⟨fun h => h1 (hb.1 h),fun h => h2 (fun hp => by rw [hb.2 hp] at h; cases h)⟩
theorem AW_cut {P : Program} {N : Nat} {rd : Option Nat} {E : Env} {S : List En} {k k2 : Kt} {x y : Code} {α : Type} (env : α → Env) (st : α → List En) (inv : α → Prop)
  (h1 : AW P N rd x E S (kThen (fun E1 S1 => ∃ z,inv z ∧ Weak E1 S1 (env z) (st z)) k2)) (h2 : ∀ z,inv z → AW P N rd y (env z) (st z) k) : AW P N rd x E S (kThen (fun E S => AW P N rd y E S k) k2) := by
 refine h1.mono ?_
 intro e E1 S1 h
 cases e with
 | normal =>
  obtain ⟨z,hz,hw⟩ := h
  exact AW_weak hw (h2 z hz)
 | _ => exact h
theorem AW_cut1 {P : Program} {N : Nat} {rd : Option Nat} {E : Env} {S : List En} {k : Kt} {x w : Code} {α : Type} (env : α → Env) (st : α → List En) (inv : α → Prop)
  (h1 : AW P N rd x E S (kThen (fun E1 S1 => ∃ z,inv z ∧ Weak E1 S1 (env z) (st z)) k)) (h2 : ∀ z,inv z → AW P N rd w (env z) (st z) k) : AW P N rd (.seq x w) E S k :=
 AW_seq (AW_cut env st inv h1 h2)
theorem AW_cut2 {P : Program} {N : Nat} {rd : Option Nat} {E : Env} {S : List En} {k : Kt} {x y w : Code} {α : Type} (env : α → Env) (st : α → List En) (inv : α → Prop)
  (h1 : AW P N rd x E S (kThen (fun E S => AW P N rd y E S (kThen (fun E1 S1 => ∃ z,inv z ∧ Weak E1 S1 (env z) (st z)) k)) k)) (h2 : ∀ z,inv z → AW P N rd w (env z) (st z) k) : AW P N rd (.seq x (.seq y w)) E S k := by
 refine AW_seq (h1.mono ?_)
 intro e E1 S1 h
 cases e with
 | normal => exact AW_seq (AW_cut env st inv h h2)
 | _ => exact h
theorem known_true {b : Bool} {A B : Prop} (hb : b = true) (hA : A) : (b = true → A) ∧ (b = false → B) := ⟨fun _ => hA,fun h => by rw [hb] at h; cases h⟩
theorem known_false {b : Bool} {A B : Prop} (hb : b = false) (hB : B) : (b = true → A) ∧ (b = false → B) := ⟨(fun h => by rw [hb] at h; cases h),fun _ => hB⟩
theorem AW_true {P : Program} {N : Nat} {rd : Option Nat} {E : Env} {S : List En} {k : Kt} {c : Operand} {x y : Code} {b : Bool} (hb : ev E c = .bool b) (h : b = true) (ht : AW P N rd x E S k) : AW P N rd (.cond c x y) E S k :=
 AW_cond hb (fun _ => ht) (fun e => by rw [h] at e; cases e)
theorem AW_false {P : Program} {N : Nat} {rd : Option Nat} {E : Env} {S : List En} {k : Kt} {c : Operand} {x y : Code} {b : Bool} (hb : ev E c = .bool b) (h : b = false) (hf : AW P N rd y E S k) : AW P N rd (.cond c x y) E S k :=
 AW_cond hb (fun e => by rw [h] at e; cases e) (fun _ => hf)
theorem setCells_one {cs : List AV} {o : Nat} {v : AV} (h : o < cs.length) : setCells cs o [v] = cs.set o v := by
 simp only [setCells,List.length_singleton]
 rw [List.set_eq_take_append_cons_drop,if_pos h]; simp
theorem load_one {i : TI} {cs : List AV} {o : Nat} {F : AV → Prop} (v : AV) (hi : i.d.agg = false) (hs : i.sz = 1) (h : cs[o]? = some v) (hk : F v) :
  (1 ≤ i.sz ∧ i.sz ≤ (cs.drop o).length) ∧ ∃ u,aLoad i (cs.drop o) = u ∧ F u := by
 have ho := (List.getElem?_eq_some_iff.1 h).1
 refine ⟨⟨by omega,by rw [hs,List.length_drop]; omega⟩,v,?_,hk⟩
 rw [aLoad,hi]
 simp only [cond_false]
 have : cs.drop o = v :: cs.drop (o + 1) := by
  rw [← List.getElem_cons_drop ho,(List.getElem?_eq_some_iff.1 h).2]
 rw [this]; rfl
theorem store_one {cs cells : List AV} {o sz : Nat} {F : List AV → Prop} (v : AV) (cs2 : List AV) (hc : cells = [v]) (hs : sz = 1) (h : o < cs.length) (h2 : cs.set o v = cs2) (hk : F cs2) :
  o + sz ≤ cs.length ∧ ∃ cs',setCells cs o cells = cs' ∧ F cs' := by
 subst hc; subst h2
 exact ⟨by omega,_,setCells_one h,hk⟩
theorem at_msl {J : Int} {len off sz : Nat} {F : Nat → Prop} (j o : Nat) (hj : J = (j : Int)) (h : j < len) (ho : off + j * sz = o) (hF : F o) : 0 ≤ J ∧ J < (len : Int) ∧ ∃ o,off + J.toNat * sz = o ∧ F o := by
 subst hj
 exact ⟨by omega,by omega,o,ho,hF⟩
theorem SLe.of_eq {S S' : List En} (h : S = S') : SLe S S' := h ▸ SLe.rfl
theorem map_get {α : Type} {f : α → AV} {x : List α} {i : Nat} (h : i < x.length) : (x.map f)[((i : Nat) : Int).toNat]? = some (f x[i]) := by
 simp [h]
theorem at_map {α : Type} {f : α → AV} {x : List α} {j : Int} {G : AV → Prop} (i : Nat) (hj : j = (i : Int)) (h : i < x.length) (hG : G (f x[i])) : 0 ≤ j ∧ ∃ v,(x.map f)[j.toNat]? = some v ∧ G v := by
 subst hj
 exact ⟨by omega,_,map_get h,hG⟩
theorem at_list {α : Type} {x : List α} {j : Int} {G : α → Prop} (i : Nat) (hj : j = (i : Int)) (h : i < x.length) (hG : G x[i]) : 0 ≤ j ∧ ∃ v,x[j.toNat]? = some v ∧ G v := by
 subst hj
 exact ⟨by omega,_,by simp,hG⟩
theorem at_get {x : List AV} {j : Int} {G : AV → Prop} (i : Nat) (v : AV) (hj : j = (i : Int)) (h : x[i]? = some v) (hG : G v) : 0 ≤ j ∧ ∃ v,x[j.toNat]? = some v ∧ G v := by
 subst hj
 exact ⟨by omega,v,by simpa using h,hG⟩
end Go.Aw
