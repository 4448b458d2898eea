/-
  A range over a function. Own work.
-/
import Derived.Test.YtgkjbpnmeeibbaaGreatDoorAw14
set_option linter.all false
namespace Go.Aw
open Go.RowKit

/-- the slots of a round: yield's arguments lie in its parameters -/
def zipE : List Nat → List AV → List (Nat × AV) → List (Nat × AV)
  | p :: ps, v :: vs, l => zipE ps vs ((p, v) :: l)
  | _, _, l => l

theorem zip_rel {K : Kn} {N : Nat} : ∀ (ps : List Nat) (avs : List AV) (vs : List Value) (l : List (Nat × AV)) (tmps : Array Value), RelL K avs vs → (ps.all fun p => Nat.blt p N) = true → tmps.size = N →
    (∀ i, Rel K (lk l i) (tmps.getD i undef)) → ((ps.zip vs).foldl (fun t (x : Nat × Value) => t.setIfInBounds x.1 x.2) tmps).size = N ∧
      ∀ i, Rel K (lk (zipE ps avs l) i) (((ps.zip vs).foldl (fun t (x : Nat × Value) => t.setIfInBounds x.1 x.2) tmps).getD i undef)
  | [], avs, vs, l, tmps, _, _, hs, h => by
    refine ⟨hs, ?_⟩
    simp only [zipE]
    exact h
  | p :: ps, [], vs, l, tmps, hv, _, hs, h => by
    have := hv.nil_inv; subst this
    rw [List.zip_nil_right]
    refine ⟨hs, ?_⟩
    simp only [zipE]
    exact h
  | p :: ps, a :: avs, vs, l, tmps, hv, hp, hs, h => by
    obtain ⟨v, r, rfl, h1, h2⟩ := hv.cons_inv
    simp only [List.all_cons, Bool.and_eq_true] at hp
    simp only [List.zip_cons_cons, List.foldl_cons, zipE]
    refine zip_rel ps avs r _ _ h2 hp.2 (by simpa using hs) (fun i => ?_)
    have hpN : p < N := Nat.le_of_ble_eq_true hp.1
    simp only [lk]
    by_cases hpi : p = i
    · subst hpi
      rw [Nat.beq_refl p]
      have : p < tmps.size := by omega
      simpa [Array.getD_eq_getD_getElem?, this] using h1
    · rw [natBeq_ne hpi]
      have := h i
      simpa [Array.getD_eq_getD_getElem?, Array.getElem?_setIfInBounds_ne hpi] using this

/-- what is owned, said more weakly: entries dropped, ends of slices forgotten -/
inductive SW : List En → List En → Prop
  | nil {S : List En} : SW S S
  | cons {e : En} {S S' : List En} (h : SW S S') : SW (e :: S) (e :: S')
  | cells {b : Nat} {cs cs' : List AV} {S S' : List En} (hc : AVleL cs cs') (h1 : cs'.all AV.one = true) (h : SW S S') : SW (.cells b cs :: S) (.cells b cs' :: S')
  | full {S S' : List En} (h : SW S S') : SW S (.grow .full :: S')
  | drop {e : En} {S S' : List En} (h : SW S S') : SW (e :: S) S'
theorem SW.ok {S S' : List En} (h : SW S S') : (∀ B K w, (∀ e ∈ S, EnOk B K w e) → ∀ e ∈ S', EnOk B K w e) ∧ (S'.filterMap En.blk).Sublist (S.filterMap En.blk) := by
  induction h with
  | nil => exact ⟨fun B K w h => h, List.Sublist.refl _⟩
  | @cons e S S' h ih =>
    refine ⟨fun B K w hh e' he' => ?_, ?_⟩
    · rcases List.mem_cons.1 he' with rfl | he'
      · exact hh _ (by simp)
      · exact ih.1 B K w (fun e he => hh e (by simp [he])) e' he'
    · rw [List.filterMap_cons, List.filterMap_cons]
      split
      · exact ih.2
      · exact ih.2.cons_cons _
  | @cells b cs cs' S S' hc h1 h ih =>
    refine ⟨fun B K w hh e' he' => ?_, ?_⟩
    · rcases List.mem_cons.1 he' with rfl | he'
      · obtain ⟨a1, a2, a3, vs, T, a4, a5⟩ := hh (.cells b cs) (by simp)
        exact ⟨a1, a2, fun c hc => List.all_eq_true.1 h1 c hc, vs, T, a4, hc.rel a5⟩
      · exact ih.1 B K w (fun e he => hh e (by simp [he])) e' he'
    · rw [List.filterMap_cons, List.filterMap_cons]
      exact ih.2.cons_cons _
  | @full S S' h ih =>
    refine ⟨fun B K w hh e' he' => ?_, by rw [List.filterMap_cons]; exact ih.2⟩
    rcases List.mem_cons.1 he' with rfl | he'
    · exact trivial
    · exact ih.1 B K w hh e' he'
  | @drop e S S' h ih =>
    refine ⟨fun B K w hh e' he' => ih.1 B K w (fun e he => hh e (by simp [he])) e' he', ?_⟩
    rw [List.filterMap_cons]
    split
    · exact ih.2
    · exact ih.2.cons _
theorem SW.le {S S' : List En} (h : SW S S') : SLe S S' := fun w0 K w hs => ⟨hs.below, hs.kcell, (h.ok.1 _ _ _ hs.ents), hs.apart.sublist h.ok.2⟩
theorem AYield_args {P : Program} {l : Nat} {args args' : List AV} {S : List En} {k : AV → List En → Prop} (hc : AYield P l args' S k) (h : AVleL args args') : AYield P l args S k := by
  unfold AYield at hc ⊢
  exact fun w0 K w vs hv hS => hc w0 K w vs (h.rel hv) hS

theorem SLe.perm {S S' : List En} (h : S'.Perm S) : SLe S S' := fun _ _ _ hs => hs.perm h
theorem SLe.swap (A B : List En) : SLe (A ++ B) (B ++ A) := SLe.perm List.perm_append_comm
/-- the marks that loops over functions leave -/
def marks (ds : List Nat) : List En := ds.map fun d => .obj d (.deferred (some []))
/-- a function with a body is called -/
def aCallB (P : Program) (f : AV) (args : List AV) (S : List En) (k : AV → List En → Prop) : Prop :=
  match f with
  | .fn (.func g) first cap => fnOk P g ∧ ACall P g (first ++ args ++ cap) S k
  | _ => False
/-- a generator: called with a yield, it hands over these, one after the other, until one is refused. 'own': what it owns. -/
def AGen (P : Program) (f : AV) (own : List En) (xs : List (List AV)) : Prop :=
  ∀ (l : Nat) (J : Nat → List En → Prop) (Z : List En → Prop) (Sc : List En),
    (∀ (o : List En) (i : Nat) (args : List AV) (Sc : List En), xs[i]? = some args → J i Sc →
      AYield P l args (o ++ Sc) (fun r S' => ∃ b Sc', r = .bool b ∧ S' = o ++ Sc' ∧ (b = true → J (i + 1) Sc') ∧ (b = false → Z Sc'))) →
    J 0 Sc → aCallB P f [.fn (.yield l) [] []] (own ++ Sc) (fun r S' => ∃ Sc', SLe S' Sc' ∧ (J xs.length Sc' ∨ Z Sc'))

/-- how a loop's body is left for good -/
def jumpOf : Exit → Option Code
  | .exit id => some (.exit id)
  | .ret => some .ret
  | .goto l => some (.goto l)
  | _ => none

def isLoopIn (l : Nat) (R : List En) : Prop := ∃ f r, En.loop l f r ∈ R
theorem isLoopIn.cons {l : Nat} {e : En} {R : List En} (h : isLoopIn l R) : isLoopIn l (e :: R) := let ⟨f, r, h⟩ := h; ⟨f, r, List.mem_cons_of_mem _ h⟩
theorem isLoopIn.app {l : Nat} {A R : List En} (h : isLoopIn l R) : isLoopIn l (A ++ R) := let ⟨f, r, h⟩ := h; ⟨f, r, List.mem_append_right _ h⟩
theorem drop_head {α : Type} {l r : List α} {x : α} {i : Nat} (h : l.drop i = x :: r) : l[i]? = some x ∧ l.drop (i + 1) = r ∧ i < l.length := by
  have hi : i < l.length := by
    by_cases hc : i < l.length
    · exact hc
    · rw [List.drop_of_length_le (by omega)] at h; cases h
  have := List.getElem_cons_drop hi
  rw [h] at this
  obtain ⟨h1, h2⟩ := List.cons.inj this
  exact ⟨by rw [List.getElem?_eq_getElem hi, h1], h2, hi⟩

theorem RelS.loopAt {w0 w : World} {K : Kn} {S : List En} {l : Nat} {f : Nat → AV} {r : Loop} (h : RelS w0 K S w) (hm : En.loop l f r ∈ S) : w.heap[l]? = some (.loop r) ∧ ∀ i, Rel K (f i) (r.tmps.getD i undef) :=
  ⟨(h.ents _ hm).2.2.1, (h.ents _ hm).2.2.2⟩

/-- the record of a loop is turned -/
theorem RelS.reloop {w0 w : World} {K : Kn} {A B : List En} {l : Nat} {f : Nat → AV} {r : Loop} (h : RelS w0 K (A ++ .loop l f r :: B) w) (r' : Loop) (ht : r'.tmps = r.tmps) : RelS w0 K (A ++ .loop l f r' :: B) (w.putObj l (.loop r')) := by
  have hp : (A ++ .loop l f r :: B)[A.length]? = some (.loop l f r) := by simp
  obtain ⟨hB, hK, hh, hr⟩ := h.ents _ (List.mem_of_getElem? hp)
  have hd : l < w.heap.size := (Array.getElem?_eq_some_iff.1 hh).1
  have := h.turn (w' := w.putObj l (.loop r')) hp (b := l) rfl (Kle.refl K) (fun _ _ => rfl) (fun c hc => World.putObj_heap_other hc) (by simp) rfl rfl rfl (fun i v hv => by rw [hK] at hv; simp at hv) (fun c t fr hc => by rw [hh] at hc; cases hc) (.inl rfl)
    (e' := .loop l f r') ⟨hB, hK, World.putObj_heap_same hd, by rw [ht]; exact hr⟩
  have e : (A ++ En.loop l f r :: B).set A.length (.loop l f r') = A ++ .loop l f r' :: B := by simp
  rw [e] at this
  exact this

theorem mem_mid {α : Type} (A B : List α) (x : α) : x ∈ A ++ x :: B := by simp

/-- what is shown of a round -/
def ARound (P : Program) (N : Nat) (assign body : Code) (l : List (Nat × AV)) (α : Type) (st : Nat → α → List En) (inv : Nat → α → Prop) (Q : Exit → List En → Prop) (ps : List Nat) (xs : List (List AV)) : Prop :=
  ∀ (lp : Nat) (R : List En) (i : Nat) (args : List AV) (z : α), isLoopIn lp R → xs[i]? = some args → inv i z →
    AW P N (some lp) assign ⟨zipE ps args l, []⟩ (st i z ++ R) (fun x E1 S1 => x = .normal ∧ ∃ Sc1, S1 = Sc1 ++ R ∧ ∀ R', isLoopIn lp R' →
      AW P N (some lp) body E1 (Sc1 ++ R') (fun x _ S' => match x with
        | .normal => ∃ z', inv (i + 1) z' ∧ SLe S' (st (i + 1) z' ++ R')
        | .exit _ | .ret | .goto _ => ∃ Sc', Q x Sc' ∧ SLe S' (Sc' ++ R')
        | _ => False))

section
variable {P : Program} {N : Nat} {assign body : Code} {le : List (Nat × AV)} {α : Type} {st : Nat → α → List En} {inv : Nat → α → Prop} {Q : Exit → List En → Prop} {ps : Array Nat} {xs : List (List AV)}

/-- the record of a loop, in a state -/
def recOf (fn : FuncId) (tmps : Array Value) (ps : Array Tmp) (assign body : Code) (defers : Nat) (st : LoopState) (pend : Option Code) : Loop :=
  { state := st, pending := pend, fn, tmps, params := ps, assign, body, defers }

def Jof (st : Nat → α → List En) (inv : Nat → α → Prop) (l : Nat) (f : Nat → AV) (r : LoopState → Option Code → Loop) (R0 : List En) (i : Nat) (Sc : List En) : Prop :=
  ∃ z, inv i z ∧ Sc = st i z ++ .loop l f (r .ready none) :: R0
def Zof (Q : Exit → List En → Prop) (l : Nat) (f : Nat → AV) (r : LoopState → Option Code → Loop) (R0 : List En) (Sc : List En) : Prop :=
  ∃ x c Sc1, jumpOf x = some c ∧ Q x Sc1 ∧ Sc = Sc1 ++ .loop l f (r .done (some c)) :: R0

theorem perm3 {α : Type} (A B C : List α) : (A ++ (B ++ C)).Perm (B ++ (A ++ C)) := by
  rw [← List.append_assoc, ← List.append_assoc]
  exact List.Perm.append_right C List.perm_append_comm

theorem yield_ok (hps : (ps.toList.all fun p => Nat.blt p N) = true) (ha : codeOk N assign = true) (hb : codeOk N body = true) (hr : ARound P N assign body le α st inv Q ps.toList xs) (hlen : ∀ (i : Nat) (args : List AV), xs[i]? = some args → args.length = ps.size)
    {l : Nat} {fn : FuncId} {tmps : Array Value} (hts : tmps.size = N) {defers : Nat} {R0 : List En} (o : List En) (i : Nat) (args : List AV) (Sc : List En) (hx : xs[i]? = some args) (hJ : Jof st inv l (lk le) (recOf fn tmps ps assign body defers) R0 i Sc) :
    AYield P l args (o ++ Sc) (fun r S' => ∃ b Sc', r = .bool b ∧ S' = o ++ Sc' ∧ (b = true → Jof st inv l (lk le) (recOf fn tmps ps assign body defers) R0 (i + 1) Sc') ∧ (b = false → Zof Q l (lk le) (recOf fn tmps ps assign body defers) R0 Sc')) := by
  obtain ⟨z, hz, rfl⟩ := hJ
  unfold AYield
  intro w0 K w vs hv hS
  have hS1 : RelS w0 K (st i z ++ (o ++ .loop l (lk le) (recOf fn tmps ps assign body defers .ready none) :: R0)) w := hS.perm (perm3 _ _ _)
  obtain ⟨hh, ht⟩ := hS.loopAt (l := l) (f := lk le) (r := recOf fn tmps ps assign body defers .ready none) (by simp)
  have hvl : vs.toArray.size = ps.size := by simp [← hv.1, hlen i args hx]
  refine ⟨_, _, _, _, run_yield hh hvl, ?_⟩
  have hz2 := zip_rel ps.toList args vs le tmps hv hps hts ht
  have he : ((ps.zip vs.toArray).foldl (fun (tmps : Array Value) (x : Tmp × Value) => match x with | (t, a) => tmps.setIfInBounds t a) tmps) = ((ps.toList.zip vs).foldl (fun t (x : Nat × Value) => t.setIfInBounds x.1 x.2) tmps) := by
    rw [← Array.foldl_toList, Array.toList_zip]
  refine roundIn_of_wpIn (F := Fence.wide) trivial ?_
  have hrr := hr l (o ++ .loop l (lk le) (recOf fn tmps ps assign body defers .ready none) :: R0) i args z ⟨_, _, mem_mid o R0 _⟩ hx hz
  unfold AW at hrr
  refine wpIn_mono (hrr ha w0 K _ w ⟨?_, ?_, rfl⟩ hS1) ?_
  · show Array.size (Array.foldl _ _ _) = N
    exact (congrArg Array.size he).trans hz2.1
  · intro j
    have := hz2.2 j
    rw [← he] at this
    exact this
  rintro x a1 w1 ⟨K1, E1, S1, hK1, hE1, hS1', rfl, Sc1, rfl, hbody⟩
  have hS2 : RelS w0 K1 ((Sc1 ++ o) ++ .loop l (lk le) (recOf fn tmps ps assign body defers .ready none) :: R0) w1 := by rw [List.append_assoc]; exact hS1'
  obtain ⟨hh1, _⟩ := hS2.loopAt (mem_mid _ _ _)
  refine ⟨_, run_beginRound hh1 rfl, ?_⟩
  have hS3 := hS2.reloop (recOf fn tmps ps assign body defers .busy none) rfl
  rw [List.append_assoc] at hS3
  have hbb := hbody (o ++ .loop l (lk le) (recOf fn tmps ps assign body defers .busy none) :: R0) ⟨_, _, mem_mid o R0 _⟩
  unfold AW at hbb
  refine wpIn_mono (hbb hb w0 K1 a1 _ hE1 hS3) ?_
  rintro x a2 w2 ⟨K2, E2, S2, hK2, hE2, hS4, hq⟩
  have fin : ∀ (jump : Option Code) (Sc' : List En), RelS w0 K2 (Sc' ++ (o ++ .loop l (lk le) (recOf fn tmps ps assign body defers .busy none) :: R0)) w2 →
      ∃ v w', (Instr.endRound l jump).run P w2 = .ok v w' ∧ v = .bool jump.isNone ∧ RelS w0 K2 (o ++ (Sc' ++ .loop l (lk le) (recOf fn tmps ps assign body defers (if jump.isNone then .ready else .done) jump) :: R0)) w' := by
    intro jump Sc' h
    rw [← List.append_assoc] at h
    obtain ⟨hh2, _⟩ := h.loopAt (mem_mid _ _ _)
    refine ⟨_, _, run_endRound jump hh2, rfl, ?_⟩
    have h2 := h.reloop (recOf fn tmps ps assign body defers (if jump.isNone then .ready else .done) jump) rfl
    rw [List.append_assoc] at h2
    exact h2.perm (perm3 _ _ _)
  have stop : ∀ (c : Code) (x : Exit), jumpOf x = some c → (∃ Sc', Q x Sc' ∧ SLe S2 (Sc' ++ (o ++ .loop l (lk le) (recOf fn tmps ps assign body defers .busy none) :: R0))) →
      ∃ v w', (Instr.endRound l (some c)).run P w2 = .ok v w' ∧ ∃ v1 K' av S', Ending.returned v = .returned v1 ∧ Kle K K' ∧ Rel K' av v1 ∧ RelS w0 K' S' w' ∧
        ∃ b Sc', av = .bool b ∧ S' = o ++ Sc' ∧ (b = true → Jof st inv l (lk le) (recOf fn tmps ps assign body defers) R0 (i + 1) Sc') ∧ (b = false → Zof Q l (lk le) (recOf fn tmps ps assign body defers) R0 Sc') := by
    rintro c x hc ⟨Sc', hQ, hle⟩
    obtain ⟨v, w', e1, rfl, e3⟩ := fin (some c) Sc' (hle _ _ _ hS4)
    exact ⟨_, w', e1, _, K2, .bool false, _, rfl, hK1.trans hK2, .bool _, e3, false, _, rfl, rfl, (fun h => by cases h), fun _ => ⟨x, c, Sc', hc, hQ, rfl⟩⟩
  cases x with
  | normal =>
    obtain ⟨z', hz', hle⟩ := hq
    obtain ⟨v, w', e1, rfl, e3⟩ := fin none _ (hle _ _ _ hS4)
    exact ⟨_, w', e1, _, K2, .bool true, _, rfl, hK1.trans hK2, .bool _, e3, true, _, rfl, rfl, (fun _ => ⟨z', hz', rfl⟩), fun h => by cases h⟩
  | exit id => exact stop _ _ rfl hq
  | ret => exact stop _ _ rfl hq
  | goto t => exact stop _ _ rfl hq
  | panic _ => exact hq.elim
  | outgrown => exact hq.elim

/-- the call of the function that is ranged over, and what stands behind it -/
theorem range_core {g : Operand} {gf : FuncId} {cap : List AV} {E : Env} {rd : Option Nat} {k : Kt} {w0 : World} {K : Kn} {a : Act} {w1 : World} {fnv : FuncId} {own R0 : List En} {x0 : α} {l defers : Nat} {mark : List Deferred} {m' : List Nat}
    (hps : (ps.toList.all fun p => Nat.blt p N) = true) (ha : codeOk N assign = true) (hb : codeOk N body = true) (hg : ev E g = .fn (.func gf) [] cap) (hgo : opdOk g = true) (hG : AGen P (.fn (.func gf) [] cap) own xs)
    (h0 : inv 0 x0) (hlen : ∀ (i : Nat) (args : List AV), xs[i]? = some args → args.length = ps.size) (hr : ARound P N assign body E.l α st inv Q ps.toList xs)
    (hE : RelE N K E a) (hmark : mark ++ a.defers = m'.map markOf)
    (hS : RelS w0 K (own ++ (st 0 x0 ++ .loop l (lk E.l) (recOf fnv a.tmps ps assign body defers .ready none) :: R0)) w1)
    (hn : ∀ z, inv xs.length z → k .normal ⟨E.l, m'⟩ (st xs.length z ++ R0)) (hq : ∀ x Sc, Q x Sc → (jumpOf x).isSome = true → k x ⟨E.l, m'⟩ (Sc ++ R0)) :
    ∃ (d : Deferred) (w₁' : World) (f : FuncId) (args : Array Value) (w₂ : World), (resolve a.eval (rangeCall g l) 0).run P w1 = .ok d w₁' ∧ (∀ f', Target.leads P w₁' d.target d.args = some f' → (Fw rd).fn f') ∧
      (invoke d.target d.args).run P w₁' = .ok (.enter f args) w₂ ∧ CallsIn (Fw rd) 0 P f args w₂ (rangePost (Fw rd) 0 P l (APost w0 N K k) { a with defers := mark ++ a.defers }) := by
  have hcall := hG l (Jof st inv l (lk E.l) (recOf fnv a.tmps ps assign body defers) R0) (Zof Q l (lk E.l) (recOf fnv a.tmps ps assign body defers) R0) _
    (fun o i args Sc hx hJ => yield_ok hps ha hb hr hlen hE.size o i args Sc hx hJ) ⟨x0, h0, rfl⟩
  obtain ⟨hok, hcall⟩ : fnOk P gf ∧ ACall P gf ([] ++ [AV.fn (.yield l) [] []] ++ cap) _ _ := hcall
  have hgv := hE.ev g hgo
  rw [hg] at hgv
  generalize hgx : a.eval g = gv at hgv
  cases hgv with
  | @fn _ _ _ us cs hl hrr hl' hr' =>
    obtain rfl : us = [] := by simpa using hl.symm
    have hyv : RelL K [AV.fn (.yield l) [] []] [Value.func (.yield l) #[] #[]] :=
      RelL.cons (Rel.fn (.yield l) (first := []) (cap := []) (vs := []) (us := []) rfl (fun i c v hc _ => by simp at hc) rfl (fun i c v hc _ => by simp at hc)) RelL.nil
    unfold ACall at hcall
    have harg : RelL K ([] ++ [AV.fn (.yield l) [] []] ++ cap) ([Value.func (.yield l) #[] #[]] ++ cs) := RelL.append hyv ⟨hl', hr'⟩
    have hc := hcall w0 K w1 _ harg hS
    have e2 : ([Value.func (.yield l) #[] #[]] ++ cs).toArray = ([].toArray ++ #[Value.func (.yield l) #[] #[]]) ++ cs.toArray := by simp
    rw [e2] at hc
    refine ⟨{ target := .fn (.func gf) cs.toArray, args := [].toArray ++ #[.func (.yield l) #[] #[]] }, w1, gf, ([].toArray ++ #[.func (.yield l) #[] #[]]) ++ cs.toArray, w1, ?_, fun _ _ => trivial, ?_, ?_⟩
    · simp only [resolve, rangeCall, hgx]
      simp [Deferred.ofValue, Act.eval]
    · simp only [invoke]
      exact run_callFunc hok _
    · refine CallsIn.mono (F := Fw rd) hc ?_
      rintro e w2 ⟨v, K', av, S', rfl, hK', _, hS', Sc', hle, hor⟩
      have hS2 := hle _ _ _ hS'
      have hE2 : RelE N K' ⟨E.l, m'⟩ { a with defers := mark ++ a.defers } := ⟨hE.size, fun i => (hE.slot i).mono hK', hmark⟩
      rcases hor with ⟨z, hz, rfl⟩ | ⟨x, c, Sc1, hcx, hQ, rfl⟩
      · obtain ⟨hh, _⟩ := hS2.loopAt (mem_mid _ _ _)
        refine ⟨_, _, run_endLoop hh (by simp [recOf]), ?_⟩
        have hS3 := hS2.reloop { recOf fnv a.tmps ps assign body defers .ready none with state := .exhausted } rfl
        exact ⟨K', _, _, hK', hE2, hS3.sub (List.Sublist.append_left (List.sublist_cons_self _ _) _), hn z hz⟩
      · obtain ⟨hh, _⟩ := hS2.loopAt (mem_mid _ _ _)
        refine ⟨_, _, run_endLoop hh (by simp [recOf]), ?_⟩
        have hS3 := (hS2.reloop { recOf fnv a.tmps ps assign body defers .done (some c) with state := .exhausted } rfl).sub (List.Sublist.append_left (List.sublist_cons_self _ _) _)
        have hk := hq x Sc1 hQ (by rw [hcx]; rfl)
        cases x <;> simp only [jumpOf, Option.some.injEq, reduceCtorEq] at hcx <;> subst hcx
        · exact wpIn_exit ⟨K', _, _, hK', hE2, hS3, hk⟩
        · exact wpIn_goto ⟨K', _, _, hK', hE2, hS3, hk⟩
        · exact wpIn_ret ⟨K', _, _, hK', hE2, hS3, hk⟩

/-- a range over a function, in no round of another one: the mark of its block for deferred calls is laid -/
theorem AW_rangeOut {g : Operand} {gf : FuncId} {cap : List AV} {E : Env} {S : List En} {k : Kt} (own R0 : List En) (x0 : α) (hg : ev E g = .fn (.func gf) [] cap) (hG : AGen P (.fn (.func gf) [] cap) own xs)
    (hS : SLe S (own ++ (st 0 x0 ++ R0))) (h0 : inv 0 x0) (hlen : ∀ (i : Nat) (args : List AV), xs[i]? = some args → args.length = ps.size) (hr : ARound P N assign body E.l α st inv Q ps.toList xs)
    (hn : ∀ d z, inv xs.length z → k .normal ⟨E.l, d :: E.m⟩ (st xs.length z ++ .obj d (.deferred (some [])) :: R0)) (hq : ∀ d x Sc, Q x Sc → (jumpOf x).isSome = true → k x ⟨E.l, d :: E.m⟩ (Sc ++ .obj d (.deferred (some [])) :: R0)) :
    AW P N none (.rangeFunc g ps assign body) E S k := by
  unfold AW
  intro hc w0 K a w hE hS0
  simp only [codeOk, Bool.and_eq_true] at hc
  obtain ⟨⟨⟨hgo, hps⟩, ha⟩, hb⟩ := hc
  refine wpIn_rangeFunc (fun fnv _ => ?_)
  have hsz : (w.alloc (.deferred (some []))).heap.size = w.heap.size + 1 := World.size_alloc _ _
  have hS1 : RelS w0 K (.loop (w.heap.size + 1) (lk E.l) (recOf fnv a.tmps ps assign body w.heap.size .ready none) :: .obj w.heap.size (.deferred (some [])) :: (own ++ (st 0 x0 ++ R0))) ((w.alloc (.deferred (some []))).alloc (.loop (recOf fnv a.tmps ps assign body w.heap.size .ready none))) := by
    have hw := hS w0 K w hS0
    have h1 := (hw.allocObj (.deferred (some [])))
    have h2 : RelS w0 K (.obj w.heap.size (.deferred (some [])) :: (own ++ (st 0 x0 ++ R0))) (w.alloc (.deferred (some []))) :=
      hw.consNew h1 (fun b hb => by simpa [En.blk] using hb.symm) ⟨hS0.below.size, hS0.klt (Nat.le_refl _), World.alloc_heap_new _ _, rfl⟩
    have h3 := h2.allocObj (.loop (recOf fnv a.tmps ps assign body w.heap.size .ready none))
    refine h2.consNew h3 (fun b hb => by rw [hsz]; simpa [En.blk] using hb.symm) ⟨?_, ?_, ?_, fun i => hE.slot i⟩
    · have := hS0.below.size; omega
    · exact h2.klt (by rw [hsz]; exact Nat.le_refl _)
    · rw [← hsz]; exact World.alloc_heap_new _ _
  have hS2 : RelS w0 K (own ++ (st 0 x0 ++ .loop (w.heap.size + 1) (lk E.l) (recOf fnv a.tmps ps assign body w.heap.size .ready none) :: (.obj w.heap.size (.deferred (some [])) :: R0))) ((w.alloc (.deferred (some []))).alloc (.loop (recOf fnv a.tmps ps assign body w.heap.size .ready none))) := by
    refine hS1.perm ?_
    have e1 := perm3 [En.loop (w.heap.size + 1) (lk E.l) (recOf fnv a.tmps ps assign body w.heap.size .ready none), .obj w.heap.size (.deferred (some []))] (own ++ st 0 x0) R0
    simp only [List.append_assoc, List.cons_append, List.nil_append] at e1
    exact e1.symm
  obtain ⟨d, w₁', f, args, w₂, r1, r2, r3, r4⟩ := range_core (k := k) (rd := none) (m' := w.heap.size :: E.m) (mark := [markOf w.heap.size]) hps ha hb hg hgo hG h0 hlen hr hE (by rw [hE.defers]; rfl) hS2 (fun z hz => hn w.heap.size z hz) (fun x Sc h1 h2 => hq w.heap.size x Sc h1 h2)
  exact ⟨_, _, _, d, w₁', f, args, w₂, run_enterLoop_outer _ _ _ _ _, r1, r2, r3, by simp [Fw, Fence.wide], r4⟩

end
end Go.Aw
