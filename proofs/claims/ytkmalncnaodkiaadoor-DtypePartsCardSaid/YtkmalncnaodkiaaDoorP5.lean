/-
  Types of a rule's variables, in plain words: what is wanted of terms, what follows from it, what a run of wants does. Own work.
-/
import Derived.Test.YtkmalncnaodkiaaDoorP2
set_option linter.all false
namespace Go.Proofs.YtkmalncnaodkiaaDoor
open Go.Aw Go.RowKit

abbrev Key := List UInt8
def tyOf (σ : Key → Int) (t : T) : Int := if t.op = 1 then σ t.s else if t.op = 3 then 2 else if t.op = 4 then 0 else 1
mutual
def wantsT : T → Int → List (T × Int)
  | .mk o s n l, k => wantsTs l ++ [(.mk o s n l, k)]
def wantsTs : List T → List (T × Int)
  | [] => []
  | t :: r => wantsT t 1 ++ wantsTs r
end
theorem wantsT_eq (t : T) (k : Int) : wantsT t k = wantsTs t.l ++ [(t, k)] := by cases t; rw [wantsT]; rfl

structure St where
  m : List (Key × Int)
  more : Bool
def getM (s : Key) : List (Key × Int) → Int
  | [] => 0
  | p :: r => if p.1 = s then p.2 else getM s r
def putM (s : Key) (k : Int) : List (Key × Int) → List (Key × Int)
  | [] => [(s, k)]
  | p :: r => if p.1 = s then (s, k) :: r else p :: putM s k r
def St.g (st : St) : Key → Int := fun s => getM s st.m
def tell (q : T × Int) (st : St) : Bool × St :=
  if q.2 = 0 ∨ q.1.op = 4 then (true, st) else if tyOf st.g q.1 = 0 then (true, ⟨putM q.1.s q.2 st.m, true⟩) else (decide (tyOf st.g q.1 = q.2), st)
def runM : List (T × Int) → St → Bool × St
  | [], st => (true, st)
  | q :: r, st => if (tell q st).1 = true then runM r (tell q st).2 else (false, (tell q st).2)

theorem getM_put (s t : Key) (k : Int) : ∀ m, getM s (putM t k m) = if t = s then k else getM s m
  | [] => by simp [putM, getM]
  | p :: r => by
    rw [putM]
    by_cases h : p.1 = t
    · rw [if_pos h, getM, getM]
      by_cases h2 : t = s
      · simp [h2]
      · simp [h2, h]
    · rw [if_neg h, getM, getM_put s t k r, getM]
      by_cases h2 : t = s
      · subst h2; simp [h]
      · simp [h2]
theorem putM_new {s : Key} {k : Int} : ∀ {m}, (∀ p ∈ m, p.2 ≠ 0) → getM s m = 0 → putM s k m = m ++ [(s, k)] ∧ ∀ p ∈ m, p.1 ≠ s
  | [], _, _ => by simp [putM]
  | p :: r, h, h0 => by
    rw [getM] at h0
    by_cases hp : p.1 = s
    · rw [if_pos hp] at h0; exact absurd h0 (h p (.head _))
    · rw [if_neg hp] at h0
      obtain ⟨h1, h2⟩ := putM_new (k := k) (fun q hq => h q (.tail _ hq)) h0
      rw [putM, if_neg hp, h1]
      refine ⟨rfl, fun q hq => ?_⟩
      rcases List.mem_cons.1 hq with rfl | hq
      · exact hp
      · exact h2 q hq
theorem getM_mem {s : Key} : ∀ {m}, getM s m ≠ 0 → (s, getM s m) ∈ m
  | [], h => absurd rfl h
  | p :: r, h => by
    rw [getM] at h ⊢
    by_cases hp : p.1 = s
    · rw [if_pos hp]; subst hp; exact .head _
    · rw [if_neg hp] at h ⊢; exact .tail _ (getM_mem h)
theorem runM_append (a b : List (T × Int)) (st : St) : runM (a ++ b) st = if (runM a st).1 = true then runM b (runM a st).2 else (false, (runM a st).2) := by
  induction a generalizing st with
  | nil => rfl
  | cons q r ih =>
    rw [List.cons_append, runM, runM]
    by_cases h : (tell q st).1 = true
    · rw [if_pos h, if_pos h, ih]
    · rw [if_neg h, if_neg h]; rfl

theorem tyOf_var {σ : Key → Int} {t : T} (h : t.op = 1) : tyOf σ t = σ t.s := if_pos h
theorem tyOf_const {σ τ : Key → Int} {t : T} (h : t.op ≠ 1) : tyOf σ t = tyOf τ t := by rw [tyOf, tyOf, if_neg h, if_neg h]
theorem tyOf_ne {σ : Key → Int} {t : T} (h : t.op ≠ 1) (h4 : t.op ≠ 4) : tyOf σ t ≠ 0 := by
  rw [tyOf, if_neg h, if_neg h4]; split <;> decide
theorem tyOf_le {σ : Key → Int} {t : T} (h : ∀ s, 0 ≤ σ s) : 0 ≤ tyOf σ t := by
  unfold tyOf; split
  · exact h _
  · split
    · decide
    · split <;> decide

/-! ### what follows -/
structure Sys where
  H : List (T × Int)
  C : List (T × T)
inductive Dv (Y : Sys) : Key → Int → Prop
  | hard {t : T} {k : Int} : (t, k) ∈ Y.H → t.op = 1 → k ≠ 0 → Dv Y t.s k
  | var {x y : T} {k : Int} : (x, y) ∈ Y.C → x.op = 1 → y.op = 1 → Dv Y y.s k → Dv Y x.s k
  | const {x y : T} : (x, y) ∈ Y.C → x.op = 1 → y.op ≠ 1 → y.op ≠ 4 → Dv Y x.s (tyOf (fun _ => 0) y)
def Sol (Y : Sys) (σ : Key → Int) : Prop := (∀ q ∈ Y.H, q.2 ≠ 0 → q.1.op ≠ 4 → tyOf σ q.1 = q.2) ∧ ∀ q ∈ Y.C, tyOf σ q.1 = tyOf σ q.2
theorem Dv.ne {Y : Sys} {s : Key} {k : Int} (h : Dv Y s k) : k ≠ 0 := by
  induction h with
  | hard _ _ h => exact h
  | var _ _ _ _ ih => exact ih
  | const _ _ h1 h4 => exact tyOf_ne h1 h4
theorem Dv.sol {Y : Sys} {σ : Key → Int} (hs : Sol Y σ) {s : Key} {k : Int} (h : Dv Y s k) : σ s = k := by
  induction h with
  | @hard t k h1 h2 h3 =>
    have := hs.1 _ h1 h3 (by show t.op ≠ 4; omega)
    rwa [tyOf_var h2] at this
  | @var x y k h1 h2 h3 _ ih =>
    have := hs.2 _ h1
    simp only [] at this
    rw [tyOf_var h2, tyOf_var h3] at this
    rw [this, ih]
  | @const x y h1 h2 h3 _ =>
    have := hs.2 _ h1
    simp only [] at this
    rw [tyOf_var h2] at this
    rw [this, tyOf_const h3]
theorem Dv.two {Y : Sys} (hK : ∀ q ∈ Y.H, q.2 = 1 ∨ q.2 = 2) {s : Key} {k : Int} (h : Dv Y s k) : k = 1 ∨ k = 2 := by
  induction h with
  | hard h1 _ _ => exact hK _ h1
  | var _ _ _ _ ih => exact ih
  | @const x y _ _ h1 h4 => rw [tyOf, if_neg h1, if_neg h4]; split <;> simp
theorem Dv.mono {Y Z : Sys} (h1 : ∀ q ∈ Y.H, q ∈ Z.H) (h2 : ∀ q ∈ Y.C, q ∈ Z.C) {s : Key} {k : Int} (h : Dv Y s k) : Dv Z s k := by
  induction h with
  | hard a b c => exact .hard (h1 _ a) b c
  | var a b c _ ih => exact .var (h2 _ a) b c ih
  | const a b c d => exact .const (h2 _ a) b c d
theorem Sol.mono {Y Z : Sys} (h1 : ∀ q ∈ Y.H, q ∈ Z.H) (h2 : ∀ q ∈ Y.C, q ∈ Z.C) {σ : Key → Int} (h : Sol Z σ) : Sol Y σ := ⟨fun q hq => h.1 q (h1 q hq), fun q hq => h.2 q (h2 q hq)⟩
/-- nothing is held that does not follow -/
def Under (Y : Sys) (σ : Key → Int) : Prop := ∀ s, σ s ≠ 0 → Dv Y s (σ s)
theorem Under.ty {Y : Sys} {σ τ : Key → Int} (h : Under Y σ) (hs : Sol Y τ) {t : T} (ht : tyOf σ t ≠ 0) : tyOf τ t = tyOf σ t := by
  by_cases h1 : t.op = 1
  · rw [tyOf_var h1] at ht ⊢
    rw [tyOf_var h1]
    exact (h _ ht).sol hs
  · exact tyOf_const h1
/-- a want that follows -/
def Just (Y : Sys) (q : T × Int) : Prop := (q.2 ≠ 0 → q.1.op = 1 → Dv Y q.1.s q.2) ∧ ∀ σ, Sol Y σ → q.2 ≠ 0 → q.1.op ≠ 4 → tyOf σ q.1 = q.2
theorem Just.hard {Y : Sys} {q : T × Int} (h : q ∈ Y.H) : Just Y q := ⟨fun h0 h1 => .hard h h1 h0, fun σ hs h0 h4 => hs.1 q h h0 h4⟩
theorem max_or (a b : Int) : max a b = a ∨ max a b = b := by rw [Int.max_def]; split <;> simp
theorem Just.cmp {Y : Sys} {σ : Key → Int} (hU : Under Y σ) {x y : T} (h : (x, y) ∈ Y.C) (hx : x.op ≠ 4) (hy : y.op ≠ 4) {k : Int} (hk : k = tyOf σ x ∨ k = tyOf σ y) : Just Y (x, k) := by
  refine ⟨fun h0 h1 => ?_, fun τ hs h0 _ => ?_⟩
  · simp only [] at h0 h1 ⊢
    rcases hk with rfl | rfl
    · rw [tyOf_var h1] at h0 ⊢; exact hU _ h0
    · by_cases hy1 : y.op = 1
      · rw [tyOf_var hy1] at h0 ⊢; exact .var h h1 hy1 (hU _ h0)
      · rw [tyOf_const (τ := fun _ => 0) hy1]; exact .const h h1 hy1 hy
  · simp only [] at h0 ⊢
    rcases hk with rfl | rfl
    · exact hU.ty hs h0
    · have := hs.2 _ h
      simp only [] at this
      rw [this]; exact hU.ty hs h0

/-! ### a run of wants -/
def Good (V : List Key) (st : St) : Prop := (∀ p ∈ st.m, 0 < p.2) ∧ (st.m.map (·.1)).Nodup ∧ ∀ p ∈ st.m, p.1 ∈ V
theorem Good.g {V : List Key} {st : St} (h : Good V st) (s : Key) : 0 ≤ st.g s := by
  by_cases h0 : st.g s = 0
  · omega
  · exact Int.le_of_lt (h.1 _ (getM_mem h0))
theorem nodup_le : ∀ (l V : List Key), l.Nodup → (∀ x ∈ l, x ∈ V) → l.length ≤ V.length
  | [], _, _, _ => Nat.zero_le _
  | x :: l, V, h, hs => by
    rw [List.nodup_cons] at h
    have hx := hs x (.head _)
    have := nodup_le l (V.erase x) h.2 (fun y hy => by
      have hne : y ≠ x := fun e => by subst e; exact h.1 hy
      exact (List.mem_erase_of_ne hne).2 (hs y (.tail _ hy)))
    rw [List.length_erase_of_mem hx] at this
    have hp : 0 < V.length := List.length_pos_of_mem hx
    simp only [List.length_cons]; omega
theorem Good.len {V : List Key} {st : St} (h : Good V st) : st.m.length ≤ V.length := by
  have := nodup_le _ V h.2.1 (fun x hx => by obtain ⟨p, hp, rfl⟩ := List.mem_map.1 hx; exact h.2.2 p hp)
  simpa using this
theorem tell_put {q : T × Int} {st : St} (h0 : ¬(q.2 = 0 ∨ q.1.op = 4)) (h : tyOf st.g q.1 = 0) : q.1.op = 1 := by
  by_cases h1 : q.1.op = 1
  · exact h1
  · exact absurd h (tyOf_ne h1 fun h4 => h0 (.inr h4))
theorem tell_good {V : List Key} {q : T × Int} {st : St} (h : Good V st) (hq : 0 ≤ q.2) (hv : q.1.op = 1 → q.1.s ∈ V) : Good V (tell q st).2 ∧ st.m.length ≤ (tell q st).2.m.length ∧ ((tell q st).2.more = true → st.more = true ∨ st.m.length < (tell q st).2.m.length) := by
  unfold tell
  split
  · exact ⟨h, Nat.le_refl _, fun h => .inl h⟩
  rename_i h0
  split
  · rename_i ht
    have h1 := tell_put h0 ht
    rw [tyOf_var h1] at ht
    obtain ⟨e1, e2⟩ := putM_new (k := q.2) (fun p hp => Int.ne_of_gt (h.1 p hp)) ht
    simp only [e1]
    refine ⟨⟨fun p hp => ?_, ?_, fun p hp => ?_⟩, by simp, fun _ => .inr (by simp)⟩
    · rcases List.mem_append.1 hp with hp | hp
      · exact h.1 p hp
      · rw [List.mem_singleton] at hp; subst hp
        have : q.2 ≠ 0 := fun e => h0 (.inl e)
        show 0 < q.2; omega
    · rw [List.map_append, List.nodup_append]
      refine ⟨h.2.1, by simp, fun a ha b hb => ?_⟩
      simp only [List.map_cons, List.map_nil, List.mem_singleton] at hb
      subst hb
      obtain ⟨p, hp, rfl⟩ := List.mem_map.1 ha
      exact e2 p hp
    · rcases List.mem_append.1 hp with hp | hp
      · exact h.2.2 p hp
      · rw [List.mem_singleton] at hp; subst hp; exact hv h1
  · exact ⟨h, Nat.le_refl _, fun h => .inl h⟩
theorem run_good {V : List Key} : ∀ {L : List (T × Int)} {st : St}, Good V st → (∀ q ∈ L, 0 ≤ q.2) → (∀ q ∈ L, q.1.op = 1 → q.1.s ∈ V) →
    Good V (runM L st).2 ∧ st.m.length ≤ (runM L st).2.m.length ∧ ((runM L st).2.more = true → st.more = true ∨ st.m.length < (runM L st).2.m.length)
  | [], st, h, _, _ => ⟨h, Nat.le_refl _, fun h => .inl h⟩
  | q :: r, st, h, hq, hv => by
    obtain ⟨a, b, c⟩ := tell_good h (hq q (.head _)) (hv q (.head _))
    rw [runM]
    split
    · obtain ⟨a', b', c'⟩ := run_good (L := r) a (fun p hp => hq p (.tail _ hp)) (fun p hp => hv p (.tail _ hp))
      refine ⟨a', Nat.le_trans b b', fun hm => ?_⟩
      rcases c' hm with h1 | h1
      · rcases c h1 with h2 | h2
        · exact .inl h2
        · exact .inr (Nat.lt_of_lt_of_le h2 b')
      · exact .inr (Nat.lt_of_le_of_lt b h1)
    · exact ⟨a, b, c⟩
theorem tell_under {Y : Sys} {q : T × Int} {st : St} (h : Under Y st.g) (hj : Just Y q) : Under Y (tell q st).2.g := by
  unfold tell
  split
  · exact h
  rename_i h0
  split
  · rename_i ht
    have h1 := tell_put h0 ht
    intro s hs
    rw [St.g, getM_put] at hs ⊢
    by_cases e : q.1.s = s
    · rw [if_pos e] at hs ⊢; subst e; exact hj.1 hs h1
    · rw [if_neg e] at hs ⊢; exact h s hs
  · exact h
theorem run_under {Y : Sys} : ∀ {L : List (T × Int)} {st : St}, Under Y st.g → (∀ q ∈ L, Just Y q) → Under Y (runM L st).2.g ∧ ((runM L st).1 = false → ¬∃ σ, Sol Y σ)
  | [], st, h, _ => ⟨h, fun h => nomatch h⟩
  | q :: r, st, h, hj => by
    have h1 := tell_under h (hj q (.head _))
    rw [runM]
    split
    · exact run_under (L := r) h1 fun p hp => hj p (.tail _ hp)
    · rename_i hb
      refine ⟨h1, fun _ ⟨σ, hs⟩ => hb ?_⟩
      have hj0 := (hj q (.head _)).2 σ hs
      unfold tell
      split
      · rfl
      rename_i h0
      split
      · rfl
      · rename_i ht
        have e := h.ty hs ht
        rw [hj0 (fun e => h0 (.inl e)) (fun e => h0 (.inr e))] at e
        exact decide_eq_true e.symm
theorem tell_more {q : T × Int} {st : St} (h : st.more = true) : (tell q st).2.more = true := by
  unfold tell; split
  · exact h
  · split
    · rfl
    · exact h
theorem run_more : ∀ {L : List (T × Int)} {st : St}, st.more = true → (runM L st).2.more = true
  | [], _, h => h
  | q :: r, st, h => by
    rw [runM]; split
    · exact run_more (tell_more h)
    · exact tell_more h
theorem run_still : ∀ {L : List (T × Int)} {st : St}, (runM L st).2.more = false → (runM L st).2 = st ∧ ((runM L st).1 = true → ∀ q ∈ L, q.2 ≠ 0 → q.1.op ≠ 4 → tyOf st.g q.1 = q.2)
  | [], st, _ => ⟨rfl, fun _ q hq => nomatch hq⟩
  | q :: r, st, h => by
    have ht : (tell q st).2.more = false → (tell q st).2 = st ∧ ((tell q st).1 = true → q.2 ≠ 0 → q.1.op ≠ 4 → tyOf st.g q.1 = q.2) := by
      intro hm
      unfold tell at hm ⊢
      split at hm
      · rename_i h0
        rw [if_pos h0]; exact ⟨rfl, fun _ h2 h4 => h0.elim (fun e => absurd e h2) fun e => absurd e h4⟩
      · rename_i h0
        rw [if_neg h0]
        split at hm
        · cases hm
        · rename_i h1
          rw [if_neg h1]; exact ⟨rfl, fun h _ _ => of_decide_eq_true h⟩
    rw [runM] at h ⊢
    split at h
    · rename_i hb
      rw [if_pos hb]
      have hm : (tell q st).2.more = false := by
        cases hc : (tell q st).2.more with
        | false => rfl
        | true => rw [run_more hc] at h; cases h
      obtain ⟨e1, e2⟩ := ht hm
      obtain ⟨e3, e4⟩ := run_still h
      rw [e1] at e3 e4 ⊢
      refine ⟨e3, fun h1 p hp => ?_⟩
      rcases List.mem_cons.1 hp with rfl | hp
      · exact e2 hb
      · exact e4 h1 p hp
    · rename_i hb
      rw [if_neg hb]
      exact ⟨(ht h).1, fun h => nomatch h⟩
end Go.Proofs.YtkmalncnaodkiaaDoor
/-
  Types of a rule's variables, in plain words: a rule gone through once; what its variables' types are. Own work.
-/
namespace Go.Proofs.YtkmalncnaodkiaaDoor
open Go.Aw Go.RowKit

def findI (d : List De) (rel : Key) : Option Nat := d.findIdx? fun x => decide (x.rel = rel)
def typesAt (d : List De) (i : Nat) : List Int := match d[i]? with
  | some x => x.types
  | none => []
def colsOf (d : List De) (rel : Key) : List Int := match findI d rel with
  | some i => typesAt d i
  | none => []
def knownA (d : List De) (a : At) : Int := match findI d a.rel with
  | none => 51
  | some i => if (typesAt d i).length = a.l.length then 0 else 52
def zipW (l : List T) (k : List Int) : List (T × Int) := (l.zip k).flatMap fun p => wantsT p.1 p.2
def hardA (d : List De) (a : At) : List (T × Int) := zipW a.l (colsOf d a.rel)
def isCmp (l : Li) : Bool := decide (3 ≤ l.op) && decide (l.op ≤ 6)
def moreW (l : Li) : List (T × Int) := if l.op = 1 ∨ l.op = 2 then [] else wantsT l.x 1 ++ (if l.op = 7 then [] else wantsT l.y 1)
def hardL (d : List De) (l : Li) : List (T × Int) := if isCmp l = true then wantsTs l.x.l ++ wantsTs l.y.l else hardA d l.a ++ moreW l
def cmpL (l : Li) : List (T × T) := if isCmp l = true then [(l.x, l.y), (l.y, l.x)] else []
def sysOf (d : List De) (r : Ru) : Sys := ⟨hardA d r.head ++ r.body.flatMap (hardL d), r.body.flatMap cmpL⟩
def knownL (d : List De) (l : Li) : Int := if isCmp l = true then 0 else knownA d l.a
def firstNz : List Int → Int
  | [] => 0
  | x :: r => if x = 0 then firstNz r else x
def firstK (d : List De) (r : Ru) : Int := firstNz (knownA d r.head :: r.body.map (knownL d))
def codeB (x : Bool × St) : Int × St := (if x.1 = true then 0 else 53, x.2)
def atomM (d : List De) (a : At) (st : St) : Int × St := if knownA d a = 0 then codeB (runM (hardA d a) st) else (knownA d a, st)
def kindL (l : Li) (σ : Key → Int) : Int := max (tyOf σ l.x) (tyOf σ l.y)
def wantsL (d : List De) (l : Li) (σ : Key → Int) : List (T × Int) := if isCmp l = true then wantsT l.x (kindL l σ) ++ wantsT l.y (kindL l σ) else hardA d l.a ++ moreW l
def litM (d : List De) (l : Li) (st : St) : Int × St := if knownL d l = 0 then codeB (runM (wantsL d l st.g) st) else (knownL d l, st)
def wrong (w e : Int) : Int := if w = 0 ∨ (w = 53 ∧ (e = 51 ∨ e = 52)) then e else w
def passL (d : List De) : List Li → Int → St → Int × St
  | [], w, st => (w, st)
  | l :: r, w, st => if wrong w (litM d l st).1 = 51 ∨ wrong w (litM d l st).1 = 52 then (wrong w (litM d l st).1, (litM d l st).2) else passL d r (wrong w (litM d l st).1) (litM d l st).2
def passM (d : List De) (r : Ru) (st : St) : Int × St := passL d r.body (atomM d r.head st).1 (atomM d r.head st).2

theorem knownA_in (d : List De) (a : At) : knownA d a = 0 ∨ knownA d a = 51 ∨ knownA d a = 52 := by
  unfold knownA; split
  · exact .inr (.inl rfl)
  · split
    · exact .inl rfl
    · exact .inr (.inr rfl)
theorem knownL_in (d : List De) (l : Li) : knownL d l = 0 ∨ knownL d l = 51 ∨ knownL d l = 52 := by
  unfold knownL; split
  · exact .inl rfl
  · exact knownA_in d l.a
theorem codeB_in (x : Bool × St) : (codeB x).1 = 0 ∨ (codeB x).1 = 53 := by
  unfold codeB; simp only []; split
  · exact .inl rfl
  · exact .inr rfl
theorem litM_known {d : List De} {l : Li} {st : St} (h : knownL d l ≠ 0) : litM d l st = (knownL d l, st) := if_neg h
theorem litM_0 {d : List De} {l : Li} {st : St} (h : knownL d l = 0) : litM d l st = codeB (runM (wantsL d l st.g) st) := if_pos h

/-- a relation that is not there is told ahead of types -/
theorem passL_known (d : List De) : ∀ (b : List Li) (w : Int) (st : St), (w = 0 ∨ w = 53) → firstNz (b.map (knownL d)) ≠ 0 → (passL d b w st).1 = firstNz (b.map (knownL d))
  | [], _, _, _, h => absurd rfl h
  | l :: r, w, st, hw, h => by
    rw [List.map_cons, firstNz] at h ⊢
    rw [passL]
    by_cases hk : knownL d l = 0
    · rw [if_pos hk] at h ⊢
      have hc := codeB_in (runM (wantsL d l st.g) st)
      rw [← litM_0 (d := d) (l := l) (st := st) hk] at hc
      have hw' : wrong w (litM d l st).1 = 0 ∨ wrong w (litM d l st).1 = 53 := by unfold wrong; split <;> omega
      rw [if_neg (by omega)]
      exact passL_known d r _ _ hw' h
    · rw [if_neg hk]
      have hl := knownL_in d l
      rw [litM_known hk]
      have e : wrong w (knownL d l) = knownL d l := if_pos (by omega)
      simp only [e]
      rw [if_pos (by omega)]
theorem passL_stop (d : List De) (b : List Li) (w : Int) (st : St) (hw : w = 51 ∨ w = 52) : (passL d b w st).1 = w := by
  cases b with
  | nil => rfl
  | cons l r =>
    have e : wrong w (litM d l st).1 = w := if_neg (by omega)
    rw [passL, e, if_pos hw]
theorem passM_known {d : List De} {r : Ru} {st : St} (h : firstK d r ≠ 0) : (passM d r st).1 = firstK d r := by
  unfold firstK at h ⊢
  rw [firstNz] at h ⊢
  unfold passM
  by_cases hk : knownA d r.head = 0
  · rw [if_pos hk] at h ⊢
    refine passL_known d r.body _ _ ?_ h
    rw [atomM, if_pos hk]; exact codeB_in _
  · rw [if_neg hk]
    have e : atomM d r.head st = (knownA d r.head, st) := if_neg hk
    rw [e]
    exact passL_stop d _ _ _ (by have := knownA_in d r.head; omega)

/-! ### what a right rule's wants are like -/
structure Fits (V : List Key) (Y : Sys) : Prop where
  two : ∀ q ∈ Y.H, q.2 = 1 ∨ q.2 = 2
  inH : ∀ q ∈ Y.H, q.1.op = 1 → q.1.s ∈ V
  inC : ∀ q ∈ Y.C, q.1.op = 1 → q.1.s ∈ V
  any : ∀ q ∈ Y.C, q.1.op ≠ 4
  sym : ∀ x y, (x, y) ∈ Y.C → (y, x) ∈ Y.C
/-- a part's wants are the rule's -/
structure Part (d : List De) (Y : Sys) (l : Li) : Prop where
  h : ∀ q ∈ hardL d l, q ∈ Y.H
  c : ∀ q ∈ cmpL l, q ∈ Y.C
structure Ok (V : List Key) (Y : Sys) (st : St) : Prop where
  good : Good V st
  under : Under Y st.g

theorem wantsL_just {V : List Key} {d : List De} {Y : Sys} {l : Li} (hF : Fits V Y) (hP : Part d Y l) {σ : Key → Int} (h : Under Y σ) : ∀ q ∈ wantsL d l σ, Just Y q := by
  intro q hq
  unfold wantsL at hq
  by_cases hc : isCmp l = true
  · rw [if_pos hc] at hq
    have e : cmpL l = [(l.x, l.y), (l.y, l.x)] := if_pos hc
    have e2 : hardL d l = wantsTs l.x.l ++ wantsTs l.y.l := if_pos hc
    have c1 := hP.c (l.x, l.y) (by rw [e]; simp)
    have c2 := hP.c (l.y, l.x) (by rw [e]; simp)
    have hk := max_or (tyOf σ l.x) (tyOf σ l.y)
    rw [wantsT_eq, wantsT_eq] at hq
    simp only [List.mem_append, List.mem_singleton] at hq
    rcases hq with (hq | rfl) | (hq | rfl)
    · exact .hard (hP.h q (by rw [e2]; simp [hq]))
    · exact .cmp h c1 (hF.any _ c1) (hF.any _ c2) hk
    · exact .hard (hP.h q (by rw [e2]; simp [hq]))
    · exact .cmp h c2 (hF.any _ c2) (hF.any _ c1) hk.symm
  · rw [if_neg hc] at hq
    have e2 : hardL d l = hardA d l.a ++ moreW l := if_neg hc
    exact .hard (hP.h q (by rw [e2]; exact hq))
theorem wantsL_in {V : List Key} {d : List De} {Y : Sys} {l : Li} (hF : Fits V Y) (hP : Part d Y l) {σ : Key → Int} (h : ∀ s, 0 ≤ σ s) : (∀ q ∈ wantsL d l σ, 0 ≤ q.2) ∧ ∀ q ∈ wantsL d l σ, q.1.op = 1 → q.1.s ∈ V := by
  have hH : ∀ q ∈ Y.H, 0 ≤ q.2 := fun q hq => by have := hF.two q hq; omega
  have hk : 0 ≤ kindL l σ := by
    have := tyOf_le (t := l.x) h
    have h2 := tyOf_le (t := l.y) h
    unfold kindL; omega
  by_cases hc : isCmp l = true
  · have e : cmpL l = [(l.x, l.y), (l.y, l.x)] := if_pos hc
    have e2 : hardL d l = wantsTs l.x.l ++ wantsTs l.y.l := if_pos hc
    have c1 := hP.c (l.x, l.y) (by rw [e]; simp)
    have c2 := hP.c (l.y, l.x) (by rw [e]; simp)
    have ew : wantsL d l σ = (wantsTs l.x.l ++ [(l.x, kindL l σ)]) ++ (wantsTs l.y.l ++ [(l.y, kindL l σ)]) := by unfold wantsL; rw [if_pos hc, wantsT_eq, wantsT_eq]
    rw [ew]
    refine ⟨fun q hq => ?_, fun q hq h1 => ?_⟩
    · simp only [List.mem_append, List.mem_singleton] at hq
      rcases hq with (hq | rfl) | (hq | rfl)
      · exact hH q (hP.h q (by rw [e2]; simp [hq]))
      · exact hk
      · exact hH q (hP.h q (by rw [e2]; simp [hq]))
      · exact hk
    · simp only [List.mem_append, List.mem_singleton] at hq
      rcases hq with (hq | rfl) | (hq | rfl)
      · exact hF.inH q (hP.h q (by rw [e2]; simp [hq])) h1
      · exact hF.inC _ c1 h1
      · exact hF.inH q (hP.h q (by rw [e2]; simp [hq])) h1
      · exact hF.inC _ c2 h1
  · have e2 : hardL d l = hardA d l.a ++ moreW l := if_neg hc
    have ew : wantsL d l σ = hardA d l.a ++ moreW l := if_neg hc
    rw [ew, ← e2]
    exact ⟨fun q hq => hH q (hP.h q hq), fun q hq => hF.inH q (hP.h q hq)⟩

/-- nothing more is learned, and all is as it should be: these are types -/
def Sat (d : List De) (l : Li) (σ : Key → Int) : Prop := (∀ q ∈ hardL d l, q.2 ≠ 0 → q.1.op ≠ 4 → tyOf σ q.1 = q.2) ∧ ∀ q ∈ cmpL l, tyOf σ q.1 = tyOf σ q.2
structure After (V : List Key) (Y : Sys) (st st' : St) : Prop where
  ok : Ok V Y st'
  le : st.m.length ≤ st'.m.length
  lt : st'.more = true → st.more = true ∨ st.m.length < st'.m.length
theorem After.trans {V : List Key} {Y : Sys} {a b c : St} (h : After V Y a b) (h' : After V Y b c) : After V Y a c :=
  ⟨h'.ok, Nat.le_trans h.le h'.le, fun hm => by
    rcases h'.lt hm with h1 | h1
    · rcases h.lt h1 with h2 | h2
      · exact .inl h2
      · exact .inr (Nat.lt_of_lt_of_le h2 h'.le)
    · exact .inr (Nat.lt_of_le_of_lt h.le h1)⟩
theorem litM_ok {V : List Key} {d : List De} {Y : Sys} {l : Li} (hF : Fits V Y) (hP : Part d Y l) (hk : knownL d l = 0) {st : St} (h : Ok V Y st) :
    After V Y st (litM d l st).2 ∧ ((litM d l st).1 = 0 ∨ (litM d l st).1 = 53 ∧ ¬∃ σ, Sol Y σ) ∧ ((litM d l st).2.more = true ∨ (litM d l st).2 = st ∧ ((litM d l st).1 = 0 → Sat d l st.g)) := by
  rw [litM_0 hk]
  obtain ⟨w1, w2⟩ := wantsL_in hF hP h.good.g
  obtain ⟨g1, g2, g3⟩ := run_good h.good w1 w2
  obtain ⟨u1, u2⟩ := run_under h.under (wantsL_just hF hP h.under)
  refine ⟨⟨⟨g1, u1⟩, g2, g3⟩, ?_, ?_⟩
  · unfold codeB
    cases hb : (runM (wantsL d l st.g) st).1 with
    | true => exact .inl rfl
    | false => exact .inr ⟨rfl, u2 hb⟩
  · show (runM (wantsL d l st.g) st).2.more = true ∨ _
    cases hm : (runM (wantsL d l st.g) st).2.more with
    | true => exact .inl rfl
    | false =>
      obtain ⟨s1, s2⟩ := run_still hm
      refine .inr ⟨s1, fun h0 => ?_⟩
      have hb : (runM (wantsL d l st.g) st).1 = true := by
        unfold codeB at h0
        cases hb : (runM (wantsL d l st.g) st).1 with
        | true => rfl
        | false => rw [hb] at h0; cases h0
      have hs := s2 hb
      by_cases hc : isCmp l = true
      · have e : cmpL l = [(l.x, l.y), (l.y, l.x)] := if_pos hc
        have e2 : hardL d l = wantsTs l.x.l ++ wantsTs l.y.l := if_pos hc
        have c1 := hP.c (l.x, l.y) (by rw [e]; simp)
        have c2 := hP.c (l.y, l.x) (by rw [e]; simp)
        have ew : wantsL d l st.g = (wantsTs l.x.l ++ [(l.x, kindL l st.g)]) ++ (wantsTs l.y.l ++ [(l.y, kindL l st.g)]) := by unfold wantsL; rw [if_pos hc, wantsT_eq, wantsT_eq]
        rw [ew] at hs
        have eq : tyOf st.g l.x = tyOf st.g l.y := by
          by_cases h0 : kindL l st.g = 0
          · have := tyOf_le (t := l.x) h.good.g
            have := tyOf_le (t := l.y) h.good.g
            unfold kindL at h0; omega
          · rw [hs (l.x, kindL l st.g) (by simp) h0 (hF.any _ c1), hs (l.y, kindL l st.g) (by simp) h0 (hF.any _ c2)]
        refine ⟨fun q hq => hs q ?_, fun q hq => ?_⟩
        · rw [e2] at hq
          simp only [List.mem_append] at hq ⊢
          rcases hq with hq | hq
          · exact .inl (.inl hq)
          · exact .inr (.inl hq)
        · rw [e] at hq
          simp only [List.mem_cons, List.not_mem_nil, or_false] at hq
          rcases hq with rfl | rfl
          · exact eq
          · exact eq.symm
      · have e : cmpL l = [] := if_neg hc
        have e2 : hardL d l = wantsL d l st.g := by unfold hardL wantsL; rw [if_neg hc, if_neg hc]
        refine ⟨fun q hq => hs q (e2 ▸ hq), fun q hq => by rw [e] at hq; exact nomatch hq⟩
theorem more_keep {d : List De} {l : Li} {st : St} (h : st.more = true) : (litM d l st).2.more = true := by
  unfold litM; split
  · exact run_more h
  · exact h
theorem passL_more {d : List De} : ∀ {b : List Li} {w : Int} {st : St}, st.more = true → (passL d b w st).2.more = true
  | [], _, _, h => h
  | l :: r, w, st, h => by
    rw [passL]; split
    · exact more_keep h
    · exact passL_more (more_keep h)
theorem passL_53 {V : List Key} {d : List De} {Y : Sys} : ∀ {b : List Li} {st : St}, firstNz (b.map (knownL d)) = 0 → (passL d b 53 st).1 = 53
  | [], _, _ => rfl
  | l :: r, st, h => by
    rw [List.map_cons, firstNz] at h
    have hk : knownL d l = 0 := by
      by_cases hk : knownL d l = 0
      · exact hk
      · rw [if_neg hk] at h; exact h
    rw [if_pos hk] at h
    have hc := codeB_in (runM (wantsL d l st.g) st)
    rw [← litM_0 (d := d) (l := l) (st := st) hk] at hc
    have e : wrong 53 (litM d l st).1 = 53 := if_neg (by omega)
    rw [passL, e, if_neg (by decide)]
    exact passL_53 (V := V) (Y := Y) h
theorem passL_ok {V : List Key} {d : List De} {Y : Sys} (hF : Fits V Y) : ∀ {b : List Li} {st : St}, (∀ l ∈ b, Part d Y l) → firstNz (b.map (knownL d)) = 0 → Ok V Y st →
    ((passL d b 0 st).1 = 0 ∧ After V Y st (passL d b 0 st).2 ∧ ((passL d b 0 st).2.more = true ∨ (passL d b 0 st).2 = st ∧ ∀ l ∈ b, Sat d l st.g)) ∨ ((passL d b 0 st).1 = 53 ∧ ¬∃ σ, Sol Y σ)
  | [], st, _, _, h => .inl ⟨rfl, ⟨h, Nat.le_refl _, fun h => .inl h⟩, .inr ⟨rfl, fun l hl => nomatch hl⟩⟩
  | l :: r, st, hP, hk0, h => by
    rw [List.map_cons, firstNz] at hk0
    have hk : knownL d l = 0 := by
      by_cases hk : knownL d l = 0
      · exact hk
      · rw [if_neg hk] at hk0; exact hk0
    rw [if_pos hk] at hk0
    obtain ⟨a1, a2, a3⟩ := litM_ok hF (hP l (.head _)) hk h
    rw [passL]
    rcases a2 with e0 | ⟨e0, hn⟩
    · have e : wrong 0 (litM d l st).1 = 0 := by rw [e0]; rfl
      rw [e, if_neg (by decide)]
      rcases passL_ok hF (fun x hx => hP x (.tail _ hx)) hk0 a1.ok with ⟨b1, b2, b3⟩ | hb
      · refine .inl ⟨b1, a1.trans b2, ?_⟩
        rcases a3 with hm | ⟨e1, hs⟩
        · exact .inl (passL_more hm)
        · rcases b3 with hm | ⟨e2, hs'⟩
          · exact .inl hm
          · rw [e1] at e2 hs'
            refine .inr ⟨by rw [e1, e2], fun x hx => ?_⟩
            rcases List.mem_cons.1 hx with rfl | hx
            · exact hs e0
            · exact hs' x hx
      · exact .inr hb
    · have e : wrong 0 (litM d l st).1 = 53 := by rw [e0]; rfl
      rw [e, if_neg (by decide)]
      exact .inr ⟨passL_53 (V := V) (Y := Y) hk0, hn⟩
end Go.Proofs.YtkmalncnaodkiaaDoor
/-
  Types of a rule's variables, in plain words: variables, each once; what the types are; the program's end and the book's. Own work.
-/
namespace Go.Proofs.YtkmalncnaodkiaaDoor
open Go.Aw Go.RowKit

theorem firstNz_0 : ∀ {l : List Int}, firstNz l = 0 → ∀ x ∈ l, x = 0
  | [], _, x, h => nomatch h
  | y :: r, h, x, hx => by
    rw [firstNz] at h
    have hy : y = 0 := by
      by_cases hy : y = 0
      · exact hy
      · rw [if_neg hy] at h; exact h
    rw [if_pos hy] at h
    rcases List.mem_cons.1 hx with rfl | hx
    · exact hy
    · exact firstNz_0 h x hx
theorem part_of {d : List De} {r : Ru} {l : Li} (h : l ∈ r.body) : Part d (sysOf d r) l :=
  ⟨fun q hq => List.mem_append_right _ (List.mem_flatMap.2 ⟨l, h, hq⟩), fun q hq => List.mem_flatMap.2 ⟨l, h, hq⟩⟩
theorem passM_ok {V : List Key} {d : List De} {r : Ru} (hF : Fits V (sysOf d r)) (hk : firstK d r = 0) {st : St} (h : Ok V (sysOf d r) st) :
    ((passM d r st).1 = 0 ∧ After V (sysOf d r) st (passM d r st).2 ∧ ((passM d r st).2.more = true ∨ (passM d r st).2 = st ∧ Sol (sysOf d r) st.g)) ∨ ((passM d r st).1 = 53 ∧ ¬∃ σ, Sol (sysOf d r) σ) := by
  have hkA : knownA d r.head = 0 := firstNz_0 hk _ (.head _)
  have hkL : firstNz (r.body.map (knownL d)) = 0 := by rw [firstK, firstNz, if_pos hkA] at hk; exact hk
  have hH : ∀ q ∈ hardA d r.head, q ∈ (sysOf d r).H := fun q hq => List.mem_append_left _ hq
  obtain ⟨g1, g2, g3⟩ := run_good (L := hardA d r.head) h.good (fun q hq => by have := hF.two q (hH q hq); omega) (fun q hq => hF.inH q (hH q hq))
  obtain ⟨u1, u2⟩ := run_under (L := hardA d r.head) h.under (fun q hq => .hard (hH q hq))
  have e : atomM d r.head st = codeB (runM (hardA d r.head) st) := if_pos hkA
  unfold passM
  rw [e]
  cases hb : (runM (hardA d r.head) st).1 with
  | false =>
    have e0 : (codeB (runM (hardA d r.head) st)).1 = 53 := by unfold codeB; simp only [hb]; rfl
    rw [e0]
    exact .inr ⟨passL_53 (V := V) (Y := sysOf d r) hkL, u2 hb⟩
  | true =>
    have e0 : (codeB (runM (hardA d r.head) st)).1 = 0 := by unfold codeB; simp only [hb]; rfl
    have e1 : (codeB (runM (hardA d r.head) st)).2 = (runM (hardA d r.head) st).2 := rfl
    rw [e0, e1]
    have a1 : After V (sysOf d r) st (runM (hardA d r.head) st).2 := ⟨⟨g1, u1⟩, g2, g3⟩
    rcases passL_ok hF (fun l hl => part_of hl) hkL a1.ok with ⟨b1, b2, b3⟩ | hb'
    · refine .inl ⟨b1, a1.trans b2, ?_⟩
      cases hm : (runM (hardA d r.head) st).2.more with
      | true => exact .inl (passL_more hm)
      | false =>
        obtain ⟨s1, s2⟩ := run_still hm
        rcases b3 with hm' | ⟨e2, hs'⟩
        · exact .inl hm'
        · rw [s1] at e2 hs'
          refine .inr ⟨by rw [s1, e2], fun q hq => ?_, fun q hq => ?_⟩
          · rcases List.mem_append.1 hq with hq | hq
            · exact s2 hb q hq
            · obtain ⟨l, hl, hq⟩ := List.mem_flatMap.1 hq
              exact (hs' l hl).1 q hq
          · obtain ⟨l, hl, hq⟩ := List.mem_flatMap.1 hq
            exact (hs' l hl).2 q hq
    · exact .inr hb'

/-! ### the types -/
noncomputable def dTy (Y : Sys) (s : Key) : Int := by
  classical
  exact if h : ∃ k, Dv Y s k then h.choose else 0
theorem dTy_of {Y : Sys} {s : Key} (h : ∃ k, Dv Y s k) : Dv Y s (dTy Y s) := by
  unfold dTy; rw [dif_pos h]; exact h.choose_spec
noncomputable def typesV (V : List Key) (d : List De) (r : Ru) : List Int × Int := by
  classical
  exact if rightP ⟨d, [r]⟩ = false then ([], 30) else if firstK d r = 0 then
    (if (∃ σ, Sol (sysOf d r) σ) ∧ ∀ s ∈ V, ∃ k, Dv (sysOf d r) s k then (V.map (dTy (sysOf d r)), 0) else ([], 53)) else ([], firstK d r)
theorem typesV_tree {V : List Key} {d : List De} {r : Ru} (h : rightP ⟨d, [r]⟩ = false) : typesV V d r = ([], 30) := by unfold typesV; exact if_pos h
theorem typesV_known {V : List Key} {d : List De} {r : Ru} (h : rightP ⟨d, [r]⟩ = true) (hk : firstK d r ≠ 0) : typesV V d r = ([], firstK d r) := by
  unfold typesV; rw [if_neg (by rw [h]; decide), if_neg hk]
theorem typesV_no {V : List Key} {d : List De} {r : Ru} (h : rightP ⟨d, [r]⟩ = true) (hk : firstK d r = 0) (hn : ¬((∃ σ, Sol (sysOf d r) σ) ∧ ∀ s ∈ V, ∃ k, Dv (sysOf d r) s k)) : typesV V d r = ([], 53) := by
  unfold typesV; rw [if_neg (by rw [h]; decide), if_pos hk, if_neg hn]
theorem typesV_yes {V : List Key} {d : List De} {r : Ru} (h : rightP ⟨d, [r]⟩ = true) (hk : firstK d r = 0) (hn : (∃ σ, Sol (sysOf d r) σ) ∧ ∀ s ∈ V, ∃ k, Dv (sysOf d r) s k) : typesV V d r = (V.map (dTy (sysOf d r)), 0) := by
  unfold typesV; rw [if_neg (by rw [h]; decide), if_pos hk, if_pos hn]
theorem types_sol {V : List Key} {d : List De} {r : Ru} (h : rightP ⟨d, [r]⟩ = true) (hk : firstK d r = 0) {σ : Key → Int} (hU : Under (sysOf d r) σ) (hS : Sol (sysOf d r) σ) (hn : ∀ s ∈ V, σ s ≠ 0) : typesV V d r = (V.map σ, 0) := by
  rw [typesV_yes h hk ⟨⟨σ, hS⟩, fun s hs => ⟨_, hU s (hn s hs)⟩⟩]
  congr 1
  refine List.map_congr_left fun s hs => ?_
  exact ((dTy_of ⟨_, hU s (hn s hs)⟩).sol hS).symm
theorem types_zero {V : List Key} {d : List De} {r : Ru} (h : rightP ⟨d, [r]⟩ = true) (hk : firstK d r = 0) {σ : Key → Int} (hD : ∀ s k, Dv (sysOf d r) s k → σ s ≠ 0) {s : Key} (hs : s ∈ V) (h0 : σ s = 0) : typesV V d r = ([], 53) :=
  typesV_no h hk fun ⟨_, h2⟩ => by
    obtain ⟨k, hk⟩ := h2 s hs
    exact hD s k hk h0
theorem types_none {V : List Key} {d : List De} {r : Ru} (h : rightP ⟨d, [r]⟩ = true) (hk : firstK d r = 0) (hn : ¬∃ σ, Sol (sysOf d r) σ) : typesV V d r = ([], 53) :=
  typesV_no h hk fun ⟨h1, _⟩ => hn h1

/-! ### the book's: types in a list -/
def gB (V : List Key) (ts : List Int) : Key → Int := fun s => match V.findIdx? fun x => decide (x = s) with
  | some i => ts.getD i 0
  | none => 0
def putB (V : List Key) (s : Key) (k : Int) (ts : List Int) : List Int := match V.findIdx? fun x => decide (x = s) with
  | some i => ts.set i k
  | none => ts
def teach1 (V : List Key) (q : T × Int) (ts : List Int) : Bool × List Int := if q.1.op = 1 ∧ q.2 ≠ 0 ∧ gB V ts q.1.s = 0 then (true, putB V q.1.s q.2 ts) else (false, ts)
def teach (V : List Key) : List (T × Int) → List Int → Bool × List Int
  | [], ts => (false, ts)
  | q :: r, ts => ((teach1 V q ts).1 || (teach V r (teach1 V q ts).2).1, (teach V r (teach1 V q ts).2).2)
theorem teach_append (V : List Key) (a b : List (T × Int)) (ts : List Int) : teach V (a ++ b) ts = ((teach V a ts).1 || (teach V b (teach V a ts).2).1, (teach V b (teach V a ts).2).2) := by
  induction a generalizing ts with
  | nil => simp [teach]
  | cons q r ih => rw [List.cons_append, teach, ih, teach]; simp [Bool.or_assoc]
theorem idx_mem {V : List Key} {s : Key} (h : s ∈ V) : ∃ i, V.findIdx? (fun x => decide (x = s)) = some i ∧ i < V.length ∧ V[i]? = some s := by
  cases he : V.findIdx? (fun x => decide (x = s)) with
  | none =>
    have := List.findIdx?_eq_none_iff.1 he s h
    simp at this
  | some i =>
    obtain ⟨h1, h2, _⟩ := List.findIdx?_eq_some_iff_getElem.1 he
    refine ⟨i, rfl, h1, ?_⟩
    rw [List.getElem?_eq_getElem h1]
    exact congrArg some (of_decide_eq_true h2)
theorem idx_inj {V : List Key} {s t : Key} {i : Nat} (h1 : V.findIdx? (fun x => decide (x = s)) = some i) (h2 : V.findIdx? (fun x => decide (x = t)) = some i) : s = t := by
  obtain ⟨a, b, _⟩ := List.findIdx?_eq_some_iff_getElem.1 h1
  obtain ⟨a', b', _⟩ := List.findIdx?_eq_some_iff_getElem.1 h2
  exact (of_decide_eq_true b).symm.trans (of_decide_eq_true b')
def zeros : List Int → Nat
  | [] => 0
  | x :: r => (if x = 0 then 1 else 0) + zeros r
theorem zeros_set : ∀ {ts : List Int} {i : Nat} {k : Int}, i < ts.length → ts.getD i 0 = 0 → k ≠ 0 → zeros (ts.set i k) < zeros ts
  | [], i, k, h, _, _ => absurd h (Nat.not_lt_zero _)
  | x :: r, 0, k, _, h, hk => by
    have hx : x = 0 := h
    rw [List.set_cons_zero, zeros, zeros, if_neg hk, if_pos hx]; omega
  | x :: r, i + 1, k, h, h0, hk => by
    have := zeros_set (ts := r) (i := i) (k := k) (by simpa using h) (by simpa using h0) hk
    rw [List.set_cons_succ, zeros, zeros]; omega
theorem zeros_le : ∀ ts : List Int, zeros ts ≤ ts.length
  | [] => Nat.le_refl _
  | x :: r => by rw [zeros, List.length_cons]; have := zeros_le r; split <;> omega
theorem teach1_ok {V : List Key} {Y : Sys} {q : T × Int} {ts : List Int} (hl : ts.length = V.length) (hU : Under Y (gB V ts)) (hj : Just Y q) (hv : q.1.op = 1 → q.1.s ∈ V) :
    (teach1 V q ts).2.length = V.length ∧ Under Y (gB V (teach1 V q ts).2) ∧ zeros (teach1 V q ts).2 ≤ zeros ts ∧ ((teach1 V q ts).1 = true → zeros (teach1 V q ts).2 < zeros ts) ∧
    ((teach1 V q ts).1 = false → (teach1 V q ts).2 = ts ∧ (q.1.op = 1 → q.2 ≠ 0 → gB V ts q.1.s ≠ 0)) := by
  unfold teach1
  split
  · rename_i h
    obtain ⟨h1, h2, h3⟩ := h
    obtain ⟨i, hi, hlt, hg⟩ := idx_mem (hv h1)
    have e : putB V q.1.s q.2 ts = ts.set i q.2 := by unfold putB; rw [hi]
    have e0 : ts.getD i 0 = 0 := by unfold gB at h3; rw [hi] at h3; exact h3
    have hz := zeros_set (k := q.2) (by rw [hl]; exact hlt) e0 h2
    simp only [e]
    refine ⟨by rw [List.length_set, hl], fun s hs => ?_, Nat.le_of_lt hz, fun _ => hz, fun h => (nomatch h)⟩
    by_cases hc : q.1.s = s
    · subst hc
      have e2 : gB V (ts.set i q.2) q.1.s = q.2 := by
        unfold gB; rw [hi]; simp [List.getD_eq_getElem?_getD, hl, hlt]
      rw [e2] at hs ⊢
      exact hj.1 hs h1
    · have e2 : gB V (ts.set i q.2) s = gB V ts s := by
        unfold gB
        cases hs' : V.findIdx? (fun x => decide (x = s)) with
        | none => rfl
        | some j =>
          have hij : i ≠ j := fun e => hc (idx_inj hi (e ▸ hs'))
          simp only [List.getD_eq_getElem?_getD]
          rw [List.getElem?_set_ne hij]
      rw [e2] at hs ⊢
      exact hU s hs
  · rename_i h
    refine ⟨hl, hU, Nat.le_refl _, fun h => (nomatch h), fun _ => ⟨rfl, fun h1 h2 h3 => h ⟨h1, h2, h3⟩⟩⟩
theorem teach_ok {V : List Key} {Y : Sys} : ∀ {L : List (T × Int)} {ts : List Int}, ts.length = V.length → Under Y (gB V ts) → (∀ q ∈ L, Just Y q) → (∀ q ∈ L, q.1.op = 1 → q.1.s ∈ V) →
    (teach V L ts).2.length = V.length ∧ Under Y (gB V (teach V L ts).2) ∧ zeros (teach V L ts).2 ≤ zeros ts ∧ ((teach V L ts).1 = true → zeros (teach V L ts).2 < zeros ts) ∧
    ((teach V L ts).1 = false → (teach V L ts).2 = ts ∧ ∀ q ∈ L, q.1.op = 1 → q.2 ≠ 0 → gB V ts q.1.s ≠ 0)
  | [], ts, hl, hU, _, _ => ⟨hl, hU, Nat.le_refl _, fun h => (nomatch h), fun _ => ⟨rfl, fun q hq => nomatch hq⟩⟩
  | q :: r, ts, hl, hU, hj, hv => by
    obtain ⟨a1, a2, a3, a4, a5⟩ := teach1_ok hl hU (hj q (.head _)) (hv q (.head _))
    obtain ⟨b1, b2, b3, b4, b5⟩ := teach_ok (L := r) a1 a2 (fun p hp => hj p (.tail _ hp)) (fun p hp => hv p (.tail _ hp))
    rw [teach]
    refine ⟨b1, b2, Nat.le_trans b3 a3, fun h => ?_, fun h => ?_⟩
    · rcases Bool.or_eq_true_iff.1 h with h | h
      · exact Nat.lt_of_le_of_lt b3 (a4 h)
      · exact Nat.lt_of_lt_of_le (b4 h) a3
    · obtain ⟨h1, h2⟩ := Bool.or_eq_false_iff.1 h
      obtain ⟨c1, c2⟩ := a5 h1
      obtain ⟨d1, d2⟩ := b5 h2
      rw [c1] at d1 d2
      refine ⟨by show (teach V r (teach1 V q ts).2).2 = ts; rw [c1, d1], fun p hp => ?_⟩
      rcases List.mem_cons.1 hp with rfl | hp
      · exact c2
      · exact d2 p hp
def learnL (d : List De) (V : List Key) : List Li → List Int → Bool × List Int
  | [], ts => (false, ts)
  | l :: r, ts => ((teach V (wantsL d l (gB V ts)) ts).1 || (learnL d V r (teach V (wantsL d l (gB V ts)) ts).2).1, (learnL d V r (teach V (wantsL d l (gB V ts)) ts).2).2)
def learnM (d : List De) (V : List Key) (r : Ru) (ts : List Int) : Bool × List Int := ((teach V (hardA d r.head) ts).1 || (learnL d V r.body (teach V (hardA d r.head) ts).2).1, (learnL d V r.body (teach V (hardA d r.head) ts).2).2)
/-- nothing is left to learn of a part -/
def Shut (d : List De) (l : Li) (σ : Key → Int) : Prop := (∀ q ∈ hardL d l, q.1.op = 1 → q.2 ≠ 0 → σ q.1.s ≠ 0) ∧ ∀ q ∈ cmpL l, q.1.op = 1 → tyOf σ q.2 ≠ 0 → σ q.1.s ≠ 0
theorem under_le {Y : Sys} (hK : ∀ q ∈ Y.H, q.2 = 1 ∨ q.2 = 2) {σ : Key → Int} (h : Under Y σ) (s : Key) : 0 ≤ σ s := by
  by_cases h0 : σ s = 0
  · omega
  · have := (h s h0).two hK; omega
theorem learnL_ok {V : List Key} {d : List De} {Y : Sys} (hF : Fits V Y) : ∀ {b : List Li} {ts : List Int}, (∀ l ∈ b, Part d Y l) → ts.length = V.length → Under Y (gB V ts) →
    (learnL d V b ts).2.length = V.length ∧ Under Y (gB V (learnL d V b ts).2) ∧ zeros (learnL d V b ts).2 ≤ zeros ts ∧ ((learnL d V b ts).1 = true → zeros (learnL d V b ts).2 < zeros ts) ∧
    ((learnL d V b ts).1 = false → (learnL d V b ts).2 = ts ∧ ∀ l ∈ b, Shut d l (gB V ts))
  | [], ts, _, hl, hU => ⟨hl, hU, Nat.le_refl _, fun h => (nomatch h), fun _ => ⟨rfl, fun l hl => nomatch hl⟩⟩
  | l :: r, ts, hP, hl, hU => by
    have hP0 := hP l (.head _)
    obtain ⟨a1, a2, a3, a4, a5⟩ := teach_ok hl hU (wantsL_just hF hP0 hU) (wantsL_in hF hP0 (under_le hF.two hU)).2
    obtain ⟨b1, b2, b3, b4, b5⟩ := learnL_ok hF (b := r) (fun x hx => hP x (.tail _ hx)) a1 a2
    rw [learnL]
    refine ⟨b1, b2, Nat.le_trans b3 a3, fun h => ?_, fun h => ?_⟩
    · rcases Bool.or_eq_true_iff.1 h with h | h
      · exact Nat.lt_of_le_of_lt b3 (a4 h)
      · exact Nat.lt_of_lt_of_le (b4 h) a3
    · obtain ⟨h1, h2⟩ := Bool.or_eq_false_iff.1 h
      obtain ⟨c1, c2⟩ := a5 h1
      obtain ⟨d1, d2⟩ := b5 h2
      rw [c1] at d1 d2
      refine ⟨by show (learnL d V r (teach V (wantsL d l (gB V ts)) ts).2).2 = ts; rw [c1, d1], fun x hx => ?_⟩
      rcases List.mem_cons.1 hx with rfl | hx
      · by_cases hc : isCmp x = true
        · have e : cmpL x = [(x.x, x.y), (x.y, x.x)] := if_pos hc
          have e2 : hardL d x = wantsTs x.x.l ++ wantsTs x.y.l := if_pos hc
          have ew : wantsL d x (gB V ts) = (wantsTs x.x.l ++ [(x.x, kindL x (gB V ts))]) ++ (wantsTs x.y.l ++ [(x.y, kindL x (gB V ts))]) := by unfold wantsL; rw [if_pos hc, wantsT_eq, wantsT_eq]
          rw [ew] at c2
          refine ⟨fun q hq => c2 q ?_, fun q hq => ?_⟩
          · rw [e2] at hq
            simp only [List.mem_append] at hq ⊢
            rcases hq with hq | hq
            · exact .inl (.inl hq)
            · exact .inr (.inl hq)
          · have t1 := tyOf_le (t := x.x) (under_le hF.two hU)
            have t2 := tyOf_le (t := x.y) (under_le hF.two hU)
            rw [e] at hq
            simp only [List.mem_cons, List.not_mem_nil, or_false] at hq
            rcases hq with rfl | rfl
            · exact fun ho hn => c2 (x.x, kindL x (gB V ts)) (by simp) ho (by show kindL x (gB V ts) ≠ 0; simp only [] at hn; unfold kindL; omega)
            · exact fun ho hn => c2 (x.y, kindL x (gB V ts)) (by simp) ho (by show kindL x (gB V ts) ≠ 0; simp only [] at hn; unfold kindL; omega)
        · have e : cmpL x = [] := if_neg hc
          have e2 : hardL d x = wantsL d x (gB V ts) := by unfold hardL wantsL; rw [if_neg hc, if_neg hc]
          exact ⟨fun q hq => c2 q (e2 ▸ hq), fun q hq => by rw [e] at hq; exact nomatch hq⟩
      · exact d2 x hx
theorem learnM_ok {V : List Key} {d : List De} {r : Ru} (hF : Fits V (sysOf d r)) {ts : List Int} (hl : ts.length = V.length) (hU : Under (sysOf d r) (gB V ts)) :
    (learnM d V r ts).2.length = V.length ∧ Under (sysOf d r) (gB V (learnM d V r ts).2) ∧ ((learnM d V r ts).1 = true → zeros (learnM d V r ts).2 < zeros ts) ∧
    ((learnM d V r ts).1 = false → (learnM d V r ts).2 = ts ∧ ∀ s k, Dv (sysOf d r) s k → gB V ts s ≠ 0) := by
  have hH : ∀ q ∈ hardA d r.head, q ∈ (sysOf d r).H := fun q hq => List.mem_append_left _ hq
  obtain ⟨a1, a2, a3, a4, a5⟩ := teach_ok (L := hardA d r.head) hl hU (fun q hq => .hard (hH q hq)) (fun q hq => hF.inH q (hH q hq))
  obtain ⟨b1, b2, b3, b4, b5⟩ := learnL_ok hF (b := r.body) (fun x hx => part_of hx) a1 a2
  unfold learnM
  refine ⟨b1, b2, fun h => ?_, fun h => ?_⟩
  · rcases Bool.or_eq_true_iff.1 h with h | h
    · exact Nat.lt_of_le_of_lt b3 (a4 h)
    · exact Nat.lt_of_lt_of_le (b4 h) a3
  · obtain ⟨h1, h2⟩ := Bool.or_eq_false_iff.1 h
    obtain ⟨c1, c2⟩ := a5 h1
    obtain ⟨d1, d2⟩ := b5 h2
    rw [c1] at d1 d2
    refine ⟨by show (learnL d V r.body (teach V (hardA d r.head) ts).2).2 = ts; rw [c1, d1], fun s k hD => ?_⟩
    induction hD with
    | @hard t k h1 h2 h3 =>
      rcases List.mem_append.1 h1 with h1 | h1
      · exact c2 _ h1 h2 h3
      · obtain ⟨l, hl, h1⟩ := List.mem_flatMap.1 h1
        exact (d2 l hl).1 _ h1 h2 h3
    | @var x y k h1 h2 h3 _ ih =>
      obtain ⟨l, hl, h1⟩ := List.mem_flatMap.1 h1
      exact (d2 l hl).2 _ h1 h2 (by rw [tyOf_var h3]; exact ih)
    | @const x y h1 h2 h3 h4 =>
      obtain ⟨l, hl, h1⟩ := List.mem_flatMap.1 h1
      exact (d2 l hl).2 _ h1 h2 (tyOf_ne h3 h4)
/-- the book's last look -/
def fitW (σ : Key → Int) (L : List (T × Int)) : Bool := L.all fun q => decide (q.1.op = 4) || decide (tyOf σ q.1 = q.2)
def fitL (d : List De) (σ : Key → Int) (l : Li) : Bool :=
  if isCmp l = true then (fitW σ (wantsT l.x 1) && fitW σ (wantsT l.y 1)) || (fitW σ (wantsT l.x 2) && fitW σ (wantsT l.y 2)) else fitW σ (hardA d l.a) && fitW σ (moreW l)
def fitR (d : List De) (r : Ru) (σ : Key → Int) : Bool := fitW σ (hardA d r.head) && r.body.all (fitL d σ)
theorem fitW_iff {σ : Key → Int} {L : List (T × Int)} : fitW σ L = true ↔ ∀ q ∈ L, q.1.op ≠ 4 → tyOf σ q.1 = q.2 := by
  unfold fitW
  rw [List.all_eq_true]
  refine ⟨fun h q hq h4 => ?_, fun h q hq => ?_⟩
  · have := h q hq
    simpa [h4] using this
  · by_cases h4 : q.1.op = 4
    · simp [h4]
    · simp [h q hq h4]
theorem fitR_sol {V : List Key} {d : List De} {r : Ru} (hF : Fits V (sysOf d r)) {σ : Key → Int} (hU : Under (sysOf d r) σ) (hV : ∀ s ∈ V, σ s ≠ 0) : fitR d r σ = true ↔ Sol (sysOf d r) σ := by
  unfold fitR
  rw [Bool.and_eq_true, List.all_eq_true, fitW_iff]
  refine ⟨fun ⟨h1, h2⟩ => ⟨fun q hq h0 h4 => ?_, fun q hq => ?_⟩, fun hs => ⟨fun q hq h4 => ?_, fun l hl => ?_⟩⟩
  · rcases List.mem_append.1 hq with hq | hq
    · exact h1 q hq h4
    · obtain ⟨l, hl, hq⟩ := List.mem_flatMap.1 hq
      have h3 := h2 l hl
      unfold fitL at h3
      by_cases hc : isCmp l = true
      · have e2 : hardL d l = wantsTs l.x.l ++ wantsTs l.y.l := if_pos hc
        rw [if_pos hc] at h3
        rw [e2] at hq
        rcases Bool.or_eq_true_iff.1 h3 with h3 | h3 <;>
        · rw [Bool.and_eq_true, fitW_iff, fitW_iff, wantsT_eq, wantsT_eq] at h3
          rcases List.mem_append.1 hq with hq | hq
          · exact h3.1 q (List.mem_append_left _ hq) h4
          · exact h3.2 q (List.mem_append_left _ hq) h4
      · have e2 : hardL d l = hardA d l.a ++ moreW l := if_neg hc
        rw [if_neg hc, Bool.and_eq_true, fitW_iff, fitW_iff] at h3
        rw [e2] at hq
        rcases List.mem_append.1 hq with hq | hq
        · exact h3.1 q hq h4
        · exact h3.2 q hq h4
  · have hq4 := hF.any q hq
    have hq5 := hF.any (q.2, q.1) (hF.sym _ _ hq)
    obtain ⟨l, hl, hq⟩ := List.mem_flatMap.1 hq
    have h3 := h2 l hl
    unfold fitL at h3
    by_cases hc : isCmp l = true
    · have e : cmpL l = [(l.x, l.y), (l.y, l.x)] := if_pos hc
      rw [if_pos hc] at h3
      have key : l.x.op ≠ 4 → l.y.op ≠ 4 → tyOf σ l.x = tyOf σ l.y := fun hx hy => by
        rcases Bool.or_eq_true_iff.1 h3 with h3 | h3 <;>
        · rw [Bool.and_eq_true, fitW_iff, fitW_iff, wantsT_eq, wantsT_eq] at h3
          have := h3.1 _ (List.mem_append_right _ (.head _)) hx
          have := h3.2 _ (List.mem_append_right _ (.head _)) hy
          simp only [] at *
          omega
      rw [e] at hq
      simp only [List.mem_cons, List.not_mem_nil, or_false] at hq
      rcases hq with rfl | rfl
      · exact key hq4 hq5
      · exact (key hq5 hq4).symm
    · have e : cmpL l = [] := if_neg hc
      rw [e] at hq; exact nomatch hq
  · have hm : q ∈ (sysOf d r).H := List.mem_append_left _ hq
    exact hs.1 q hm (by have := hF.two q hm; omega) h4
  · have hP := part_of (d := d) hl
    have hh : ∀ q ∈ hardL d l, q.1.op ≠ 4 → tyOf σ q.1 = q.2 := fun q hq h4 => hs.1 q (hP.h q hq) (by have := hF.two q (hP.h q hq); omega) h4
    unfold fitL
    by_cases hc : isCmp l = true
    · have e : cmpL l = [(l.x, l.y), (l.y, l.x)] := if_pos hc
      have e2 : hardL d l = wantsTs l.x.l ++ wantsTs l.y.l := if_pos hc
      have c1 := hP.c (l.x, l.y) (by rw [e]; simp)
      have c2 := hP.c (l.y, l.x) (by rw [e]; simp)
      have hxy := hs.2 _ c1
      simp only [] at hxy
      have hx4 : l.x.op ≠ 4 := hF.any _ c1
      have hv : tyOf σ l.x = 1 ∨ tyOf σ l.x = 2 := by
        by_cases h1 : l.x.op = 1
        · rw [tyOf_var h1]
          exact (hU _ (hV _ (hF.inC _ c1 h1))).two hF.two
        · rw [tyOf, if_neg h1, if_neg hx4]; split <;> simp
      rw [if_pos hc, Bool.or_eq_true, Bool.and_eq_true, Bool.and_eq_true, fitW_iff, fitW_iff, fitW_iff, fitW_iff]
      have go : ∀ k, tyOf σ l.x = k → (∀ q ∈ wantsT l.x k, q.1.op ≠ 4 → tyOf σ q.1 = q.2) ∧ ∀ q ∈ wantsT l.y k, q.1.op ≠ 4 → tyOf σ q.1 = q.2 := fun k hk => by
        rw [wantsT_eq, wantsT_eq]
        refine ⟨fun q hq h4 => ?_, fun q hq h4 => ?_⟩
        · rcases List.mem_append.1 hq with hq | hq
          · exact hh q (by rw [e2]; exact List.mem_append_left _ hq) h4
          · rw [List.mem_singleton] at hq; subst hq; exact hk
        · rcases List.mem_append.1 hq with hq | hq
          · exact hh q (by rw [e2]; exact List.mem_append_right _ hq) h4
          · rw [List.mem_singleton] at hq; subst hq; exact hxy.symm.trans hk
      rcases hv with hv | hv
      · exact .inl (go 1 hv)
      · exact .inr (go 2 hv)
    · have e2 : hardL d l = hardA d l.a ++ moreW l := if_neg hc
      rw [if_neg hc, Bool.and_eq_true, fitW_iff, fitW_iff]
      rw [e2] at hh
      exact ⟨fun q hq => hh q (List.mem_append_left _ hq), fun q hq => hh q (List.mem_append_right _ hq)⟩
/-- the book's answer, at the end of its learning -/
theorem book_end {V : List Key} {d : List De} {r : Ru} (hN : V.Nodup) (hF : Fits V (sysOf d r)) (h : rightP ⟨d, [r]⟩ = true) (hk : firstK d r = 0) {ts : List Int} (hl : ts.length = V.length) (hU : Under (sysOf d r) (gB V ts)) (hD : ∀ s k, Dv (sysOf d r) s k → gB V ts s ≠ 0) :
    ((∃ x ∈ ts, x = 0) → typesV V d r = ([], 53)) ∧ ((∀ x ∈ ts, x ≠ 0) → (fitR d r (gB V ts) = false → typesV V d r = ([], 53)) ∧ (fitR d r (gB V ts) = true → typesV V d r = (ts, 0))) := by
  have hg : ∀ (i : Nat) (hi : i < V.length), gB V ts V[i] = ts[i]'(by omega) := fun i hi => by
    have : V.findIdx? (fun x => decide (x = V[i])) = some i := by
      refine List.findIdx?_eq_some_iff_getElem.2 ⟨hi, by simp, fun j hj => ?_⟩
      have hne := (List.pairwise_iff_getElem.1 hN) j i (by omega) hi hj
      simpa using hne
    unfold gB; rw [this]
    simp [List.getD_eq_getElem?_getD, hl, hi]
  have hm : V.map (gB V ts) = ts := by
    apply List.ext_getElem
    · simp [hl]
    · intro i h1 h2
      rw [List.getElem_map]
      exact hg i (by simpa using h1)
  refine ⟨fun ⟨x, hx, h0⟩ => ?_, fun hn => ?_⟩
  · obtain ⟨i, hi, rfl⟩ := List.mem_iff_getElem.1 hx
    exact types_zero h hk hD (List.getElem_mem (by omega : i < V.length)) ((hg i (by omega)).trans h0)
  · have hV : ∀ s ∈ V, gB V ts s ≠ 0 := fun s hs => by
      obtain ⟨i, hi, rfl⟩ := List.mem_iff_getElem.1 hs
      rw [hg i hi]; exact hn _ (List.getElem_mem _)
    have hfs := fitR_sol hF hU hV
    refine ⟨fun hf => ?_, fun hf => ?_⟩
    · refine types_none h hk fun ⟨τ, hτ⟩ => ?_
      have e : ∀ t : T, (t.op = 1 → t.s ∈ V) → tyOf (gB V ts) t = tyOf τ t := fun t ht => by
        by_cases h1 : t.op = 1
        · rw [tyOf_var h1, tyOf_var h1]
          exact ((hU _ (hV _ (ht h1))).sol hτ).symm
        · exact tyOf_const h1
      have hS : Sol (sysOf d r) (gB V ts) := ⟨fun q hq h0 h4 => by rw [e _ (hF.inH q hq)]; exact hτ.1 q hq h0 h4, fun q hq => by
        rw [e _ (hF.inC q hq), e _ (hF.inC (q.2, q.1) (hF.sym _ _ hq))]; exact hτ.2 q hq⟩
      rw [hfs.2 hS] at hf; cases hf
    · have := types_sol h hk hU (hfs.1 hf) hV
      rw [hm] at this; exact this
end Go.Proofs.YtkmalncnaodkiaaDoor
/-
  A rule's variables, each once, in plain words; what a right rule's wants are like. Own work.
-/
namespace Go.Proofs.YtkmalncnaodkiaaDoor
open Go.Aw Go.RowKit

def addV (out : List Key) (s : Key) : List Key := if s ∈ out then out else out ++ [s]
theorem mem_addV {out : List Key} {s x : Key} : x ∈ addV out s ↔ x ∈ out ∨ x = s := by
  unfold addV; split
  · rename_i h
    exact ⟨.inl, fun h' => h'.elim id fun e => e ▸ h⟩
  · simp
theorem nodup_addV {out : List Key} {s : Key} (h : out.Nodup) : (addV out s).Nodup := by
  unfold addV; split
  · exact h
  · rename_i hn
    rw [List.nodup_append]
    refine ⟨h, by simp, fun a ha b hb => ?_⟩
    rw [List.mem_singleton] at hb; subst hb
    exact fun e => hn (e ▸ ha)
theorem mem_addVs {x : Key} : ∀ {l out : List Key}, x ∈ l.foldl addV out ↔ x ∈ out ∨ x ∈ l
  | [], out => by simp
  | y :: r, out => by rw [List.foldl_cons, mem_addVs, mem_addV]; simp [or_assoc]
theorem nodup_addVs : ∀ {l out : List Key}, out.Nodup → (l.foldl addV out).Nodup
  | [], _, h => h
  | y :: r, _, h => nodup_addVs (l := r) (nodup_addV h)
theorem fold_addV (out ys : List Key) (s : Key) : (addV ys s).foldl addV out = addV (ys.foldl addV out) s := by
  by_cases h : s ∈ ys
  · have e : addV ys s = ys := if_pos h
    have e2 : addV (ys.foldl addV out) s = ys.foldl addV out := if_pos (mem_addVs.2 (.inr h))
    rw [e, e2]
  · have e : addV ys s = ys ++ [s] := if_neg h
    rw [e, List.foldl_append]; rfl
theorem fold_fold (out : List Key) : ∀ (xs ys : List Key), (xs.foldl addV ys).foldl addV out = xs.foldl addV (ys.foldl addV out)
  | [], _ => rfl
  | x :: xs, ys => by rw [List.foldl_cons, fold_fold out xs, fold_addV]; rfl
/-- each once -/
def once (l : List Key) : List Key := l.foldl addV []
theorem fold_once (out l : List Key) : (once l).foldl addV out = l.foldl addV out := fold_fold out l []
theorem once_app (a b : List Key) : once (a ++ b) = b.foldl addV (once a) := List.foldl_append ..

mutual
def termsT : T → List T
  | .mk o s n l => .mk o s n l :: termsTs l
def termsTs : List T → List T
  | [] => []
  | t :: r => termsT t ++ termsTs r
end
theorem termsT_eq (t : T) : termsT t = t :: termsTs t.l := by cases t; rw [termsT]; rfl
theorem termsTs_flat : ∀ l : List T, termsTs l = l.flatMap termsT
  | [] => rfl
  | t :: r => by rw [termsTs, termsTs_flat r]; rfl
def keysT (l : List T) : List Key := (l.filter fun t => decide (t.op = 1)).map T.s
theorem keysT_app (a b : List T) : keysT (a ++ b) = keysT a ++ keysT b := by simp [keysT]
theorem mem_keysT {l : List T} {s : Key} : s ∈ keysT l ↔ ∃ t ∈ l, t.op = 1 ∧ t.s = s := by
  simp [keysT, and_assoc]
def topsL (l : Li) : List T := l.x :: l.y :: l.a.l
def topsR (r : Ru) : List T := r.head.l ++ r.body.flatMap topsL
def keysR (r : Ru) : List Key := keysT (termsTs (topsR r))
def varsR (r : Ru) : List Key := if rightR r = true then once (keysR r) else []
theorem varsR_nodup (r : Ru) : (varsR r).Nodup := by
  unfold varsR; split
  · exact nodup_addVs (by simp)
  · simp

mutual
theorem wants_terms : ∀ (t : T) (k : Int), ∀ q ∈ wantsT t k, q.1 ∈ termsT t
  | .mk o s n l, k, q, hq => by
    rw [wantsT] at hq
    rw [termsT]
    rcases List.mem_append.1 hq with hq | hq
    · exact .tail _ (wantss_terms l q hq)
    · rw [List.mem_singleton] at hq; subst hq; exact .head _
theorem wantss_terms : ∀ (l : List T), ∀ q ∈ wantsTs l, q.1 ∈ termsTs l
  | [], q, hq => by rw [wantsTs] at hq; exact nomatch hq
  | t :: r, q, hq => by
    rw [wantsTs] at hq
    rw [termsTs]
    rcases List.mem_append.1 hq with hq | hq
    · exact List.mem_append_left _ (wants_terms t 1 q hq)
    · exact List.mem_append_right _ (wantss_terms r q hq)
end
mutual
theorem wants_kind : ∀ (t : T) (k : Int), ∀ q ∈ wantsT t k, q.2 = k ∨ q.2 = 1
  | .mk o s n l, k, q, hq => by
    rw [wantsT] at hq
    rcases List.mem_append.1 hq with hq | hq
    · exact .inr (wantss_kind l q hq)
    · rw [List.mem_singleton] at hq; subst hq; exact .inl rfl
theorem wantss_kind : ∀ (l : List T), ∀ q ∈ wantsTs l, q.2 = 1
  | [], q, hq => by rw [wantsTs] at hq; exact nomatch hq
  | t :: r, q, hq => by
    rw [wantsTs] at hq
    rcases List.mem_append.1 hq with hq | hq
    · rcases wants_kind t 1 q hq with h | h <;> exact h
    · exact wantss_kind r q hq
end
theorem zipW_mem {l : List T} {k : List Int} {q : T × Int} (h : q ∈ zipW l k) : ∃ t ∈ l, ∃ c ∈ k, q ∈ wantsT t c := by
  obtain ⟨p, hp, hq⟩ := List.mem_flatMap.1 h
  exact ⟨p.1, (List.of_mem_zip hp).1, p.2, (List.of_mem_zip hp).2, hq⟩
theorem colsOf_two {d : List De} (hd : d.all rightD = true) {rel : Key} : ∀ c ∈ colsOf d rel, c = 1 ∨ c = 2 := by
  intro c hc
  unfold colsOf at hc
  split at hc
  · rename_i i hi
    unfold typesAt at hc
    split at hc
    · rename_i x hx
      have hr := List.all_eq_true.1 hd x (List.mem_of_getElem? hx)
      unfold rightD at hr
      simp only [Bool.and_eq_true, Bool.not_eq_true', decide_eq_false_iff_not, decide_eq_true_eq, List.all_eq_true] at hr
      obtain ⟨_, _, _, hl, hz⟩ := hr
      obtain ⟨j, hj, rfl⟩ := List.mem_iff_getElem.1 hc
      have := hz (x.names[j]'(by omega), x.types[j]) (List.mem_iff_getElem.2 ⟨j, by simp; omega, by simp⟩)
      have ht := this.2
      unfold typeB at ht
      simpa using ht
    · exact (nomatch hc)
  · exact (nomatch hc)
theorem rightR_lits {r : Ru} (h : rightR r = true) : ∀ l ∈ r.body, rightL l = true := fun l hl =>
  List.all_eq_true.1 h (rightL l) (List.mem_cons_of_mem _ (List.mem_cons_of_mem _ (List.mem_append_right _ (List.mem_map.2 ⟨l, hl, rfl⟩))))
theorem topsR_head {r : Ru} {t : T} (h : t ∈ r.head.l) : t ∈ topsR r := List.mem_append_left _ h
theorem topsR_body {r : Ru} {l : Li} {t : T} (hl : l ∈ r.body) (h : t ∈ topsL l) : t ∈ topsR r := List.mem_append_right _ (List.mem_flatMap.2 ⟨l, hl, h⟩)
theorem keysR_of {r : Ru} {t u : T} (ht : t ∈ topsR r) (hu : u ∈ termsT t) (h1 : u.op = 1) : u.s ∈ keysR r := by
  refine mem_keysT.2 ⟨u, ?_, h1, rfl⟩
  rw [termsTs_flat]; exact List.mem_flatMap.2 ⟨t, ht, hu⟩
theorem termsT_self (t : T) : t ∈ termsT t := by rw [termsT_eq]; exact .head _
theorem rightL_cmp {l : Li} (hc : isCmp l = true) (h : rightL l = true) : l.x.op ≠ 4 ∧ l.y.op ≠ 4 := by
  unfold isCmp at hc
  simp only [Bool.and_eq_true, decide_eq_true_eq] at hc
  unfold rightL at h
  rw [if_neg (by omega), if_pos hc] at h
  simp only [Bool.and_eq_true, Bool.not_eq_true', decide_eq_false_iff_not] at h
  exact h.1.2
theorem fits_of {d : List De} {r : Ru} (hd : d.all rightD = true) (hr : rightR r = true) : Fits (varsR r) (sysOf d r) := by
  have hv : varsR r = once (keysR r) := if_pos hr
  have hin : ∀ {t u : T}, t ∈ topsR r → u ∈ termsT t → u.op = 1 → u.s ∈ varsR r := fun ht hu h1 => by
    rw [hv]; exact mem_addVs.2 (.inr (keysR_of ht hu h1))
  have hA : ∀ {a : At}, ∀ q ∈ hardA d a, (q.2 = 1 ∨ q.2 = 2) ∧ ∃ t ∈ a.l, q.1 ∈ termsT t := fun q hq => by
    obtain ⟨t, ht, c, hc, hq⟩ := zipW_mem hq
    have h2 := colsOf_two hd c hc
    refine ⟨?_, t, ht, wants_terms t c q hq⟩
    rcases wants_kind t c q hq with h | h
    · rw [h]; exact h2
    · exact .inl h
  have hL : ∀ {l : Li}, ∀ q ∈ hardL d l, (q.2 = 1 ∨ q.2 = 2) ∧ ∃ t ∈ topsL l, q.1 ∈ termsT t := fun {l} q hq => by
    unfold hardL at hq
    split at hq
    · rcases List.mem_append.1 hq with hq | hq
      · exact ⟨.inl (wantss_kind _ q hq), l.x, .head _, by rw [termsT_eq]; exact .tail _ (wantss_terms _ q hq)⟩
      · exact ⟨.inl (wantss_kind _ q hq), l.y, .tail _ (.head _), by rw [termsT_eq]; exact .tail _ (wantss_terms _ q hq)⟩
    · rcases List.mem_append.1 hq with hq | hq
      · obtain ⟨h1, t, ht, h2⟩ := hA q hq
        exact ⟨h1, t, .tail _ (.tail _ ht), h2⟩
      · unfold moreW at hq
        split at hq
        · exact nomatch hq
        · rcases List.mem_append.1 hq with hq | hq
          · exact ⟨(wants_kind _ _ q hq).elim .inl .inl, l.x, .head _, wants_terms _ _ q hq⟩
          · split at hq
            · exact nomatch hq
            · exact ⟨(wants_kind _ _ q hq).elim .inl .inl, l.y, .tail _ (.head _), wants_terms _ _ q hq⟩
  have hH : ∀ q ∈ (sysOf d r).H, (q.2 = 1 ∨ q.2 = 2) ∧ ∃ t ∈ topsR r, q.1 ∈ termsT t := fun q hq => by
    rcases List.mem_append.1 hq with hq | hq
    · obtain ⟨h1, t, ht, h2⟩ := hA q hq
      exact ⟨h1, t, topsR_head ht, h2⟩
    · obtain ⟨l, hl, hq⟩ := List.mem_flatMap.1 hq
      obtain ⟨h1, t, ht, h2⟩ := hL q hq
      exact ⟨h1, t, topsR_body hl ht, h2⟩
  have hC : ∀ q ∈ (sysOf d r).C, ∃ l ∈ r.body, isCmp l = true ∧ (q = (l.x, l.y) ∨ q = (l.y, l.x)) := fun q hq => by
    obtain ⟨l, hl, hq⟩ := List.mem_flatMap.1 hq
    unfold cmpL at hq
    split at hq
    · rename_i hc
      exact ⟨l, hl, hc, by simpa using hq⟩
    · exact nomatch hq
  refine ⟨fun q hq => (hH q hq).1, fun q hq h1 => ?_, fun q hq h1 => ?_, fun q hq => ?_, fun x y hq => ?_⟩
  · obtain ⟨_, t, ht, h2⟩ := hH q hq
    exact hin ht h2 h1
  · obtain ⟨l, hl, hc, hq⟩ := hC q hq
    rcases hq with rfl | rfl
    · exact hin (topsR_body hl (t := l.x) (.head _)) (termsT_self _) h1
    · exact hin (topsR_body hl (t := l.y) (.tail _ (.head _))) (termsT_self _) h1
  · obtain ⟨l, hl, hc, hq⟩ := hC q hq
    have := rightL_cmp hc (rightR_lits hr l hl)
    rcases hq with rfl | rfl
    · exact this.1
    · exact this.2
  · obtain ⟨l, hl, hc, hq⟩ := hC _ hq
    have e : cmpL l = [(l.x, l.y), (l.y, l.x)] := if_pos hc
    refine List.mem_flatMap.2 ⟨l, hl, ?_⟩
    rw [e]
    rcases hq with h | h <;> (simp only [Prod.mk.injEq] at h; obtain ⟨rfl, rfl⟩ := h; simp)
end Go.Proofs.YtkmalncnaodkiaaDoor
/-
  Types of a rule's variables, in plain words: another order, one part less. Own work.
-/
namespace Go.Proofs.YtkmalncnaodkiaaDoor
open Go.Aw Go.RowKit

theorem rightP_one (d : List De) (r : Ru) : rightP ⟨d, [r]⟩ = (!decide (60 < d.length) && (d.all rightD && rightR r)) := by simp [rightP]
structure Less (r s : Ru) : Prop where
  head : s.head = r.head
  body : ∀ l ∈ s.body, l ∈ r.body
theorem rightR_less {r s : Ru} (h : Less r s) (hle : s.body.length ≤ r.body.length) (hp : 0 < s.body.length) (hr : rightR r = true) : rightR s = true := by
  unfold rightR at hr ⊢
  rw [List.all_eq_true] at hr ⊢
  intro b hb
  unfold partsL at hr hb
  rw [h.head] at hb
  rcases List.mem_cons.1 hb with rfl | hb
  · exact hr _ (.head _)
  rcases List.mem_cons.1 hb with rfl | hb
  · have := hr _ (.tail _ (.head _))
    simp only [id_eq, decide_eq_true_eq] at this ⊢
    omega
  rcases List.mem_append.1 hb with hb | hb
  · obtain ⟨t, ht, rfl⟩ := List.mem_map.1 hb
    have := hr (headB r.body.length t) (.tail _ (.tail _ (List.mem_append_left _ (List.mem_map.2 ⟨t, ht, rfl⟩))))
    unfold headB at this ⊢
    simp only [id_eq, Bool.and_eq_true] at this ⊢
    exact ⟨this.1, this.2.1, by rw [decide_eq_true hp]; simp⟩
  · obtain ⟨l, hl, rfl⟩ := List.mem_map.1 hb
    exact hr _ (.tail _ (.tail _ (List.mem_append_right _ (List.mem_map.2 ⟨l, h.body l hl, rfl⟩))))
theorem keysR_less {r s : Ru} (h : Less r s) {x : Key} (hx : x ∈ keysR s) : x ∈ keysR r := by
  obtain ⟨u, hu, h1, rfl⟩ := mem_keysT.1 hx
  rw [termsTs_flat] at hu
  obtain ⟨t, ht, hu⟩ := List.mem_flatMap.1 hu
  refine keysR_of ?_ hu h1
  rcases List.mem_append.1 ht with ht | ht
  · rw [h.head] at ht; exact topsR_head ht
  · obtain ⟨l, hl, ht⟩ := List.mem_flatMap.1 ht
    exact topsR_body (h.body l hl) ht
theorem sys_H {d : List De} {r s : Ru} (h : Less r s) : ∀ q ∈ (sysOf d s).H, q ∈ (sysOf d r).H := fun q hq => by
  rcases List.mem_append.1 hq with hq | hq
  · rw [h.head] at hq; exact List.mem_append_left _ hq
  · obtain ⟨l, hl, hq⟩ := List.mem_flatMap.1 hq
    exact List.mem_append_right _ (List.mem_flatMap.2 ⟨l, h.body l hl, hq⟩)
theorem sys_C {d : List De} {r s : Ru} (h : Less r s) : ∀ q ∈ (sysOf d s).C, q ∈ (sysOf d r).C := fun q hq => by
  obtain ⟨l, hl, hq⟩ := List.mem_flatMap.1 hq
  exact List.mem_flatMap.2 ⟨l, h.body l hl, hq⟩
theorem firstNz_all : ∀ {l : List Int}, (∀ x ∈ l, x = 0) → firstNz l = 0
  | [], _ => rfl
  | y :: r, h => by rw [firstNz, if_pos (h y (.head _))]; exact firstNz_all fun x hx => h x (.tail _ hx)
theorem firstNz_in : ∀ {l : List Int}, firstNz l ≠ 0 → firstNz l ∈ l
  | [], h => absurd rfl h
  | y :: r, h => by
    rw [firstNz] at h ⊢
    by_cases hy : y = 0
    · rw [if_pos hy] at h ⊢; exact .tail _ (firstNz_in h)
    · rw [if_neg hy]; exact .head _
theorem firstK_in (d : List De) (r : Ru) : firstK d r = 0 ∨ firstK d r = 51 ∨ firstK d r = 52 := by
  by_cases h : firstK d r = 0
  · exact .inl h
  · have := firstNz_in h
    rcases List.mem_cons.1 this with h1 | h1
    · have e : firstK d r = knownA d r.head := h1
      rw [e]; exact knownA_in d _
    · obtain ⟨l, _, h2⟩ := List.mem_map.1 h1
      have e : firstK d r = knownL d l := h2.symm
      rw [e]; exact knownL_in d l
theorem firstK_less {d : List De} {r s : Ru} (h : Less r s) (h0 : firstK d r = 0) : firstK d s = 0 := by
  have := firstNz_0 h0
  refine firstNz_all fun x hx => ?_
  rcases List.mem_cons.1 hx with rfl | hx
  · rw [h.head]; exact this _ (.head _)
  · obtain ⟨l, hl, rfl⟩ := List.mem_map.1 hx
    exact this _ (.tail _ (List.mem_map.2 ⟨l, h.body l hl, rfl⟩))
theorem varsR_less {r s : Ru} (h : Less r s) (hr : rightR r = true) {x : Key} (hx : x ∈ varsR s) : x ∈ varsR r := by
  have hv : varsR r = once (keysR r) := if_pos hr
  rw [hv]
  unfold varsR at hx
  split at hx
  · rcases mem_addVs.1 hx with hx | hx
    · exact nomatch hx
    · exact mem_addVs.2 (.inr (keysR_less h hx))
  · exact nomatch hx
theorem gB_map {V : List Key} {σ : Key → Int} {s : Key} (h : s ∈ V) : gB V (V.map σ) s = σ s := by
  obtain ⟨i, h1, h2, h3⟩ := idx_mem h
  unfold gB; rw [h1]
  simp [List.getD_eq_getElem?_getD, h3]
theorem typesV_0 {V : List Key} {d : List De} {r : Ru} (h : (typesV V d r).2 = 0) : rightP ⟨d, [r]⟩ = true ∧ firstK d r = 0 ∧ ((∃ σ, Sol (sysOf d r) σ) ∧ ∀ s ∈ V, ∃ k, Dv (sysOf d r) s k) ∧ typesV V d r = (V.map (dTy (sysOf d r)), 0) := by
  have hr : rightP ⟨d, [r]⟩ = true := by
    cases hr : rightP ⟨d, [r]⟩ with
    | true => rfl
    | false => rw [typesV_tree hr] at h; cases h
  have hk : firstK d r = 0 := Decidable.byContradiction fun hk => by rw [typesV_known hr hk] at h; exact hk h
  have hn : (∃ σ, Sol (sysOf d r) σ) ∧ ∀ s ∈ V, ∃ k, Dv (sysOf d r) s k := Classical.byContradiction fun hn => by rw [typesV_no hr hk hn] at h; cases h
  exact ⟨hr, hk, hn, typesV_yes hr hk hn⟩
theorem typesV_cases (V : List Key) (d : List De) (r : Ru) : (rightP ⟨d, [r]⟩ = false ∧ typesV V d r = ([], 30)) ∨ (rightP ⟨d, [r]⟩ = true ∧ firstK d r ≠ 0 ∧ typesV V d r = ([], firstK d r)) ∨
    (rightP ⟨d, [r]⟩ = true ∧ firstK d r = 0 ∧ typesV V d r = ([], 53)) ∨ (typesV V d r).2 = 0 := by
  cases hr : rightP ⟨d, [r]⟩ with
  | false => exact .inl ⟨rfl, typesV_tree hr⟩
  | true =>
    by_cases hk : firstK d r = 0
    · by_cases hn : (∃ σ, Sol (sysOf d r) σ) ∧ ∀ s ∈ V, ∃ k, Dv (sysOf d r) s k
      · exact .inr (.inr (.inr (by rw [typesV_yes hr hk hn])))
      · exact .inr (.inr (.inl ⟨rfl, hk, typesV_no hr hk hn⟩))
    · exact .inr (.inl ⟨rfl, hk, typesV_known hr hk⟩)
theorem dTy_less {d : List De} {r s : Ru} (h : Less r s) {x : Key} (hs : ∃ σ, Sol (sysOf d r) σ) (h1 : ∃ k, Dv (sysOf d s) x k) : dTy (sysOf d s) x = dTy (sysOf d r) x := by
  obtain ⟨σ, hS⟩ := hs
  have a := (dTy_of h1).mono (sys_H h) (sys_C h)
  have b := dTy_of ⟨_, a⟩
  rw [← a.sol hS, ← b.sol hS]
/-- a rule that fits, without one of its parts -/
theorem types_less {d : List De} {r s : Ru} (h : Less r s) (hle : s.body.length ≤ r.body.length) (hp : 0 < s.body.length) (h0 : (typesV (varsR r) d r).2 = 0) :
    (typesV (varsR s) d s).2 = 53 ∨ (typesV (varsR s) d s).2 = 0 ∧ ∀ x ∈ varsR s, gB (varsR r) (typesV (varsR r) d r).1 x = gB (varsR s) (typesV (varsR s) d s).1 x := by
  obtain ⟨hr, hk, ⟨hS, hV⟩, e⟩ := typesV_0 h0
  have hr' := hr
  rw [rightP_one, Bool.and_eq_true, Bool.and_eq_true] at hr'
  have hrs : rightP ⟨d, [s]⟩ = true := by rw [rightP_one, hr'.1, hr'.2.1, rightR_less h hle hp hr'.2.2]; rfl
  have hks := firstK_less h hk
  by_cases hn : (∃ σ, Sol (sysOf d s) σ) ∧ ∀ x ∈ varsR s, ∃ k, Dv (sysOf d s) x k
  · refine .inr ?_
    rw [typesV_yes hrs hks hn, e]
    refine ⟨rfl, fun x hx => ?_⟩
    rw [gB_map hx, gB_map (varsR_less h hr'.2.2 hx), dTy_less h hS (hn.2 x hx)]
  · exact .inl (by rw [typesV_no hrs hks hn])
/-- another order -/
structure Like (r s : Ru) : Prop where
  a : Less r s
  b : Less s r
  len : s.body.length = r.body.length
theorem Like.right {r s : Ru} (h : Like r s) (hp : 0 < r.body.length) : rightR s = rightR r := by
  cases hr : rightR r with
  | true => exact rightR_less h.a (Nat.le_of_eq h.len) (by rw [h.len]; exact hp) hr
  | false =>
    cases hs : rightR s with
    | false => rfl
    | true => rw [rightR_less h.b (Nat.le_of_eq h.len.symm) hp hs] at hr; cases hr
theorem Like.vars {r s : Ru} (h : Like r s) (hp : 0 < r.body.length) : (varsR s).length = (varsR r).length ∧ ∀ x, x ∈ varsR s ↔ x ∈ varsR r := by
  have hx : ∀ x, x ∈ varsR s ↔ x ∈ varsR r := fun x => by
    cases hr : rightR r with
    | true => exact ⟨varsR_less h.a hr, varsR_less h.b ((h.right hp).trans hr)⟩
    | false =>
      have e1 : varsR r = [] := by unfold varsR; rw [hr]; rfl
      have e2 : varsR s = [] := by unfold varsR; rw [h.right hp, hr]; rfl
      rw [e1, e2]
  exact ⟨Nat.le_antisymm (nodup_le _ _ (varsR_nodup s) fun x h => (hx x).1 h) (nodup_le _ _ (varsR_nodup r) fun x h => (hx x).2 h), hx⟩
theorem types_like {d : List De} {r s : Ru} (h : Like r s) (hp : 0 < r.body.length) :
    (((typesV (varsR r) d r).2 = 51 ∨ (typesV (varsR r) d r).2 = 52) ∧ ((typesV (varsR s) d s).2 = 51 ∨ (typesV (varsR s) d s).2 = 52)) ∨
    (¬((typesV (varsR r) d r).2 = 51 ∨ (typesV (varsR r) d r).2 = 52) ∧ (typesV (varsR r) d r).2 = (typesV (varsR s) d s).2 ∧
      ((typesV (varsR r) d r).2 = 0 → (typesV (varsR r) d r).1.length = (varsR r).length ∧ (typesV (varsR s) d s).1.length = (varsR s).length ∧
        (∀ x ∈ varsR r, gB (varsR r) (typesV (varsR r) d r).1 x = gB (varsR s) (typesV (varsR s) d s).1 x) ∧ ∀ k ∈ (typesV (varsR r) d r).1, k = 1 ∨ k = 2)) := by
  have hP : rightP ⟨d, [s]⟩ = rightP ⟨d, [r]⟩ := by rw [rightP_one, rightP_one, h.right hp]
  rcases typesV_cases (varsR r) d r with ⟨hr, e⟩ | ⟨hr, hk, e⟩ | ⟨hr, hk, e⟩ | h0
  · refine .inr ?_
    rw [typesV_tree (hP.trans hr), e]
    exact ⟨by decide, rfl, fun h => by cases h⟩
  · refine .inl ?_
    have hks : firstK d s ≠ 0 := fun e => hk (firstK_less h.b e)
    rw [typesV_known (hP.trans hr) hks, e]
    have h1 := firstK_in d r
    have h2 := firstK_in d s
    simp only []
    omega
  · refine .inr ?_
    have hks := firstK_less h.a hk
    rcases typesV_cases (varsR s) d s with ⟨hr', e'⟩ | ⟨hr', hk', e'⟩ | ⟨hr', hk', e'⟩ | h0'
    · rw [hP, hr] at hr'; cases hr'
    · exact absurd hks hk'
    · rw [e, e']
      exact ⟨by decide, rfl, fun h => by cases h⟩
    · exfalso
      have := types_less h.b (Nat.le_of_eq h.len.symm) hp h0'
      obtain ⟨_, _, ⟨⟨σ, hS⟩, hV⟩, _⟩ := typesV_0 h0'
      have := typesV_yes hr hk ⟨⟨σ, hS.mono (sys_H h.b) (sys_C h.b)⟩, fun x hx => by
        obtain ⟨k, hD⟩ := hV x (((h.vars hp).2 x).2 hx)
        exact ⟨k, hD.mono (sys_H h.a) (sys_C h.a)⟩⟩
      exact absurd (congrArg Prod.snd (e.symm.trans this)) (by simp)
  · refine .inr ?_
    obtain ⟨hr, hk, ⟨⟨σ, hS⟩, hV⟩, e⟩ := typesV_0 h0
    have hks := firstK_less h.a hk
    have hVs : ∀ x ∈ varsR s, ∃ k, Dv (sysOf d s) x k := fun x hx => by
      obtain ⟨k, hD⟩ := hV x (((h.vars hp).2 x).1 hx)
      exact ⟨k, hD.mono (sys_H h.b) (sys_C h.b)⟩
    have e' := typesV_yes (hP.trans hr) hks ⟨⟨σ, hS.mono (sys_H h.a) (sys_C h.a)⟩, hVs⟩
    rw [e, e']
    have hr' := hr
    rw [rightP_one, Bool.and_eq_true, Bool.and_eq_true] at hr'
    have hF := fits_of hr'.2.1 hr'.2.2
    refine ⟨by simp, rfl, fun _ => ⟨by simp, by simp, fun x hx => ?_, fun k hk => ?_⟩⟩
    · have hxs := ((h.vars hp).2 x).2 hx
      rw [gB_map hx, gB_map hxs, dTy_less h.a ⟨σ, hS⟩ (hVs x hxs)]
    · obtain ⟨x, hx, rfl⟩ := List.mem_map.1 hk
      exact (dTy_of (hV x hx)).two hF.two
end Go.Proofs.YtkmalncnaodkiaaDoor
