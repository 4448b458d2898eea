/-
  Abstract values, and how they stand to the model's values and worlds. Own work.
-/
import Derived.WalkKit
import Derived.RangeFuncLeaves
import Derived.RangeFuncRecord
import Derived.RangeFuncNested
import Derived.OrdersIn
set_option linter.all false
namespace Go.Aw
open Go.RowKit

/-- what is known of a slice's end: nothing; that it has no spare room; that the room behind it is its own. -/
inductive Tk where
  | no | full | own (b e tot : Nat)

inductive AV where
  | junk
  | bool (b : Bool)
  | int (k : IntKind) (n : Int)
  | str (s : List UInt8)
  | agg (cs : List AV)
  | tup (vs : List AV)
  | sl (sz : Nat) (es : List AV) (t : Tk)
  | ref (cs : List AV)
  | ptr (b off : Nat)
  | msl (b off n cap : Nat)
  | nilp | nilf | nilif | nilmap
  | fn (f : Fn) (first cap : List AV)
  | ifc (t : TypeId) (v : AV)
  | map (b : Nat)
  | nils
  | gl (g : Nat)

def AV.cells : AV → List AV
  | .agg cs => cs
  | v => [v]
def AV.one : AV → Bool
  | .agg _ | .tup _ | .junk => false
  | _ => true
def flat (es : List AV) : List AV := es.flatMap AV.cells

abbrev Kn := Nat → List Value
def Kle (K K' : Kn) : Prop := ∀ (b i : Nat) (v : Value), (K b)[i]? = some v → (K' b)[i]? = some v
theorem Kle.refl (K : Kn) : Kle K K := fun _ _ _ h => h
theorem Kle.trans {A B C : Kn} (h : Kle A B) (k : Kle B C) : Kle A C := fun b i v x => k b i v (h b i v x)

def TkOk : Tk → (b off sz n cap : Nat) → Prop
  | .no, _, _, _, _, _ => True
  | .full, _, _, _, n, cap => cap = n
  | .own b' e tot, b, off, sz, n, cap => b' = b ∧ off + n * sz = e ∧ off + cap * sz = tot
def Tk.nilOk : Tk → Prop
  | .own _ _ _ => False
  | _ => True

inductive Rel (K : Kn) : AV → Value → Prop
  | junk (v : Value) : Rel K .junk v
  | bool (b : Bool) : Rel K (.bool b) (.bool b)
  | int (k : IntKind) (n : Int) (h : k.has n) : Rel K (.int k n) (.int k n)
  | str (s : List UInt8) (h : s.length ≤ maxLen) : Rel K (.str s) (.string ⟨s.toArray⟩)
  | agg {cs : List AV} {vs : List Value} (h1 : ∀ c ∈ cs, c.one = true) (hl : cs.length = vs.length)
      (h : ∀ (i : Nat) (c : AV) (v : Value), cs[i]? = some c → vs[i]? = some v → Rel K c v) : Rel K (.agg cs) (.agg vs.toArray)
  | tup {cs : List AV} {vs : List Value} (hl : cs.length = vs.length)
      (h : ∀ (i : Nat) (c : AV) (v : Value), cs[i]? = some c → vs[i]? = some v → Rel K c v) : Rel K (.tup cs) (.tuple vs.toArray)
  | slnil (sz : Nat) (t : Tk) (a : Option Addr) (ht : t.nilOk) : Rel K (.sl sz [] t) (.slice a 0 0)
  | sl {sz : Nat} {es : List AV} {t : Tk} {b off cap : Nat} {vs : List Value} (hcap : es.length ≤ cap) (hmax : cap ≤ maxLen)
      (hsz : ∀ e ∈ es, e.cells.length = sz) (h1 : ∀ c ∈ flat es, c.one = true) (hl : (flat es).length = vs.length)
      (h : ∀ (i : Nat) (c : AV) (v : Value), (flat es)[i]? = some c → vs[i]? = some v → Rel K c v)
      (hk : ∀ (i : Nat) (v : Value), vs[i]? = some v → (K b)[off + i]? = some v)
      (ht : TkOk t b off sz es.length cap) : Rel K (.sl sz es t) (.slice (some ⟨b, off, none⟩) es.length cap)
  | ref {cs : List AV} {b off : Nat} {vs : List Value} (h1 : ∀ c ∈ cs, c.one = true) (hl : cs.length = vs.length)
      (h : ∀ (i : Nat) (c : AV) (v : Value), cs[i]? = some c → vs[i]? = some v → Rel K c v)
      (hk : ∀ (i : Nat) (v : Value), vs[i]? = some v → (K b)[off + i]? = some v) : Rel K (.ref cs) (.pointer (some ⟨b, off, none⟩))
  | ptr (b off : Nat) : Rel K (.ptr b off) (.pointer (some ⟨b, off, none⟩))
  | msl (b off n cap : Nat) {b' off' : Nat} (h : n ≤ cap) (hmax : cap ≤ maxLen) (ho : (b' = b ∧ off' = off) ∨ cap = 0) : Rel K (.msl b off n cap) (.slice (some ⟨b', off', none⟩) n cap)
  | mslnil (b off : Nat) (a : Option Addr) : Rel K (.msl b off 0 0) (.slice a 0 0)
  | nilp : Rel K .nilp (.pointer none)
  | nilf : Rel K .nilf .nilFunc
  | nilif : Rel K .nilif .nilIface
  | nilmap : Rel K .nilmap (.map none)
  | fn (f : Fn) {first cap : List AV} {vs us : List Value} (hl : first.length = vs.length)
      (h : ∀ (i : Nat) (c : AV) (v : Value), first[i]? = some c → vs[i]? = some v → Rel K c v) (hl' : cap.length = us.length)
      (h' : ∀ (i : Nat) (c : AV) (v : Value), cap[i]? = some c → us[i]? = some v → Rel K c v) : Rel K (.fn f first cap) (.func f vs.toArray us.toArray)
  | ifc (t : TypeId) {x : AV} {v : Value} (h : Rel K x v) : Rel K (.ifc t x) (.iface t v)
  | map (b : Nat) : Rel K (.map b) (.map (some b))
  | nils : Rel K .nils (.slice none 0 0)
  | gl (g : Nat) : Rel K (.gl g) (.pointer (some ⟨g, 0, none⟩))

def RelL (K : Kn) (cs : List AV) (vs : List Value) : Prop :=
  cs.length = vs.length ∧ ∀ (i : Nat) (c : AV) (v : Value), cs[i]? = some c → vs[i]? = some v → Rel K c v

theorem Rel.mono {K K' : Kn} (hK : Kle K K') {a : AV} {v : Value} (h : Rel K a v) : Rel K' a v := by
  induction h with
  | junk v => exact .junk v
  | bool b => exact .bool b
  | int k n h => exact .int k n h
  | str s h => exact .str s h
  | agg h1 hl _ ih => exact .agg h1 hl ih
  | tup hl _ ih => exact .tup hl ih
  | slnil sz t a ht => exact .slnil sz t a ht
  | sl hcap hmax hsz h1 hl _ hk ht ih => exact .sl hcap hmax hsz h1 hl ih (fun i v hv => hK _ _ _ (hk i v hv)) ht
  | ref h1 hl _ hk ih => exact .ref h1 hl ih (fun i v hv => hK _ _ _ (hk i v hv))
  | ptr b off => exact .ptr b off
  | msl b off n cap h hmax ho => exact .msl b off n cap h hmax ho
  | mslnil b off a => exact .mslnil b off a
  | nilp => exact .nilp
  | nilf => exact .nilf
  | nilif => exact .nilif
  | nilmap => exact .nilmap
  | fn f hl _ hl' _ ih ih' => exact .fn f hl ih hl' ih'
  | ifc t _ ih => exact .ifc t ih
  | map b => exact .map b
  | nils => exact .nils
  | gl g => exact .gl g

theorem RelL.mono {K K' : Kn} (hK : Kle K K') {a : List AV} {v : List Value} (h : RelL K a v) : RelL K' a v :=
  ⟨h.1, fun i c x hc hx => (h.2 i c x hc hx).mono hK⟩

theorem RelL.nil {K : Kn} : RelL K [] [] := ⟨rfl, fun i c v h _ => by simp at h⟩
theorem RelL.cons {K : Kn} {a : AV} {v : Value} {as : List AV} {vs : List Value} (h : Rel K a v) (t : RelL K as vs) : RelL K (a :: as) (v :: vs) := by
  refine ⟨by simp [t.1], fun i c x hc hx => ?_⟩
  cases i with
  | zero => simp at hc hx; subst hc; subst hx; exact h
  | succ i => exact t.2 i c x (by simpa using hc) (by simpa using hx)
theorem RelL.cons_inv {K : Kn} {a : AV} {as : List AV} {vs : List Value} (h : RelL K (a :: as) vs) : ∃ v r, vs = v :: r ∧ Rel K a v ∧ RelL K as r := by
  obtain ⟨hl, h⟩ := h
  cases vs with
  | nil => simp at hl
  | cons v r => exact ⟨v, r, rfl, h 0 a v rfl rfl, by simpa using hl, fun i c x hc hx => h (i + 1) c x (by simpa using hc) (by simpa using hx)⟩
theorem RelL.nil_inv {K : Kn} {vs : List Value} (h : RelL K [] vs) : vs = [] := by
  have := h.1; simpa using this.symm
theorem RelL.append {K : Kn} {a a' : List AV} {v v' : List Value} (h : RelL K a v) (h' : RelL K a' v') : RelL K (a ++ a') (v ++ v') := by
  induction a generalizing v with
  | nil => rw [h.nil_inv]; simpa using h'
  | cons x a ih =>
    obtain ⟨y, r, rfl, hx, hr⟩ := h.cons_inv
    exact RelL.cons hx (ih hr)
theorem RelL.get {K : Kn} {as : List AV} {vs : List Value} (h : RelL K as vs) {i : Nat} {a : AV} (ha : as[i]? = some a) : ∃ v, vs[i]? = some v ∧ Rel K a v := by
  have hi : i < as.length := (List.getElem?_eq_some_iff.1 ha).1
  have hi' : i < vs.length := by rw [← h.1]; exact hi
  exact ⟨vs[i], List.getElem?_eq_getElem hi', h.2 i a _ ha (List.getElem?_eq_getElem hi')⟩
theorem RelL.drop {K : Kn} {as : List AV} {vs : List Value} (h : RelL K as vs) (n : Nat) : RelL K (as.drop n) (vs.drop n) :=
  ⟨by simp [h.1], fun i c v hc hv => h.2 (n + i) c v (by simpa using hc) (by simpa using hv)⟩
theorem RelL.take {K : Kn} {as : List AV} {vs : List Value} (h : RelL K as vs) (n : Nat) : RelL K (as.take n) (vs.take n) := by
  refine ⟨by simp [h.1], fun i c v hc hv => ?_⟩
  rw [List.getElem?_take] at hc hv
  split at hc
  · rename_i hlt
    rw [if_pos hlt] at hv
    exact h.2 i c v hc hv
  · cases hc
theorem RelL.set {K : Kn} {as : List AV} {vs : List Value} (h : RelL K as vs) (n : Nat) {a : AV} {v : Value} (ha : Rel K a v) : RelL K (as.set n a) (vs.set n v) := by
  refine ⟨by simp [h.1], fun i c x hc hx => ?_⟩
  rw [List.getElem?_set] at hc hx
  by_cases hin : n = i
  · subst hin
    simp only [if_true] at hc hx
    split at hc
    · split at hx
      · cases hc; cases hx; exact ha
      · cases hx
    · cases hc
  · rw [if_neg hin] at hc hx
    exact h.2 i c x hc hx

/-- the cells of a value -/
theorem Rel.cellsL {K : Kn} {a : AV} {v : Value} (h : Rel K a v) (ha : a.one = true ∨ ∃ cs, a = .agg cs) : RelL K a.cells v.cells.toList := by
  rcases ha with ha | ⟨cs, rfl⟩
  · have h1 : a.cells = [a] := by cases a <;> simp_all [AV.one, AV.cells]
    have h2 : v.cells.toList = [v] := by cases h <;> simp_all [AV.one, Value.cells]
    rw [h1, h2]; exact RelL.cons h RelL.nil
  · cases h with
    | agg h1 hl h => exact ⟨by simpa [AV.cells, Value.cells] using hl, fun i c v hc hv => h i c v (by simpa [AV.cells] using hc) (by simpa [Value.cells] using hv)⟩

theorem Rel.one {K : Kn} {a : AV} {v : Value} (h : Rel K a v) (ha : a.one = true) : v.oneCell' = true ∧ v.cells = #[v] := by
  cases h <;> simp_all [AV.one, Value.oneCell', Value.cells]

/-- the mutable things that are owned -/
inductive En where
  | cells (b : Nat) (cs : List AV)
  | grow (t : Tk)
  | map (b : Nat) (kvs : List (AV × AV))
  | obj (b : Nat) (o : Obj)
  | loop (b : Nat) (f : Nat → AV) (r : Loop)
  | glob (g : Nat) (cs : List AV)
  | ty (b : Nat) (t : TypeId)
  | sen (b : Nat)

def En.blk : En → Option Nat
  | .cells b _ => some b
  | .grow (.own b _ _) => some b
  | .grow _ => none
  | .map b _ => some b
  | .obj b _ => some b
  | .loop b _ _ => some b
  | .glob _ _ => none
  | .ty _ _ => none
  | .sen _ => none

def isCells : Obj → Bool
  | .cells .. => true
  | _ => false

/-- a block that a mutable slice of so many lies in: none, if there are none -/
def hold (n b : Nat) (cs : List AV) (R : List En) : List En := if n = 0 then R else .cells b cs :: R

def EnOk (B : Nat) (K : Kn) (w : World) : En → Prop
  | .cells b cs => B ≤ b ∧ K b = [] ∧ (∀ c ∈ cs, c.one = true) ∧ ∃ vs T, w.heap[b]? = some (.cells vs T (0, 0)) ∧ RelL K cs vs.toList
  | .grow .no => False
  | .grow .full => True
  | .grow (.own b e tot) => B ≤ b ∧ (K b).length = e ∧ e ≤ tot ∧ ∃ c T, w.heap[b]? = some (.cells c T (0, 0)) ∧ c.size = tot
  | .map b kvs => B ≤ b ∧ K b = [] ∧ ∃ es clk, w.heap[b]? = some (.map es clk) ∧ clk = kvs.length ∧ RelL K (kvs.map (·.1)) (es.toList.map (·.key)) ∧
      (∀ (i : Nat) (kv : AV × AV) (e : MapEntry), kvs[i]? = some kv → es.toList[i]? = some e → Rel K kv.2 e.val ∧ e.born = i)
  | .obj b o => B ≤ b ∧ K b = [] ∧ w.heap[b]? = some o ∧ isCells o = false
  | .loop b f r => B ≤ b ∧ K b = [] ∧ w.heap[b]? = some (.loop r) ∧ ∀ i, Rel K (f i) (r.tmps.getD i undef)
  | .glob g cs => g < B ∧ (∀ c ∈ cs, c.one = true) ∧ ∃ vs t fr, w.heap[g]? = some (.cells vs t fr) ∧ RelL K cs vs.toList ∧ ∀ (i : Nat) (v : Value), vs.toList[i]? = some v → (K g)[i]? = some v
  | .ty b t => ∃ c fr, w.heap[b]? = some (.cells c t fr)
  | .sen b => b < B ∧ ∃ c t, w.heap[b]? = some (.cells c t (0, 0))

structure RelS (w0 : World) (K : Kn) (S : List En) (w : World) : Prop where
  below : Below w0.heap.size w0 w
  kcell : ∀ (b i : Nat) (v : Value), (K b)[i]? = some v → w.cell? ⟨b, i, none⟩ = some v
  ents : ∀ e ∈ S, EnOk w0.heap.size K w e
  apart : (S.filterMap En.blk).Nodup

theorem EnOk.lt {B : Nat} {K : Kn} {w : World} {e : En} {b : Nat} (h : EnOk B K w e) (hb : e.blk = some b) : B ≤ b ∧ b < w.heap.size := by
  cases e with
  | cells b' cs =>
    simp [En.blk] at hb; subst hb
    obtain ⟨h1, _, _, vs, T, h2, _⟩ := h
    exact ⟨h1, (Array.getElem?_eq_some_iff.1 h2).1⟩
  | grow t =>
    cases t with
    | no => exact h.elim
    | full => simp [En.blk] at hb
    | own b' e tot =>
      simp [En.blk] at hb; subst hb
      obtain ⟨h1, _, _, vs, T, h2, _⟩ := h
      exact ⟨h1, (Array.getElem?_eq_some_iff.1 h2).1⟩
  | map b' kvs =>
    simp [En.blk] at hb; subst hb
    obtain ⟨h1, _, vs, T, h2, _⟩ := h
    exact ⟨h1, (Array.getElem?_eq_some_iff.1 h2).1⟩
  | obj b' o =>
    simp [En.blk] at hb; subst hb
    obtain ⟨h1, _, h2, _⟩ := h
    exact ⟨h1, (Array.getElem?_eq_some_iff.1 h2).1⟩
  | loop b' f r =>
    simp [En.blk] at hb; subst hb
    obtain ⟨h1, _, h2, _⟩ := h
    exact ⟨h1, (Array.getElem?_eq_some_iff.1 h2).1⟩
  | glob g cs => simp [En.blk] at hb
  | ty g t => simp [En.blk] at hb
  | sen b => simp [En.blk] at hb

/-- a block of cells keeps its type -/
def TyKept (w w' : World) : Prop := ∀ (b : Nat) (c : Array Value) (t : TypeId) (fr : Nat × Nat), w.heap[b]? = some (.cells c t fr) → ∃ c' fr', w'.heap[b]? = some (.cells c' t fr')
theorem TyKept.refl (w : World) : TyKept w w := fun _ c _ fr h => ⟨c, fr, h⟩
theorem TyKept.alloc {w : World} (o : Obj) : TyKept w (w.alloc o) := fun b c t fr h => ⟨c, fr, (Below.heap_alloc _ _ _ (Array.getElem?_eq_some_iff.1 h).1).trans h⟩

/-- an entry stays while its block, and what is known of it, do -/
theorem EnOk.keep {B : Nat} {K K' : Kn} {w w' : World} {e : En} (hlow : ∀ g, g < B → w'.heap[g]? = w.heap[g]?) (hty : TyKept w w') (hK : Kle K K') (hb : ∀ b, e.blk = some b → w'.heap[b]? = w.heap[b]? ∧ K' b = K b) (h : EnOk B K w e) : EnOk B K' w' e := by
  cases e with
  | cells b cs =>
    obtain ⟨h1, h2, ho, vs, T, h3, h4⟩ := h
    obtain ⟨e1, e2⟩ := hb b rfl
    exact ⟨h1, e2.trans h2, ho, vs, T, e1.trans h3, h4.mono hK⟩
  | grow t =>
    cases t with
    | no => exact h
    | full => exact h
    | own b e tot =>
      obtain ⟨h1, h2, h3, c, T, h4, h5⟩ := h
      obtain ⟨e1, e2⟩ := hb b rfl
      exact ⟨h1, by rw [e2]; exact h2, h3, c, T, e1.trans h4, h5⟩
  | map b kvs =>
    obtain ⟨h1, h2, es, clk, h3, hc, h4, h5⟩ := h
    obtain ⟨e1, e2⟩ := hb b rfl
    exact ⟨h1, e2.trans h2, es, clk, e1.trans h3, hc, h4.mono hK, fun i kv e x y => ⟨((h5 i kv e x y).1).mono hK, (h5 i kv e x y).2⟩⟩
  | obj b o =>
    obtain ⟨h1, h2, h3, h4⟩ := h
    obtain ⟨e1, e2⟩ := hb b rfl
    exact ⟨h1, e2.trans h2, e1.trans h3, h4⟩
  | loop b f r =>
    obtain ⟨h1, h2, h3, h4⟩ := h
    obtain ⟨e1, e2⟩ := hb b rfl
    exact ⟨h1, e2.trans h2, e1.trans h3, fun i => (h4 i).mono hK⟩
  | glob g cs =>
    obtain ⟨h0, h1, vs, t, fr, h4, h2, h3⟩ := h
    exact ⟨h0, h1, vs, t, fr, (hlow g h0).trans h4, h2.mono hK, fun i v hv => hK _ _ _ (h3 i v hv)⟩
  | ty b t =>
    obtain ⟨c, fr, h⟩ := h
    exact hty b c t fr h
  | sen b =>
    obtain ⟨h0, c, t, h⟩ := h
    exact ⟨h0, c, t, (hlow b h0).trans h⟩

theorem RelS.klt {w0 w : World} {K : Kn} {S : List En} (h : RelS w0 K S w) {b : Nat} (hb : w.heap.size ≤ b) : K b = [] := by
  cases hk : K b with
  | nil => rfl
  | cons v r =>
    have := h.kcell b 0 v (by rw [hk]; rfl)
    have := World.block_lt_of_cell? _ _ this
    simp at this; omega

/-- entries may be dropped -/
theorem RelS.sub {w0 w : World} {K : Kn} {S S' : List En} (h : RelS w0 K S w) (hs : S'.Sublist S) : RelS w0 K S' w :=
  ⟨h.below, h.kcell, fun e he => h.ents e (hs.subset he), h.apart.sublist (hs.filterMap _)⟩
theorem RelS.perm {w0 w : World} {K : Kn} {S S' : List En} (h : RelS w0 K S w) (hs : S'.Perm S) : RelS w0 K S' w :=
  ⟨h.below, h.kcell, fun e he => h.ents e (hs.mem_iff.1 he), ((hs.filterMap _).nodup_iff).2 h.apart⟩
theorem RelS.tail {w0 w : World} {K : Kn} {S : List En} {e : En} (h : RelS w0 K (e :: S) w) : RelS w0 K S w := h.sub (List.sublist_cons_self _ _)
theorem RelS.addFull {w0 w : World} {K : Kn} {S : List En} (h : RelS w0 K S w) : RelS w0 K (.grow .full :: S) w :=
  ⟨h.below, h.kcell, fun e he => by rcases List.mem_cons.1 he with rfl | he; exact trivial; exact h.ents e he, by rw [List.filterMap_cons]; exact h.apart⟩

theorem RelS.drew {w0 w : World} {K : Kn} {S : List En} (h : RelS w0 K S w) : RelS w0 K S w.drew :=
  ⟨h.below.drew, h.kcell, fun e he => (h.ents e he).keep (fun _ _ => rfl) (TyKept.refl _) (Kle.refl K) (fun _ _ => ⟨rfl, rfl⟩), h.apart⟩

/-- K with something more known of one block -/
def Kn.put (K : Kn) (b : Nat) (l : List Value) : Kn := fun c => if c = b then l else K c
theorem Kn.put_same (K : Kn) (b : Nat) (l : List Value) : K.put b l b = l := by simp [Kn.put]
theorem Kn.put_other (K : Kn) {b c : Nat} (l : List Value) (h : c ≠ b) : K.put b l c = K c := by simp [Kn.put, h]
theorem Kn.put_le {K : Kn} {b : Nat} {l : List Value} (h : ∀ (i : Nat) (v : Value), (K b)[i]? = some v → l[i]? = some v) : Kle K (K.put b l) := by
  intro c i v hv
  by_cases hc : c = b
  · subst hc; rw [Kn.put_same]; exact h i v hv
  · rw [Kn.put_other _ _ hc]; exact hv

/-- a new block of cells, all of which are known (or a part) -/
theorem RelS.allocKnown {w0 w : World} {K : Kn} {S : List En} (h : RelS w0 K S w) (vs : Array Value) (T : TypeId) (l : List Value) (hl : ∀ (i : Nat) (v : Value), l[i]? = some v → vs[i]? = some v) :
    Kle K (K.put w.heap.size l) ∧ RelS w0 (K.put w.heap.size l) S (w.alloc (.cells vs T)) := by
  have hk0 := h.klt (Nat.le_refl _)
  have hle : Kle K (K.put w.heap.size l) := Kn.put_le (by rw [hk0]; intro i v hv; simp at hv)
  refine ⟨hle, h.below.alloc h.below.size _, ?_, ?_, h.apart⟩
  · intro b i v hv
    by_cases hb : b = w.heap.size
    · subst hb
      rw [Kn.put_same] at hv
      rw [World.cell?_alloc_at vs T _ i rfl]
      exact hl i v hv
    · rw [Kn.put_other _ _ hb] at hv
      have := h.kcell b i v hv
      rw [World.cell?_alloc_lt _ _ _ (World.block_lt_of_cell? _ _ this)]
      exact this
  · intro e he
    refine (h.ents e he).keep (fun g hg => Below.heap_alloc _ _ _ (Nat.lt_of_lt_of_le hg h.below.size)) (TyKept.alloc _) hle (fun b hb => ?_)
    have hlt := ((h.ents e he).lt hb).2
    exact ⟨Below.heap_alloc _ _ _ hlt, Kn.put_other _ _ (by omega)⟩

/-- a new block that is no known one -/
theorem RelS.allocObj {w0 w : World} {K : Kn} {S : List En} (h : RelS w0 K S w) (o : Obj) : RelS w0 K S (w.alloc o) := by
  refine ⟨h.below.alloc h.below.size _, ?_, ?_, h.apart⟩
  · intro b i v hv
    have := h.kcell b i v hv
    rw [World.cell?_alloc_lt _ _ _ (World.block_lt_of_cell? _ _ this)]
    exact this
  · intro e he
    refine (h.ents e he).keep (fun g hg => Below.heap_alloc _ _ _ (Nat.lt_of_lt_of_le hg h.below.size)) (TyKept.alloc _) (Kle.refl K) (fun b hb => ?_)
    exact ⟨Below.heap_alloc _ _ _ ((h.ents e he).lt hb).2, rfl⟩

theorem RelS.fresh {w0 w : World} {K : Kn} {S : List En} (h : RelS w0 K S w) : w.heap.size ∉ S.filterMap En.blk := by
  intro hm
  obtain ⟨e, he, hb⟩ := List.mem_filterMap.1 hm
  have := ((h.ents e he).lt hb).2
  omega

/-- a new entry in front, its block new -/
theorem RelS.consNew {w0 w : World} {K K' : Kn} {S : List En} {w' : World} {e : En} (h : RelS w0 K S w) (h' : RelS w0 K' S w') (hb : ∀ b, e.blk = some b → b = w.heap.size) (he : EnOk w0.heap.size K' w' e) :
    RelS w0 K' (e :: S) w' := by
  refine ⟨h'.below, h'.kcell, fun x hx => ?_, ?_⟩
  · rcases List.mem_cons.1 hx with rfl | hx
    · exact he
    · exact h'.ents x hx
  · cases hbe : e.blk with
    | none => simpa [hbe] using h'.apart
    | some b =>
      have hbb := hb b hbe
      subst hbb
      rw [List.filterMap_cons, hbe]
      exact List.nodup_cons.2 ⟨h.fresh, h'.apart⟩

theorem heap_alloc_new (w : World) (o : Obj) : (w.alloc o).heap[w.heap.size]? = some o := by
  show (w.heap.push o)[w.heap.size]? = _
  simp

/-- a new block of mutable cells -/
theorem RelS.allocCells {w0 w : World} {K : Kn} {S : List En} (h : RelS w0 K S w) {cs : List AV} {vs : Array Value} (T : TypeId) (h1 : ∀ c ∈ cs, c.one = true) (hr : RelL K cs vs.toList) :
    RelS w0 K (.cells w.heap.size cs :: S) (w.alloc (.cells vs T)) :=
  h.consNew (h.allocObj _) (fun b hb => by simpa [En.blk] using hb.symm) ⟨h.below.size, h.klt (Nat.le_refl _), h1, vs, T, heap_alloc_new _ _, hr⟩

/-- the one entry of a block is turned, and the block with it -/
theorem RelS.turn {w0 w w' : World} {K K' : Kn} {S : List En} {p : Nat} {e e' : En} {b : Nat} (h : RelS w0 K S w) (hp : S[p]? = some e) (hb : e.blk = some b)
    (hK : Kle K K') (hKo : ∀ c, c ≠ b → K' c = K c) (hw : ∀ c, c ≠ b → w'.heap[c]? = w.heap[c]?) (hsz : w.heap.size ≤ w'.heap.size) (hos : w'.os = w.os) (htape : w'.tape = w.tape) (hout : w'.output = w.output)
    (hkc : ∀ (i : Nat) (v : Value), (K' b)[i]? = some v → w'.cell? ⟨b, i, none⟩ = some v) (hty : ∀ (c : Array Value) (t : TypeId) (fr : Nat × Nat), w.heap[b]? = some (.cells c t fr) → ∃ c' fr', w'.heap[b]? = some (.cells c' t fr')) (hb' : e'.blk = some b ∨ e'.blk = none) (he' : EnOk w0.heap.size K' w' e') : RelS w0 K' (S.set p e') w' := by
  have hpl : p < S.length := (List.getElem?_eq_some_iff.1 hp).1
  have hmem : e ∈ S := List.mem_of_getElem? hp
  have hB := (h.ents e hmem).lt hb
  have hnd := h.apart
  have htyk : TyKept w w' := fun c cs t fr hc => by
    by_cases hcb : c = b
    · subst hcb; exact hty cs t fr hc
    · exact ⟨cs, fr, (hw c hcb).trans hc⟩
  -- no other entry has this block
  have hother : ∀ (q : Nat) (x : En), S[q]? = some x → q ≠ p → x.blk ≠ some b := by
    intro q x hq hqp hx
    have key : ∀ (L : List En) (i j : Nat) (x y : En), (L.filterMap En.blk).Nodup → L[i]? = some x → L[j]? = some y → i ≠ j → x.blk = some b → y.blk = some b → False := by
      intro L
      induction L with
      | nil => intro i j x y _ hi; simp at hi
      | cons z L ih =>
        intro i j x y hn hi hj hij hx hy
        cases i with
        | zero =>
          cases j with
          | zero => exact hij rfl
          | succ j =>
            simp at hi hj
            subst hi
            rw [List.filterMap_cons, hx] at hn
            exact (List.nodup_cons.1 hn).1 (List.mem_filterMap.2 ⟨y, List.mem_of_getElem? hj, hy⟩)
        | succ i =>
          cases j with
          | zero =>
            simp at hi hj
            subst hj
            rw [List.filterMap_cons, hy] at hn
            exact (List.nodup_cons.1 hn).1 (List.mem_filterMap.2 ⟨x, List.mem_of_getElem? hi, hx⟩)
          | succ j =>
            refine ih i j x y ?_ (by simpa using hi) (by simpa using hj) (by omega) hx hy
            rw [List.filterMap_cons] at hn
            split at hn
            · exact hn
            · exact (List.nodup_cons.1 hn).2
    exact key S q p x e hnd hq hp hqp hx hb
  refine ⟨⟨hos.trans h.below.os, htape.trans h.below.tape, hout.trans h.below.output, Nat.le_trans h.below.size hsz, fun k hk => ?_⟩, ?_, ?_, ?_⟩
  · exact (hw k (by omega)).trans (h.below.block k hk)
  · intro c i v hv
    by_cases hc : c = b
    · subst hc; exact hkc i v hv
    · rw [hKo c hc] at hv
      have := h.kcell c i v hv
      rw [World.cell?_of_block (w := w) (a := ⟨c, i, none⟩) (hw c hc)]
      exact this
  · intro x hx
    obtain ⟨q, hq, hxq⟩ := List.mem_iff_getElem.1 hx
    have hxq' : (S.set p e')[q]? = some x := by rw [List.getElem?_eq_getElem hq, hxq]
    by_cases hqp : q = p
    · subst hqp
      rw [List.getElem?_set_self (by simpa using hq)] at hxq'
      cases hxq'; exact he'
    · rw [List.getElem?_set_ne (Ne.symm hqp)] at hxq'
      refine (h.ents x (List.mem_of_getElem? hxq')).keep (fun g hg => hw g (by omega)) htyk hK (fun c hc => ?_)
      have hcb : c ≠ b := fun hcb => hother q x hxq' hqp (by rw [hc, hcb])
      exact ⟨hw c hcb, hKo c hcb⟩
  · -- the blocks stay apart
    have key : ∀ (L : List En) (p : Nat), (L.filterMap En.blk).Nodup → L[p]? = some e → ((L.set p e').filterMap En.blk).Nodup ∧ ∀ z, z ∈ (L.set p e').filterMap En.blk → z ∈ L.filterMap En.blk := by
      intro L
      induction L with
      | nil => intro p _ hp; simp at hp
      | cons z L ih =>
        intro p hn hp
        cases p with
        | zero =>
          simp at hp
          subst hp
          rw [List.filterMap_cons, hb] at hn
          simp only [List.set_cons_zero]
          rcases hb' with hb' | hb'
          · simp only [List.filterMap_cons, hb', hb]; exact ⟨hn, fun z h => h⟩
          · simp only [List.filterMap_cons, hb', hb]; exact ⟨(List.nodup_cons.1 hn).2, fun z h => List.mem_cons_of_mem _ h⟩
        | succ p =>
          simp only [List.set_cons_succ]
          cases hz : z.blk with
          | none =>
            simp only [List.filterMap_cons, hz] at hn ⊢
            exact ih p hn (by simpa using hp)
          | some c =>
            simp only [List.filterMap_cons, hz] at hn ⊢
            obtain ⟨i1, i2⟩ := ih p (List.nodup_cons.1 hn).2 (by simpa using hp)
            refine ⟨List.nodup_cons.2 ⟨fun hm => (List.nodup_cons.1 hn).1 (i2 c hm), i1⟩, fun x hx => ?_⟩
            rcases List.mem_cons.1 hx with rfl | hx
            · exact List.mem_cons_self
            · exact List.mem_cons_of_mem _ (i2 x hx)
    exact (key S p hnd hp).1
end Go.Aw
