/-
 Abstract values,and how they stand to the model's values and worlds. Own work.
-/
import Derived.WalkKit
import Derived.RangeFuncLeaves
import Derived.RangeFuncRecord
import Derived.RangeFuncNested
import Derived.OrdersIn
set_option linter.all false
namespace Go.Aw
open Go.RowKit
inductive Tk where
 | no | full | own (b e tot : Nat)
inductive AV where
 | junk
 | bool (b : Bool)
 | int (k : IntKind) (n : Int)
 | str (s : List UInt8)
 | agg (cs : List AV)
 | tup (vs : List AV)
 | sl (sz : Nat) (es : List AV) (t : Tk)
 | ref (cs : List AV)
 | ptr (b off : Nat)
 | msl (b off n cap : Nat)
 | nilp | nilf | nilif | nilmap
 | fn (f : Fn) (first cap : List AV)
 | ifc (t : TypeId) (v : AV)
 | map (b : Nat)
 | nils
 | gl (g : Nat)
def AV.cells : AV → List AV
 | .agg cs => cs
 | v => [v]
def AV.one : AV → Bool
 | .agg _ | .tup _ | .junk => false
 | _ => true
def flat (es : List AV) : List AV := es.flatMap AV.cells
abbrev Kn := Nat → List Value
def Kle (K K' : Kn) : Prop := ∀ (b i : Nat) (v : Value),(K b)[i]? = some v → (K' b)[i]? = some v
theorem Kle.refl (K : Kn) : Kle K K := fun _ _ _ h => h
theorem Kle.trans {A B C : Kn} (h : Kle A B) (k : Kle B C) : Kle A C := fun b i v x => k b i v (h b i v x)
def TkOk : Tk → (b off sz n cap : Nat) → Prop
 | .no,_,_,_,_,_ => True
 | .full,_,_,_,n,cap => cap = n
 | .own b' e tot,b,off,sz,n,cap => b' = b ∧ off + n * sz = e ∧ off + cap * sz = tot
def Tk.nilOk : Tk → Prop
 | .own _ _ _ => False
 | _ => True
inductive Rel (K : Kn) : AV → Value → Prop
 | junk (v : Value) : Rel K .junk v
 | bool (b : Bool) : Rel K (.bool b) (.bool b)
 | int (k : IntKind) (n : Int) (h : k.has n) : Rel K (.int k n) (.int k n)
 | str (s : List UInt8) (h : s.length ≤ maxLen) : Rel K (.str s) (.string ⟨s.toArray⟩)
 | agg {cs : List AV} {vs : List Value} (h1 : ∀ c ∈ cs,c.one = true) (hl : cs.length = vs.length)
   (h : ∀ (i : Nat) (c : AV) (v : Value),cs[i]? = some c → vs[i]? = some v → Rel K c v) : Rel K (.agg cs) (.agg vs.toArray)
 | tup {cs : List AV} {vs : List Value} (hl : cs.length = vs.length)
   (h : ∀ (i : Nat) (c : AV) (v : Value),cs[i]? = some c → vs[i]? = some v → Rel K c v) : Rel K (.tup cs) (.tuple vs.toArray)
 | slnil (sz : Nat) (t : Tk) (a : Option Addr) (ht : t.nilOk) : Rel K (.sl sz [] t) (.slice a 0 0)
 | sl {sz : Nat} {es : List AV} {t : Tk} {b off cap : Nat} {vs : List Value} (hcap : es.length ≤ cap) (hmax : cap ≤ maxLen)
   (hsz : ∀ e ∈ es,e.cells.length = sz) (h1 : ∀ c ∈ flat es,c.one = true) (hl : (flat es).length = vs.length)
   (h : ∀ (i : Nat) (c : AV) (v : Value),(flat es)[i]? = some c → vs[i]? = some v → Rel K c v)
   (hk : ∀ (i : Nat) (v : Value),vs[i]? = some v → (K b)[off + i]? = some v)
   (ht : TkOk t b off sz es.length cap) : Rel K (.sl sz es t) (.slice (some ⟨b,off,none⟩) es.length cap)
 | ref {cs : List AV} {b off : Nat} {vs : List Value} (h1 : ∀ c ∈ cs,c.one = true) (hl : cs.length = vs.length)
   (h : ∀ (i : Nat) (c : AV) (v : Value),cs[i]? = some c → vs[i]? = some v → Rel K c v)
   (hk : ∀ (i : Nat) (v : Value),vs[i]? = some v → (K b)[off + i]? = some v) : Rel K (.ref cs) (.pointer (some ⟨b,off,none⟩))
 | ptr (b off : Nat) : Rel K (.ptr b off) (.pointer (some ⟨b,off,none⟩))
 | msl (b off n cap : Nat) {b' off' : Nat} (h : n ≤ cap) (hmax : cap ≤ maxLen) (ho : (b' = b ∧ off' = off) ∨ cap = 0) : Rel K (.msl b off n cap) (.slice (some ⟨b',off',none⟩) n cap)
 | mslnil (b off : Nat) (a : Option Addr) : Rel K (.msl b off 0 0) (.slice a 0 0)
 | nilp : Rel K .nilp (.pointer none)
 | nilf : Rel K .nilf .nilFunc
 | nilif : Rel K .nilif .nilIface
 | nilmap : Rel K .nilmap (.map none)
 | fn (f : Fn) {first cap : List AV} {vs us : List Value} (hl : first.length = vs.length)
   (h : ∀ (i : Nat) (c : AV) (v : Value),first[i]? = some c → vs[i]? = some v → Rel K c v) (hl' : cap.length = us.length)
   (h' : ∀ (i : Nat) (c : AV) (v : Value),cap[i]? = some c → us[i]? = some v → Rel K c v) : Rel K (.fn f first cap) (.func f vs.toArray us.toArray)
 | ifc (t : TypeId) {x : AV} {v : Value} (h : Rel K x v) : Rel K (.ifc t x) (.iface t v)
 | map (b : Nat) : Rel K (.map b) (.map (some b))
 | nils : Rel K .nils (.slice none 0 0)
 | gl (g : Nat) : Rel K (.gl g) (.pointer (some ⟨g,0,none⟩))
def RelL (K : Kn) (cs : List AV) (vs : List Value) : Prop :=
 cs.length = vs.length ∧ ∀ (i : Nat) (c : AV) (v : Value),cs[i]? = some c → vs[i]? = some v → Rel K c v
theorem Rel.mono {K K' : Kn} (hK : Kle K K') {a : AV} {v : Value} (h : Rel K a v) : Rel K' a v := by
 induction h with
 | junk v => exact .junk v
 | bool b => exact .bool b
 | int k n h => exact .int k n h
 | str s h => exact .str s h
 | agg h1 hl _ ih => exact .agg h1 hl ih
 | tup hl _ ih => exact .tup hl ih
 | slnil sz t a ht => exact .slnil sz t a ht
 | sl hcap hmax hsz h1 hl _ hk ht ih => exact .sl hcap hmax hsz h1 hl ih (fun i v hv => hK _ _ _ (hk i v hv)) ht
 | ref h1 hl _ hk ih => exact .ref h1 hl ih (fun i v hv => hK _ _ _ (hk i v hv))
 | ptr b off => exact .ptr b off
 | msl b off n cap h hmax ho => exact .msl b off n cap h hmax ho
 | mslnil b off a => exact .mslnil b off a
 | nilp => exact .nilp
 | nilf => exact .nilf
 | nilif => exact .nilif
 | nilmap => exact .nilmap
 | fn f hl _ hl' _ ih ih' => exact .fn f hl ih hl' ih'
 | ifc t _ ih => exact .ifc t ih
 | map b => exact .map b
 | nils => exact .nils
 | gl g => exact .gl g
theorem RelL.mono {K K' : Kn} (hK : Kle K K') {a : List AV} {v : List Value} (h : RelL K a v) : RelL K' a v :=
 ⟨h.1,fun i c x hc hx => (h.2 i c x hc hx).mono hK⟩
theorem RelL.nil {K : Kn} : RelL K [] [] := ⟨rfl,fun i c v h _ => by simp at h⟩
theorem RelL.cons {K : Kn} {a : AV} {v : Value} {as : List AV} {vs : List Value} (h : Rel K a v) (t : RelL K as vs) : RelL K (a :: as) (v :: vs) := by
 refine ⟨by simp [t.1],fun i c x hc hx => ?_⟩
 cases i with
 | zero => simp at hc hx; subst hc; subst hx; exact h
 | succ i => exact t.2 i c x (by simpa using hc) (by simpa using hx)
theorem RelL.cons_inv {K : Kn} {a : AV} {as : List AV} {vs : List Value} (h : RelL K (a :: as) vs) : ∃ v r,vs = v :: r ∧ Rel K a v ∧ RelL K as r := by
 obtain ⟨hl,h⟩ := h
 cases vs with
 | nil => simp at hl
 | cons v r => exact ⟨v,r,rfl,h 0 a v rfl rfl,by simpa using hl,fun i c x hc hx => h (i + 1) c x (by simpa using hc) (by simpa using hx)⟩
theorem RelL.nil_inv {K : Kn} {vs : List Value} (h : RelL K [] vs) : vs = [] := by
 have := h.1; simpa using this.symm
theorem RelL.append {K : Kn} {a a' : List AV} {v v' : List Value} (h : RelL K a v) (h' : RelL K a' v') : RelL K (a ++ a') (v ++ v') := by
 induction a generalizing v with
 | nil => rw [h.nil_inv]; simpa using h'
 | cons x a ih =>
  obtain ⟨y,r,rfl,hx,hr⟩ := h.cons_inv
  exact RelL.cons hx (ih hr)
theorem RelL.get {K : Kn} {as : List AV} {vs : List Value} (h : RelL K as vs) {i : Nat} {a : AV} (ha : as[i]? = some a) : ∃ v,vs[i]? = some v ∧ Rel K a v := by
 have hi : i < as.length := (List.getElem?_eq_some_iff.1 ha).1
 have hi' : i < vs.length := by rw [← h.1]; exact hi
 exact ⟨vs[i],List.getElem?_eq_getElem hi',h.2 i a _ ha (List.getElem?_eq_getElem hi')⟩
theorem RelL.drop {K : Kn} {as : List AV} {vs : List Value} (h : RelL K as vs) (n : Nat) : RelL K (as.drop n) (vs.drop n) :=
 ⟨by simp [h.1],fun i c v hc hv => h.2 (n + i) c v (by simpa using hc) (by simpa using hv)⟩
theorem RelL.take {K : Kn} {as : List AV} {vs : List Value} (h : RelL K as vs) (n : Nat) : RelL K (as.take n) (vs.take n) := by
 refine ⟨by simp [h.1],fun i c v hc hv => ?_⟩
 rw [List.getElem?_take] at hc hv
 split at hc
 ·rename_i hlt
  rw [if_pos hlt] at hv
  exact h.2 i c v hc hv
 ·cases hc
theorem RelL.set {K : Kn} {as : List AV} {vs : List Value} (h : RelL K as vs) (n : Nat) {a : AV} {v : Value} (ha : Rel K a v) : RelL K (as.set n a) (vs.set n v) := by
 refine ⟨by simp [h.1],fun i c x hc hx => ?_⟩
 rw [List.getElem?_set] at hc hx
 by_cases hin : n = i
 ·subst hin
  simp only [if_true] at hc hx
  split at hc
  ·split at hx
   ·cases hc; cases hx; exact ha
   ·cases hx
  ·cases hc
 ·rw [if_neg hin] at hc hx
  exact h.2 i c x hc hx
theorem Rel.cellsL {K : Kn} {a : AV} {v : Value} (h : Rel K a v) (ha : a.one = true ∨ ∃ cs,a = .agg cs) : RelL K a.cells v.cells.toList := by
 rcases ha with ha | ⟨cs,rfl⟩
 ·have h1 : a.cells = [a] := by cases a <;> simp_all [AV.one,AV.cells]
  have h2 : v.cells.toList = [v] := by cases h <;> simp_all [AV.one,Value.cells]
  rw [h1,h2]; exact RelL.cons h RelL.nil
 ·cases h with
  | agg h1 hl h => exact ⟨by simpa [AV.cells,Value.cells] using hl,fun i c v hc hv => h i c v (by simpa [AV.cells] using hc) (by simpa [Value.cells] using hv)⟩
theorem Rel.one {K : Kn} {a : AV} {v : Value} (h : Rel K a v) (ha : a.one = true) : v.oneCell' = true ∧ v.cells = #[v] := by
 cases h <;> simp_all [AV.one,Value.oneCell',Value.cells]
inductive En where
 | cells (b : Nat) (cs : List AV)
 | grow (t : Tk)
 | map (b : Nat) (kvs : List (AV × AV))
 | obj (b : Nat) (o : Obj)
 | loop (b : Nat) (f : Nat → AV) (r : Loop)
 | glob (g : Nat) (cs : List AV)
 | ty (b : Nat) (t : TypeId)
 | sen (b : Nat)
def En.blk : En → Option Nat
 | .cells b _ => some b
 | .grow (.own b _ _) => some b
 | .grow _ => none
 | .map b _ => some b
 | .obj b _ => some b
 | .loop b _ _ => some b
 | .glob _ _ => none
 | .ty _ _ => none
 | .sen _ => none
def isCells : Obj → Bool
 | .cells .. => true
 | _ => false
def hold (n b : Nat) (cs : List AV) (R : List En) : List En := if n = 0 then R else .cells b cs :: R
def EnOk (B : Nat) (K : Kn) (w : World) : En → Prop
 | .cells b cs => B ≤ b ∧ K b = [] ∧ (∀ c ∈ cs,c.one = true) ∧ ∃ vs T,w.heap[b]? = some (.cells vs T (0,0)) ∧ RelL K cs vs.toList
 | .grow .no => False
 | .grow .full => True
 | .grow (.own b e tot) => B ≤ b ∧ (K b).length = e ∧ e ≤ tot ∧ ∃ c T,w.heap[b]? = some (.cells c T (0,0)) ∧ c.size = tot
 | .map b kvs => B ≤ b ∧ K b = [] ∧ ∃ es clk,w.heap[b]? = some (.map es clk) ∧ clk = kvs.length ∧ RelL K (kvs.map (·.1)) (es.toList.map (·.key)) ∧
   (∀ (i : Nat) (kv : AV × AV) (e : MapEntry),kvs[i]? = some kv → es.toList[i]? = some e → Rel K kv.2 e.val ∧ e.born = i)
 | .obj b o => B ≤ b ∧ K b = [] ∧ w.heap[b]? = some o ∧ isCells o = false
 | .loop b f r => B ≤ b ∧ K b = [] ∧ w.heap[b]? = some (.loop r) ∧ ∀ i,Rel K (f i) (r.tmps.getD i undef)
 | .glob g cs => g < B ∧ (∀ c ∈ cs,c.one = true) ∧ ∃ vs t fr,w.heap[g]? = some (.cells vs t fr) ∧ RelL K cs vs.toList ∧ ∀ (i : Nat) (v : Value),vs.toList[i]? = some v → (K g)[i]? = some v
 | .ty b t => ∃ c fr,w.heap[b]? = some (.cells c t fr)
 | .sen b => b < B ∧ ∃ c t,w.heap[b]? = some (.cells c t (0,0))
structure RelS (w0 : World) (K : Kn) (S : List En) (w : World) : Prop where
 below : Below w0.heap.size w0 w
 kcell : ∀ (b i : Nat) (v : Value),(K b)[i]? = some v → w.cell? ⟨b,i,none⟩ = some v
 ents : ∀ e ∈ S,EnOk w0.heap.size K w e
 apart : (S.filterMap En.blk).Nodup
theorem EnOk.lt {B : Nat} {K : Kn} {w : World} {e : En} {b : Nat} (h : EnOk B K w e) (hb : e.blk = some b) : B ≤ b ∧ b < w.heap.size := by
 cases e with
 | cells b' cs =>
  simp [En.blk] at hb; subst hb
  obtain ⟨h1,_,_,vs,T,h2,_⟩ := h
  exact ⟨h1,(Array.getElem?_eq_some_iff.1 h2).1⟩
 | grow t =>
  cases t with
  | no => exact h.elim
  | full => simp [En.blk] at hb
  | own b' e tot =>
   simp [En.blk] at hb; subst hb
   obtain ⟨h1,_,_,vs,T,h2,_⟩ := h
   exact ⟨h1,(Array.getElem?_eq_some_iff.1 h2).1⟩
 | map b' kvs =>
  simp [En.blk] at hb; subst hb
  obtain ⟨h1,_,vs,T,h2,_⟩ := h
  exact ⟨h1,(Array.getElem?_eq_some_iff.1 h2).1⟩
 | obj b' o =>
  simp [En.blk] at hb; subst hb
  obtain ⟨h1,_,h2,_⟩ := h
  exact ⟨h1,(Array.getElem?_eq_some_iff.1 h2).1⟩
 | loop b' f r =>
  simp [En.blk] at hb; subst hb
  obtain ⟨h1,_,h2,_⟩ := h
  exact ⟨h1,(Array.getElem?_eq_some_iff.1 h2).1⟩
 | glob g cs => simp [En.blk] at hb
 | ty g t => simp [En.blk] at hb
 | sen b => simp [En.blk] at hb
def TyKept (w w' : World) : Prop := ∀ (b : Nat) (c : Array Value) (t : TypeId) (fr : Nat × Nat),w.heap[b]? = some (.cells c t fr) → ∃ c' fr',w'.heap[b]? = some (.cells c' t fr')
theorem TyKept.refl (w : World) : TyKept w w := fun _ c _ fr h => ⟨c,fr,h⟩
theorem TyKept.alloc {w : World} (o : Obj) : TyKept w (w.alloc o) := fun b c t fr h => ⟨c,fr,(Below.heap_alloc _ _ _ (Array.getElem?_eq_some_iff.1 h).1).trans h⟩
theorem EnOk.keep {B : Nat} {K K' : Kn} {w w' : World} {e : En} (hlow : ∀ g,g < B → w'.heap[g]? = w.heap[g]?) (hty : TyKept w w') (hK : Kle K K') (hb : ∀ b,e.blk = some b → w'.heap[b]? = w.heap[b]? ∧ K' b = K b) (h : EnOk B K w e) : EnOk B K' w' e := by
 cases e with
 | cells b cs =>
  obtain ⟨h1,h2,ho,vs,T,h3,h4⟩ := h
  obtain ⟨e1,e2⟩ := hb b rfl
  exact ⟨h1,e2.trans h2,ho,vs,T,e1.trans h3,h4.mono hK⟩
 | grow t =>
  cases t with
  | no => exact h
  | full => exact h
  | own b e tot =>
   obtain ⟨h1,h2,h3,c,T,h4,h5⟩ := h
   obtain ⟨e1,e2⟩ := hb b rfl
   exact ⟨h1,by rw [e2]; exact h2,h3,c,T,e1.trans h4,h5⟩
 | map b kvs =>
  obtain ⟨h1,h2,es,clk,h3,hc,h4,h5⟩ := h
  obtain ⟨e1,e2⟩ := hb b rfl
  exact ⟨h1,e2.trans h2,es,clk,e1.trans h3,hc,h4.mono hK,fun i kv e x y => ⟨((h5 i kv e x y).1).mono hK,(h5 i kv e x y).2⟩⟩
 | obj b o =>
  obtain ⟨h1,h2,h3,h4⟩ := h
  obtain ⟨e1,e2⟩ := hb b rfl
  exact ⟨h1,e2.trans h2,e1.trans h3,h4⟩
 | loop b f r =>
  obtain ⟨h1,h2,h3,h4⟩ := h
  obtain ⟨e1,e2⟩ := hb b rfl
  exact ⟨h1,e2.trans h2,e1.trans h3,fun i => (h4 i).mono hK⟩
 | glob g cs =>
  obtain ⟨h0,h1,vs,t,fr,h4,h2,h3⟩ := h
  exact ⟨h0,h1,vs,t,fr,(hlow g h0).trans h4,h2.mono hK,fun i v hv => hK _ _ _ (h3 i v hv)⟩
 | ty b t =>
  obtain ⟨c,fr,h⟩ := h
  exact hty b c t fr h
 | sen b =>
  obtain ⟨h0,c,t,h⟩ := h
  exact ⟨h0,c,t,(hlow b h0).trans h⟩
theorem RelS.klt {w0 w : World} {K : Kn} {S : List En} (h : RelS w0 K S w) {b : Nat} (hb : w.heap.size ≤ b) : K b = [] := by
 cases hk : K b with
 | nil => rfl
 | cons v r =>
  have := h.kcell b 0 v (by rw [hk]; rfl)
  have := World.block_lt_of_cell? _ _ this
  simp at this; omega
theorem RelS.sub {w0 w : World} {K : Kn} {S S' : List En} (h : RelS w0 K S w) (hs : S'.Sublist S) : RelS w0 K S' w :=
 ⟨h.below,h.kcell,fun e he => h.ents e (hs.subset he),h.apart.sublist (hs.filterMap _)⟩
theorem RelS.perm {w0 w : World} {K : Kn} {S S' : List En} (h : RelS w0 K S w) (hs : S'.Perm S) : RelS w0 K S' w :=
 ⟨h.below,h.kcell,fun e he => h.ents e (hs.mem_iff.1 he),((hs.filterMap _).nodup_iff).2 h.apart⟩
theorem RelS.tail {w0 w : World} {K : Kn} {S : List En} {e : En} (h : RelS w0 K (e :: S) w) : RelS w0 K S w := h.sub (List.sublist_cons_self _ _)
theorem RelS.addFull {w0 w : World} {K : Kn} {S : List En} (h : RelS w0 K S w) : RelS w0 K (.grow .full :: S) w :=
 ⟨h.below,h.kcell,fun e he => by rcases List.mem_cons.1 he with rfl | he; exact trivial; exact h.ents e he,by rw [List.filterMap_cons]; exact h.apart⟩
theorem RelS.drew {w0 w : World} {K : Kn} {S : List En} (h : RelS w0 K S w) : RelS w0 K S w.drew :=
 ⟨h.below.drew,h.kcell,fun e he => (h.ents e he).keep (fun _ _ => rfl) (TyKept.refl _) (Kle.refl K) (fun _ _ => ⟨rfl,rfl⟩),h.apart⟩
def Kn.put (K : Kn) (b : Nat) (l : List Value) : Kn := fun c => if c = b then l else K c
theorem Kn.put_same (K : Kn) (b : Nat) (l : List Value) : K.put b l b = l := by simp [Kn.put]
theorem Kn.put_other (K : Kn) {b c : Nat} (l : List Value) (h : c ≠ b) : K.put b l c = K c := by simp [Kn.put,h]
theorem Kn.put_le {K : Kn} {b : Nat} {l : List Value} (h : ∀ (i : Nat) (v : Value),(K b)[i]? = some v → l[i]? = some v) : Kle K (K.put b l) := by
 intro c i v hv
 by_cases hc : c = b
 ·subst hc; rw [Kn.put_same]; exact h i v hv
 ·rw [Kn.put_other _ _ hc]; exact hv
theorem RelS.allocKnown {w0 w : World} {K : Kn} {S : List En} (h : RelS w0 K S w) (vs : Array Value) (T : TypeId) (l : List Value) (hl : ∀ (i : Nat) (v : Value),l[i]? = some v → vs[i]? = some v) :
  Kle K (K.put w.heap.size l) ∧ RelS w0 (K.put w.heap.size l) S (w.alloc (.cells vs T)) := by
 have hk0 := h.klt (Nat.le_refl _)
 have hle : Kle K (K.put w.heap.size l) := Kn.put_le (by rw [hk0]; intro i v hv; simp at hv)
 refine ⟨hle,h.below.alloc h.below.size _,?_,?_,h.apart⟩
 ·intro b i v hv
  by_cases hb : b = w.heap.size
  ·subst hb
   rw [Kn.put_same] at hv
   rw [World.cell?_alloc_at vs T _ i rfl]
   exact hl i v hv
  ·rw [Kn.put_other _ _ hb] at hv
   have := h.kcell b i v hv
   rw [World.cell?_alloc_lt _ _ _ (World.block_lt_of_cell? _ _ this)]
   exact this
 ·intro e he
  refine (h.ents e he).keep (fun g hg => Below.heap_alloc _ _ _ (Nat.lt_of_lt_of_le hg h.below.size)) (TyKept.alloc _) hle (fun b hb => ?_)
  have hlt := ((h.ents e he).lt hb).2
  exact ⟨Below.heap_alloc _ _ _ hlt,Kn.put_other _ _ (by omega)⟩
theorem RelS.allocObj {w0 w : World} {K : Kn} {S : List En} (h : RelS w0 K S w) (o : Obj) : RelS w0 K S (w.alloc o) := by
 refine ⟨h.below.alloc h.below.size _,?_,?_,h.apart⟩
 ·intro b i v hv
  have := h.kcell b i v hv
  rw [World.cell?_alloc_lt _ _ _ (World.block_lt_of_cell? _ _ this)]
  exact this
 ·intro e he
  refine (h.ents e he).keep (fun g hg => Below.heap_alloc _ _ _ (Nat.lt_of_lt_of_le hg h.below.size)) (TyKept.alloc _) (Kle.refl K) (fun b hb => ?_)
  exact ⟨Below.heap_alloc _ _ _ ((h.ents e he).lt hb).2,rfl⟩
theorem RelS.fresh {w0 w : World} {K : Kn} {S : List En} (h : RelS w0 K S w) : w.heap.size ∉ S.filterMap En.blk := by
 intro hm
 obtain ⟨e,he,hb⟩ := List.mem_filterMap.1 hm
 have := ((h.ents e he).lt hb).2
 omega
theorem RelS.consNew {w0 w : World} {K K' : Kn} {S : List En} {w' : World} {e : En} (h : RelS w0 K S w) (h' : RelS w0 K' S w') (hb : ∀ b,e.blk = some b → b = w.heap.size) (he : EnOk w0.heap.size K' w' e) :
  RelS w0 K' (e :: S) w' := by
 refine ⟨h'.below,h'.kcell,fun x hx => ?_,?_⟩
 ·rcases List.mem_cons.1 hx with rfl | hx
  ·exact he
  ·exact h'.ents x hx
 ·cases hbe : e.blk with
  | none => simpa [hbe] using h'.apart
  | some b =>
   have hbb := hb b hbe
   subst hbb
   rw [List.filterMap_cons,hbe]
   exact List.nodup_cons.2 ⟨h.fresh,h'.apart⟩
theorem heap_alloc_new (w : World) (o : Obj) : (w.alloc o).heap[w.heap.size]? = some o := by
 show (w.heap.push o)[w.heap.size]? = _
 simp
theorem RelS.allocCells {w0 w : World} {K : Kn} {S : List En} (h : RelS w0 K S w) {cs : List AV} {vs : Array Value} (T : TypeId) (h1 : ∀ c ∈ cs,c.one = true) (hr : RelL K cs vs.toList) :
  RelS w0 K (.cells w.heap.size cs :: S) (w.alloc (.cells vs T)) :=
 h.consNew (h.allocObj _) (fun b hb => by simpa [En.blk] using hb.symm) ⟨h.below.size,h.klt (Nat.le_refl _),h1,vs,T,heap_alloc_new _ _,hr⟩
theorem RelS.turn {w0 w w' : World} {K K' : Kn} {S : List En} {p : Nat} {e e' : En} {b : Nat} (h : RelS w0 K S w) (hp : S[p]? = some e) (hb : e.blk = some b)
  (hK : Kle K K') (hKo : ∀ c,c ≠ b → K' c = K c) (hw : ∀ c,c ≠ b → w'.heap[c]? = w.heap[c]?) (hsz : w.heap.size ≤ w'.heap.size) (hos : w'.os = w.os) (htape : w'.tape = w.tape) (hout : w'.output = w.output)
  (hkc : ∀ (i : Nat) (v : Value),(K' b)[i]? = some v → w'.cell? ⟨b,i,none⟩ = some v) (hty : ∀ (c : Array Value) (t : TypeId) (fr : Nat × Nat),w.heap[b]? = some (.cells c t fr) → ∃ c' fr',w'.heap[b]? = some (.cells c' t fr')) (hb' : e'.blk = some b ∨ e'.blk = none) (he' : EnOk w0.heap.size K' w' e') : RelS w0 K' (S.set p e') w' := by
 have hpl : p < S.length := (List.getElem?_eq_some_iff.1 hp).1
 have hmem : e ∈ S := List.mem_of_getElem? hp
 have hB := (h.ents e hmem).lt hb
 have hnd := h.apart
 have htyk : TyKept w w' := fun c cs t fr hc => by
  by_cases hcb : c = b
  ·subst hcb; exact hty cs t fr hc
  ·exact ⟨cs,fr,(hw c hcb).trans hc⟩
 -- no other entry has this block
 have hother : ∀ (q : Nat) (x : En),S[q]? = some x → q ≠ p → x.blk ≠ some b := by
  intro q x hq hqp hx
  have key : ∀ (L : List En) (i j : Nat) (x y : En),(L.filterMap En.blk).Nodup → L[i]? = some x → L[j]? = some y → i ≠ j → x.blk = some b → y.blk = some b → False := by
   intro L
   induction L with
   | nil => intro i j x y _ hi; simp at hi
   | cons z L ih =>
    intro i j x y hn hi hj hij hx hy
    cases i with
    | zero =>
     cases j with
     | zero => exact hij rfl
     | succ j =>
      simp at hi hj
      subst hi
      rw [List.filterMap_cons,hx] at hn
      exact (List.nodup_cons.1 hn).1 (List.mem_filterMap.2 ⟨y,List.mem_of_getElem? hj,hy⟩)
    | succ i =>
     cases j with
     | zero =>
      simp at hi hj
      subst hj
      rw [List.filterMap_cons,hy] at hn
      exact (List.nodup_cons.1 hn).1 (List.mem_filterMap.2 ⟨x,List.mem_of_getElem? hi,hx⟩)
     | succ j =>
      refine ih i j x y ?_ (by simpa using hi) (by simpa using hj) (by omega) hx hy
      rw [List.filterMap_cons] at hn
      split at hn
      ·exact hn
      ·exact (List.nodup_cons.1 hn).2
  exact key S q p x e hnd hq hp hqp hx hb
 refine ⟨⟨hos.trans h.below.os,htape.trans h.below.tape,hout.trans h.below.output,Nat.le_trans h.below.size hsz,fun k hk => ?_⟩,?_,?_,?_⟩
 ·exact (hw k (by omega)).trans (h.below.block k hk)
 ·intro c i v hv
  by_cases hc : c = b
  ·subst hc; exact hkc i v hv
  ·rw [hKo c hc] at hv
   have := h.kcell c i v hv
   rw [World.cell?_of_block (w := w) (a := ⟨c,i,none⟩) (hw c hc)]
   exact this
 ·intro x hx
  obtain ⟨q,hq,hxq⟩ := List.mem_iff_getElem.1 hx
  have hxq' : (S.set p e')[q]? = some x := by rw [List.getElem?_eq_getElem hq,hxq]
  by_cases hqp : q = p
  ·subst hqp
   rw [List.getElem?_set_self (by simpa using hq)] at hxq'
   cases hxq'; exact he'
  ·rw [List.getElem?_set_ne (Ne.symm hqp)] at hxq'
   refine (h.ents x (List.mem_of_getElem? hxq')).keep (fun g hg => hw g (by omega)) htyk hK (fun c hc => ?_)
   have hcb : c ≠ b := fun hcb => hother q x hxq' hqp (by rw [hc,hcb])
   exact ⟨hw c hcb,hKo c hcb⟩
 · -- the blocks stay apart
  have key : ∀ (L : List En) (p : Nat),(L.filterMap En.blk).Nodup → L[p]? = some e → ((L.set p e').filterMap En.blk).Nodup ∧ ∀ z,z ∈ (L.set p e').filterMap En.blk → z ∈ L.filterMap En.blk := by
   intro L
   induction L with
   | nil => intro p _ hp; simp at hp
   | cons z L ih =>
    intro p hn hp
    cases p with
    | zero =>
     simp at hp
     subst hp
     rw [List.filterMap_cons,hb] at hn
     simp only [List.set_cons_zero]
     rcases hb' with hb' | hb'
     ·simp only [List.filterMap_cons,hb',hb]; exact ⟨hn,fun z h => h⟩
     ·simp only [List.filterMap_cons,hb',hb]; exact ⟨(List.nodup_cons.1 hn).2,fun z h => List.mem_cons_of_mem _ h⟩
    | succ p =>
     simp only [List.set_cons_succ]
     cases hz : z.blk with
     | none =>
      simp only [List.filterMap_cons,hz] at hn ⊢
      exact ih p hn (by simpa using hp)
     | some c =>
      simp only [List.filterMap_cons,hz] at hn ⊢
      obtain ⟨i1,i2⟩ := ih p (List.nodup_cons.1 hn).2 (by simpa using hp)
      refine ⟨List.nodup_cons.2 ⟨fun hm => (List.nodup_cons.1 hn).1 (i2 c hm),i1⟩,fun x hx => ?_⟩
      rcases List.mem_cons.1 hx with rfl | hx
      ·exact List.mem_cons_self
      ·exact List.mem_cons_of_mem _ (i2 x hx)
  exact (key S p hnd hp).1
end Go.Aw
namespace Go.Aw
open Go.RowKit
theorem natBeq_ne {i j : Nat} (h : ¬ i = j) : Nat.beq i j = false := by
 cases hb : Nat.beq i j with
 | false => rfl
 | true => exact absurd (Nat.eq_of_beq_eq_true hb) h
def lk : List (Nat × AV) → Nat → AV
 | [],_ => .junk
 | (j,v) :: r,i => bif Nat.beq j i then v else lk r i
structure Env where
 l : List (Nat × AV)
 m : List Nat := []
def Env.put (E : Env) (d : Option Nat) (v : AV) : Env :=
 match d with
 | some i => { E with l := (i,v) :: E.l }
 | none => E
def AV.ofV1 : Value → AV
 | .bool b => .bool b
 | .int k n => .int k n
 | .string s => .str s.data.toList
 | .slice none 0 0 => .sl 0 [] .full
 | .pointer none => .nilp
 | .nilFunc => .nilf
 | .nilIface => .nilif
 | .map none => .nilmap
 | _ => .junk
def constOk : Value → Bool
 | .int k n => decide (k.min ≤ n ∧ n ≤ k.max)
 | .string s => decide (s.size ≤ maxLen)
 | _ => true
def opdOk : Operand → Bool
 | .const v => constOk v
 | _ => true
theorem rel_ofV1 {K : Kn} (v : Value) (h : constOk v = true) : Rel K (AV.ofV1 v) v := by
 unfold AV.ofV1
 split
 ·exact .bool _
 ·exact .int _ _ (by simpa [constOk,IntKind.has] using h)
 ·rename_i s
  have h' : s.size ≤ maxLen := of_decide_eq_true h
  have : s = ⟨s.data.toList.toArray⟩ := by cases s; simp
  exact this ▸ .str _ (by rw [Array.length_toList]; exact h')
 ·exact .slnil _ _ _ trivial
 ·exact .nilp
 ·exact .nilf
 ·exact .nilif
 ·exact .nilmap
 ·exact .junk _
def AV.ofV (v : Value) : AV := match v with
 | .agg vs => bif vs.toList.all (fun c => constOk c && (AV.ofV1 c).one) then .agg (vs.toList.map AV.ofV1) else .junk
 | v => AV.ofV1 v
theorem rel_ofV {K : Kn} (v : Value) (h : constOk v = true) : Rel K (AV.ofV v) v := by
 unfold AV.ofV
 split
 ·rename_i vs
  cases ha : vs.toList.all (fun c => constOk c && (AV.ofV1 c).one) with
  | false => exact .junk _
  | true =>
   have hall : ∀ c ∈ vs.toList,constOk c = true ∧ (AV.ofV1 c).one = true := fun c hc => by
    have := List.all_eq_true.1 ha c hc
    simpa using this
   have hv : vs = vs.toList.toArray := by simp
   rw [hv]
   refine Rel.agg (fun c hc => ?_) (by simp) (fun i c v h1 h2 => ?_)
   ·obtain ⟨x,hx,rfl⟩ := List.mem_map.1 hc
    exact (hall x (by simpa using hx)).2
   ·rw [List.getElem?_map] at h1
    rw [h2] at h1
    cases h1
    exact rel_ofV1 v (hall v (List.mem_of_getElem? h2)).1
 ·exact rel_ofV1 _ h
theorem ofV_of1 {v : Value} {a : AV} (h : AV.ofV v = a) (ha : a.one = true) : AV.ofV1 v = a := by
 unfold AV.ofV at h
 split at h
 ·rename_i vs
  revert h
  cases vs.toList.all (fun c => constOk c && (AV.ofV1 c).one) with
  | false => rintro rfl; cases ha
  | true => rintro rfl; cases ha
 ·exact h
def ev (E : Env) : Operand → AV
 | .tmp t => lk E.l t
 | .const v => .ofV v
 | .global g => .gl g
 | .func f => .fn (.func f) [] []
def markOf (d : Nat) : Deferred := { target := .collected d,args := #[] }
structure RelE (N : Nat) (K : Kn) (E : Env) (a : Act) : Prop where
 size : a.tmps.size = N
 slot : ∀ i,Rel K (lk E.l i) (a.tmps.getD i undef)
 defers : a.defers = E.m.map markOf
theorem RelE.mono {N : Nat} {K K' : Kn} {E : Env} {a : Act} (hK : Kle K K') (h : RelE N K E a) : RelE N K' E a :=
 ⟨h.size,fun i => (h.slot i).mono hK,h.defers⟩
theorem RelE.ev {N : Nat} {K : Kn} {E : Env} {a : Act} (h : RelE N K E a) (x : Operand) (hx : opdOk x = true) : Rel K (ev E x) (a.eval x) := by
 cases x with
 | tmp t => exact h.slot t
 | const v => exact rel_ofV v hx
 | global g => exact .gl g
 | func f => exact .fn (first := []) (cap := []) (vs := []) (us := []) (.func f) rfl (fun i c v hc _ => by simp at hc) rfl (fun i c v hc _ => by simp at hc)
theorem RelE.put {N : Nat} {K : Kn} {E : Env} {a : Act} {v : Value} {av : AV} (h : RelE N K E a) (d : Option Nat) (hd : ∀ i,d = some i → i < N) (hv : Rel K av v) : RelE N K (E.put d av) (a.put d v) := by
 cases d with
 | none => exact h
 | some i =>
  have hi : i < N := hd i rfl
  refine ⟨by simp [Act.put,h.size],fun j => ?_,h.defers⟩
  simp only [Env.put,Act.put,lk]
  by_cases hij : i = j
  ·subst hij
   have : Nat.beq i i = true := Nat.beq_refl i
   rw [this]
   simp only [cond_true]
   have hs : i < a.tmps.size := by rw [h.size]; exact hi
   simpa [Array.getD_eq_getD_getElem?,hs] using hv
  ·have : Nat.beq i j = false := natBeq_ne hij
   rw [this]
   simp only [cond_false]
   have := h.slot j
   simpa [Array.getD_eq_getD_getElem?,Array.getElem?_setIfInBounds_ne (Ne.intro hij)] using this
inductive TD where
 | int (k : IntKind) | bool | str
 | slice (e : TypeId)
 | struct (fs : List (Nat × TypeId))
 | array (n : Nat) (e : TypeId)
 | ptr (e : TypeId)
 | iface
 | map (k e : TypeId)
 | func
 | uptr
 | other
structure TI where
 d : TD
 sz : Nat
 by_ : Nat
 zero : List AV
def TD.agg : TD → Bool
 | .struct _ | .array _ _ => true
 | _ => false
def DOk (P : Program) (t : TypeId) : TD → Prop
 | .int k => P.underlying t = some (.int k)
 | .bool => P.underlying t = some .bool
 | .str => P.underlying t = some .string
 | .slice e => P.underlying t = some (.slice e)
 | .struct fs => ∃ fields,P.underlying t = some (.struct fields) ∧ fields.toList.map (fun f => (f.offset,f.type)) = fs
 | .array n e => P.underlying t = some (.array n e)
 | .ptr e => P.underlying t = some (.pointer e)
 | .iface => ∃ ms,P.underlying t = some (.interface ms)
 | .map k e => P.underlying t = some (.map k e)
 | .func => ∃ a b c,P.underlying t = some (.func a b c)
 | .uptr => P.underlying t = some .unsafePointer
 | .other => True
structure TOk (P : Program) (t : TypeId) (i : TI) : Prop where
 info : (P.info? t).map (fun x => (x.size,x.bytes,x.zero.map fun z => z.cells.toList.map AV.ofV,x.zero.map fun z => z.cells.toList.all fun v => constOk v && (AV.ofV v).one)) = some (i.sz,i.by_,some i.zero,some true)
 len : i.zero.length = i.sz
 d : DOk P t i.d
def AllOk (P : Program) : List (TypeId × TI) → Prop
 | [] => True
 | p :: r => TOk P p.1 p.2 ∧ AllOk P r
def lkT : List (TypeId × TI) → TypeId → TI
 | [],_ => ⟨.other,0,0, []⟩
 | (j,i) :: r,t => bif Nat.beq j t then i else lkT r t
theorem lkT_ok {P : Program} {τ : List (TypeId × TI)} (h : AllOk P τ) (t : TypeId) (ho : (lkT τ t).d ≠ .other) : TOk P t (lkT τ t) := by
 induction τ with
 | nil => exact absurd rfl ho
 | cons p r ih =>
  obtain ⟨j,i⟩ := p
  simp only [lkT] at ho ⊢
  by_cases hj : j = t
  ·subst hj
   have : Nat.beq j j = true := Nat.beq_refl j
   rw [this] at ho ⊢
   exact h.1
  ·have : Nat.beq j t = false := natBeq_ne hj
   rw [this] at ho ⊢
   exact ih h.2 ho
theorem TOk.get {P : Program} {t : TypeId} {i : TI} (h : TOk P t i) : ∃ x z,P.info? t = some x ∧ x.size = i.sz ∧ x.bytes = i.by_ ∧ x.zero = some z ∧
  (∀ K,RelL K i.zero z.cells.toList) ∧ (∀ c ∈ i.zero,c.one = true) := by
 have hi := h.info
 cases hx : P.info? t with
 | none => rw [hx] at hi; cases hi
 | some x =>
  rw [hx] at hi
  simp only [Option.map_some,Option.some.injEq,Prod.mk.injEq] at hi
  obtain ⟨h1,h2,h3,h4⟩ := hi
  cases hz : x.zero with
  | none => rw [hz] at h3; cases h3
  | some z =>
   rw [hz] at h3 h4
   simp only [Option.map_some,Option.some.injEq] at h3 h4
   refine ⟨x,z,rfl,h1,h2,hz,fun K => ?_,?_⟩
   ·rw [← h3]
    clear h3
    generalize z.cells.toList = l at h4
    induction l with
    | nil => exact RelL.nil
    | cons v l ih =>
     simp only [List.all_cons,Bool.and_eq_true] at h4
     exact RelL.cons (rel_ofV v h4.1.1) (ih h4.2)
   ·rw [← h3]
    intro c hc
    obtain ⟨v,hv,rfl⟩ := List.mem_map.1 hc
    have := List.all_eq_true.1 h4 v hv
    simp only [Bool.and_eq_true] at this
    exact this.2
theorem TOk.cellsOf {P : Program} {t : TypeId} {i : TI} (h : TOk P t i) : P.cellsOf t = i.sz := by
 obtain ⟨x,z,hx,hs,_⟩ := h.get
 simp [Program.cellsOf,hx,hs]
theorem TOk.sizeOf {P : Program} {t : TypeId} {i : TI} (h : TOk P t i) (w : World) : (sizeOf t).run P w = .ok i.sz w := by
 obtain ⟨x,z,hx,hs,_⟩ := h.get
 simp [Go.sizeOf,typeInfo,hx,hs]
theorem TOk.isAgg {P : Program} {t : TypeId} {i : TI} (h : TOk P t i) (ho : i.d ≠ .other) (w : World) : (isAgg t).run P w = .ok i.d.agg w := by
 have hd := h.d
 unfold Go.isAgg
 cases hi : i.d <;> rw [hi] at hd <;> simp only [DOk] at hd
 case other => exact absurd hi ho
 all_goals first
  | (simp [run_underlying hd,TD.agg]; done)
  | (obtain ⟨f,hd,_⟩ := hd; simp [run_underlying hd,TD.agg]; done)
  | (obtain ⟨f,hd⟩ := hd; simp [run_underlying hd,TD.agg]; done)
  | (obtain ⟨f,g,h,hd⟩ := hd; simp [run_underlying hd,TD.agg]; done)
def ROk (P : Program) (w0 : World) (K : Kn) (k : AV → List En → Prop) : Result Next → Prop
 | .ok (.value v) w' => ∃ K' av S',Kle K K' ∧ Rel K' av v ∧ RelS w0 K' S' w' ∧ k av S'
 | .ok .skip w' => ∃ K' S',Kle K K' ∧ RelS w0 K' S' w' ∧ k .junk S'
 | .ok (.enter f args) w' => CallsIn Fence.wide 0 P f args w' fun e w'' => ∃ v K' av S',e = .returned v ∧ Kle K K' ∧ Rel K' av v ∧ RelS w0 K' S' w'' ∧ k av S'
 | .ok (.round l f tmps assign body) w' => RoundIn Fence.wide 0 P l f tmps assign body w' fun e w'' => ∃ v K' av S',e = .returned v ∧ Kle K K' ∧ Rel K' av v ∧ RelS w0 K' S' w'' ∧ k av S'
 | _ => False
def ACall (P : Program) (f : FuncId) (args : List AV) (S : List En) (k : AV → List En → Prop) : Prop :=
 ∀ w0 K w vs,RelL K args vs → RelS w0 K S w → CallsIn Fence.wide 0 P f vs.toArray w fun e w' => ∃ v K' av S',e = .returned v ∧ Kle K K' ∧ Rel K' av v ∧ RelS w0 K' S' w' ∧ k av S'
def AYield (P : Program) (l : Nat) (args : List AV) (S : List En) (k : AV → List En → Prop) : Prop :=
 ∀ w0 K w vs,RelL K args vs → RelS w0 K S w → ∃ fn tmps assign body,(Instr.yield l vs.toArray).run P w = .ok (.round l fn tmps assign body) w ∧
  RoundIn Fence.wide 0 P l fn tmps assign body w fun e w' => ∃ v K' av S',e = .returned v ∧ Kle K K' ∧ Rel K' av v ∧ RelS w0 K' S' w' ∧ k av S'
theorem ROk.mono {P : Program} {w0 : World} {K : Kn} {k k' : AV → List En → Prop} (h : ∀ v S,k v S → k' v S) {r : Result Next} (hr : ROk P w0 K k r) : ROk P w0 K k' r := by
 cases r with
 | halt x w => cases x <;> exact hr
 | ok x w =>
  cases x <;> simp only [ROk] at hr ⊢
  case value v => obtain ⟨K',av,S',a,b,c,d⟩ := hr; exact ⟨K',av,S',a,b,c,h _ _ d⟩
  case skip => obtain ⟨K',S',a,c,d⟩ := hr; exact ⟨K',S',a,c,h _ _ d⟩
  case enter f args => exact hr.mono fun e w' ⟨v,K',av,S',a,b,c,d,e'⟩ => ⟨v,K',av,S',a,b,c,d,h _ _ e'⟩
  case round => exact hr.mono fun e w' ⟨v,K',av,S',a,b,c,d,e'⟩ => ⟨v,K',av,S',a,b,c,d,h _ _ e'⟩
theorem ACall.mono {P : Program} {f : FuncId} {args : List AV} {S : List En} {k k' : AV → List En → Prop} (h : ∀ v S,k v S → k' v S) (hc : ACall P f args S k) : ACall P f args S k' :=
 fun w0 K w vs hv hs => (hc w0 K w vs hv hs).mono fun e w' ⟨v,K',av,S',a,b,c,d,e'⟩ => ⟨v,K',av,S',a,b,c,d,h _ _ e'⟩
theorem AYield.mono {P : Program} {f : Nat} {args : List AV} {S : List En} {k k' : AV → List En → Prop} (h : ∀ v S,k v S → k' v S) (hc : AYield P f args S k) : AYield P f args S k' :=
 fun w0 K w vs hv hs => let ⟨fn,tmps,assign,body,h1,h2⟩ := hc w0 K w vs hv hs; ⟨fn,tmps,assign,body,h1,h2.mono fun e w' ⟨v,K',av,S',a,b,c,d,e'⟩ => ⟨v,K',av,S',a,b,c,d,h _ _ e'⟩⟩
theorem ROk.val {P : Program} {w0 w : World} {K : Kn} {S : List En} {k : AV → List En → Prop} {av : AV} {v : Value} (hs : RelS w0 K S w) (hv : Rel K av v) (h : k av S) : ROk P w0 K k (.ok (.value v) w) :=
 ⟨K,av,S,Kle.refl K,hv,hs,h⟩
theorem map_toArray (f : Operand → Value) (xs : Array Operand) : xs.map f = (xs.toList.map f).toArray := by
 cases xs; simp
attribute [irreducible] ACall AYield
end Go.Aw
namespace Go.Aw
open Go.RowKit
theorem wrap_has (k : IntKind) (n : Int) : k.has (k.wrap n) := by
 cases k <;> simp only [IntKind.has,IntKind.wrap,IntKind.min,IntKind.max,IntKind.bits,IntKind.signed] <;> (simp; try split) <;> omega
theorem run_bind_ok {α β : Type} {P : Program} {x : Sem α} {f : α → Sem β} {w w' : World} {a : α} (h : x.run P w = .ok a w') : (x >>= f).run P w = (f a).run P w' := by
 rw [Sem.run_bind]; rw [h]; rfl
def aBin (op : BinOp) (x y : AV) (k : AV → Prop) : Prop :=
 match op,x,y with
 | .shl, .int q a, .int _ b => 0 ≤ b ∧ k (.int q (q.wrap (a * 2 ^ (min b.toNat q.bits))))
 | .shr, .int q a, .int _ b => 0 ≤ b ∧ q.has (a.fdiv (2 ^ (min b.toNat q.bits))) ∧ k (.int q (a.fdiv (2 ^ (min b.toNat q.bits))))
 | .add, .int q a, .int q' b => q = q' ∧ k (.int q (q.wrap (a + b)))
 | .sub, .int q a, .int q' b => q = q' ∧ k (.int q (q.wrap (a - b)))
 | .mul, .int q a, .int q' b => q = q' ∧ k (.int q (q.wrap (a * b)))
 | .quo, .int q a, .int q' b => q = q' ∧ b ≠ 0 ∧ k (.int q (q.wrap (a.tdiv b)))
 | .rem, .int q a, .int q' b => q = q' ∧ b ≠ 0 ∧ q.has (a.tmod b) ∧ k (.int q (a.tmod b))
 | .and, .int q a, .int q' b => q = q' ∧ k (.int q (q.wrap (BitVec.ofInt q.bits a &&& BitVec.ofInt q.bits b).toNat))
 | .or, .int q a, .int q' b => q = q' ∧ k (.int q (q.wrap (BitVec.ofInt q.bits a ||| BitVec.ofInt q.bits b).toNat))
 | .lss, .int q a, .int q' b => q = q' ∧ k (.bool (decide (a < b)))
 | .leq, .int q a, .int q' b => q = q' ∧ k (.bool (decide (a ≤ b)))
 | .gtr, .int q a, .int q' b => q = q' ∧ k (.bool (decide (b < a)))
 | .geq, .int q a, .int q' b => q = q' ∧ k (.bool (decide (b ≤ a)))
 | .eql, .int q a, .int q' b => q = q' ∧ k (.bool (decide (a = b)))
 | .neq, .int q a, .int q' b => q = q' ∧ k (.bool (!decide (a = b)))
 | .add, .str s, .str t => s.length + t.length ≤ maxLen ∧ k (.str (s ++ t))
 | .eql, .str s, .str t => k (.bool (decide (s = t)))
 | .neq, .str s, .str t => k (.bool (!decide (s = t)))
 | .lss, .str s, .str t => k (.bool (Op.bytesLess s t))
 | .leq, .str s, .str t => k (.bool (Op.bytesLess s t || decide (s = t)))
 | .gtr, .str s, .str t => k (.bool (!(Op.bytesLess s t || decide (s = t))))
 | .geq, .str s, .str t => k (.bool (!Op.bytesLess s t))
 | .eql, .bool a, .bool b => k (.bool (a == b))
 | .neq, .bool a, .bool b => k (.bool (!(a == b)))
 | _,_,_ => False
theorem eqGuard_int (op : BinOp) (t : TypeId) (x y : Operand) (k : IntKind) (n : Int) (v : Value) : eqGuard op t x y (.int k n) v = pure () := by cases op <;> rfl
theorem eqGuard_str (op : BinOp) (t : TypeId) (x y : Operand) (s : ByteArray) (v : Value) : eqGuard op t x y (.string s) v = pure () := by cases op <;> rfl
theorem eqGuard_bool (op : BinOp) (t : TypeId) (x y : Operand) (s : Bool) (v : Value) : eqGuard op t x y (.bool s) v = pure () := by cases op <;> rfl
theorem run_binInt {P : Program} {w : World} {op : BinOp} {t : TypeId} {q q' : IntKind} {a b : Int} {k : AV → Prop} (h : aBin op (.int q a) (.int q' b) k) :
  ∃ v : Value × AV,(binOp op t (.int q a) (.int q' b)).run P w = .ok v.1 w ∧ (∀ K,Rel K v.2 v.1) ∧ k v.2 := by
 cases op <;> simp only [aBin] at h
 case add => obtain ⟨rfl,h⟩ := h; exact ⟨(_,_),by simp [binOp,Op.intArith],fun K => .int _ _ (wrap_has _ _),h⟩
 case sub => obtain ⟨rfl,h⟩ := h; exact ⟨(_,_),by simp [binOp,Op.intArith],fun K => .int _ _ (wrap_has _ _),h⟩
 case mul => obtain ⟨rfl,h⟩ := h; exact ⟨(_,_),by simp [binOp,Op.intArith],fun K => .int _ _ (wrap_has _ _),h⟩
 case quo => obtain ⟨rfl,hb,h⟩ := h; exact ⟨(_,_),by simp [binOp,Op.intDiv,hb],fun K => .int _ _ (wrap_has _ _),h⟩
 case rem => obtain ⟨rfl,hb,hh,h⟩ := h; exact ⟨(_,_),by simp [binOp,Op.intDiv,hb],fun K => .int _ _ hh,h⟩
 case and => obtain ⟨rfl,h⟩ := h; exact ⟨(_,_),by simp [binOp,Op.intBits],fun K => .int _ _ (wrap_has _ _),h⟩
 case or => obtain ⟨rfl,h⟩ := h; exact ⟨(_,_),by simp [binOp,Op.intBits],fun K => .int _ _ (wrap_has _ _),h⟩
 case shl => exact ⟨(_,_),by simp [binOp,Op.shift,show ¬ b < 0 by omega],fun K => .int _ _ (wrap_has _ _),h.2⟩
 case shr => exact ⟨(_,_),by simp [binOp,Op.shift,show ¬ b < 0 by omega],fun K => .int _ _ h.2.1,h.2.2⟩
 case lss => obtain ⟨rfl,h⟩ := h; exact ⟨(_,_),by simp [binOp,Op.intCmp],fun K => .bool _,h⟩
 case leq => obtain ⟨rfl,h⟩ := h; exact ⟨(_,_),by simp [binOp,Op.intCmp],fun K => .bool _,h⟩
 case gtr => obtain ⟨rfl,h⟩ := h; exact ⟨(_,_),by simp [binOp,Op.intCmp],fun K => .bool _,h⟩
 case geq => obtain ⟨rfl,h⟩ := h; exact ⟨(_,_),by simp [binOp,Op.intCmp],fun K => .bool _,h⟩
 case eql => obtain ⟨rfl,h⟩ := h; exact ⟨(.bool (decide (a = b)),_),by simp [binOp,Op.intCmp]; rw [Bool.eq_iff_iff]; simp,fun K => .bool _,h⟩
 case neq => obtain ⟨rfl,h⟩ := h; exact ⟨(.bool (!decide (a = b)),_),by simp [binOp,Op.intCmp,bne]; rw [Bool.eq_iff_iff]; simp,fun K => .bool _,h⟩
theorem beq_decide {α : Type} [BEq α] [LawfulBEq α] [DecidableEq α] (a b : α) : (a == b) = decide (a = b) := by rw [Bool.eq_iff_iff]; simp
theorem run_binStr {P : Program} {w : World} {op : BinOp} {t : TypeId} {a b : List UInt8} {k : AV → Prop} (h : aBin op (.str a) (.str b) k) :
  ∃ v : Value × AV,(binOp op t (.string ⟨a.toArray⟩) (.string ⟨b.toArray⟩)).run P w = .ok v.1 w ∧ (∀ K,Rel K v.2 v.1) ∧ k v.2 := by
 cases op <;> simp only [aBin] at h
 case add =>
  refine ⟨(.string ⟨(a ++ b).toArray⟩,_),?_,fun K => .str _ (by simpa using h.1),h.2⟩
  have h1 := h.1
  rw [binOp_string_add,run_string_add_sum,ByteArray.mk_append_mk]
  simp only [ByteArray.size,List.size_toArray]
  simp only [maxLen] at h1; omega
 case eql => exact ⟨(.bool (decide (a = b)),_),by rw [binOp_string_eql,ByteArray.toList_mk,ByteArray.toList_mk,beq_decide]; rfl,fun K => .bool _,h⟩
 case neq => exact ⟨(.bool (!decide (a = b)),_),by rw [binOp_string_neq,ByteArray.toList_mk,ByteArray.toList_mk,beq_decide]; rfl,fun K => .bool _,h⟩
 case lss => exact ⟨(_,_),by rw [binOp_string_lss,ByteArray.toList_mk,ByteArray.toList_mk]; rfl,fun K => .bool _,h⟩
 case leq => exact ⟨(.bool (Op.bytesLess a b || decide (a = b)),_),by simp only [binOp,Op.stringOp]; rw [ByteArray.toList_mk,ByteArray.toList_mk,beq_decide]; rfl,fun K => .bool _,h⟩
 case gtr => exact ⟨(.bool (!(Op.bytesLess a b || decide (a = b))),_),by simp only [binOp,Op.stringOp]; rw [ByteArray.toList_mk,ByteArray.toList_mk,beq_decide]; rfl,fun K => .bool _,h⟩
 case geq => exact ⟨(.bool (!Op.bytesLess a b),_),by simp only [binOp,Op.stringOp]; rw [ByteArray.toList_mk,ByteArray.toList_mk]; rfl,fun K => .bool _,h⟩
theorem equalIn_bool {P : Program} (w : World) (d : Nat) (t : TypeId) (a b : Bool) (h : P.underlying t = some .bool) : (Op.equalIn (d + 1) t (.bool a) (.bool b)).run P w = .ok (a == b) w := by
 simp [Op.equalIn,run_underlying h]
theorem run_binBool {P : Program} {w : World} {op : BinOp} {t : TypeId} {a b : Bool} {k : AV → Prop} (ht : P.underlying t = some .bool) (h : aBin op (.bool a) (.bool b) k) :
  ∃ v : Value × AV,(binOp op t (.bool a) (.bool b)).run P w = .ok v.1 w ∧ (∀ K,Rel K v.2 v.1) ∧ k v.2 := by
 cases op <;> simp only [aBin] at h
 case eql => exact ⟨(.bool (a == b),_),by simp [binOp,Op.equal,Op.maxDepth,equalIn_bool w 9999 t a b ht],fun K => .bool _,h⟩
 case neq => exact ⟨(.bool (!(a == b)),_),by simp [binOp,Op.equal,Op.maxDepth,equalIn_bool w 9999 t a b ht],fun K => .bool _,h⟩
def TD.known : TD → Bool
 | .other => false
 | _ => true
theorem TD.known_ne {d : TD} (h : d.known = true) : d ≠ .other := by intro e; subst e; simp [TD.known] at h
def aLoad (i : TI) (cs : List AV) : AV := bif i.d.agg then .agg (cs.take i.sz) else cs.headD .junk
theorem run_loadKnown {P : Program} {w : World} {K : Kn} {t : TypeId} {i : TI} (hi : TOk P t i) (ho : i.d.known = true) {b off : Nat} {cs : List AV} {vs : List Value} (h1 : ∀ c ∈ cs,c.one = true)
  (hr : RelL K cs vs) (hc : ∀ (j : Nat) (v : Value),vs[j]? = some v → w.cell? ⟨b,off + j,none⟩ = some v) (hs : 1 ≤ i.sz ∧ i.sz ≤ cs.length) :
  ∃ v,(loadVar t ⟨b,off,none⟩).run P w = .ok v w ∧ Rel K (aLoad i cs) v := by
 have hag := hi.isAgg (TD.known_ne ho) w
 have hsz := hi.sizeOf w
 unfold loadVar aLoad
 cases hb : i.d.agg with
 | true =>
  rw [hb] at hag
  refine ⟨.agg (vs.take i.sz).toArray,?_,?_⟩
  ·rw [run_bind_ok hag]
   simp only [if_true]
   rw [run_bind_ok hsz]
   have hl : (vs.take i.sz).length = i.sz := by rw [List.length_take, ← hr.1]; omega
   have := run_loadCells_list (P := P) w ⟨b,off,none⟩ (vs.take i.sz) (fun j v hv => by
    rw [Addr.add_lit]
    rw [List.getElem?_take] at hv
    split at hv
    ·exact hc j v hv
    ·cases hv)
   rw [hl] at this
   rw [run_bind_ok this]; rfl
  ·obtain ⟨hl,hh⟩ := hr.take i.sz
   exact .agg (fun c hc => h1 c (List.mem_of_mem_take hc)) hl hh
 | false =>
  rw [hb] at hag
  cases cs with
  | nil => simp at hs; omega
  | cons c cs =>
   obtain ⟨v,r,rfl,hv,_⟩ := hr.cons_inv
   refine ⟨v,?_,by simpa using hv⟩
   rw [run_bind_ok hag]
   have := hc 0 v rfl
   simp only [Nat.add_zero] at this
   simp [run_load,this]
theorem getElem?_toList {α : Type} (a : Array α) (i : Nat) : a.toList[i]? = a[i]? := by simp
theorem cell_of_heap {w : World} {b : Nat} {vs : Array Value} {T : TypeId} {fr : Nat × Nat} (h : w.heap[b]? = some (.cells vs T fr)) (j : Nat) : w.cell? ⟨b,j,none⟩ = vs[j]? := by
 simp [World.cell?,h]
theorem run_load_ref {P : Program} {w0 w : World} {K : Kn} {S : List En} {t : TypeId} {i : TI} (hi : TOk P t i) (ho : i.d.known = true) (hS : RelS w0 K S w) {cs : List AV} {v : Value} (hv : Rel K (.ref cs) v)
  (hs : 1 ≤ i.sz ∧ i.sz ≤ cs.length) : ∃ x,(Instr.loadAt t v).run P w = .ok x w ∧ Rel K (aLoad i cs) x := by
 cases hv with
 | ref h1 hl h hk =>
  obtain ⟨x,hx,hr⟩ := run_loadKnown hi ho h1 ⟨hl,h⟩ (fun j u hu => hS.kcell _ _ _ (hk j u hu)) hs
  exact ⟨x,by simp [Instr.loadAt,Instr.sureAddr,hx],hr⟩
theorem run_load_ptr {P : Program} {w0 w : World} {K : Kn} {S : List En} {t : TypeId} {i : TI} (hi : TOk P t i) (ho : i.d.known = true) (hS : RelS w0 K S w) {b off p : Nat} {cs : List AV} (hp : S[p]? = some (.cells b cs)) {v : Value} (hv : Rel K (.ptr b off) v)
  (hs : 1 ≤ i.sz ∧ i.sz ≤ (cs.drop off).length) : ∃ x,(Instr.loadAt t v).run P w = .ok x w ∧ Rel K (aLoad i (cs.drop off)) x := by
 cases hv
 obtain ⟨_,_,h1,vs,T,hh,hr⟩ := hS.ents _ (List.mem_of_getElem? hp)
 obtain ⟨x,hx,hr⟩ := run_loadKnown hi ho (b := b) (off := off) (fun c hc => h1 c (List.mem_of_mem_drop hc)) (hr.drop off) (fun j u hu => by
  rw [cell_of_heap hh]; rw [List.getElem?_drop] at hu; simpa using hu) hs
 exact ⟨x,by simp [Instr.loadAt,Instr.sureAddr,hx],hr⟩
def setCells (cs : List AV) (off : Nat) (new : List AV) : List AV := cs.take off ++ new ++ cs.drop (off + new.length)
def AV.plain : AV → Bool
 | .junk | .tup _ => false
 | _ => true
theorem Rel.plain {K : Kn} {a : AV} {v : Value} (h : Rel K a v) (ha : a.plain = true) : RelL K a.cells v.cells.toList ∧ (∀ c ∈ a.cells,c.one = true) := by
 have hor : a.one = true ∨ ∃ cs,a = .agg cs := by
  cases a <;> simp_all [AV.plain,AV.one]
 refine ⟨h.cellsL hor,?_⟩
 rcases hor with h1 | ⟨cs,rfl⟩
 ·have : a.cells = [a] := by cases a <;> simp_all [AV.one,AV.cells]
  rw [this]; intro c hc; simp at hc; subst hc; exact h1
 ·cases h with
  | agg h1 _ _ => exact h1
theorem relL_one {K : Kn} {cs : List AV} {vs : List Value} (h : RelL K cs vs) (h1 : ∀ c ∈ cs,c.one = true) : ∀ v ∈ vs,v.oneCell' = true := by
 intro v hv
 obtain ⟨i,hi,hv⟩ := List.mem_iff_getElem.1 hv
 have hi' : i < cs.length := by rw [h.1]; exact hi
 exact ((h.2 i cs[i] v (List.getElem?_eq_getElem hi') (by rw [List.getElem?_eq_getElem hi,hv])).one (h1 _ (List.getElem_mem hi'))).1
theorem run_store_ptr {P : Program} {w0 w : World} {K : Kn} {S : List En} {t : TypeId} {i : TI} (hi : TOk P t i) (hS : RelS w0 K S w) {b off p : Nat} {cs : List AV} (hp : S[p]? = some (.cells b cs)) {pv v : Value} (hv : Rel K (.ptr b off) pv)
  {x : AV} (hx : Rel K x v) (hpl : x.plain = true) (hsz : x.cells.length = i.sz) (hs : off + i.sz ≤ cs.length) :
  ∃ w',(Instr.storeAt t pv v).run P w = .ok () w' ∧ RelS w0 K (S.set p (.cells b (setCells cs off x.cells))) w' := by
 cases hv
 obtain ⟨hB,hK,h1,vs,T,hh,hr⟩ := hS.ents _ (List.mem_of_getElem? hp)
 obtain ⟨hxl,hx1⟩ := hx.plain hpl
 have hvl : v.cells.toList.length = i.sz := by rw [← hxl.1,hsz]
 have hst := run_storeCells_at P b off T v.cells.toList 0 vs w hh (by
  have : cs.length = vs.toList.length := hr.1
  simp only [Array.length_toList] at this hvl ⊢
  omega) (relL_one hxl hx1)
 refine ⟨_,Eq.trans ?_ hst,?_⟩
 ·simp only [Instr.storeAt,Instr.sureAddr,storeVar]
  rw [run_bind_ok (a := (⟨b,off,none⟩ : Addr)) (w' := w) rfl]
  rw [run_bind_ok (hi.sizeOf w)]
  have : ¬ (v.cells.size ≠ i.sz) := by simp only [Array.length_toList] at hvl; simp [hvl]
  rw [if_neg this]
 ·have hpb : b < w.heap.size := (Array.getElem?_eq_some_iff.1 hh).1
  refine hS.turn hp (b := b) rfl (Kle.refl K) (fun _ _ => rfl) (fun c hc => setRow_other _ _ _ _ hc) (by simp) rfl rfl rfl (fun j u hu => by rw [hK] at hu; simp at hu) (fun c t fr hc => ⟨_,_,setRow_heap _ _ _ _ _ _ hc⟩) (.inl rfl)
   ⟨hB,hK,?_,_,T,setRow_heap _ _ _ _ _ _ hh,?_⟩
  ·intro c hc
   simp only [setCells,List.mem_append] at hc
   rcases hc with (hc | hc) | hc
   ·exact h1 c (List.mem_of_mem_take hc)
   ·exact hx1 c hc
   ·exact h1 c (List.mem_of_mem_drop hc)
  ·simp only [setCells,Nat.add_zero]
   have e : x.cells.length = v.cells.toList.length := hxl.1
   rw [e]
   exact ((hr.take off).append hxl).append (hr.drop _)
theorem run_box {P : Program} {w0 w : World} {K : Kn} {S : List En} {t : TypeId} (hS : RelS w0 K S w) {x : AV} {v : Value} (hx : Rel K x v) (hpl : x.plain = true) :
  ∃ b w',(Instr.box t v).run P w = .ok (.pointer (some ⟨b,0,none⟩)) w' ∧ RelS w0 K (.cells b x.cells :: S) w' := by
 obtain ⟨hxl,hx1⟩ := hx.plain hpl
 refine ⟨w.heap.size,w.alloc (.cells v.cells t),?_,hS.allocCells t hx1 hxl⟩
 simp [Instr.box,newVar,newRow]
end Go.Aw
