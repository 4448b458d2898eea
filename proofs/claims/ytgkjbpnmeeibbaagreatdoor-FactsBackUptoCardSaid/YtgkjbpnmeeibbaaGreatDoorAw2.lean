/-
  Environments, types as data, and what an operation asks and gives, at abstract values. Own work.
-/
import Derived.Test.YtgkjbpnmeeibbaaGreatDoorAw1
set_option linter.all false
namespace Go.Aw
open Go.RowKit

theorem natBeq_ne {i j : Nat} (h : ¬ i = j) : Nat.beq i j = false := by
  cases hb : Nat.beq i j with
  | false => rfl
  | true => exact absurd (Nat.eq_of_beq_eq_true hb) h
def lk : List (Nat × AV) → Nat → AV
  | [], _ => .junk
  | (j, v) :: r, i => bif Nat.beq j i then v else lk r i

structure Env where
  l : List (Nat × AV)
  m : List Nat := []

def Env.put (E : Env) (d : Option Nat) (v : AV) : Env :=
  match d with
  | some i => { E with l := (i, v) :: E.l }
  | none => E

def AV.ofV : Value → AV
  | .bool b => .bool b
  | .int k n => .int k n
  | .string s => .str s.data.toList
  | .slice none 0 0 => .sl 0 [] .full
  | .pointer none => .nilp
  | .nilFunc => .nilf
  | .nilIface => .nilif
  | .map none => .nilmap
  | _ => .junk

def constOk : Value → Bool
  | .int k n => decide (k.min ≤ n ∧ n ≤ k.max)
  | .string s => decide (s.size ≤ maxLen)
  | _ => true
def opdOk : Operand → Bool
  | .const v => constOk v
  | _ => true

theorem rel_ofV {K : Kn} (v : Value) (h : constOk v = true) : Rel K (AV.ofV v) v := by
  unfold AV.ofV
  split
  · exact .bool _
  · exact .int _ _ (by simpa [constOk, IntKind.has] using h)
  · rename_i s
    have h' : s.size ≤ maxLen := of_decide_eq_true h
    have : s = ⟨s.data.toList.toArray⟩ := by cases s; simp
    exact this ▸ .str _ (by rw [Array.length_toList]; exact h')
  · exact .slnil _ _ _ trivial
  · exact .nilp
  · exact .nilf
  · exact .nilif
  · exact .nilmap
  · exact .junk _

def ev (E : Env) : Operand → AV
  | .tmp t => lk E.l t
  | .const v => .ofV v
  | .global g => .gl g
  | .func f => .fn (.func f) [] []

def markOf (d : Nat) : Deferred := { target := .collected d, args := #[] }

structure RelE (N : Nat) (K : Kn) (E : Env) (a : Act) : Prop where
  size : a.tmps.size = N
  slot : ∀ i, Rel K (lk E.l i) (a.tmps.getD i undef)
  defers : a.defers = E.m.map markOf

theorem RelE.mono {N : Nat} {K K' : Kn} {E : Env} {a : Act} (hK : Kle K K') (h : RelE N K E a) : RelE N K' E a :=
  ⟨h.size, fun i => (h.slot i).mono hK, h.defers⟩

theorem RelE.ev {N : Nat} {K : Kn} {E : Env} {a : Act} (h : RelE N K E a) (x : Operand) (hx : opdOk x = true) : Rel K (ev E x) (a.eval x) := by
  cases x with
  | tmp t => exact h.slot t
  | const v => exact rel_ofV v hx
  | global g => exact .gl g
  | func f => exact .fn (first := []) (cap := []) (vs := []) (us := []) (.func f) rfl (fun i c v hc _ => by simp at hc) rfl (fun i c v hc _ => by simp at hc)

theorem RelE.put {N : Nat} {K : Kn} {E : Env} {a : Act} {v : Value} {av : AV} (h : RelE N K E a) (d : Option Nat) (hd : ∀ i, d = some i → i < N) (hv : Rel K av v) : RelE N K (E.put d av) (a.put d v) := by
  cases d with
  | none => exact h
  | some i =>
    have hi : i < N := hd i rfl
    refine ⟨by simp [Act.put, h.size], fun j => ?_, h.defers⟩
    simp only [Env.put, Act.put, lk]
    by_cases hij : i = j
    · subst hij
      have : Nat.beq i i = true := Nat.beq_refl i
      rw [this]
      simp only [cond_true]
      have hs : i < a.tmps.size := by rw [h.size]; exact hi
      simpa [Array.getD_eq_getD_getElem?, hs] using hv
    · have : Nat.beq i j = false := natBeq_ne hij
      rw [this]
      simp only [cond_false]
      have := h.slot j
      simpa [Array.getD_eq_getD_getElem?, Array.getElem?_setIfInBounds_ne (Ne.intro hij)] using this

/-! ### types as data -/
inductive TD where
  | int (k : IntKind) | bool | str
  | slice (e : TypeId)
  | struct (fs : List (Nat × TypeId))
  | array (n : Nat) (e : TypeId)
  | ptr (e : TypeId)
  | iface
  | map (k e : TypeId)
  | func
  | uptr
  | other
structure TI where
  d : TD
  sz : Nat
  by_ : Nat
  zero : List AV
def TD.agg : TD → Bool
  | .struct _ | .array _ _ => true
  | _ => false

def DOk (P : Program) (t : TypeId) : TD → Prop
  | .int k => P.underlying t = some (.int k)
  | .bool => P.underlying t = some .bool
  | .str => P.underlying t = some .string
  | .slice e => P.underlying t = some (.slice e)
  | .struct fs => ∃ fields, P.underlying t = some (.struct fields) ∧ fields.toList.map (fun f => (f.offset, f.type)) = fs
  | .array n e => P.underlying t = some (.array n e)
  | .ptr e => P.underlying t = some (.pointer e)
  | .iface => ∃ ms, P.underlying t = some (.interface ms)
  | .map k e => P.underlying t = some (.map k e)
  | .func => ∃ a b c, P.underlying t = some (.func a b c)
  | .uptr => P.underlying t = some .unsafePointer
  | .other => True

structure TOk (P : Program) (t : TypeId) (i : TI) : Prop where
  info : (P.info? t).map (fun x => (x.size, x.bytes, x.zero.map fun z => z.cells.toList.map AV.ofV, x.zero.map fun z => z.cells.toList.all fun v => constOk v && (AV.ofV v).one)) = some (i.sz, i.by_, some i.zero, some true)
  len : i.zero.length = i.sz
  d : DOk P t i.d

def AllOk (P : Program) : List (TypeId × TI) → Prop
  | [] => True
  | p :: r => TOk P p.1 p.2 ∧ AllOk P r

def lkT : List (TypeId × TI) → TypeId → TI
  | [], _ => ⟨.other, 0, 0, []⟩
  | (j, i) :: r, t => bif Nat.beq j t then i else lkT r t

theorem lkT_ok {P : Program} {τ : List (TypeId × TI)} (h : AllOk P τ) (t : TypeId) (ho : (lkT τ t).d ≠ .other) : TOk P t (lkT τ t) := by
  induction τ with
  | nil => exact absurd rfl ho
  | cons p r ih =>
    obtain ⟨j, i⟩ := p
    simp only [lkT] at ho ⊢
    by_cases hj : j = t
    · subst hj
      have : Nat.beq j j = true := Nat.beq_refl j
      rw [this] at ho ⊢
      exact h.1
    · have : Nat.beq j t = false := natBeq_ne hj
      rw [this] at ho ⊢
      exact ih h.2 ho

theorem TOk.get {P : Program} {t : TypeId} {i : TI} (h : TOk P t i) : ∃ x z, P.info? t = some x ∧ x.size = i.sz ∧ x.bytes = i.by_ ∧ x.zero = some z ∧
    (∀ K, RelL K i.zero z.cells.toList) ∧ (∀ c ∈ i.zero, c.one = true) := by
  have hi := h.info
  cases hx : P.info? t with
  | none => rw [hx] at hi; cases hi
  | some x =>
    rw [hx] at hi
    simp only [Option.map_some, Option.some.injEq, Prod.mk.injEq] at hi
    obtain ⟨h1, h2, h3, h4⟩ := hi
    cases hz : x.zero with
    | none => rw [hz] at h3; cases h3
    | some z =>
      rw [hz] at h3 h4
      simp only [Option.map_some, Option.some.injEq] at h3 h4
      refine ⟨x, z, rfl, h1, h2, hz, fun K => ?_, ?_⟩
      · rw [← h3]
        clear h3
        generalize z.cells.toList = l at h4
        induction l with
        | nil => exact RelL.nil
        | cons v l ih =>
          simp only [List.all_cons, Bool.and_eq_true] at h4
          exact RelL.cons (rel_ofV v h4.1.1) (ih h4.2)
      · rw [← h3]
        intro c hc
        obtain ⟨v, hv, rfl⟩ := List.mem_map.1 hc
        have := List.all_eq_true.1 h4 v hv
        simp only [Bool.and_eq_true] at this
        exact this.2

theorem TOk.cellsOf {P : Program} {t : TypeId} {i : TI} (h : TOk P t i) : P.cellsOf t = i.sz := by
  obtain ⟨x, z, hx, hs, _⟩ := h.get
  simp [Program.cellsOf, hx, hs]
theorem TOk.sizeOf {P : Program} {t : TypeId} {i : TI} (h : TOk P t i) (w : World) : (sizeOf t).run P w = .ok i.sz w := by
  obtain ⟨x, z, hx, hs, _⟩ := h.get
  simp [Go.sizeOf, typeInfo, hx, hs]
theorem TOk.isAgg {P : Program} {t : TypeId} {i : TI} (h : TOk P t i) (ho : i.d ≠ .other) (w : World) : (isAgg t).run P w = .ok i.d.agg w := by
  have hd := h.d
  unfold Go.isAgg
  cases hi : i.d <;> rw [hi] at hd <;> simp only [DOk] at hd
  case other => exact absurd hi ho
  all_goals first
    | (simp [run_underlying hd, TD.agg]; done)
    | (obtain ⟨f, hd, _⟩ := hd; simp [run_underlying hd, TD.agg]; done)
    | (obtain ⟨f, hd⟩ := hd; simp [run_underlying hd, TD.agg]; done)
    | (obtain ⟨f, g, h, hd⟩ := hd; simp [run_underlying hd, TD.agg]; done)

/-! ### judgements -/

/-- what is owed of an operation's result -/
def ROk (P : Program) (w0 : World) (K : Kn) (k : AV → List En → Prop) : Result Next → Prop
  | .ok (.value v) w' => ∃ K' av S', Kle K K' ∧ Rel K' av v ∧ RelS w0 K' S' w' ∧ k av S'
  | .ok .skip w' => ∃ K' S', Kle K K' ∧ RelS w0 K' S' w' ∧ k .junk S'
  | .ok (.enter f args) w' => CallsIn Fence.wide 0 P f args w' fun e w'' => ∃ v K' av S', e = .returned v ∧ Kle K K' ∧ Rel K' av v ∧ RelS w0 K' S' w'' ∧ k av S'
  | .ok (.round l f tmps assign body) w' => RoundIn Fence.wide 0 P l f tmps assign body w' fun e w'' => ∃ v K' av S', e = .returned v ∧ Kle K K' ∧ Rel K' av v ∧ RelS w0 K' S' w'' ∧ k av S'
  | _ => False

/-- a call: its result, and what is owned behind it -/
def ACall (P : Program) (f : FuncId) (args : List AV) (S : List En) (k : AV → List En → Prop) : Prop :=
  ∀ w0 K w vs, RelL K args vs → RelS w0 K S w → CallsIn Fence.wide 0 P f vs.toArray w fun e w' => ∃ v K' av S', e = .returned v ∧ Kle K K' ∧ Rel K' av v ∧ RelS w0 K' S' w' ∧ k av S'

/-- a call of a loop's yield -/
def AYield (P : Program) (l : Nat) (args : List AV) (S : List En) (k : AV → List En → Prop) : Prop :=
  ∀ w0 K w vs, RelL K args vs → RelS w0 K S w → ∃ fn tmps assign body, (Instr.yield l vs.toArray).run P w = .ok (.round l fn tmps assign body) w ∧
    RoundIn Fence.wide 0 P l fn tmps assign body w fun e w' => ∃ v K' av S', e = .returned v ∧ Kle K K' ∧ Rel K' av v ∧ RelS w0 K' S' w' ∧ k av S'

theorem ROk.mono {P : Program} {w0 : World} {K : Kn} {k k' : AV → List En → Prop} (h : ∀ v S, k v S → k' v S) {r : Result Next} (hr : ROk P w0 K k r) : ROk P w0 K k' r := by
  cases r with
  | halt x w => cases x <;> exact hr
  | ok x w =>
    cases x <;> simp only [ROk] at hr ⊢
    case value v => obtain ⟨K', av, S', a, b, c, d⟩ := hr; exact ⟨K', av, S', a, b, c, h _ _ d⟩
    case skip => obtain ⟨K', S', a, c, d⟩ := hr; exact ⟨K', S', a, c, h _ _ d⟩
    case enter f args => exact hr.mono fun e w' ⟨v, K', av, S', a, b, c, d, e'⟩ => ⟨v, K', av, S', a, b, c, d, h _ _ e'⟩
    case round => exact hr.mono fun e w' ⟨v, K', av, S', a, b, c, d, e'⟩ => ⟨v, K', av, S', a, b, c, d, h _ _ e'⟩

theorem ACall.mono {P : Program} {f : FuncId} {args : List AV} {S : List En} {k k' : AV → List En → Prop} (h : ∀ v S, k v S → k' v S) (hc : ACall P f args S k) : ACall P f args S k' :=
  fun w0 K w vs hv hs => (hc w0 K w vs hv hs).mono fun e w' ⟨v, K', av, S', a, b, c, d, e'⟩ => ⟨v, K', av, S', a, b, c, d, h _ _ e'⟩
theorem AYield.mono {P : Program} {f : Nat} {args : List AV} {S : List En} {k k' : AV → List En → Prop} (h : ∀ v S, k v S → k' v S) (hc : AYield P f args S k) : AYield P f args S k' :=
  fun w0 K w vs hv hs => let ⟨fn, tmps, assign, body, h1, h2⟩ := hc w0 K w vs hv hs; ⟨fn, tmps, assign, body, h1, h2.mono fun e w' ⟨v, K', av, S', a, b, c, d, e'⟩ => ⟨v, K', av, S', a, b, c, d, h _ _ e'⟩⟩

/-- a plain value out of the same world -/
theorem ROk.val {P : Program} {w0 w : World} {K : Kn} {S : List En} {k : AV → List En → Prop} {av : AV} {v : Value} (hs : RelS w0 K S w) (hv : Rel K av v) (h : k av S) : ROk P w0 K k (.ok (.value v) w) :=
  ⟨K, av, S, Kle.refl K, hv, hs, h⟩

/-- a list of operands as it is mapped -/
theorem map_toArray (f : Operand → Value) (xs : Array Operand) : xs.map f = (xs.toList.map f).toArray := by
  cases xs; simp
attribute [irreducible] ACall AYield
end Go.Aw
