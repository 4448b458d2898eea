/-
  One operation, and a region's operations in their order. Own work.
-/
import Derived.Test.YtgkjbpnmeeibbaaGreatDoorAw18
set_option linter.all false
namespace Go.Aw
open Go.RowKit

/-! ### structs held against each other -/
def eq1 : AV → AV → Option Bool
  | .int _ a, .int _ b => some (decide (a = b))
  | .bool a, .bool b => some (a == b)
  | .str a, .str b => some (decide (a = b))
  | _, _ => none
def eqCells : List AV → List AV → Option Bool
  | [], [] => some true
  | a :: as, b :: bs => match eq1 a b, eqCells as bs with
    | some x, some y => some (x && y)
    | _, _ => none
  | _, _ => none

def plainKind : Option TypeDesc → Bool
  | some (.int _) | some .bool | some .string => true
  | _ => false
def fieldsFlat (P : Program) : Nat → List Field → Bool
  | _, [] => true
  | n, f :: fs => f.name != "_" && Nat.beq f.offset n && plainKind (P.underlying f.type) && fieldsFlat P (n + 1) fs
/-- a struct of plain fields, one cell each -/
structure EqOk (P : Program) (t : TypeId) : Prop where
  ht : P.underlying t = some (.struct (P.fieldsOf t))
  hp : P.stoodInHeld t = false
  hm : P.eqGuardType P.depth t = false
  hf : fieldsFlat P 0 (P.fieldsOf t).toList = true

theorem isAgg_plain {P : Program} {t : TypeId} (h : plainKind (P.underlying t) = true) (w : World) : (isAgg t).run P w = .ok false w := by
  cases hu : P.underlying t with
  | none => rw [hu] at h; cases h
  | some d => rw [hu] at h; unfold isAgg; cases d <;> simp [plainKind] at h <;> simp [run_underlying hu]

theorem run_eq1 {P : Program} {w : World} {K : Kn} {t : TypeId} (h : plainKind (P.underlying t) = true) {a b : AV} {x y : Value} (ha : Rel K a x) (hb : Rel K b y) {r : Bool} (hr : eq1 a b = some r) (d : Nat)
    (hx : match P.underlying t, a with | some (.int _), .int _ _ | some .bool, .bool _ | some .string, .str _ => True | _, _ => False) (hk : ∀ k k' n m, a = .int k n → b = .int k' m → k = k') :
    (Op.equalIn (d + 1) t x y).run P w = .ok r w := by
  cases hu : P.underlying t with
  | none => rw [hu] at h; cases h
  | some ds =>
    rw [hu] at hx
    cases a with
    | bool p =>
      cases b with
      | bool q =>
        simp only [eq1, Option.some.injEq] at hr
        subst hr
        cases ds <;> simp at hx
        cases ha; cases hb
        exact equalIn_bool w d t p q hu
      | _ => simp [eq1] at hr
    | int k p =>
      cases b with
      | int k' q =>
        simp only [eq1, Option.some.injEq] at hr
        subst hr
        have := hk k k' p q rfl rfl
        subst this
        cases ds <;> simp at hx
        cases ha; cases hb
        rw [run_equalIn_int w d t k _ p q hu, beq_decide]
      | _ => simp [eq1] at hr
    | str p =>
      cases b with
      | str q =>
        simp only [eq1, Option.some.injEq] at hr
        subst hr
        cases ds <;> simp at hx
        cases ha; cases hb
        rw [run_equalIn_string w d t _ _ hu, ByteArray.toList_mk, ByteArray.toList_mk, beq_decide]
      | _ => simp [eq1] at hr
    | _ => simp [eq1] at hr

/-- do the cells fit the fields' kinds, on both sides? -/
def fitKinds (P : Program) : List Field → List AV → List AV → Prop
  | [], [], [] => True
  | f :: fs, a :: as, b :: bs => (match P.underlying f.type, a, b with
      | some (.int k), .int q _, .int q' _ => q = k ∧ q' = k
      | some .bool, .bool _, .bool _ => True
      | some .string, .str _, .str _ => True
      | _, _, _ => False) ∧ fitKinds P fs as bs
  | _, _, _ => False

theorem run_eqFields {P : Program} {w : World} {K : Kn} (d : Nat) : ∀ (fs : List Field) (n : Nat) (cs ds : List AV) (xs ys : Array Value) (r : Bool), fieldsFlat P n fs = true → RelL K cs (xs.toList.drop n) → RelL K ds (ys.toList.drop n) →
    fitKinds P fs cs ds → eqCells cs ds = some r → (Op.eqFields (d + 1) xs ys fs).run P w = .ok r w := by
  intro fs
  induction fs with
  | nil =>
    intro n cs ds xs ys r _ _ _ hf hr
    cases cs <;> cases ds <;> simp only [fitKinds] at hf
    simp only [eqCells, Option.some.injEq] at hr
    subst hr; rfl
  | cons f fs ih =>
    intro n cs ds xs ys r hfl hc hd hf hr
    cases cs with
    | nil => cases ds <;> simp only [fitKinds] at hf
    | cons a cs =>
      cases ds with
      | nil => simp only [fitKinds] at hf
      | cons b ds =>
        simp only [fitKinds] at hf
        obtain ⟨hf1, hf2⟩ := hf
        simp only [fieldsFlat, Bool.and_eq_true, bne_iff_ne, ne_eq] at hfl
        obtain ⟨⟨⟨hn, ho⟩, hp⟩, hrest⟩ := hfl
        have ho' : f.offset = n := Nat.eq_of_beq_eq_true ho
        obtain ⟨x, rx, hx, hax, hcx⟩ := hc.cons_inv
        obtain ⟨y, ry, hy, hby, hdy⟩ := hd.cons_inv
        simp only [eqCells] at hr
        cases h1 : eq1 a b with
        | none => rw [h1] at hr; cases hr
        | some u =>
          cases h2 : eqCells cs ds with
          | none => rw [h1, h2] at hr; cases hr
          | some v =>
            rw [h1, h2] at hr
            simp only [Option.some.injEq] at hr
            subst hr
            have hxn : xs[n]? = some x := by have : (xs.toList.drop n)[0]? = some x := by rw [hx]; rfl
                                             simpa using this
            have hyn : ys[n]? = some y := by have : (ys.toList.drop n)[0]? = some y := by rw [hy]; rfl
                                             simpa using this
            have px : (part f.type xs f.offset).run P w = .ok x w := by
              unfold part; rw [run_bind_ok (isAgg_plain hp w)]; simp [ho', hxn]
            have py : (part f.type ys f.offset).run P w = .ok y w := by
              unfold part; rw [run_bind_ok (isAgg_plain hp w)]; simp [ho', hyn]
            have he := run_eq1 (P := P) (w := w) hp hax hby h1 d (by
              revert hf1
              cases P.underlying f.type with
              | none => exact fun h => h.elim
              | some t => cases t <;> cases a <;> cases b <;> simp) (by
              intro k k' p q ha hb
              subst ha; subst hb
              revert hf1
              cases P.underlying f.type with
              | none => exact fun h => h.elim
              | some t => cases t <;> simp; intro h1 h2; rw [h1, h2])
            simp only [Op.eqFields, hn, ne_eq, not_false_eq_true, if_true]
            rw [run_bind_ok px, run_bind_ok py, run_bind_ok he]
            have hdr : ∀ (zs : Array Value) (z : Value) (rz : List Value), zs.toList.drop n = z :: rz → zs.toList.drop (n + 1) = rz := by
              intro zs z rz hz
              have := congrArg List.tail hz
              simpa using this
            cases u with
            | false => simp
            | true =>
              simp only [Bool.not_true, Bool.false_eq_true, if_false, Bool.true_and]
              exact ih (n + 1) cs ds xs ys v hrest (by rw [hdr xs x rx hx]; exact hcx) (by rw [hdr ys y ry hy]; exact hdy) hf2 h2

theorem run_eqStruct {P : Program} {w : World} {K : Kn} {t : TypeId} (h : EqOk P t) {cs ds : List AV} {x y : Value} (hx : Rel K (.agg cs) x) (hy : Rel K (.agg ds) y) (hf : fitKinds P (P.fieldsOf t).toList cs ds) {r : Bool} (hr : eqCells cs ds = some r) (ox oy : Operand) :
    ((do eqGuard .eql t ox oy x y; binOp .eql t x y : Sem Value)).run P w = .ok (.bool r) w ∧ ((do eqGuard .neq t ox oy x y; binOp .neq t x y : Sem Value)).run P w = .ok (.bool (!r)) w := by
  cases hx with
  | @agg _ vs h1 hl h' =>
    cases hy with
    | @agg _ us h1' hl' h'' =>
      have he : (Op.equalIn 10000 t (.agg vs.toArray) (.agg us.toArray)).run P w = .ok r w := by
        rw [run_equalIn_struct w 9999 t _ _ h.ht h.hp]
        exact run_eqFields 9998 _ 0 cs ds _ _ r h.hf (⟨hl, h'⟩ : RelL K cs vs) (⟨hl', h''⟩ : RelL K ds us) hf hr
      constructor
      · rw [run_bind_ok (run_eqGuard_agg w .eql t ox oy _ _ h.hm), run_eql_struct, he]; rfl
      · rw [run_bind_ok (run_eqGuard_agg w .neq t ox oy _ _ h.hm), run_neq_struct, he]; rfl

/-- the kinds of a plain struct's fields, written out -/
inductive PK where
  | int (k : IntKind) | bool | str
def PK.desc : PK → TypeDesc
  | .int k => .int k
  | .bool => .bool
  | .str => .string
def fitK : List PK → List AV → List AV → Bool
  | [], [], [] => true
  | .int k :: ks, .int q _ :: as, .int q' _ :: bs => decide (q = k) && decide (q' = k) && fitK ks as bs
  | .bool :: ks, .bool _ :: as, .bool _ :: bs => fitK ks as bs
  | .str :: ks, .str _ :: as, .str _ :: bs => fitK ks as bs
  | _, _, _ => false
structure EqK (P : Program) (t : TypeId) (ks : List PK) : Prop extends EqOk P t where
  hk : (P.fieldsOf t).toList.map (fun f => P.underlying f.type) = ks.map (fun k => some k.desc)
theorem fitK_fit {P : Program} : ∀ (fs : List Field) (ks : List PK) (cs ds : List AV), fs.map (fun f => P.underlying f.type) = ks.map (fun k => some k.desc) → fitK ks cs ds = true → fitKinds P fs cs ds
  | [], [], cs, ds, _, h => by
    cases cs <;> cases ds <;> simp [fitK] at h ⊢
    trivial
  | [], k :: ks, _, _, h, _ => by simp at h
  | f :: fs, [], _, _, h, _ => by simp at h
  | f :: fs, k :: ks, cs, ds, h, hk => by
    simp only [List.map_cons, List.cons.injEq] at h
    cases cs with
    | nil => cases k <;> simp [fitK] at hk
    | cons a as =>
      cases ds with
      | nil => cases k <;> cases a <;> simp [fitK] at hk
      | cons b bs =>
        cases k with
        | int q =>
          cases a <;> cases b <;> simp [fitK] at hk
          refine ⟨?_, fitK_fit fs ks as bs h.2 hk.2⟩
          rw [h.1]; exact hk.1
        | bool =>
          cases a <;> cases b <;> simp [fitK] at hk
          refine ⟨?_, fitK_fit fs ks as bs h.2 hk⟩
          rw [h.1]; trivial
        | str =>
          cases a <;> cases b <;> simp [fitK] at hk
          refine ⟨?_, fitK_fit fs ks as bs h.2 hk⟩
          rw [h.1]; trivial

/-! ### one operation -/
def TD.conc (d : TD) : Bool := match d with
  | .other | .iface => false
  | _ => true
def oev (ρ : Operand → AV) : Option Operand → Option AV
  | some x => some (ρ x)
  | none => none

def fnOk (P : Program) (f : FuncId) : Prop := ∃ fn, P.funcs[f]? = some fn ∧ (fn.name == "runtime.NumGoroutine") = false ∧ fn.body.isNone = false

def aCallV (P : Program) (f : AV) (args : List AV) (S : List En) (k : AV → List En → Prop) : Prop :=
  match f with
  | .fn (.func g) first cap => (fnOk P g ∧ ACall P g (first ++ args ++ cap) S k) ∨ AExt P g (first ++ args ++ cap) S k
  | .fn (.yield l) [] [] => AYield P l args S k
  | _ => False

def aBuiltin (P : Program) (τ : List (TypeId × TI)) (b : Builtin) (ts : List TypeId) (args : List AV) (S : List En) (k : AV → List En → Prop) : Prop :=
  match b, ts, args with
  | .len, t :: _, [.sl _ es _] => (∃ e, (lkT τ t).d = .slice e) ∧ k (.int .i64 es.length) S
  | .len, t :: _, [.msl _ _ n _] => (∃ e, (lkT τ t).d = .slice e) ∧ k (.int .i64 n) S
  | .len, t :: _, [.nils] => (∃ e, (lkT τ t).d = .slice e) ∧ k (.int .i64 ((0 : Nat) : Int)) S
  | .len, t :: _, [.str s] => (lkT τ t).d = .str ∧ k (.int .i64 s.length) S
  | .cap, t :: _, [.msl _ _ _ c] => (∃ e, (lkT τ t).d = .slice e) ∧ k (.int .i64 c) S
  | .min, _, [.int q a, .int q' b] => q = q' ∧ k (.int q (min a b)) S
  | .max, _, [.int q a, .int q' b] => q = q' ∧ k (.int q (max a b)) S
  | .append, [t, t'], [.sl sz es tk, .sl sz' xs _] => ∃ e, (lkT τ t).d = .slice e ∧ t' = t ∧ (lkT τ e).d.known = true ∧ roomFor (es.length + xs.length) (lkT τ e).by_ ∧ ((lkT τ e).sz = sz' ∨ xs = []) ∧
      ((tk = .full ∧ ((lkT τ e).sz = sz ∨ es = []) ∧ ∃ r, es ++ xs = r ∧ ∀ t', k (.sl (lkT τ e).sz r t') (.grow t' :: S)) ∨
       ((lkT τ e).sz = sz ∧ ∃ p, S[p]? = some (.grow tk) ∧ ∃ r, es ++ xs = r ∧ ∀ t', k (.sl (lkT τ e).sz r t') (S.set p (.grow t'))) ∨
       (tk = .full ∧ es = [] ∧ ∃ r n, flat xs = r ∧ xs.length = n ∧ ∀ b cap rest, n ≤ cap → (n = 0 → cap = 0) → rest.length = (cap - n) * (lkT τ e).sz → k (.msl b 0 n cap) (hold n b (r ++ rest) S)))
  | .append, [t, t'], [.msl b off n cap, x] => ∃ e, (lkT τ t).d = .slice e ∧ (lkT τ e).d.known = true ∧ ∃ m p cur, roomFor (n + m) (lkT τ e).by_ ∧ S[p]? = some (.cells b cur) ∧ off + n * (lkT τ e).sz ≤ cur.length ∧
      (((((∃ e', (lkT τ t').d = .slice e') ∨ (lkT τ t').d = .str) ∧ ∃ cs, ASrc S (lkT τ e).sz x m cs ∧
          (n + m ≤ cap → off + (n + m) * (lkT τ e).sz ≤ cur.length ∧ ∃ cur', setCells cur (off + n * (lkT τ e).sz) cs = cur' ∧ k (.msl b off (n + m) cap) (S.set p (.cells b cur'))) ∧
          (cap < n + m → ∃ old, (cur.drop off).take (n * (lkT τ e).sz) ++ cs = old ∧ ∀ b' cap' rest, n + m ≤ cap' → rest.length = (cap' - (n + m)) * (lkT τ e).sz → k (.msl b' 0 (n + m) cap') (conT (lkT τ e) b' e (old ++ rest) S)))) ∨
       ((∃ q0, (lkT τ t').d = .int q0) ∧ (∃ q, x = .int q (m : Int)) ∧ cap < n + m ∧ ∃ old, (cur.drop off).take (n * (lkT τ e).sz) = old ∧ ∀ b' cap' rest, n + m ≤ cap' → rest.length = (cap' - n) * (lkT τ e).sz → k (.msl b' 0 (n + m) cap') (.cells b' (old ++ rest) :: S)))
  | .append, [t, t'], [.nils, x] => ∃ e, (lkT τ t).d = .slice e ∧ (lkT τ e).d.known = true ∧ ∃ m cs, roomFor m (lkT τ e).by_ ∧ ((∃ e', (lkT τ t').d = .slice e') ∨ (lkT τ t').d = .str) ∧ ASrc S (lkT τ e).sz x m cs ∧
      (m = 0 → k .nils S) ∧ (0 < m → ∀ b cap rest, m ≤ cap → rest.length = (cap - m) * (lkT τ e).sz → k (.msl b 0 m cap) (conT (lkT τ e) b e (cs ++ rest) S))
  | .unsafeSliceData, _, [.nils] => k .nilp S
  | .unsafeSliceData, _, [.msl b off n _] => 0 < n ∧ k (.ptr b off) S
  | .unsafeString, [pt, _], [.nilp, .int q n] => q = .i64 ∧ n = ((0 : Nat) : Int) ∧ k (.str []) S
  | .unsafeString, [pt, _], [.ptr b off, .int q n] => ∃ e, (lkT τ pt).d = .ptr e ∧ (lkT τ e).d = .int .u8 ∧ (lkT τ e).sz = 1 ∧ off = 0 ∧ q = .i64 ∧ ∃ (l : List UInt8) (p : Nat) (cur : List AV), l ≠ [] ∧ n = (l.length : Nat) ∧ S[p]? = some (.cells b cur) ∧ En.ty b e ∈ S ∧ cur.take l.length = u8s l ∧ k (.str l) (S.eraseIdx p)
  | .copy, [t, _], [.msl b off n _, x] => ∃ e, (lkT τ t).d = .slice e ∧ (lkT τ e).d.known = true ∧ ∃ m cs p cur, ASrc S (lkT τ e).sz x m cs ∧ S[p]? = some (.cells b cur) ∧ off + min m n * (lkT τ e).sz ≤ cur.length ∧
      ∃ cur', setCells cur off (cs.take (min m n * (lkT τ e).sz)) = cur' ∧ k (.int .i64 (min m n : Nat)) (S.set p (.cells b cur'))
  | .clear, t :: [], [.msl b off n _] => ∃ e, (lkT τ t).d = .slice e ∧ (lkT τ e).d.known = true ∧ ((n = 0 ∧ k (.tup []) S) ∨
      ∃ p cs, S[p]? = some (.cells b cs) ∧ off + n * (lkT τ e).sz ≤ cs.length ∧ ∃ cs', setCells cs off (zerosAV (lkT τ e).zero n) = cs' ∧ k (.tup []) (S.set p (.cells b cs')))
  | _, _, _ => False

def astep (P : Program) (τ : List (TypeId × TI)) (op : Op) (ρ : Operand → AV) (S : List En) (k : AV → List En → Prop) : Prop :=
  match op with
  | .move x => k (ρ x) S
  | .assign x => k (ρ x) S
  | .pick c a b => match ρ c with
    | .bool t => k (bif t then ρ a else ρ b) S
    | _ => False
  | .alloc t => (lkT τ t).d.known = true ∧ ∀ b, k (.ptr b 0) (allocT (lkT τ t) b t S)
  | .box _ x => (ρ x).plain = true ∧ ∀ b, k (.ptr b 0) (.cells b (ρ x).cells :: S)
  | .build t parts => match (lkT τ t).d with
    | .struct fs => fs.all (fun p => (lkT τ p.2).d.known) = true ∧ ∃ cs, aFill (placeS τ fs) (lkT τ t).zero (parts.toList.map fun p => (p.1, ρ p.2)) = some cs ∧ k (.agg cs) S
    | .array _ e => (lkT τ e).d.known = true ∧ ∃ cs, aFill (fun i => some (i * (lkT τ e).sz, (lkT τ e).sz)) (lkT τ t).zero (parts.toList.map fun p => (p.1, ρ p.2)) = some cs ∧ k (.agg cs) S
    | _ => False
  | .buildSlice t len parts => match (lkT τ t).d with
    | .slice e => (lkT τ e).d.known = true ∧ parts.toList.map (·.1) = List.range len ∧ (parts.toList.map (fun p => ρ p.2)).all (fun x => x.plain && Nat.beq x.cells.length (lkT τ e).sz) = true ∧
        len * (lkT τ e).sz ≤ 16777216 ∧ len ≤ 16777216 ∧ k (.sl (lkT τ e).sz (parts.toList.map fun p => ρ p.2) .full) S
    | _ => False
  | .load t a => (lkT τ t).d.known = true ∧ match ρ a with
    | .ref cs => (1 ≤ (lkT τ t).sz ∧ (lkT τ t).sz ≤ cs.length) ∧ ∃ v, aLoad (lkT τ t) cs = v ∧ k v S
    | .ptr b off => ∃ (p : Nat) (cs : List AV), S[p]? = some (En.cells b cs) ∧ (1 ≤ (lkT τ t).sz ∧ (lkT τ t).sz ≤ (cs.drop off).length) ∧ ∃ v, aLoad (lkT τ t) (cs.drop off) = v ∧ k v S
    | .gl g => ∃ cs, En.glob g cs ∈ S ∧ (1 ≤ (lkT τ t).sz ∧ (lkT τ t).sz ≤ cs.length) ∧ ∃ v, aLoad (lkT τ t) cs = v ∧ k v S
    | _ => False
  | .makeInterface t x => (lkT τ t).d.conc = true ∧ k (.ifc t (ρ x)) S
  | .range t x => match (lkT τ t).d, ρ x with
    | .str, .str l => ∀ b, k (.ptr b 0) (.obj b (.stringIter ⟨l.toArray⟩ 0) :: S)
    | _, _ => False
  | .next x isS => match ρ x with
    | .ptr b off => isS = true ∧ off = 0 ∧ ∃ (p : Nat) (l : List UInt8) (pos : Nat), S[p]? = some (.obj b (.stringIter ⟨l.toArray⟩ pos)) ∧ pos ≤ l.length ∧ l.length ≤ maxLen ∧
        (∀ h : pos < l.length, ∀ c wd : Nat, (l[pos].toNat < 128 → c = l[pos].toNat ∧ wd = 1) → (128 ≤ l[pos].toNat → 128 ≤ c) → 1 ≤ wd → c ≤ 2147483647 → k (.tup [.bool true, .int .i64 (pos : Nat), .int .i32 (c : Nat)]) (S.set p (.obj b (.stringIter ⟨l.toArray⟩ (pos + wd))))) ∧
        (pos = l.length → k (.tup [.bool false]) S)
    | _ => False
  | .store t a x => (lkT τ t).d.known = true ∧ match ρ a with
    | .ptr b off => ∃ (p : Nat) (cs : List AV), S[p]? = some (En.cells b cs) ∧ (ρ x).plain = true ∧ (ρ x).cells.length = (lkT τ t).sz ∧ off + (lkT τ t).sz ≤ cs.length ∧ ∃ cs', setCells cs off (ρ x).cells = cs' ∧ k .junk (S.set p (.cells b cs'))
    | _ => False
  | .binOp op t x y _ => match ρ x, ρ y with
    | .agg cs, .agg ds => (∃ ks, EqK P t ks ∧ fitK ks cs ds = true) ∧ ∃ r, eqCells cs ds = some r ∧ (match op with | .eql => k (.bool r) S | .neq => k (.bool (!r)) S | _ => False)
    | .bool a, .bool b => (lkT τ t).d = .bool ∧ aBin op (.bool a) (.bool b) (fun v => k v S)
    | .int q a, .int q' b => aBin op (.int q a) (.int q' b) (fun v => k v S)
    | .str a, .str b => aBin op (.str a) (.str b) (fun v => k v S)
    | .sl _ es _, .sl _ _ _ => y = .const (.slice none 0 0) ∧ (∃ e, (lkT τ t).d = .slice e) ∧ (match op with
        | .eql => ∀ b, (es ≠ [] → b = false) → k (.bool b) S
        | .neq => ∀ b, (es ≠ [] → b = false) → k (.bool (!b)) S
        | _ => False)
    | .ptr b o, .nilp => (∃ e, (lkT τ t).d = .ptr e ∧ (lkT τ e).d.known = true) ∧ (match op with | .eql => True → k (.bool false) S | .neq => True → k (.bool true) S | _ => False)
    | .nilp, .nilp => (∃ e, (lkT τ t).d = .ptr e) ∧ (match op with | .eql => True → k (.bool true) S | .neq => True → k (.bool false) S | _ => False)
    | .ptr b o, .ptr b' o' => (∃ e, (lkT τ t).d = .ptr e ∧ (lkT τ e).d.known = true) ∧ (b = b' ∧ o = o') ∧ (match op with | .eql => True → k (.bool true) S | .neq => True → k (.bool false) S | _ => False)
    | .ifc _ _, .nilif => (lkT τ t).d = .iface ∧ (match op with | .eql => True → k (.bool false) S | .neq => True → k (.bool true) S | _ => False)
    | .nilif, .nilif => (lkT τ t).d = .iface ∧ (∃ v, y = .const v) ∧ (match op with | .eql => True → k (.bool true) S | .neq => True → k (.bool false) S | _ => False)
    | _, _ => False
  | .unOp op _ x => match op, ρ x with
    | .not, .bool b => k (.bool (!b)) S
    | .neg, .int q n => k (.int q (q.wrap (0 - n))) S
    | .xor, .int q n => k (.int q (q.wrap (BitVec.ofInt q.bits (if q.signed then -1 else q.max) ^^^ BitVec.ofInt q.bits n).toNat)) S
    | _, _ => False
  | .convert src dst x => match (lkT τ src).d, (lkT τ dst).d, ρ x with
    | .int _, .int q, .int _ n => k (.int q (q.wrap n)) S
    | .str, .str, .str s => k (.str s) S
    | .slice e, .str, .sl _ es _ => (lkT τ e).d = .int .u8 ∧ ∃ l, es = u8s l ∧ k (.str l) S
    | .slice e, .str, .msl b off n _ => (lkT τ e).d = .int .u8 ∧ ∃ l : List UInt8, n = l.length ∧ (n = 0 ∨ ∃ (p : Nat) (cur : List AV), S[p]? = some (En.cells b cur) ∧ (cur.drop off).take n = u8s l) ∧ k (.str l) S
    | .ptr e, .uptr, .ptr b off => (lkT τ e).d.known = true ∧ 1 ≤ (lkT τ e).sz ∧ ∃ (p : Nat) (cs : List AV), S[p]? = some (En.cells b cs) ∧ off < cs.length ∧ k (.ptr b off) S
    | .uptr, .ptr u, .ptr b off => (lkT τ u).d.known = true ∧ ∃ (p : Nat) (cs : List AV) (T : TypeId), S[p]? = some (En.cells b cs) ∧ En.ty b T ∈ S ∧ liesAt P P.depth T (cs.length / P.cellsOf T) off u 1 = true ∧ k (.ptr b off) S
    | _, _, _ => False
  | .makeFunc fn first cap => k (.fn fn (first.toList.map ρ) (cap.toList.map ρ)) S
  | .slice t x lo hi mx => match (lkT τ t).d, ρ x with
    | .str, .str s => mx = none ∧ 0 ≤ bnd (oev ρ lo) 0 ∧ bnd (oev ρ lo) 0 ≤ bnd (oev ρ hi) s.length ∧ bnd (oev ρ hi) s.length ≤ s.length ∧
        ∃ r, (s.take (bnd (oev ρ hi) s.length).toNat).drop (bnd (oev ρ lo) 0).toNat = r ∧ k (.str r) S
    | .slice e, .sl sz es tk => (lkT τ e).d.known = true ∧ ((lkT τ e).sz = sz ∨ es = []) ∧ (mx.isSome = true → hi.isSome = true) ∧ 0 ≤ bnd (oev ρ lo) 0 ∧ bnd (oev ρ lo) 0 ≤ bnd (oev ρ hi) es.length ∧ bnd (oev ρ hi) es.length ≤ es.length ∧
        (mx.isSome = true → bnd (oev ρ hi) es.length ≤ bnd (oev ρ mx) 0 ∧ bnd (oev ρ mx) 0 ≤ es.length) ∧
        ∃ r, (es.take (bnd (oev ρ hi) es.length).toNat).drop (bnd (oev ρ lo) 0).toNat = r ∧ k (.sl sz r (tkSlice tk (oev ρ lo) (oev ρ hi) (oev ρ mx) (bnd (oev ρ hi) es.length) (bnd (oev ρ mx) 0))) S
    | .slice e, .msl b off n cap => (lkT τ e).d.known = true ∧ (mx.isSome = true → hi.isSome = true) ∧ 0 ≤ bnd (oev ρ lo) 0 ∧ bnd (oev ρ lo) 0 ≤ bnd (oev ρ hi) n ∧ bnd (oev ρ hi) n ≤ bnd (oev ρ mx) cap ∧ bnd (oev ρ mx) cap ≤ cap ∧
        ∃ o n' c', off + (bnd (oev ρ lo) 0).toNat * (lkT τ e).sz = o ∧ (bnd (oev ρ hi) n).toNat - (bnd (oev ρ lo) 0).toNat = n' ∧ (bnd (oev ρ mx) cap).toNat - (bnd (oev ρ lo) 0).toNat = c' ∧ k (.msl b o n' c') S
    | _, _ => False
  | .fieldAddr t x f => match (lkT τ t).d with
    | .struct fs => ∃ off ft, fs[f]? = some (off, ft) ∧ (lkT τ ft).d.known = true ∧ 1 ≤ (lkT τ ft).sz ∧ (match ρ x with
        | .ptr b o => k (.ptr b (o + off)) S
        | .ref cs => off ≤ cs.length ∧ k (.ref (cs.drop off)) S
        | _ => False)
    | _ => False
  | .field t x f => match (lkT τ t).d, ρ x with
    | .struct fs, .agg cs => ∃ off ft, fs[f]? = some (off, ft) ∧ (lkT τ ft).d.known = true ∧ (1 ≤ (lkT τ ft).sz ∧ (lkT τ ft).sz ≤ (cs.drop off).length) ∧ k (aPart (lkT τ ft) cs off) S
    | _, _ => False
  | .indexAddr t x i => match (lkT τ t).d, ρ x, ρ i with
    | .slice e, .sl sz es _, .int _ n => (lkT τ e).d.known = true ∧ (lkT τ e).sz = sz ∧ 0 ≤ n ∧ ∃ v, es[n.toNat]? = some v ∧ k (.ref v.cells) S
    | .slice e, .msl b off len _, .int _ n => (lkT τ e).d.known = true ∧ 0 ≤ n ∧ n < len ∧ ∃ o, off + n.toNat * (lkT τ e).sz = o ∧ k (.ptr b o) S
    | .array len e, .ptr b off, .int _ n => (lkT τ e).d.known = true ∧ 0 ≤ n ∧ n < len ∧ ∃ o, off + n.toNat * (lkT τ e).sz = o ∧ k (.ptr b o) S
    | .array len e, .gl g, .int _ n => (lkT τ e).d.known = true ∧ 0 ≤ n ∧ n < len ∧ ∃ cs, En.glob g cs ∈ S ∧ ∃ r, (cs.drop (n.toNat * (lkT τ e).sz)).take (lkT τ e).sz = r ∧ k (.ref r) S
    | _, _, _ => False
  | .index t x i => match (lkT τ t).d, ρ x, ρ i with
    | .str, .str s, .int _ n => 0 ≤ n ∧ ∃ c, s[n.toNat]? = some c ∧ k (.int .u8 c.toNat) S
    | .array len e, .agg cs, .int _ n => (lkT τ e).d.known = true ∧ 0 ≤ n ∧ n < len ∧ (1 ≤ (lkT τ e).sz ∧ (lkT τ e).sz ≤ (cs.drop (n.toNat * (lkT τ e).sz)).length) ∧ k (aPart (lkT τ e) cs (n.toNat * (lkT τ e).sz)) S
    | _, _, _ => False
  | .extract x i => match ρ x with
    | .tup vs => ∃ v, vs[i]? = some v ∧ k v S
    | _ => False
  | .nilCheck x => match ρ x with
    | .ptr b o => k (.ptr b o) S
    | .ref cs => k (.ref cs) S
    | _ => False
  | .makeMap _ none => ∀ b, k (.map b) (.map b (mkM []) :: S)
  | .lookup t m x ok => match ρ m, ρ x with
    | .map b, .str s => ∃ (kt e : TypeId) (z : AV) (p : Nat) (l : List (List UInt8 × AV)), (lkT τ t).d = .map kt e ∧ (lkT τ kt).d = .str ∧ zeroIs P e z ∧ S[p]? = some (En.map b (mkM l)) ∧ ∃ r, mget s z l = r ∧ k (lkV ok r) S
    | _, _ => False
  | .mapUpdate t m x y => match ρ m, ρ x with
    | .map b, .str s => ∃ (kt e : TypeId) (p : Nat) (l : List (List UInt8 × AV)), (lkT τ t).d = .map kt e ∧ (lkT τ kt).d = .str ∧ S[p]? = some (En.map b (mkM l)) ∧ ∃ l', mput s (ρ y) l = l' ∧ k .junk (S.set p (.map b (mkM l')))
    | _, _ => False
  | .mapEntry t m x => match ρ m, ρ x with
    | .map b, .str s => ∃ (kt e : TypeId) (z : AV) (p : Nat) (l : List (List UInt8 × AV)), (lkT τ t).d = .map kt e ∧ (lkT τ kt).d = .str ∧ zeroIs P e z ∧ S[p]? = some (En.map b (mkM l)) ∧ (∀ q ∈ l, q.1 ≠ s) ∧ l.length ≤ 9223372036854775807 ∧
        k (.tup [z, .int .i64 (l.length : Nat)]) (S.set p (.map b (mkM (l ++ [(s, z)]))))
    | _, _ => False
  | .entryStore _ m x y => match ρ m, ρ x with
    | .map b, .int _ n => ∃ (p : Nat) (l : List (List UInt8 × AV)) (j : Nat) (q : List UInt8 × AV), n = (j : Int) ∧ S[p]? = some (En.map b (mkM l)) ∧ l[j]? = some q ∧ ∃ l', l.set j (q.1, ρ y) = l' ∧ k .junk (S.set p (.map b (mkM l')))
    | _, _ => False
  | .makeSlice t x y => match (lkT τ t).d, ρ x, ρ y with
    | .slice e, .int _ a, .int _ c => (lkT τ e).d.known = true ∧ ∃ n m : Nat, a = (n : Int) ∧ c = (m : Int) ∧ n ≤ m ∧ roomFor m (lkT τ e).by_ ∧
        ((n = 0 ∧ ∀ t', k (.sl (lkT τ e).sz [] t') (.grow t' :: S)) ∨ (∀ b, k (.msl b 0 n m) (.cells b (zerosAV (lkT τ e).zero m) :: S)))
    | _, _, _ => False
  | .call c => match c.callee with
    | .value f => aCallV P (ρ f) (c.args.toList.map ρ) S k
    | .builtin b => aBuiltin P τ b c.argTypes.toList (c.args.toList.map ρ) S k
    | _ => False
  | _ => False
end Go.Aw
