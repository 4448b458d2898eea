/-
  One operation,and a region's operations in their order. Own work.
-/
import Derived.Test.YtfeknkaioofljaaGreatDoorA3
set_option linter.all false
namespace Go.Aw
open Go.RowKit
def eq1 : AV → AV → Option Bool
  | .int _ a, .int _ b => some (decide (a = b))
  | .bool a, .bool b => some (a == b)
  | .str a, .str b => some (decide (a = b))
  | _,_ => none
def eqCells : List AV → List AV → Option Bool
  | [], [] => some true
  | a :: as,b :: bs => match eq1 a b,eqCells as bs with
    | some x,some y => some (x && y)
    | _,_ => none
  | _,_ => none
def plainKind : Option TypeDesc → Bool
  | some (.int _) | some .bool | some .string => true
  | _ => false
def fieldsFlat (P : Program) : Nat → List Field → Bool
  | _, [] => true
  | n, f :: fs => f.name != "_" && Nat.beq f.offset n && plainKind (P.underlying f.type) && fieldsFlat P (n + 1) fs
structure EqOk (P : Program) (t : TypeId) : Prop where
  ht : P.underlying t = some (.struct (P.fieldsOf t))
  hp : P.stoodInHeld t = false
  hm : P.eqGuardType P.depth t = false
  hf : fieldsFlat P 0 (P.fieldsOf t).toList = true
theorem isAgg_plain {P : Program} {t : TypeId} (h : plainKind (P.underlying t) = true) (w : World) : (isAgg t).run P w = .ok false w := by
  cases hu : P.underlying t with
  | none => rw [hu] at h; cases h
  | some d => rw [hu] at h; unfold isAgg; cases d <;> simp [plainKind] at h <;> simp [run_underlying hu]
theorem run_eq1 {P : Program} {w : World} {K : Kn} {t : TypeId} (h : plainKind (P.underlying t) = true) {a b : AV} {x y : Value} (ha : Rel K a x) (hb : Rel K b y) {r : Bool} (hr : eq1 a b = some r) (d : Nat)
    (hx : match P.underlying t,a with | some (.int _), .int _ _ | some .bool, .bool _ | some .string, .str _ => True | _,_ => False) (hk : ∀ k k' n m,a = .int k n → b = .int k' m → k = k') :
    (Op.equalIn (d + 1) t x y).run P w = .ok r w := by
  cases hu : P.underlying t with
  | none => rw [hu] at h; cases h
  | some ds =>
    rw [hu] at hx
    cases a with
    | bool p =>
      cases b with
      | bool q =>
        simp only [eq1,Option.some.injEq] at hr
        subst hr
        cases ds <;> simp at hx
        cases ha; cases hb
        exact equalIn_bool w d t p q hu
      | _ => simp [eq1] at hr
    | int k p =>
      cases b with
      | int k' q =>
        simp only [eq1,Option.some.injEq] at hr
        subst hr
        have := hk k k' p q rfl rfl
        subst this
        cases ds <;> simp at hx
        cases ha; cases hb
        rw [run_equalIn_int w d t k _ p q hu,beq_decide]
      | _ => simp [eq1] at hr
    | str p =>
      cases b with
      | str q =>
        simp only [eq1,Option.some.injEq] at hr
        subst hr
        cases ds <;> simp at hx
        cases ha; cases hb
        rw [run_equalIn_string w d t _ _ hu,ByteArray.toList_mk,ByteArray.toList_mk,beq_decide]
      | _ => simp [eq1] at hr
    | _ => simp [eq1] at hr
def fitKinds (P : Program) : List Field → List AV → List AV → Prop
  | [], [], [] => True
  | f :: fs,a :: as,b :: bs => (match P.underlying f.type,a,b with
      | some (.int k), .int q _, .int q' _ => q = k ∧ q' = k
      | some .bool, .bool _, .bool _ => True
      | some .string, .str _, .str _ => True
      | _,_,_ => False) ∧ fitKinds P fs as bs
  | _,_,_ => False
theorem run_eqFields {P : Program} {w : World} {K : Kn} (d : Nat) : ∀ (fs : List Field) (n : Nat) (cs ds : List AV) (xs ys : Array Value) (r : Bool),fieldsFlat P n fs = true → RelL K cs (xs.toList.drop n) → RelL K ds (ys.toList.drop n) →
    fitKinds P fs cs ds → eqCells cs ds = some r → (Op.eqFields (d + 1) xs ys fs).run P w = .ok r w := by
  intro fs
  induction fs with
  | nil =>
    intro n cs ds xs ys r _ _ _ hf hr
    cases cs <;> cases ds <;> simp only [fitKinds] at hf
    simp only [eqCells,Option.some.injEq] at hr
    subst hr; rfl
  | cons f fs ih =>
    intro n cs ds xs ys r hfl hc hd hf hr
    cases cs with
    | nil => cases ds <;> simp only [fitKinds] at hf
    | cons a cs =>
      cases ds with
      | nil => simp only [fitKinds] at hf
      | cons b ds =>
        simp only [fitKinds] at hf
        obtain ⟨hf1,hf2⟩ := hf
        simp only [fieldsFlat,Bool.and_eq_true,bne_iff_ne,ne_eq] at hfl
        obtain ⟨⟨⟨hn,ho⟩,hp⟩,hrest⟩ := hfl
        have ho' : f.offset = n := Nat.eq_of_beq_eq_true ho
        obtain ⟨x,rx,hx,hax,hcx⟩ := hc.cons_inv
        obtain ⟨y,ry,hy,hby,hdy⟩ := hd.cons_inv
        simp only [eqCells] at hr
        cases h1 : eq1 a b with
        | none => rw [h1] at hr; cases hr
        | some u =>
          cases h2 : eqCells cs ds with
          | none => rw [h1,h2] at hr; cases hr
          | some v =>
            rw [h1,h2] at hr
            simp only [Option.some.injEq] at hr
            subst hr
            have hxn : xs[n]? = some x := by have : (xs.toList.drop n)[0]? = some x := by rw [hx]; rfl
                                             simpa using this
            have hyn : ys[n]? = some y := by have : (ys.toList.drop n)[0]? = some y := by rw [hy]; rfl
                                             simpa using this
            have px : (part f.type xs f.offset).run P w = .ok x w := by
              unfold part; rw [run_bind_ok (isAgg_plain hp w)]; simp [ho',hxn]
            have py : (part f.type ys f.offset).run P w = .ok y w := by
              unfold part; rw [run_bind_ok (isAgg_plain hp w)]; simp [ho',hyn]
            have he := run_eq1 (P := P) (w := w) hp hax hby h1 d (by
              revert hf1
              cases P.underlying f.type with
              | none => exact fun h => h.elim
              | some t => cases t <;> cases a <;> cases b <;> simp) (by
              intro k k' p q ha hb
              subst ha; subst hb
              revert hf1
              cases P.underlying f.type with
              | none => exact fun h => h.elim
              | some t => cases t <;> simp; intro h1 h2; rw [h1,h2])
            simp only [Op.eqFields,hn,ne_eq,not_false_eq_true,if_true]
            rw [run_bind_ok px,run_bind_ok py,run_bind_ok he]
            have hdr : ∀ (zs : Array Value) (z : Value) (rz : List Value),zs.toList.drop n = z :: rz → zs.toList.drop (n + 1) = rz := by
              intro zs z rz hz
              have := congrArg List.tail hz
              simpa using this
            cases u with
            | false => simp
            | true =>
              simp only [Bool.not_true,Bool.false_eq_true,if_false,Bool.true_and]
              exact ih (n + 1) cs ds xs ys v hrest (by rw [hdr xs x rx hx]; exact hcx) (by rw [hdr ys y ry hy]; exact hdy) hf2 h2
theorem run_eqStruct {P : Program} {w : World} {K : Kn} {t : TypeId} (h : EqOk P t) {cs ds : List AV} {x y : Value} (hx : Rel K (.agg cs) x) (hy : Rel K (.agg ds) y) (hf : fitKinds P (P.fieldsOf t).toList cs ds) {r : Bool} (hr : eqCells cs ds = some r) (ox oy : Operand) :
    ((do eqGuard .eql t ox oy x y; binOp .eql t x y : Sem Value)).run P w = .ok (.bool r) w ∧ ((do eqGuard .neq t ox oy x y; binOp .neq t x y : Sem Value)).run P w = .ok (.bool (!r)) w := by
  cases hx with
  | @agg _ vs h1 hl h' =>
    cases hy with
    | @agg _ us h1' hl' h'' =>
      have he : (Op.equalIn 10000 t (.agg vs.toArray) (.agg us.toArray)).run P w = .ok r w := by
        rw [run_equalIn_struct w 9999 t _ _ h.ht h.hp]
        exact run_eqFields 9998 _ 0 cs ds _ _ r h.hf (⟨hl,h'⟩ : RelL K cs vs) (⟨hl',h''⟩ : RelL K ds us) hf hr
      constructor
      · rw [run_bind_ok (run_eqGuard_agg w .eql t ox oy _ _ h.hm),run_eql_struct,he]; rfl
      · rw [run_bind_ok (run_eqGuard_agg w .neq t ox oy _ _ h.hm),run_neq_struct,he]; rfl
inductive PK where
  | int (k : IntKind) | bool | str
def PK.desc : PK → TypeDesc
  | .int k => .int k
  | .bool => .bool
  | .str => .string
def fitK : List PK → List AV → List AV → Bool
  | [], [], [] => true
  | .int k :: ks, .int q _ :: as, .int q' _ :: bs => decide (q = k) && decide (q' = k) && fitK ks as bs
  | .bool :: ks, .bool _ :: as, .bool _ :: bs => fitK ks as bs
  | .str :: ks, .str _ :: as, .str _ :: bs => fitK ks as bs
  | _,_,_ => false
structure EqK (P : Program) (t : TypeId) (ks : List PK) : Prop extends EqOk P t where
  hk : (P.fieldsOf t).toList.map (fun f => P.underlying f.type) = ks.map (fun k => some k.desc)
theorem fitK_fit {P : Program} : ∀ (fs : List Field) (ks : List PK) (cs ds : List AV),fs.map (fun f => P.underlying f.type) = ks.map (fun k => some k.desc) → fitK ks cs ds = true → fitKinds P fs cs ds
  | [], [],cs,ds,_,h => by
    cases cs <;> cases ds <;> simp [fitK] at h ⊢
    trivial
  | [],k :: ks,_,_,h,_ => by simp at h
  | f :: fs, [],_,_,h,_ => by simp at h
  | f :: fs,k :: ks,cs,ds,h,hk => by
    simp only [List.map_cons,List.cons.injEq] at h
    cases cs with
    | nil => cases k <;> simp [fitK] at hk
    | cons a as =>
      cases ds with
      | nil => cases k <;> cases a <;> simp [fitK] at hk
      | cons b bs =>
        cases k with
        | int q =>
          cases a <;> cases b <;> simp [fitK] at hk
          refine ⟨?_,fitK_fit fs ks as bs h.2 hk.2⟩
          rw [h.1]; exact hk.1
        | bool =>
          cases a <;> cases b <;> simp [fitK] at hk
          refine ⟨?_,fitK_fit fs ks as bs h.2 hk⟩
          rw [h.1]; trivial
        | str =>
          cases a <;> cases b <;> simp [fitK] at hk
          refine ⟨?_,fitK_fit fs ks as bs h.2 hk⟩
          rw [h.1]; trivial
def TD.conc (d : TD) : Bool := match d with
  | .other | .iface => false
  | _ => true
def oev (ρ : Operand → AV) : Option Operand → Option AV
  | some x => some (ρ x)
  | none => none
def fnOk (P : Program) (f : FuncId) : Prop := ∃ fn, P.funcs[f]? = some fn ∧ (fn.name == "runtime.NumGoroutine") = false ∧ fn.body.isNone = false
def aCallV (P : Program) (f : AV) (args : List AV) (S : List En) (k : AV → List En → Prop) : Prop :=
  match f with
  | .fn (.func g) first cap => (fnOk P g ∧ ACall P g (first ++ args ++ cap) S k) ∨ AExt P g (first ++ args ++ cap) S k
  | .fn (.yield l) [] [] => AYield P l args S k
  | _ => False
def aBuiltin (P : Program) (τ : List (TypeId × TI)) (b : Builtin) (ts : List TypeId) (args : List AV) (S : List En) (k : AV → List En → Prop) : Prop :=
  match b,ts,args with
  | .len,t :: _, [.sl _ es _] => (∃ e,(lkT τ t).d = .slice e) ∧ k (.int .i64 es.length) S
  | .len,t :: _, [.msl _ _ n _] => (∃ e,(lkT τ t).d = .slice e) ∧ k (.int .i64 n) S
  | .len,t :: _, [.nils] => (∃ e,(lkT τ t).d = .slice e) ∧ k (.int .i64 ((0 : Nat) : Int)) S
  | .len,t :: _, [.str s] => (lkT τ t).d = .str ∧ k (.int .i64 s.length) S
  | .cap,t :: _, [.msl _ _ _ c] => (∃ e,(lkT τ t).d = .slice e) ∧ k (.int .i64 c) S
  | .min,_, [.int q a, .int q' b] => q = q' ∧ k (.int q (min a b)) S
  | .max,_, [.int q a, .int q' b] => q = q' ∧ k (.int q (max a b)) S
  | .append, [t,t'], [.sl sz es tk, .sl sz' xs _] => ∃ e,(lkT τ t).d = .slice e ∧ t' = t ∧ (lkT τ e).d.known = true ∧ roomFor (es.length + xs.length) (lkT τ e).by_ ∧ ((lkT τ e).sz = sz' ∨ xs = []) ∧
      ((tk = .full ∧ ((lkT τ e).sz = sz ∨ es = []) ∧ ∃ r,es ++ xs = r ∧ ∀ t',k (.sl (lkT τ e).sz r t') (.grow t' :: S)) ∨
       ((lkT τ e).sz = sz ∧ ∃ p,S[p]? = some (.grow tk) ∧ ∃ r,es ++ xs = r ∧ ∀ t',k (.sl (lkT τ e).sz r t') (S.set p (.grow t'))) ∨
       (tk = .full ∧ es = [] ∧ ∃ r n,flat xs = r ∧ xs.length = n ∧ ∀ b cap rest,n ≤ cap → (n = 0 → cap = 0) → rest.length = (cap - n) * (lkT τ e).sz → k (.msl b 0 n cap) (hold n b (r ++ rest) S)))
  | .append, [t,t'], [.msl b off n cap,x] => ∃ e,(lkT τ t).d = .slice e ∧ (lkT τ e).d.known = true ∧ ∃ m p cur,roomFor (n + m) (lkT τ e).by_ ∧ S[p]? = some (.cells b cur) ∧ off + n * (lkT τ e).sz ≤ cur.length ∧
      (((((∃ e',(lkT τ t').d = .slice e') ∨ (lkT τ t').d = .str) ∧ ∃ cs,ASrc S (lkT τ e).sz x m cs ∧
          (n + m ≤ cap → off + (n + m) * (lkT τ e).sz ≤ cur.length ∧ ∃ cur',setCells cur (off + n * (lkT τ e).sz) cs = cur' ∧ k (.msl b off (n + m) cap) (S.set p (.cells b cur'))) ∧
          (cap < n + m → ∃ old,(cur.drop off).take (n * (lkT τ e).sz) ++ cs = old ∧ ∀ b' cap' rest,n + m ≤ cap' → rest.length = (cap' - (n + m)) * (lkT τ e).sz → k (.msl b' 0 (n + m) cap') (conT (lkT τ e) b' e (old ++ rest) S)))) ∨
       ((∃ q0,(lkT τ t').d = .int q0) ∧ (∃ q,x = .int q (m : Int)) ∧ cap < n + m ∧ ∃ old,(cur.drop off).take (n * (lkT τ e).sz) = old ∧ ∀ b' cap' rest,n + m ≤ cap' → rest.length = (cap' - n) * (lkT τ e).sz → k (.msl b' 0 (n + m) cap') (.cells b' (old ++ rest) :: S)))
  | .append, [t,t'], [.nils,x] => ∃ e,(lkT τ t).d = .slice e ∧ (lkT τ e).d.known = true ∧ ∃ m cs,roomFor m (lkT τ e).by_ ∧ ((∃ e',(lkT τ t').d = .slice e') ∨ (lkT τ t').d = .str) ∧ ASrc S (lkT τ e).sz x m cs ∧
      (m = 0 → k .nils S) ∧ (0 < m → ∀ b cap rest,m ≤ cap → rest.length = (cap - m) * (lkT τ e).sz → k (.msl b 0 m cap) (conT (lkT τ e) b e (cs ++ rest) S))
  | .unsafeSliceData,_, [.nils] => k .nilp S
  | .unsafeSliceData,_, [.msl b off n _] => 0 < n ∧ k (.ptr b off) S
  | .unsafeString, [pt,_], [.nilp, .int q n] => q = .i64 ∧ n = ((0 : Nat) : Int) ∧ k (.str []) S
  | .unsafeString, [pt,_], [.ptr b off, .int q n] => ∃ e,(lkT τ pt).d = .ptr e ∧ (lkT τ e).d = .int .u8 ∧ (lkT τ e).sz = 1 ∧ off = 0 ∧ q = .i64 ∧ ∃ (l : List UInt8) (p : Nat) (cur : List AV),l ≠ [] ∧ n = (l.length : Nat) ∧ S[p]? = some (.cells b cur) ∧ En.ty b e ∈ S ∧ cur.take l.length = u8s l ∧ k (.str l) (S.eraseIdx p)
  | .copy, [t,_], [.msl b off n _,x] => ∃ e,(lkT τ t).d = .slice e ∧ (lkT τ e).d.known = true ∧ ∃ m cs p cur,ASrc S (lkT τ e).sz x m cs ∧ S[p]? = some (.cells b cur) ∧ off + min m n * (lkT τ e).sz ≤ cur.length ∧
      ∃ cur',setCells cur off (cs.take (min m n * (lkT τ e).sz)) = cur' ∧ k (.int .i64 (min m n : Nat)) (S.set p (.cells b cur'))
  | .clear,t :: [], [.msl b off n _] => ∃ e,(lkT τ t).d = .slice e ∧ (lkT τ e).d.known = true ∧ ((n = 0 ∧ k (.tup []) S) ∨
      ∃ p cs,S[p]? = some (.cells b cs) ∧ off + n * (lkT τ e).sz ≤ cs.length ∧ ∃ cs',setCells cs off (zerosAV (lkT τ e).zero n) = cs' ∧ k (.tup []) (S.set p (.cells b cs')))
  | _,_,_ => False
def astep (P : Program) (τ : List (TypeId × TI)) (op : Op) (ρ : Operand → AV) (S : List En) (k : AV → List En → Prop) : Prop :=
  match op with
  | .move x => k (ρ x) S
  | .assign x => k (ρ x) S
  | .pick c a b => match ρ c with
    | .bool t => k (bif t then ρ a else ρ b) S
    | _ => False
  | .alloc t => (lkT τ t).d.known = true ∧ ∀ b,k (.ptr b 0) (allocT (lkT τ t) b t S)
  | .box _ x => (ρ x).plain = true ∧ ∀ b,k (.ptr b 0) (.cells b (ρ x).cells :: S)
  | .build t parts => match (lkT τ t).d with
    | .struct fs => fs.all (fun p => (lkT τ p.2).d.known) = true ∧ ∃ cs,aFill (placeS τ fs) (lkT τ t).zero (parts.toList.map fun p => (p.1, ρ p.2)) = some cs ∧ k (.agg cs) S
    | .array _ e => (lkT τ e).d.known = true ∧ ∃ cs,aFill (fun i => some (i * (lkT τ e).sz,(lkT τ e).sz)) (lkT τ t).zero (parts.toList.map fun p => (p.1, ρ p.2)) = some cs ∧ k (.agg cs) S
    | _ => False
  | .buildSlice t len parts => match (lkT τ t).d with
    | .slice e => (lkT τ e).d.known = true ∧ parts.toList.map (·.1) = List.range len ∧ (parts.toList.map (fun p => ρ p.2)).all (fun x => x.plain && Nat.beq x.cells.length (lkT τ e).sz) = true ∧
        len * (lkT τ e).sz ≤ 16777216 ∧ len ≤ 16777216 ∧ k (.sl (lkT τ e).sz (parts.toList.map fun p => ρ p.2) .full) S
    | _ => False
  | .load t a => (lkT τ t).d.known = true ∧ match ρ a with
    | .ref cs => (1 ≤ (lkT τ t).sz ∧ (lkT τ t).sz ≤ cs.length) ∧ ∃ v,aLoad (lkT τ t) cs = v ∧ k v S
    | .ptr b off => ∃ (p : Nat) (cs : List AV),S[p]? = some (En.cells b cs) ∧ (1 ≤ (lkT τ t).sz ∧ (lkT τ t).sz ≤ (cs.drop off).length) ∧ ∃ v,aLoad (lkT τ t) (cs.drop off) = v ∧ k v S
    | .gl g => ∃ cs,En.glob g cs ∈ S ∧ (1 ≤ (lkT τ t).sz ∧ (lkT τ t).sz ≤ cs.length) ∧ ∃ v,aLoad (lkT τ t) cs = v ∧ k v S
    | _ => False
  | .makeInterface t x => (lkT τ t).d.conc = true ∧ k (.ifc t (ρ x)) S
  | .range t x => match (lkT τ t).d, ρ x with
    | .str, .str l => ∀ b,k (.ptr b 0) (.obj b (.stringIter ⟨l.toArray⟩ 0) :: S)
    | _,_ => False
  | .next x isS => match ρ x with
    | .ptr b off => isS = true ∧ off = 0 ∧ ∃ (p : Nat) (l : List UInt8) (pos : Nat),S[p]? = some (.obj b (.stringIter ⟨l.toArray⟩ pos)) ∧ pos ≤ l.length ∧ l.length ≤ maxLen ∧
        (∀ h : pos < l.length, ∀ c wd : Nat,(l[pos].toNat < 128 → c = l[pos].toNat ∧ wd = 1) → (128 ≤ l[pos].toNat → 128 ≤ c) → 1 ≤ wd → c ≤ 2147483647 → k (.tup [.bool true, .int .i64 (pos : Nat), .int .i32 (c : Nat)]) (S.set p (.obj b (.stringIter ⟨l.toArray⟩ (pos + wd))))) ∧
        (pos = l.length → k (.tup [.bool false]) S)
    | _ => False
  | .store t a x => (lkT τ t).d.known = true ∧ match ρ a with
    | .ptr b off => ∃ (p : Nat) (cs : List AV),S[p]? = some (En.cells b cs) ∧ (ρ x).plain = true ∧ (ρ x).cells.length = (lkT τ t).sz ∧ off + (lkT τ t).sz ≤ cs.length ∧ ∃ cs',setCells cs off (ρ x).cells = cs' ∧ k .junk (S.set p (.cells b cs'))
    | _ => False
  | .binOp op t x y _ => match ρ x, ρ y with
    | .agg cs, .agg ds => (∃ ks,EqK P t ks ∧ fitK ks cs ds = true) ∧ ∃ r,eqCells cs ds = some r ∧ (match op with | .eql => k (.bool r) S | .neq => k (.bool (!r)) S | _ => False)
    | .bool a, .bool b => (lkT τ t).d = .bool ∧ aBin op (.bool a) (.bool b) (fun v => k v S)
    | .int q a, .int q' b => aBin op (.int q a) (.int q' b) (fun v => k v S)
    | .str a, .str b => aBin op (.str a) (.str b) (fun v => k v S)
    | .sl _ es _, .sl _ _ _ => y = .const (.slice none 0 0) ∧ (∃ e,(lkT τ t).d = .slice e) ∧ (match op with
        | .eql => ∀ b,(es ≠ [] → b = false) → k (.bool b) S
        | .neq => ∀ b,(es ≠ [] → b = false) → k (.bool (!b)) S
        | _ => False)
    | .ptr b o, .nilp => (∃ e,(lkT τ t).d = .ptr e ∧ (lkT τ e).d.known = true) ∧ (match op with | .eql => True → k (.bool false) S | .neq => True → k (.bool true) S | _ => False)
    | .nilp, .nilp => (∃ e,(lkT τ t).d = .ptr e) ∧ (match op with | .eql => True → k (.bool true) S | .neq => True → k (.bool false) S | _ => False)
    | .ptr b o, .ptr b' o' => (∃ e,(lkT τ t).d = .ptr e ∧ (lkT τ e).d.known = true) ∧ (b = b' ∧ o = o') ∧ (match op with | .eql => True → k (.bool true) S | .neq => True → k (.bool false) S | _ => False)
    | .ifc _ _, .nilif => (lkT τ t).d = .iface ∧ (match op with | .eql => True → k (.bool false) S | .neq => True → k (.bool true) S | _ => False)
    | .nilif, .nilif => (lkT τ t).d = .iface ∧ (∃ v,y = .const v) ∧ (match op with | .eql => True → k (.bool true) S | .neq => True → k (.bool false) S | _ => False)
    | _,_ => False
  | .unOp op _ x => match op, ρ x with
    | .not, .bool b => k (.bool (!b)) S
    | .neg, .int q n => k (.int q (q.wrap (0 - n))) S
    | .xor, .int q n => k (.int q (q.wrap (BitVec.ofInt q.bits (if q.signed then -1 else q.max) ^^^ BitVec.ofInt q.bits n).toNat)) S
    | _,_ => False
  | .convert src dst x => match (lkT τ src).d,(lkT τ dst).d, ρ x with
    | .int _, .int q, .int _ n => k (.int q (q.wrap n)) S
    | .str, .str, .str s => k (.str s) S
    | .slice e, .str, .sl _ es _ => (lkT τ e).d = .int .u8 ∧ ∃ l,es = u8s l ∧ k (.str l) S
    | .slice e, .str, .msl b off n _ => (lkT τ e).d = .int .u8 ∧ ∃ l : List UInt8,n = l.length ∧ (n = 0 ∨ ∃ (p : Nat) (cur : List AV),S[p]? = some (En.cells b cur) ∧ (cur.drop off).take n = u8s l) ∧ k (.str l) S
    | .ptr e, .uptr, .ptr b off => (lkT τ e).d.known = true ∧ 1 ≤ (lkT τ e).sz ∧ ∃ (p : Nat) (cs : List AV),S[p]? = some (En.cells b cs) ∧ off < cs.length ∧ k (.ptr b off) S
    | .uptr, .ptr u, .ptr b off => (lkT τ u).d.known = true ∧ ∃ (p : Nat) (cs : List AV) (T : TypeId),S[p]? = some (En.cells b cs) ∧ En.ty b T ∈ S ∧ liesAt P P.depth T (cs.length / P.cellsOf T) off u 1 = true ∧ k (.ptr b off) S
    | _,_,_ => False
  | .makeFunc fn first cap => k (.fn fn (first.toList.map ρ) (cap.toList.map ρ)) S
  | .slice t x lo hi mx => match (lkT τ t).d, ρ x with
    | .str, .str s => mx = none ∧ 0 ≤ bnd (oev ρ lo) 0 ∧ bnd (oev ρ lo) 0 ≤ bnd (oev ρ hi) s.length ∧ bnd (oev ρ hi) s.length ≤ s.length ∧
        ∃ r,(s.take (bnd (oev ρ hi) s.length).toNat).drop (bnd (oev ρ lo) 0).toNat = r ∧ k (.str r) S
    | .slice e, .sl sz es tk => (lkT τ e).d.known = true ∧ ((lkT τ e).sz = sz ∨ es = []) ∧ (mx.isSome = true → hi.isSome = true) ∧ 0 ≤ bnd (oev ρ lo) 0 ∧ bnd (oev ρ lo) 0 ≤ bnd (oev ρ hi) es.length ∧ bnd (oev ρ hi) es.length ≤ es.length ∧
        (mx.isSome = true → bnd (oev ρ hi) es.length ≤ bnd (oev ρ mx) 0 ∧ bnd (oev ρ mx) 0 ≤ es.length) ∧
        ∃ r,(es.take (bnd (oev ρ hi) es.length).toNat).drop (bnd (oev ρ lo) 0).toNat = r ∧ k (.sl sz r (tkSlice tk (oev ρ lo) (oev ρ hi) (oev ρ mx) (bnd (oev ρ hi) es.length) (bnd (oev ρ mx) 0))) S
    | .slice e, .msl b off n cap => (lkT τ e).d.known = true ∧ (mx.isSome = true → hi.isSome = true) ∧ 0 ≤ bnd (oev ρ lo) 0 ∧ bnd (oev ρ lo) 0 ≤ bnd (oev ρ hi) n ∧ bnd (oev ρ hi) n ≤ bnd (oev ρ mx) cap ∧ bnd (oev ρ mx) cap ≤ cap ∧
        ∃ o n' c',off + (bnd (oev ρ lo) 0).toNat * (lkT τ e).sz = o ∧ (bnd (oev ρ hi) n).toNat - (bnd (oev ρ lo) 0).toNat = n' ∧ (bnd (oev ρ mx) cap).toNat - (bnd (oev ρ lo) 0).toNat = c' ∧ k (.msl b o n' c') S
    | _,_ => False
  | .fieldAddr t x f => match (lkT τ t).d with
    | .struct fs => ∃ off ft,fs[f]? = some (off,ft) ∧ (lkT τ ft).d.known = true ∧ 1 ≤ (lkT τ ft).sz ∧ (match ρ x with
        | .ptr b o => k (.ptr b (o + off)) S
        | .ref cs => off ≤ cs.length ∧ k (.ref (cs.drop off)) S
        | _ => False)
    | _ => False
  | .field t x f => match (lkT τ t).d, ρ x with
    | .struct fs, .agg cs => ∃ off ft,fs[f]? = some (off,ft) ∧ (lkT τ ft).d.known = true ∧ (1 ≤ (lkT τ ft).sz ∧ (lkT τ ft).sz ≤ (cs.drop off).length) ∧ k (aPart (lkT τ ft) cs off) S
    | _,_ => False
  | .indexAddr t x i => match (lkT τ t).d, ρ x, ρ i with
    | .slice e, .sl sz es _, .int _ n => (lkT τ e).d.known = true ∧ (lkT τ e).sz = sz ∧ 0 ≤ n ∧ ∃ v,es[n.toNat]? = some v ∧ k (.ref v.cells) S
    | .slice e, .msl b off len _, .int _ n => (lkT τ e).d.known = true ∧ 0 ≤ n ∧ n < len ∧ ∃ o,off + n.toNat * (lkT τ e).sz = o ∧ k (.ptr b o) S
    | .array len e, .ptr b off, .int _ n => (lkT τ e).d.known = true ∧ 0 ≤ n ∧ n < len ∧ ∃ o,off + n.toNat * (lkT τ e).sz = o ∧ k (.ptr b o) S
    | .array len e, .gl g, .int _ n => (lkT τ e).d.known = true ∧ 0 ≤ n ∧ n < len ∧ ∃ cs,En.glob g cs ∈ S ∧ ∃ r,(cs.drop (n.toNat * (lkT τ e).sz)).take (lkT τ e).sz = r ∧ k (.ref r) S
    | _,_,_ => False
  | .index t x i => match (lkT τ t).d, ρ x, ρ i with
    | .str, .str s, .int _ n => 0 ≤ n ∧ ∃ c,s[n.toNat]? = some c ∧ k (.int .u8 c.toNat) S
    | .array len e, .agg cs, .int _ n => (lkT τ e).d.known = true ∧ 0 ≤ n ∧ n < len ∧ (1 ≤ (lkT τ e).sz ∧ (lkT τ e).sz ≤ (cs.drop (n.toNat * (lkT τ e).sz)).length) ∧ k (aPart (lkT τ e) cs (n.toNat * (lkT τ e).sz)) S
    | _,_,_ => False
  | .extract x i => match ρ x with
    | .tup vs => ∃ v,vs[i]? = some v ∧ k v S
    | _ => False
  | .nilCheck x => match ρ x with
    | .ptr b o => k (.ptr b o) S
    | .ref cs => k (.ref cs) S
    | _ => False
  | .makeMap _ none => ∀ b,k (.map b) (.map b (mkM []) :: S)
  | .lookup t m x ok => match ρ m, ρ x with
    | .map b, .str s => ∃ (kt e : TypeId) (z : AV) (p : Nat) (l : List (List UInt8 × AV)),(lkT τ t).d = .map kt e ∧ (lkT τ kt).d = .str ∧ zeroIs P e z ∧ S[p]? = some (En.map b (mkM l)) ∧ ∃ r,mget s z l = r ∧ k (lkV ok r) S
    | _,_ => False
  | .mapUpdate t m x y => match ρ m, ρ x with
    | .map b, .str s => ∃ (kt e : TypeId) (p : Nat) (l : List (List UInt8 × AV)),(lkT τ t).d = .map kt e ∧ (lkT τ kt).d = .str ∧ S[p]? = some (En.map b (mkM l)) ∧ ∃ l',mput s (ρ y) l = l' ∧ k .junk (S.set p (.map b (mkM l')))
    | _,_ => False
  | .insert t m x y => match ρ m, ρ x with
    | .map b, .str s => ∃ (kt e : TypeId) (p : Nat) (l : List (List UInt8 × AV)),(lkT τ t).d = .map kt e ∧ (lkT τ kt).d = .str ∧ S[p]? = some (En.map b (mkM l)) ∧ ∃ l',mput s (ρ y) l = l' ∧ k .junk (S.set p (.map b (mkM l')))
    | _,_ => False
  | .mapEntry t m x => match ρ m, ρ x with
    | .map b, .str s => ∃ (kt e : TypeId) (z : AV) (p : Nat) (l : List (List UInt8 × AV)),(lkT τ t).d = .map kt e ∧ (lkT τ kt).d = .str ∧ zeroIs P e z ∧ S[p]? = some (En.map b (mkM l)) ∧ (∀ q ∈ l,q.1 ≠ s) ∧ l.length ≤ 9223372036854775807 ∧
        k (.tup [z, .int .i64 (l.length : Nat)]) (S.set p (.map b (mkM (l ++ [(s,z)]))))
    | _,_ => False
  | .entryStore _ m x y => match ρ m, ρ x with
    | .map b, .int _ n => ∃ (p : Nat) (l : List (List UInt8 × AV)) (j : Nat) (q : List UInt8 × AV),n = (j : Int) ∧ S[p]? = some (En.map b (mkM l)) ∧ l[j]? = some q ∧ ∃ l',l.set j (q.1, ρ y) = l' ∧ k .junk (S.set p (.map b (mkM l')))
    | _,_ => False
  | .makeSlice t x y => match (lkT τ t).d, ρ x, ρ y with
    | .slice e, .int _ a, .int _ c => (lkT τ e).d.known = true ∧ ∃ n m : Nat,a = (n : Int) ∧ c = (m : Int) ∧ n ≤ m ∧ roomFor m (lkT τ e).by_ ∧
        ((n = 0 ∧ ∀ t',k (.sl (lkT τ e).sz [] t') (.grow t' :: S)) ∨ (∀ b,k (.msl b 0 n m) (.cells b (zerosAV (lkT τ e).zero m) :: S)))
    | _,_,_ => False
  | .call c => match c.callee with
    | .value f => aCallV P (ρ f) (c.args.toList.map ρ) S k
    | .builtin b => aBuiltin P τ b c.argTypes.toList (c.args.toList.map ρ) S k
    | _ => False
  | _ => False
end Go.Aw
namespace Go.Aw
open Go.RowKit
theorem run_v {P : Program} {s : Sem Value} {w w' : World} {x : Value} (h : s.run P w = .ok x w') : ((do pure (Next.value (← s))) : Sem Next).run P w = .ok (.value x) w' := by
 rw [run_bind_ok h]; rfl
theorem run_u {P : Program} {s : Sem Unit} {w w' : World} (h : s.run P w = .ok () w') : ((do s; pure Next.skip) : Sem Next).run P w = .ok .skip w' := by
 rw [run_bind_ok h]; rfl
theorem ROk.of_eq {P : Program} {w0 : World} {K : Kn} {k : AV → List En → Prop} {r r' : Result Next} (h : r = r') (x : ROk P w0 K k r') : ROk P w0 K k r := h ▸ x
theorem RelL.toArr {K : Kn} {as : List AV} {vs : Array Value} (h : RelL K as vs.toList) : ∃ l,vs = List.toArray l ∧ RelL K as l := ⟨vs.toList,by simp,h⟩
def ROp (K : Kn) (ρ : Operand → AV) (a : Act) (op : Op) : Prop := ∀ x ∈ op.operands,Rel K (ρ x) (a.eval x)
theorem evsL {K : Kn} {ρ : Operand → AV} {a : Act} : ∀ (xs : List Operand),(∀ x ∈ xs,Rel K (ρ x) (a.eval x)) → RelL K (xs.map ρ) (xs.map a.eval)
 | [],_ => RelL.nil
 | x :: xs,h => RelL.cons (h x (by simp)) (evsL xs fun y hy => h y (by simp [hy]))
theorem evsA {K : Kn} {ρ : Operand → AV} {a : Act} (xs : Array Operand) (h : ∀ x ∈ xs,Rel K (ρ x) (a.eval x)) : RelL K (xs.toList.map ρ) (xs.map a.eval).toList := by
 have := evsL xs.toList (fun x hx => h x (by simpa using hx))
 simpa using this
theorem relO {K : Kn} {ρ : Operand → AV} {a : Act} (x : Option Operand) (h : ∀ y,x = some y → Rel K (ρ y) (a.eval y)) : RelO K (oev ρ x) (x.map a.eval) := by
 cases x with
 | none => exact .none
 | some x => exact .some (h x rfl)
theorem relPof {K : Kn} {ρ : Operand → AV} {a : Act} : ∀ (ps : List (Nat × Operand)),(∀ p ∈ ps,Rel K (ρ p.2) (a.eval p.2)) → RelP K (ps.map fun p => (p.1, ρ p.2)) (ps.map fun p => (p.1,a.eval p.2))
 | [],_ => .nil
 | p :: ps,h => .cons (h p (by simp)) (relPof ps fun q hq => h q (by simp [hq]))
theorem run_callFunc {P : Program} {w : World} {f : FuncId} (h : fnOk P f) (args : Array Value) : (callFunc f args).run P w = .ok (.enter f args) w := by
 obtain ⟨fn,h1,h2,h3⟩ := h
 unfold callFunc
 rw [run_bind_ok (run_program P w)]
 simp only [h1,h2,h3,Bool.false_eq_true,if_false]
 rfl
theorem callV_ok {P : Program} {w0 w : World} {K : Kn} {S : List En} {k : AV → List En → Prop} (hS : RelS w0 K S w) {f : AV} {fv : Value} (hf : Rel K f fv) {args : List AV} {vs : Array Value} (hv : RelL K args vs.toList) (h : aCallV P f args S k) :
  ROk P w0 K k ((do let d ← Deferred.ofValue fv vs; invoke d.target d.args : Sem Next).run P w) := by
 cases f with
 | fn g first cap =>
  cases hf with
  | @fn _ _ _ us cs hl hr hl' hr' =>
   cases g with
   | method _ => exact h.elim
   | methodOf _ _ => exact h.elim
   | via _ _ _ _ => exact h.elim
   | func g =>
    have harg : RelL K (first ++ args ++ cap) (us ++ vs.toList ++ cs) := RelL.append (RelL.append ⟨hl,hr⟩ hv) ⟨hl',hr'⟩
    have e2 : (us ++ vs.toList ++ cs).toArray = us.toArray ++ vs ++ cs.toArray := by simp
    rcases (h : (fnOk P g ∧ ACall P g (first ++ args ++ cap) S k) ∨ AExt P g (first ++ args ++ cap) S k) with ⟨hok,hc⟩ | ⟨fn,ex,hf1,hf2,hf3,hf4,hf5,hE⟩
    rotate_left
    ·obtain ⟨v,w',K',av,S',h1,h2,h3,h4,h5⟩ := hE w0 K w _ harg hS
     rw [e2] at h1
     have e : ((do let d ← Deferred.ofValue (.func (.func g) us.toArray cs.toArray) vs; invoke d.target d.args : Sem Next).run P w) = .ok (.value v) w' := by
      simp only [Deferred.ofValue]
      rw [run_bind_ok (Sem.run_pure P w _)]
      simp only [invoke]
      rw [run_callFunc_extern hf1 hf2 hf3 hf4 hf5,h1]; rfl
     rw [e]
     exact ⟨K',av,S',h2,h3,h4,h5⟩
    have e : ((do let d ← Deferred.ofValue (.func (.func g) us.toArray cs.toArray) vs; invoke d.target d.args : Sem Next).run P w) = .ok (.enter g ((us.toArray ++ vs) ++ cs.toArray)) w := by
     simp only [Deferred.ofValue]
     rw [run_bind_ok (Sem.run_pure P w _)]
     simp only [invoke]
     exact run_callFunc hok _
    rw [e]
    unfold ACall at hc
    have := hc w0 K w _ harg hS
    rw [e2] at this
    exact this
   | yield l =>
    cases first with
    | cons _ _ => exact h.elim
    | nil =>
     cases cap with
     | cons _ _ => exact h.elim
     | nil =>
      have hus : us = [] := by simpa using hl.symm
      have hcs : cs = [] := by simpa using hl'.symm
      subst hus; subst hcs
      have h : AYield P l args S k := h
      unfold AYield at h
      obtain ⟨fn,tmps,assign,body,h1,h2⟩ := h w0 K w _ hv hS
      have e : ((do let d ← Deferred.ofValue (.func (.yield l) [].toArray [].toArray) vs; invoke d.target d.args : Sem Next).run P w) = .ok (.round l fn tmps assign body) w := by
       simp only [Deferred.ofValue]
       rw [run_bind_ok (Sem.run_pure P w _)]
       simp only [invoke]
       have e3 : ([].toArray ++ vs : Array Value) = vs.toList.toArray := by simp
       rw [e3]
       exact h1
      rw [e]
      exact h2
 | _ => exact h.elim
theorem has_nat {n : Nat} (h : n ≤ maxLen) : IntKind.i64.has n := by
 simp only [IntKind.has,IntKind.min,IntKind.max,IntKind.bits,IntKind.signed]; simp only [maxLen] at h; simp; omega
theorem builtin_ok {P : Program} {τ : List (TypeId × TI)} (hτ : AllOk P τ) {w0 w : World} {K : Kn} {S : List En} {k : AV → List En → Prop} (hS : RelS w0 K S w) {b : Builtin} {ts : Array TypeId} {ty : TypeId} {args : List AV} {vs : Array Value} (hv : RelL K args vs.toList)
  (cs : Array Bool) (h : aBuiltin P τ b ts.toList args S k) : ROk P w0 K k ((builtin b ts ty cs vs).run P w) := by
 obtain ⟨vl,rfl,hvl⟩ := hv.toArr
 obtain ⟨tl,rfl⟩ : ∃ tl : List TypeId,ts = tl.toArray := ⟨ts.toList,by simp⟩
 simp only [] at h
 unfold aBuiltin at h
 split at h
 · -- len of a slice
  rename_i t tl sz es tk
  obtain ⟨⟨e,hd⟩,hk⟩ := h
  have hD := (lkT_ok hτ t (by rw [hd]; simp)).d
  rw [hd] at hD
  obtain ⟨v,r,rfl,hx,hr⟩ := hvl.cons_inv
  have := hr.nil_inv; subst this
  rcases sl_cases hx with ⟨a0,rfl,rfl,_⟩ | ⟨bb,o,c,ws,ha,_⟩
  ·have e : (builtin .len (t :: tl).toArray ty cs #[.slice a0 0 0]).run P w = .ok (.value (.int .i64 (0 : Nat))) w := run_v (by simp [Builtin.len_,run_underlying hD,goInt])
   rw [e]
   exact ROk.val hS (.int _ _ (has_nat (by simp))) (by simpa using hk)
  ·rw [ha.eq]
   have e : (builtin .len (t :: tl).toArray ty cs #[.slice (some ⟨bb,o,none⟩) es.length c]).run P w = .ok (.value (.int .i64 es.length)) w := run_v (by simp [Builtin.len_,run_underlying hD,goInt])
   rw [e]
   exact ROk.val hS (.int _ _ (has_nat (Nat.le_trans ha.hcap ha.hmax))) hk
 ·rename_i t tl bb o n c
  obtain ⟨⟨e,hd⟩,hk⟩ := h
  have hD := (lkT_ok hτ t (by rw [hd]; simp)).d
  rw [hd] at hD
  obtain ⟨v,r,rfl,hx,hr⟩ := hvl.cons_inv
  have := hr.nil_inv; subst this
  cases hx with
  | mslnil _ _ a0 =>
   have e : (builtin .len (t :: tl).toArray ty cs #[.slice a0 0 0]).run P w = .ok (.value (.int .i64 (0 : Nat))) w := run_v (by simp [Builtin.len_,run_underlying hD,goInt])
   rw [e]
   exact ROk.val hS (.int _ _ (has_nat (by simp))) (by simpa using hk)
  | @msl _ _ _ _ b' o' h1 h2 _ =>
   have e : (builtin .len (t :: tl).toArray ty cs #[.slice (some ⟨b',o',none⟩) n c]).run P w = .ok (.value (.int .i64 n)) w := run_v (by simp [Builtin.len_,run_underlying hD,goInt])
   rw [e]
   exact ROk.val hS (.int _ _ (has_nat (Nat.le_trans h1 h2))) hk
 ·rename_i t tl
  obtain ⟨⟨e,hd⟩,hk⟩ := h
  have hD := (lkT_ok hτ t (by rw [hd]; simp)).d
  rw [hd] at hD
  obtain ⟨v,r,rfl,hx,hr⟩ := hvl.cons_inv
  have := hr.nil_inv; subst this
  cases hx
  have e : (builtin .len (t :: tl).toArray ty cs #[.slice none 0 0]).run P w = .ok (.value (.int .i64 (0 : Nat))) w := run_v (by simp [Builtin.len_,run_underlying hD,goInt])
  rw [e]
  exact ROk.val hS (.int _ _ (has_nat (by simp))) hk
 ·rename_i t tl s
  obtain ⟨hd,hk⟩ := h
  have hD := (lkT_ok hτ t (by rw [hd]; simp)).d
  rw [hd] at hD
  obtain ⟨v,r,rfl,hx,hr⟩ := hvl.cons_inv
  have := hr.nil_inv; subst this
  cases hx with
  | str _ hs =>
   have e : (builtin .len (t :: tl).toArray ty cs #[.string ⟨s.toArray⟩]).run P w = .ok (.value (.int .i64 s.length)) w := run_v (by
    have h5 := run_underlying (show P.underlying t = some .string from hD) w
    have h6 : (ByteArray.mk s.toArray).size = s.length := by simp [ByteArray.size]
    have h7 : (Builtin.len_ (t :: tl).toArray ty #[.string ⟨s.toArray⟩]).run P w = .ok (goInt (ByteArray.mk s.toArray).size) w := by
     simp only [Builtin.len_,List.getElem?_toArray,List.getElem?_cons_zero]
     rw [run_bind_ok h5]; rfl
    rw [h6] at h7; exact h7)
   rw [e]
   exact ROk.val hS (.int _ _ (has_nat hs)) hk
 ·rename_i t tl bb o n c
  obtain ⟨⟨e,hd⟩,hk⟩ := h
  have hD := (lkT_ok hτ t (by rw [hd]; simp)).d
  rw [hd] at hD
  obtain ⟨v,r,rfl,hx,hr⟩ := hvl.cons_inv
  have := hr.nil_inv; subst this
  cases hx with
  | mslnil _ _ a0 =>
   have e : (builtin .cap (t :: tl).toArray ty cs #[.slice a0 0 0]).run P w = .ok (.value (.int .i64 (0 : Nat))) w := run_v (by simp [Builtin.cap_,run_underlying hD,goInt])
   rw [e]
   exact ROk.val hS (.int _ _ (has_nat (by simp))) (by simpa using hk)
  | @msl _ _ _ _ b' o' h1 h2 _ =>
   have e : (builtin .cap (t :: tl).toArray ty cs #[.slice (some ⟨b',o',none⟩) n c]).run P w = .ok (.value (.int .i64 c)) w := run_v (by
    simp [Builtin.cap_,run_underlying hD,goInt])
   rw [e]
   exact ROk.val hS (.int _ _ (has_nat h2)) hk
 ·rename_i q a q' b
  obtain ⟨rfl,hk⟩ := h
  obtain ⟨v,r,rfl,hx,hr⟩ := hvl.cons_inv
  obtain ⟨v',r',rfl,hx',hr'⟩ := hr.cons_inv
  have := hr'.nil_inv; subst this
  cases hx with
  | int _ _ h1 =>
   cases hx' with
   | int _ _ h2 =>
    have e : (builtin .min tl.toArray ty cs #[.int q a, .int q b]).run P w = .ok (.value (.int q (min a b))) w := run_v (by
     simp only [Builtin.min_,List.foldlM,Builtin.min2]
     have : (if b < a then b else a) = min a b := by omega
     simp [this])
    rw [e]
    exact ROk.val hS (.int _ _ (by simp only [IntKind.has] at h1 h2 ⊢; omega)) hk
 ·rename_i q a q' b
  obtain ⟨rfl,hk⟩ := h
  obtain ⟨v,r,rfl,hx,hr⟩ := hvl.cons_inv
  obtain ⟨v',r',rfl,hx',hr'⟩ := hr.cons_inv
  have := hr'.nil_inv; subst this
  cases hx with
  | int _ _ h1 =>
   cases hx' with
   | int _ _ h2 =>
    have e : (builtin .max tl.toArray ty cs #[.int q a, .int q b]).run P w = .ok (.value (.int q (max a b))) w := run_v (by
     simp only [Builtin.max_,List.foldlM,Builtin.max2]
     have : (if b > a then b else a) = max a b := by omega
     simp [this])
    rw [e]
    exact ROk.val hS (.int _ _ (by simp only [IntKind.has] at h1 h2 ⊢; omega)) hk
 ·rename_i t t' sz es tk sz' xs tk'
  obtain ⟨e,hd,htt,hk,hroom,hsz',hcase⟩ := h
  subst htt
  have hD := (lkT_ok hτ _ (by rw [hd]; simp)).d
  rw [hd] at hD
  have hi := lkT_ok hτ e (TD.known_ne hk)
  obtain ⟨v,r,rfl,hx,hr⟩ := hvl.cons_inv
  obtain ⟨v',r',rfl,hx',hr'⟩ := hr.cons_inv
  have := hr'.nil_inv; subst this
  rcases hcase with ⟨rfl,hsz,r,rfl,hkk⟩ | ⟨hsz,p,hp,r,rfl,hkk⟩ | ⟨rfl,rfl,r,n,rfl,rfl,hkk⟩
  ·obtain ⟨u,w',K',t2,h1,h2,h3,h4⟩ := run_append_full hS (ty := ty) hD hi hx hx' hsz hsz' hroom
   exact ROk.of_eq (run_v h1) ⟨K',_,_,h2,h3,h4,hkk _⟩
  ·obtain ⟨u,w',K',t2,h1,h2,h3,h4⟩ := run_append_own' hS (ty := ty) hD hi hp hx hx' hsz hsz' hroom
   exact ROk.of_eq (run_v h1) ⟨K',_,_,h2,h3,h4,hkk _⟩
  ·obtain ⟨u,w',b,cap,rest,h1,h2,h3,h4,h5,h6⟩ := run_append_mut hS (ty := ty) hD hi hx hx' hsz' (by simpa using hroom)
   exact ROk.of_eq (run_v h1) ⟨K,_,_,Kle.refl K,h2,h3,hkk _ _ _ h4 (fun h => h5 (by simpa using h)) h6⟩
 · -- append to an owned block
  rename_i t t' b off n cap x
  obtain ⟨e,hd,hk,m,p,cur,hroom,hp,hfit,hcase⟩ := h
  have hD := (lkT_ok hτ _ (by rw [hd]; simp)).d
  rw [hd] at hD
  have hi := lkT_ok hτ e (TD.known_ne hk)
  obtain ⟨v,r,rfl,hx,hr⟩ := hvl.cons_inv
  obtain ⟨v',r',rfl,hx',hr'⟩ := hr.cons_inv
  have := hr'.nil_inv; subst this
  rcases hcase with ⟨ht',cs0,hs,hin,hnew⟩ | ⟨⟨q0,hq⟩,⟨q,rfl⟩,hgrow,old,rfl,hkk⟩
  ·have hT : SrcT P t' := by
    rcases ht' with ⟨e',h⟩ | h
    ·have h2 := (lkT_ok hτ t' (by rw [h]; simp)).d
     rw [h] at h2; exact .inl ⟨e',h2⟩
    ·have h2 := (lkT_ok hτ t' (by rw [h]; simp)).d
     rw [h] at h2; exact .inr h2
   by_cases hc : n + m ≤ cap
   ·obtain ⟨hf2,cur',rfl,hkk⟩ := hin hc
    obtain ⟨u,w',h1,h2,h3⟩ := run_append_msl_in hS (ty := ty) hD hT hi hp hx hx' hs hc hf2
    exact ROk.of_eq (run_v h1) ⟨K,_,_,Kle.refl K,h2,h3,hkk⟩
   ·obtain ⟨old,rfl,hkk⟩ := hnew (by omega)
    obtain ⟨u,w',b',cap',rest,h1,h2,h3,h4,h5,h6⟩ := run_append_msl_new hS (ty := ty) hD hT hi hp hx hx' hs (by omega) hfit hroom
    exact ROk.of_eq (run_v h1) ⟨K,_,_,Kle.refl K,h2,h3.conT h6,hkk _ _ _ h4 h5⟩
  ·have hT := (lkT_ok hτ t' (by rw [hq]; simp)).d
   rw [hq] at hT
   obtain ⟨u,w',b',cap',rest,h1,h2,h3,h4,h5⟩ := run_append_msl_make hS (ty := ty) hD hT hi hp hx hx' hgrow hfit hroom
   exact ROk.of_eq (run_v h1) ⟨K,_,_,Kle.refl K,h2,h3,hkk _ _ _ h4 h5⟩
 · -- append to nil
  rename_i t t' x
  obtain ⟨e,hd,hk,m,cs0,hroom,ht',hs,h0,h1⟩ := h
  have hD := (lkT_ok hτ _ (by rw [hd]; simp)).d
  rw [hd] at hD
  have hi := lkT_ok hτ e (TD.known_ne hk)
  obtain ⟨v,r,rfl,hx,hr⟩ := hvl.cons_inv
  obtain ⟨v',r',rfl,hx',hr'⟩ := hr.cons_inv
  have := hr'.nil_inv; subst this
  have hT : SrcT P t' := by
   rcases ht' with ⟨e',h⟩ | h
   ·have h2 := (lkT_ok hτ t' (by rw [h]; simp)).d
    rw [h] at h2; exact .inl ⟨e',h2⟩
   ·have h2 := (lkT_ok hτ t' (by rw [h]; simp)).d
    rw [h] at h2; exact .inr h2
  cases hx
  rcases run_append_nils hS (ty := ty) hD hT hi hx' hs hroom with ⟨hm,hrun⟩ | ⟨hm,u,w',b',cap',rest,g1,g2,g3,g4,g5,g6⟩
  ·exact ROk.of_eq (run_v hrun) (ROk.val hS .nils (h0 hm))
  ·exact ROk.of_eq (run_v g1) ⟨K,_,_,Kle.refl K,g2,g3.conT g6,h1 hm _ _ _ g4 g5⟩
 · -- unsafe.SliceData of nil
  obtain ⟨v,r,rfl,hx,hr⟩ := hvl.cons_inv
  have := hr.nil_inv; subst this
  cases hx
  exact ROk.of_eq (run_v (Lib.run_unsafeSliceData_nil w _ ty 0 0)) (ROk.val hS .nilp h)
 ·rename_i b off n cap
  obtain ⟨hn,hk⟩ := h
  obtain ⟨v,r,rfl,hx,hr⟩ := hvl.cons_inv
  have := hr.nil_inv; subst this
  exact ROk.of_eq (run_v (run_sliceData hx hn)) (ROk.val hS (.ptr _ _) hk)
 ·rename_i pt it q n
  obtain ⟨rfl,rfl,hk⟩ := h
  obtain ⟨v,r,rfl,hx,hr⟩ := hvl.cons_inv
  obtain ⟨v',r',rfl,hx',hr'⟩ := hr.cons_inv
  have := hr'.nil_inv; subst this
  cases hx; cases hx'
  exact ROk.of_eq (run_v (Lib.run_unsafeString_none w pt it ty none)) (ROk.val hS (.str [] (by simp)) hk)
 ·rename_i pt it b off q n
  obtain ⟨e,hd,he,hsz,rfl,rfl,l,p,cur,hl,rfl,hp,hty,hcur,hk⟩ := h
  have hD := (lkT_ok hτ pt (by rw [hd]; simp)).d
  rw [hd] at hD
  have hi := lkT_ok hτ e (by rw [he]; simp)
  obtain ⟨v,r,rfl,hx,hr⟩ := hvl.cons_inv
  obtain ⟨v',r',rfl,hx',hr'⟩ := hr.cons_inv
  have := hr'.nil_inv; subst this
  obtain ⟨w',h1,h2,h3⟩ := run_unsafeString1 (it := it) (ty := ty) hS hD (hi.cellsOf.trans hsz) hl hp hty hcur hx hx'
  exact ROk.of_eq (run_v h1) ⟨K,_,_,Kle.refl K, .str _ h3,h2,hk⟩
 · -- copy
  rename_i t t' b off n cap x
  obtain ⟨e,hd,hk,m,cs0,p,cur,hs,hp,hfit,cur',rfl,hkk⟩ := h
  have hD := (lkT_ok hτ _ (by rw [hd]; simp)).d
  rw [hd] at hD
  have hi := lkT_ok hτ e (TD.known_ne hk)
  obtain ⟨v,r,rfl,hx,hr⟩ := hvl.cons_inv
  obtain ⟨v',r',rfl,hx',hr'⟩ := hr.cons_inv
  have := hr'.nil_inv; subst this
  obtain ⟨w',h1,h2⟩ := run_copy_src hS (ty := ty) (t' := t') hD hi hp hx hx' hs hfit
  have hmax : min m n ≤ maxLen := by
   obtain ⟨us,hus⟩ := src_ok (P := P) hS hx' hs
   exact Nat.le_trans (Nat.min_le_left _ _) hus.hmax
  exact ROk.of_eq (run_v h1) ⟨K,_,_,Kle.refl K, .int _ _ (has_nat hmax),h2,hkk⟩
 ·rename_i t b off n c
  obtain ⟨e,hd,hk,hcase⟩ := h
  have hD := (lkT_ok hτ _ (by rw [hd]; simp)).d
  rw [hd] at hD
  have hi := lkT_ok hτ e (TD.known_ne hk)
  obtain ⟨v,r,rfl,hx,hr⟩ := hvl.cons_inv
  have := hr.nil_inv; subst this
  rcases hcase with ⟨rfl,hkk⟩ | ⟨p,cs',hp,hs,cs2,rfl,hkk⟩
  ·refine ROk.of_eq (run_v (x := .tuple #[]) (w' := w) ?_) (ROk.val hS (.tup (vs := []) rfl (fun i c v hc _ => by simp at hc)) hkk)
   cases hx with
   | mslnil _ _ a0 => cases a0 <;> simp [Builtin.clear_,run_underlying hD]
   | msl => simp [Builtin.clear_,run_underlying hD]
  ·obtain ⟨w',h1,h2⟩ := run_clear_msl hS (ty := ty) hD hi hp hx hs
   exact ROk.of_eq (run_v h1) ⟨K,_,_,Kle.refl K, .tup (vs := []) rfl (fun i c v hc _ => by simp at hc),h2,hkk⟩
 ·exact h.elim
theorem run_bin_v {P : Program} {w : World} {op : BinOp} {t : TypeId} {x y : Value} {v : Value} (ox oy : Operand) (hg : eqGuard op t ox oy x y = pure ()) (h : (binOp op t x y).run P w = .ok v w) :
  ((do eqGuard op t ox oy x y; binOp op t x y : Sem Value)).run P w = .ok v w := by
 rw [hg]; rw [run_bind_ok (Sem.run_pure P w ())]; exact h
theorem astep_makeMap_ok {P : Program} {τ : List (TypeId × TI)} (hτ : AllOk P τ) {ρ : Operand → AV} {S : List En} {k : AV → List En → Prop} {w0 : World} {K : Kn} {a : Act} {w : World} {dst : Option Tmp} {type : TypeId} {pos : String} {after : Array Edge} {guard : Option (Nat × Bool)} {t : TypeId} {r : Option Operand} (h : astep P τ (.makeMap t r) ρ S k) (hE : ROp K ρ a (.makeMap t r)) (hS : RelS w0 K S w) :
  ROk P w0 K k ((execOp a.eval ⟨dst, .makeMap t r,type,pos,after,guard⟩).run P w) := by
 cases r with
 | some r => exact (show False from h).elim
 | none => exact ROk.of_eq (run_v (run_mapNew (P := P) hS t).1) ⟨K,_,_,Kle.refl K, .map _,(run_mapNew (P := P) hS t).2,h _⟩
theorem astep_lookup_ok {P : Program} {τ : List (TypeId × TI)} (hτ : AllOk P τ) {ρ : Operand → AV} {S : List En} {k : AV → List En → Prop} {w0 : World} {K : Kn} {a : Act} {w : World} {dst : Option Tmp} {type : TypeId} {pos : String} {after : Array Edge} {guard : Option (Nat × Bool)} {t : TypeId} {m x : Operand} {ok : Bool} (h : astep P τ (.lookup t m x ok) ρ S k) (hE : ROp K ρ a (.lookup t m x ok)) (hS : RelS w0 K S w) :
  ROk P w0 K k ((execOp a.eval ⟨dst, .lookup t m x ok,type,pos,after,guard⟩).run P w) := by
 simp only [astep] at h
 have hm := hE m (by simp [Op.operands])
 have hx := hE x (by simp [Op.operands])
 generalize hmx : a.eval m = vm at hm
 cases hvm : ρ m <;> cases hvx : ρ x <;> rw [hvm,hvx] at h <;> simp only [] at h
 case map.str b s =>
  rw [hvm] at hm; rw [hvx] at hx
  cases hm
  obtain ⟨kt,e,z,p,l,hd,hdk,hz,hp,r,rfl,hk⟩ := h
  have hD := (lkT_ok hτ t (by rw [hd]; simp)).d
  rw [hd] at hD
  have hDk := (lkT_ok hτ kt (by rw [hdk]; simp)).d
  rw [hdk] at hDk
  obtain ⟨v,h1,h2⟩ := run_mapGet hS hD hDk hz hp hx ok
  exact ROk.of_eq (run_v (by rw [hmx]; exact h1)) (ROk.val hS h2 hk)
theorem astep_mapUpdate_ok {P : Program} {τ : List (TypeId × TI)} (hτ : AllOk P τ) {ρ : Operand → AV} {S : List En} {k : AV → List En → Prop} {w0 : World} {K : Kn} {a : Act} {w : World} {dst : Option Tmp} {type : TypeId} {pos : String} {after : Array Edge} {guard : Option (Nat × Bool)} {t : TypeId} {m x y : Operand} (h : astep P τ (.mapUpdate t m x y) ρ S k) (hE : ROp K ρ a (.mapUpdate t m x y)) (hS : RelS w0 K S w) :
  ROk P w0 K k ((execOp a.eval ⟨dst, .mapUpdate t m x y,type,pos,after,guard⟩).run P w) := by
 simp only [astep] at h
 have hm := hE m (by simp [Op.operands])
 have hx := hE x (by simp [Op.operands])
 have hy := hE y (by simp [Op.operands])
 generalize hmx : a.eval m = vm at hm
 cases hvm : ρ m <;> cases hvx : ρ x <;> rw [hvm,hvx] at h <;> simp only [] at h
 case map.str b s =>
  rw [hvm] at hm; rw [hvx] at hx
  cases hm
  obtain ⟨kt,e,p,l,hd,hdk,hp,l',rfl,hk⟩ := h
  have hD := (lkT_ok hτ t (by rw [hd]; simp)).d
  rw [hd] at hD
  have hDk := (lkT_ok hτ kt (by rw [hdk]; simp)).d
  rw [hdk] at hDk
  obtain ⟨w',h1,h2⟩ := run_mapPut hS hD hDk hp hx hy
  exact ROk.of_eq (run_u (by rw [hmx]; exact h1)) ⟨K,_,Kle.refl K,h2,hk⟩
theorem astep_insert_ok {P : Program} {τ : List (TypeId × TI)} (hτ : AllOk P τ) {ρ : Operand → AV} {S : List En} {k : AV → List En → Prop} {w0 : World} {K : Kn} {a : Act} {w : World} {dst : Option Tmp} {type : TypeId} {pos : String} {after : Array Edge} {guard : Option (Nat × Bool)} {t : TypeId} {m x y : Operand} (h : astep P τ (.insert t m x y) ρ S k) (hE : ROp K ρ a (.insert t m x y)) (hS : RelS w0 K S w) :
  ROk P w0 K k ((execOp a.eval ⟨dst, .insert t m x y,type,pos,after,guard⟩).run P w) := by
 simp only [astep] at h
 have hm := hE m (by simp [Op.operands])
 have hx := hE x (by simp [Op.operands])
 have hy := hE y (by simp [Op.operands])
 generalize hmx : a.eval m = vm at hm
 cases hvm : ρ m <;> cases hvx : ρ x <;> rw [hvm,hvx] at h <;> simp only [] at h
 case map.str b s =>
  rw [hvm] at hm; rw [hvx] at hx
  cases hm
  obtain ⟨kt,e,p,l,hd,hdk,hp,l',rfl,hk⟩ := h
  have hD := (lkT_ok hτ t (by rw [hd]; simp)).d
  rw [hd] at hD
  have hDk := (lkT_ok hτ kt (by rw [hdk]; simp)).d
  rw [hdk] at hDk
  obtain ⟨w',h1,h2⟩ := run_mapPut hS hD hDk hp hx hy
  exact ROk.of_eq (run_u (by rw [hmx]; exact h1)) ⟨K,_,Kle.refl K,h2,hk⟩
theorem astep_mapEntry_ok {P : Program} {τ : List (TypeId × TI)} (hτ : AllOk P τ) {ρ : Operand → AV} {S : List En} {k : AV → List En → Prop} {w0 : World} {K : Kn} {a : Act} {w : World} {dst : Option Tmp} {type : TypeId} {pos : String} {after : Array Edge} {guard : Option (Nat × Bool)} {t : TypeId} {m x : Operand} (h : astep P τ (.mapEntry t m x) ρ S k) (hE : ROp K ρ a (.mapEntry t m x)) (hS : RelS w0 K S w) :
  ROk P w0 K k ((execOp a.eval ⟨dst, .mapEntry t m x,type,pos,after,guard⟩).run P w) := by
 simp only [astep] at h
 have hm := hE m (by simp [Op.operands])
 have hx := hE x (by simp [Op.operands])
 generalize hmx : a.eval m = vm at hm
 cases hvm : ρ m <;> cases hvx : ρ x <;> rw [hvm,hvx] at h <;> simp only [] at h
 case map.str b s =>
  rw [hvm] at hm; rw [hvx] at hx
  cases hm
  obtain ⟨kt,e,z,p,l,hd,hdk,hz,hp,hn,hl,hk⟩ := h
  have hD := (lkT_ok hτ t (by rw [hd]; simp)).d
  rw [hd] at hD
  have hDk := (lkT_ok hτ kt (by rw [hdk]; simp)).d
  rw [hdk] at hDk
  obtain ⟨v,w',h1,h2,h3⟩ := run_mapEnt hS hD hDk hz hp hx hn hl
  exact ROk.of_eq (run_v (by rw [hmx]; exact h1)) ⟨K,_,_,Kle.refl K,h2,h3,hk⟩
theorem astep_entryStore_ok {P : Program} {τ : List (TypeId × TI)} (hτ : AllOk P τ) {ρ : Operand → AV} {S : List En} {k : AV → List En → Prop} {w0 : World} {K : Kn} {a : Act} {w : World} {dst : Option Tmp} {type : TypeId} {pos : String} {after : Array Edge} {guard : Option (Nat × Bool)} {t : TypeId} {m x y : Operand} (h : astep P τ (.entryStore t m x y) ρ S k) (hE : ROp K ρ a (.entryStore t m x y)) (hS : RelS w0 K S w) :
  ROk P w0 K k ((execOp a.eval ⟨dst, .entryStore t m x y,type,pos,after,guard⟩).run P w) := by
 simp only [astep] at h
 have hm := hE m (by simp [Op.operands])
 have hx := hE x (by simp [Op.operands])
 have hy := hE y (by simp [Op.operands])
 generalize hmx : a.eval m = vm at hm
 generalize hxx : a.eval x = vx at hx
 cases hvm : ρ m <;> cases hvx : ρ x <;> rw [hvm,hvx] at h <;> simp only [] at h
 case map.int b q0 n =>
  rw [hvm] at hm; rw [hvx] at hx
  cases hm; cases hx
  obtain ⟨p,l,j,q,rfl,hp,hj,l',rfl,hk⟩ := h
  obtain ⟨w',h1,h2⟩ := run_entSet (P := P) hS t hp (q0 := q0) hj hy
  exact ROk.of_eq (run_u (by rw [hmx,hxx]; exact h1)) ⟨K,_,Kle.refl K,h2,hk⟩
theorem astep_makeSlice_ok {P : Program} {τ : List (TypeId × TI)} (hτ : AllOk P τ) {ρ : Operand → AV} {S : List En} {k : AV → List En → Prop} {w0 : World} {K : Kn} {a : Act} {w : World} {dst : Option Tmp} {type : TypeId} {pos : String} {after : Array Edge} {guard : Option (Nat × Bool)} {t : TypeId} {x y : Operand} (h : astep P τ (.makeSlice t x y) ρ S k) (hE : ROp K ρ a (.makeSlice t x y)) (hS : RelS w0 K S w) :
  ROk P w0 K k ((execOp a.eval ⟨dst, .makeSlice t x y,type,pos,after,guard⟩).run P w) := by
 simp only [astep] at h
 have hx := hE x (by simp [Op.operands])
 have hy := hE y (by simp [Op.operands])
 generalize hax : a.eval x = vx at hx
 generalize hay : a.eval y = vy at hy
 cases hd : (lkT τ t).d <;> cases hvx : ρ x <;> cases hvy : ρ y <;> rw [hd,hvx,hvy] at h <;> (try simp only [] at h) <;> (try exact (show False from h).elim)
 case slice.int.int e q a k c =>
  rw [hvx] at hx; rw [hvy] at hy
  cases hx; cases hy
  obtain ⟨hk,n,m,rfl,rfl,hnm,hr,h⟩ := h
  have hD := (lkT_ok hτ t (by rw [hd]; simp)).d
  rw [hd] at hD
  have hi := lkT_ok hτ e (TD.known_ne hk)
  rcases h with ⟨rfl,h⟩ | h
  ·obtain ⟨v,w',t',h1,h2,h3⟩ := run_makeOwn hS hD hi hr
   exact ROk.of_eq (run_v (by rw [hax,hay]; exact h1)) ⟨K,_,_,Kle.refl K,h2,h3,h t'⟩
  ·obtain ⟨v,w',b,h1,h2,h3⟩ := run_makeMut hS hD hi hnm hr
   exact ROk.of_eq (run_v (by rw [hax,hay]; exact h1)) ⟨K,_,_,Kle.refl K,h2,h3,h b⟩
theorem astep_ok {P : Program} {τ : List (TypeId × TI)} (hτ : AllOk P τ) {o : Oper} {ρ : Operand → AV} {S : List En} {k : AV → List En → Prop} (h : astep P τ o.op ρ S k)
  {w0 : World} {K : Kn} {a : Act} {w : World} (hE : ROp K ρ a o.op) (hS : RelS w0 K S w) : ROk P w0 K k ((execOp a.eval o).run P w) := by
 obtain ⟨dst,op,type,pos,after,guard⟩ := o
 simp only at h hE
 cases op with
 | move x => exact ROk.val hS (hE x (by simp [Op.operands])) h
 | assign x => exact ROk.val hS (hE x (by simp [Op.operands])) h
 | pick c x y =>
  have hc := hE c (by simp [Op.operands])
  simp only [astep] at h
  cases hcv : ρ c <;> rw [hcv] at h hc <;> simp only [] at h
  case bool t =>
   generalize hcx : a.eval c = cv at hc
   cases hc
   refine ROk.of_eq (r' := .ok (.value (if t then a.eval x else a.eval y)) w) ?_ ?_
   ·simp only [execOp,hcx,asBool]
    simp
   ·cases t with
    | true => exact ROk.val hS (hE x (by simp [Op.operands])) h
    | false => exact ROk.val hS (hE y (by simp [Op.operands])) h
 | alloc t =>
  simp only [astep] at h
  obtain ⟨b,w',h1,h2⟩ := run_allocT (lkT_ok hτ t (TD.known_ne h.1)) hS
  exact ROk.of_eq (run_v h1) ⟨K,_,_,Kle.refl K, .ptr b 0,h2,h.2 b⟩
 | box t x =>
  simp only [astep] at h
  obtain ⟨b,w',h1,h2⟩ := run_box (t := t) hS (hE x (by simp [Op.operands])) h.1
  exact ROk.of_eq (run_v h1) ⟨K,_,_,Kle.refl K, .ptr b 0,h2,h.2 b⟩
 | build t parts =>
  have hp : RelP K (parts.toList.map fun p => (p.1, ρ p.2)) (parts.map fun (i,x) => (i,a.eval x)).toList := by
   have := relPof (K := K) (ρ := ρ) (a := a) parts.toList (fun p hp => hE p.2 (by
    simp only [Op.operands,List.mem_toArray,List.mem_map]; exact ⟨p,hp,rfl⟩))
   simpa using this
  simp only [astep] at h
  cases hd : (lkT τ t).d <;> rw [hd] at h <;> simp only [] at h
  case struct fs =>
   obtain ⟨hk,cs,hf,hkk⟩ := h
   obtain ⟨v,h1,h2⟩ := run_build_struct (w := w) hτ hd (List.all_eq_true.1 hk) hp hf
   exact ROk.of_eq (run_v h1) (ROk.val hS h2 hkk)
  case array n e =>
   obtain ⟨hk,cs,hf,hkk⟩ := h
   obtain ⟨v,h1,h2⟩ := run_build_arr (w := w) hτ hd hk hp hf
   exact ROk.of_eq (run_v h1) (ROk.val hS h2 hkk)
 | buildSlice t len parts =>
  simp only [astep] at h
  cases hd : (lkT τ t).d <;> rw [hd] at h <;> simp only [] at h
  case slice e =>
   obtain ⟨hk,hidx,hx0,hl1,hl2,hkk⟩ := h
   have hx : ∀ x ∈ parts.toList.map (fun p => ρ p.2),x.plain = true ∧ x.cells.length = (lkT τ e).sz := fun x hx => by
    have := List.all_eq_true.1 hx0 x hx
    simp only [Bool.and_eq_true] at this
    exact ⟨this.1,Nat.eq_of_beq_eq_true this.2⟩
   have hD := (lkT_ok hτ t (by rw [hd]; simp)).d
   rw [hd] at hD
   have hlen : (parts.toList.map fun p => ρ p.2).length = len := by
    have := congrArg List.length hidx
    simpa using this
   have hp : RelP K ((parts.toList.map fun p => ρ p.2).zipIdx.map fun p => (p.2,p.1)) (parts.map fun (i,x) => (i,a.eval x)).toList := by
    have := relPof (K := K) (ρ := ρ) (a := a) parts.toList (fun p hp => hE p.2 (by
     simp only [Op.operands,List.mem_toArray,List.mem_map]; exact ⟨p,hp,rfl⟩))
    have e1 : ((parts.toList.map fun p => ρ p.2).zipIdx.map fun p => (p.2,p.1)) = parts.toList.map fun p => (p.1, ρ p.2) := by
     apply List.ext_getElem?
     intro j
     simp only [List.getElem?_map,List.getElem?_zipIdx]
     cases hj : parts.toList[j]? with
     | none => simp
     | some p =>
      have h5 := congrArg (fun l => l[j]?) hidx
      simp only [List.getElem?_map,hj,Option.map_some] at h5
      have hjl : j < len := by
       by_cases hc : j < len
       ·exact hc
       ·rw [List.getElem?_eq_none (by simpa using hc)] at h5; cases h5
      rw [List.getElem?_eq_getElem (by simpa using hjl)] at h5
      simp at h5
      simp [h5]
    rw [e1]
    simpa using this
   obtain ⟨v,w',K',h1,h2,h3,h4⟩ := run_buildSlice hS hD (lkT_ok hτ e (TD.known_ne hk)) hp hx (by rw [hlen]; exact ⟨hl1,hl2⟩)
   rw [hlen] at h1
   exact ROk.of_eq (run_v h1) ⟨K',_,_,h2,h3,h4,hkk⟩
 | load t x =>
  simp only [astep] at h
  obtain ⟨hk,h⟩ := h
  have hi := lkT_ok hτ t (TD.known_ne hk)
  have hx := hE x (by simp [Op.operands])
  cases hv : ρ x <;> rw [hv] at h hx <;> simp only [] at h
  case ref cs =>
   obtain ⟨v,h1,h2⟩ := run_load_ref hi hk hS hx h.1
   obtain ⟨_,u,rfl,hkk⟩ := h
   exact ROk.of_eq (run_v h1) (ROk.val hS h2 hkk)
  case ptr b off =>
   obtain ⟨p,cs,hp,hs,u,rfl,hkk⟩ := h
   obtain ⟨v,h1,h2⟩ := run_load_ptr hi hk hS hp hx hs
   exact ROk.of_eq (run_v h1) (ROk.val hS h2 hkk)
  case gl g =>
   obtain ⟨cs,hm,hs,u,rfl,hkk⟩ := h
   obtain ⟨_,h1c,vs,_,_,_,hrel,hkn⟩ := hS.ents _ hm
   obtain ⟨v,h1,h2⟩ := run_load_ref hi hk hS (cs := cs) (v := a.eval x) (by
    generalize a.eval x = vx at hx
    cases hx
    exact .ref h1c hrel.1 hrel.2 (fun i v hv => by rw [Nat.zero_add]; exact hkn i v hv)) hs
   exact ROk.of_eq (run_v h1) (ROk.val hS h2 hkk)
 | makeInterface t x =>
  simp only [astep] at h
  obtain ⟨hc,hk⟩ := h
  have hx := hE x (by simp [Op.operands])
  have hn : (lkT τ t).d ≠ .other := by intro e; rw [e] at hc; cases hc
  have hn' : (lkT τ t).d ≠ .iface := by intro e; rw [e] at hc; cases hc
  exact ROk.of_eq (run_v (run_makeIface (lkT_ok hτ t hn) hn hn' _)) (ROk.val hS (.ifc t hx) hk)
 | makeMap t r => exact astep_makeMap_ok hτ h hE hS
 | lookup t m x ok => exact astep_lookup_ok hτ h hE hS
 | mapUpdate t m x y => exact astep_mapUpdate_ok hτ h hE hS
 | insert t m x y => exact astep_insert_ok hτ h hE hS
 | makeSlice t x y => exact astep_makeSlice_ok hτ h hE hS
 | mapEntry t m x => exact astep_mapEntry_ok hτ h hE hS
 | entryStore t m x y => exact astep_entryStore_ok hτ h hE hS
 | range t x =>
  simp only [astep] at h
  have hx := hE x (by simp [Op.operands])
  cases hd : (lkT τ t).d <;> rw [hd] at h <;> (try simp only [] at h) <;> (try exact (show False from h).elim)
  case str =>
   have hD := (lkT_ok hτ t (by rw [hd]; simp)).d
   rw [hd] at hD
   cases hv : ρ x <;> rw [hv] at h hx <;> simp only [] at h
   case str l =>
    obtain ⟨b,w',h1,h2⟩ := run_rangeStr hS hD hx
    exact ROk.of_eq (run_v h1) ⟨K,_,_,Kle.refl K, .ptr b 0,h2,h b⟩
 | next x isS =>
  simp only [astep] at h
  have hx := hE x (by simp [Op.operands])
  generalize hax : a.eval x = vx at hx
  cases hv : ρ x <;> rw [hv] at h hx <;> simp only [] at h
  case ptr b off =>
   cases hx
   obtain ⟨rfl,rfl,p,l,pos,hp,hle,hmax,h1,h2⟩ := h
   by_cases hlt : pos < l.length
   ·obtain ⟨c,wd,w',e1,e2,e3,e4,e5,e6⟩ := run_nextStr (P := P) (ty := type) hS hp hlt hmax
    refine ROk.of_eq (run_v (by rw [hax]; exact e1)) ⟨K,_,_,Kle.refl K,?_,e2,h1 hlt c wd e3 e4 e5 e6⟩
    have hc32 : IntKind.i32.has (c : Int) := by simp only [IntKind.has,IntKind.min,IntKind.max,IntKind.bits,IntKind.signed]; simp; omega
    have := RelL.cons (K := K) (Rel.bool true) (RelL.cons (.int .i64 (pos : Int) (has_nat (Nat.le_trans hle hmax))) (RelL.cons (.int .i32 (c : Int) hc32) RelL.nil))
    exact .tup this.1 this.2
   ·refine ROk.of_eq (run_v (by rw [hax]; exact run_nextEnd hS hp hlt)) (ROk.val hS ?_ (h2 (by omega)))
    have := RelL.cons (K := K) (Rel.bool false) RelL.nil
    exact .tup this.1 this.2
 | store t x y =>
  simp only [astep] at h
  obtain ⟨hk,h⟩ := h
  have hi := lkT_ok hτ t (TD.known_ne hk)
  have hx := hE x (by simp [Op.operands])
  have hy := hE y (by simp [Op.operands])
  cases hv : ρ x <;> rw [hv] at h hx <;> simp only [] at h
  case ptr b off =>
   obtain ⟨p,cs,hp,hpl,hsz,hs,cs',rfl,hkk⟩ := h
   obtain ⟨w',h1,h2⟩ := run_store_ptr hi hS hp hx hy hpl hsz hs
   exact ROk.of_eq (run_u h1) ⟨K,_,Kle.refl K,h2,hkk⟩
 | binOp op t x y t' =>
  simp only [astep] at h
  have hx := hE x (by simp [Op.operands])
  have hy := hE y (by simp [Op.operands])
  cases hvx : ρ x <;> cases hvy : ρ y <;> rw [hvx,hvy] at h <;> simp only [] at h <;> rw [hvx] at hx <;> rw [hvy] at hy
  case bool.bool p q =>
   have hD := (lkT_ok hτ t (by rw [h.1]; simp)).d
   rw [h.1] at hD
   generalize hax : a.eval x = vx at hx
   generalize hay : a.eval y = vy at hy
   cases hx; cases hy
   obtain ⟨v,h1,h2,h3⟩ := run_binBool (w := w) hD h.2
   refine ROk.of_eq (run_v (x := v.1) (w' := w) ?_) (ROk.val hS (h2 K) h3)
   rw [hax,hay]; exact run_bin_v x y (eqGuard_bool _ _ _ _ _ _) h1
  case int.int k1 p k2 q =>
   generalize hax : a.eval x = vx at hx
   generalize hay : a.eval y = vy at hy
   cases hx; cases hy
   obtain ⟨v,h1,h2,h3⟩ := run_binInt (P := P) (w := w) (t := t) h
   refine ROk.of_eq (run_v (x := v.1) (w' := w) ?_) (ROk.val hS (h2 K) h3)
   rw [hax,hay]; exact run_bin_v x y (eqGuard_int _ _ _ _ _ _ _) h1
  case str.str p q =>
   generalize hax : a.eval x = vx at hx
   generalize hay : a.eval y = vy at hy
   cases hx; cases hy
   obtain ⟨v,h1,h2,h3⟩ := run_binStr (P := P) (w := w) (t := t) h
   refine ROk.of_eq (run_v (x := v.1) (w' := w) ?_) (ROk.val hS (h2 K) h3)
   rw [hax,hay]; exact run_bin_v x y (eqGuard_str _ _ _ _ _ _) h1
  case agg.agg cs ds =>
   obtain ⟨⟨ks,hq,hf⟩,r,hr,hm⟩ := h
   obtain ⟨h1,h2⟩ := run_eqStruct (w := w) hq.toEqOk hx hy (fitK_fit _ _ _ _ hq.hk hf) hr x y
   cases op <;> simp only [] at hm
   case eql => exact ROk.of_eq (run_v h1) (ROk.val hS (.bool _) hm)
   case neq => exact ROk.of_eq (run_v h2) (ROk.val hS (.bool _) hm)
  case sl.sl z1 es t1 z2 ds t2 =>
   obtain ⟨rfl,⟨e,hd⟩,hm⟩ := h
   have hD := (lkT_ok hτ t (by rw [hd]; simp)).d
   rw [hd] at hD
   have key : ∃ b : Bool,(es ≠ [] → b = false) ∧ ∀ ox oy,((do eqGuard .eql t ox oy (a.eval x) (.slice none 0 0); binOp .eql t (a.eval x) (.slice none 0 0) : Sem Value)).run P w = .ok (.bool b) w ∧
     ((do eqGuard .neq t ox oy (a.eval x) (.slice none 0 0); binOp .neq t (a.eval x) (.slice none 0 0) : Sem Value)).run P w = .ok (.bool (!b)) w := by
    rcases sl_cases hx with ⟨a0,e1,e2,_⟩ | ⟨bb,o,c,ws,ha,_⟩
    ·exact ⟨a0.isNone,fun h => absurd e2 h,fun ox oy => by rw [e1]; exact run_nilEq hD a0 0 0 ox oy⟩
    ·exact ⟨false,fun _ => rfl,fun ox oy => by rw [ha.eq]; exact run_nilEq hD (some ⟨bb,o,none⟩) _ _ ox oy⟩
   obtain ⟨b,hb,hk⟩ := key
   cases op <;> simp only [] at hm
   case eql => exact ROk.of_eq (run_v (hk x _).1) (ROk.val hS (.bool _) (hm b hb))
   case neq => exact ROk.of_eq (run_v (hk x _).2) (ROk.val hS (.bool _) (hm b hb))
  case ptr.nilp b o =>
   obtain ⟨⟨e,hd,hk⟩,hm⟩ := h
   have hD := (lkT_ok hτ t (by rw [hd]; simp)).d
   rw [hd] at hD
   generalize hax : a.eval x = vx at hx
   generalize hay : a.eval y = vy at hy
   cases hx; cases hy
   have hr := run_ptrEq (w := w) hD (lkT_ok hτ e (TD.known_ne hk)) ⟨b,o,none⟩ none (.inl rfl) x y
   cases op <;> simp only [] at hm
   case eql => exact ROk.of_eq (run_v (by rw [hax,hay]; exact hr.1)) (ROk.val hS (.bool _) (hm trivial))
   case neq => exact ROk.of_eq (run_v (by rw [hax,hay]; exact hr.2)) (ROk.val hS (.bool _) (hm trivial))
  case nilp.nilp =>
   obtain ⟨⟨e,hd⟩,hm⟩ := h
   have hD := (lkT_ok hτ t (by rw [hd]; simp)).d
   rw [hd] at hD
   generalize hax : a.eval x = vx at hx
   generalize hay : a.eval y = vy at hy
   cases hx; cases hy
   have hr := run_nilpEq (w := w) hD x y
   cases op <;> simp only [] at hm
   case eql => exact ROk.of_eq (run_v (by rw [hax,hay]; exact hr.1)) (ROk.val hS (.bool _) (hm trivial))
   case neq => exact ROk.of_eq (run_v (by rw [hax,hay]; exact hr.2)) (ROk.val hS (.bool _) (hm trivial))
  case ptr.ptr b o b' o' =>
   obtain ⟨⟨e,hd,hk⟩,⟨rfl,rfl⟩,hm⟩ := h
   have hD := (lkT_ok hτ t (by rw [hd]; simp)).d
   rw [hd] at hD
   generalize hax : a.eval x = vx at hx
   generalize hay : a.eval y = vy at hy
   cases hx; cases hy
   have hr := run_ptrEq (w := w) hD (lkT_ok hτ e (TD.known_ne hk)) ⟨b,o,none⟩ (some ⟨b,o,none⟩) (.inr rfl) x y
   cases op <;> simp only [] at hm
   case eql => exact ROk.of_eq (run_v (by rw [hax,hay]; exact hr.1)) (ROk.val hS (.bool _) (hm trivial))
   case neq => exact ROk.of_eq (run_v (by rw [hax,hay]; exact hr.2)) (ROk.val hS (.bool _) (hm trivial))
  case ifc.nilif u v =>
   obtain ⟨hd,hm⟩ := h
   have hD := (lkT_ok hτ t (by rw [hd]; simp)).d
   rw [hd] at hD
   obtain ⟨ms,hD⟩ := hD
   generalize hax : a.eval x = vx at hx
   generalize hay : a.eval y = vy at hy
   cases hx; cases hy
   have hr := fun z => run_ifcNil (w := w) (isIface_of hD) u z x y
   cases op <;> simp only [] at hm
   case eql => exact ROk.of_eq (run_v (by rw [hax,hay]; exact (hr _).1)) (ROk.val hS (.bool _) (hm trivial))
   case neq => exact ROk.of_eq (run_v (by rw [hax,hay]; exact (hr _).2)) (ROk.val hS (.bool _) (hm trivial))
  case nilif.nilif =>
   obtain ⟨hd,⟨cv,rfl⟩,hm⟩ := h
   have hD := (lkT_ok hτ t (by rw [hd]; simp)).d
   rw [hd] at hD
   obtain ⟨ms,hD⟩ := hD
   generalize hax : a.eval x = vx at hx
   have hay : a.eval (.const cv) = .nilIface := by
    generalize a.eval (.const cv) = vy at hy
    cases hy; rfl
   cases hx
   have hr := run_nilNil (w := w) (isIface_of hD) x cv
   cases op <;> simp only [] at hm
   case eql => exact ROk.of_eq (run_v (by rw [hax,hay]; exact hr.1)) (ROk.val hS (.bool _) (hm trivial))
   case neq => exact ROk.of_eq (run_v (by rw [hax,hay]; exact hr.2)) (ROk.val hS (.bool _) (hm trivial))
 | unOp op t x =>
  simp only [astep] at h
  have hx := hE x (by simp [Op.operands])
  generalize hax : a.eval x = vx at hx
  cases hvx : ρ x <;> rw [hvx] at h hx <;> cases op <;> simp only [] at h
  case bool.not b =>
   cases hx
   exact ROk.of_eq (run_v (x := .bool (!b)) (w' := w) (by rw [hax]; rfl)) (ROk.val hS (.bool _) h)
  case int.neg q n =>
   cases hx
   exact ROk.of_eq (run_v (x := .int q (q.wrap (0 - n))) (w' := w) (by rw [hax]; rfl)) (ROk.val hS (.int _ _ (wrap_has _ _)) h)
  case int.xor q n =>
   cases hx
   exact ROk.of_eq (run_v (x := .int q (q.wrap (BitVec.ofInt q.bits (if q.signed then -1 else q.max) ^^^ BitVec.ofInt q.bits n).toNat)) (w' := w) (by rw [hax]; rfl)) (ROk.val hS (.int _ _ (wrap_has _ _)) h)
 | convert src dst x =>
  simp only [astep] at h
  have hx := hE x (by simp [Op.operands])
  generalize hax : a.eval x = vx at hx
  have hds : ∀ {d},(lkT τ src).d = d → d ≠ .other → DOk P src d := fun {d} hd hn => by have := (lkT_ok hτ src (by rw [hd]; exact hn)).d; rw [hd] at this; exact this
  have hdd : ∀ {d},(lkT τ dst).d = d → d ≠ .other → DOk P dst d := fun {d} hd hn => by have := (lkT_ok hτ dst (by rw [hd]; exact hn)).d; rw [hd] at this; exact this
  cases h1 : (lkT τ src).d <;> rw [h1] at h <;> (try simp only [] at h) <;> (try exact (show False from h).elim)
  case int q1 =>
   cases h2 : (lkT τ dst).d <;> rw [h2] at h <;> (try simp only [] at h) <;> (try exact (show False from h).elim)
   case int q2 =>
    cases hvx : ρ x <;> rw [hvx] at h hx <;> simp only [] at h
    case int q n =>
     cases hx
     refine ROk.of_eq (run_v (x := .int q2 (q2.wrap n)) (w' := w) ?_) (ROk.val hS (.int _ _ (wrap_has _ _)) h)
     rw [hax]
     unfold convert
     rw [run_bind_ok (run_underlying (hds h1 (by simp)) w),run_bind_ok (run_underlying (hdd h2 (by simp)) w)]
     rfl
  case str =>
   cases h2 : (lkT τ dst).d <;> rw [h2] at h <;> (try simp only [] at h) <;> (try exact (show False from h).elim)
   case str =>
    cases hvx : ρ x <;> rw [hvx] at h hx <;> simp only [] at h
    case str s =>
     cases hx with
     | str _ hl =>
      refine ROk.of_eq (run_v (x := .string ⟨s.toArray⟩) (w' := w) ?_) (ROk.val hS (.str _ hl) h)
      rw [hax]
      unfold convert
      rw [run_bind_ok (run_underlying (hds h1 (by simp)) w),run_bind_ok (run_underlying (hdd h2 (by simp)) w)]
      rfl
  case slice e =>
   cases h2 : (lkT τ dst).d <;> rw [h2] at h <;> (try simp only [] at h) <;> (try exact (show False from h).elim)
   case str =>
    cases hvx : ρ x <;> rw [hvx] at h hx <;> simp only [] at h
    case sl sz es tk =>
     obtain ⟨he,l,rfl,hk⟩ := h
     have hE8 := (lkT_ok hτ e (by rw [he]; simp)).d
     rw [he] at hE8
     obtain ⟨e1,e2⟩ := run_sl_string hS (hds h1 (by simp)) hE8 (hdd h2 (by simp)) hx
     exact ROk.of_eq (run_v (by rw [hax]; exact e1)) (ROk.val hS (.str _ e2) hk)
    case msl b off n cap =>
     obtain ⟨he,l,hn,hc,hk⟩ := h
     have hE8 := (lkT_ok hτ e (by rw [he]; simp)).d
     rw [he] at hE8
     obtain ⟨e1,e2⟩ := run_msl_string hS (hds h1 (by simp)) hE8 (hdd h2 (by simp)) hx hn hc
     exact ROk.of_eq (run_v (by rw [hax]; exact e1)) (ROk.val hS (.str _ e2) hk)
  case ptr e =>
   cases h2 : (lkT τ dst).d <;> rw [h2] at h <;> (try simp only [] at h) <;> (try exact (show False from h).elim)
   case uptr =>
    cases hvx : ρ x <;> rw [hvx] at h hx <;> simp only [] at h
    case ptr b off =>
     obtain ⟨hkn,hsz,p,cs,hp,ho,hk⟩ := h
     cases hx
     exact ROk.of_eq (run_v (by rw [hax]; exact run_toUnsafe hS (hds h1 (by simp)) (hdd h2 (by simp)) (lkT_ok hτ e (TD.known_ne hkn)) hsz hp ho)) (ROk.val hS (.ptr _ _) hk)
  case uptr =>
   cases h2 : (lkT τ dst).d <;> rw [h2] at h <;> (try simp only [] at h) <;> (try exact (show False from h).elim)
   case ptr u =>
    cases hvx : ρ x <;> rw [hvx] at h hx <;> simp only [] at h
    case ptr b off =>
     obtain ⟨hkn,p,cs,T,hp,hty,hl,hk⟩ := h
     cases hx
     exact ROk.of_eq (run_v (by rw [hax]; exact run_fromUnsafe hS (hds h1 (by simp)) (hdd h2 (by simp)) (lkT_ok hτ u (TD.known_ne hkn)) hp hty hl)) (ROk.val hS (.ptr _ _) hk)
 | makeFunc fn first cap =>
  have h1 := evsL (K := K) (ρ := ρ) (a := a) first.toList (fun x hx => hE x (by simp [Op.operands]; exact .inl (by simpa using hx)))
  have h2 := evsL (K := K) (ρ := ρ) (a := a) cap.toList (fun x hx => hE x (by simp [Op.operands]; exact .inr (by simpa using hx)))
  refine ROk.of_eq (r' := .ok (.value (.func fn (first.toList.map a.eval).toArray (cap.toList.map a.eval).toArray)) w) ?_ (ROk.val hS (.fn fn h1.1 h1.2 h2.1 h2.2) h)
  rw [← map_toArray, ← map_toArray]; rfl
 | slice t x lo hi mx =>
  have hx := hE x (by simp [Op.operands])
  have hlo := relO (K := K) (ρ := ρ) (a := a) lo (fun y hy => hE y (by simp [Op.operands,hy]))
  have hhi := relO (K := K) (ρ := ρ) (a := a) hi (fun y hy => hE y (by simp [Op.operands,hy]))
  have hmx := relO (K := K) (ρ := ρ) (a := a) mx (fun y hy => hE y (by simp [Op.operands,hy]))
  simp only [astep] at h
  cases hd : (lkT τ t).d <;> rw [hd] at h <;> (try simp only [] at h) <;> (try exact (show False from h).elim)
  case str =>
   have hD := (lkT_ok hτ t (by rw [hd]; simp)).d
   rw [hd] at hD
   cases hv : ρ x <;> rw [hv] at h hx <;> simp only [] at h
   case str s =>
    obtain ⟨rfl,h0,h1,h2,r,rfl,hk⟩ := h
    obtain ⟨v,e1,e2⟩ := run_slice_str (w := w) hD hx hlo hhi h0 h1 h2
    exact ROk.of_eq (run_v e1) (ROk.val hS e2 hk)
  case slice e =>
   have hD := (lkT_ok hτ t (by rw [hd]; simp)).d
   rw [hd] at hD
   cases hv : ρ x <;> rw [hv] at h hx <;> simp only [] at h
   case sl sz es tk =>
    obtain ⟨hk,hsz,hmh,h0,h1,h2,h3,r,rfl,hkk⟩ := h
    have hos : ∀ o : Option Operand,(oev ρ o).isSome = o.isSome := by intro o; cases o <;> rfl
    obtain ⟨v,e1,e2⟩ := run_slice_sl (w := w) hD (lkT_ok hτ e (TD.known_ne hk)) hsz hx hlo hhi hmx (by rw [hos,hos]; exact hmh) h0 h1 h2 (by rw [hos]; exact h3)
    exact ROk.of_eq (run_v e1) (ROk.val hS e2 hkk)
   case msl b off n cap =>
    obtain ⟨hk,hmh,h0,h1,h2,h3,o,n',c',rfl,rfl,rfl,hkk⟩ := h
    have hos : ∀ o : Option Operand,(oev ρ o).isSome = o.isSome := by intro o; cases o <;> rfl
    obtain ⟨v,e1,e2⟩ := run_slice_msl (w := w) hD (lkT_ok hτ e (TD.known_ne hk)) hx hlo hhi hmx (by rw [hos,hos]; exact hmh) h0 h1 h2 h3
    exact ROk.of_eq (run_v e1) (ROk.val hS e2 hkk)
 | fieldAddr t x f =>
  simp only [astep] at h
  have hx := hE x (by simp [Op.operands])
  generalize hax : a.eval x = vx at hx
  cases hd : (lkT τ t).d <;> rw [hd] at h <;> simp only [] at h
  case struct fs =>
   have hD := (lkT_ok hτ t (by rw [hd]; simp)).d
   rw [hd] at hD
   obtain ⟨off,ft,hf,hk,hsz,h⟩ := h
   have hi := lkT_ok hτ ft (TD.known_ne hk)
   cases hv : ρ x <;> rw [hv] at h hx <;> simp only [] at h
   case ptr b o =>
    cases hx
    exact ROk.of_eq (run_v (by rw [hax]; exact run_fieldAt hD hf hi hsz b o)) (ROk.val hS (.ptr _ _) h)
   case ref cs =>
    cases hx with
    | @ref _ b o vs h1 hl hr hkn =>
     refine ROk.of_eq (run_v (by rw [hax]; exact run_fieldAt hD hf hi hsz b o)) (ROk.val hS (.ref (vs := vs.drop off) (fun c hc => h1 c (List.mem_of_mem_drop hc)) ?_ ?_ ?_) h.2)
     ·simp [hl]
     ·exact fun i c v hc hv => hr (off + i) c v (by simpa using hc) (by simpa using hv)
     ·intro i v hv
      rw [Nat.add_assoc]; exact hkn _ v (by simpa using hv)
 | field t x f =>
  simp only [astep] at h
  have hx := hE x (by simp [Op.operands])
  cases hd : (lkT τ t).d <;> rw [hd] at h <;> (try simp only [] at h) <;> (try exact (show False from h).elim)
  case struct fs =>
   have hD := (lkT_ok hτ t (by rw [hd]; simp)).d
   rw [hd] at hD
   cases hv : ρ x <;> rw [hv] at h hx <;> simp only [] at h
   case agg cs =>
    obtain ⟨off,ft,hf,hk,hsz,h⟩ := h
    obtain ⟨v,e1,e2⟩ := run_field (w := w) hD hf (lkT_ok hτ ft (TD.known_ne hk)) hk hx hsz
    exact ROk.of_eq (run_v e1) (ROk.val hS e2 h)
 | indexAddr t x i =>
  simp only [astep] at h
  have hx := hE x (by simp [Op.operands])
  have hi := hE i (by simp [Op.operands])
  generalize hax : a.eval x = vx at hx
  generalize hai : a.eval i = vi at hi
  cases hd : (lkT τ t).d <;> rw [hd] at h <;> (try simp only [] at h) <;> (try exact (show False from h).elim)
  case slice e =>
   have hD := (lkT_ok hτ t (by rw [hd]; simp)).d
   rw [hd] at hD
   cases hv : ρ x <;> rw [hv] at h hx <;> (try simp only [] at h) <;> (try exact (show False from h).elim)
   case sl sz es tk =>
    cases hvi : ρ i <;> rw [hvi] at h hi <;> simp only [] at h
    case int q n =>
     cases hi
     obtain ⟨hk,hsz,h0,v,hvv,hkk⟩ := h
     obtain ⟨y,e1,e2⟩ := run_indexAt_sl (w := w) (q := q) hD (lkT_ok hτ e (TD.known_ne hk)) hsz hx h0 hvv
     exact ROk.of_eq (run_v (by rw [hax,hai]; exact e1)) (ROk.val hS e2 hkk)
   case msl b off len cap =>
    cases hvi : ρ i <;> rw [hvi] at h hi <;> simp only [] at h
    case int q n =>
     cases hi
     obtain ⟨hk,h0,h1,o,rfl,hkk⟩ := h
     exact ROk.of_eq (run_v (by rw [hax,hai]; exact run_indexAt_msl hD (lkT_ok hτ e (TD.known_ne hk)) hx ⟨h0,h1⟩)) (ROk.val hS (.ptr _ _) hkk)
  case array len e =>
   have hD := (lkT_ok hτ t (by rw [hd]; simp)).d
   rw [hd] at hD
   cases hv : ρ x <;> rw [hv] at h hx <;> (try simp only [] at h) <;> (try exact (show False from h).elim)
   case ptr b off =>
    cases hvi : ρ i <;> rw [hvi] at h hi <;> simp only [] at h
    case int q n =>
     cases hi; cases hx
     obtain ⟨hk,h0,h1,o,rfl,hkk⟩ := h
     exact ROk.of_eq (run_v (by rw [hax,hai]; exact run_indexAt_arr hD (lkT_ok hτ e (TD.known_ne hk)) ⟨h0,h1⟩)) (ROk.val hS (.ptr _ _) hkk)
   case gl g =>
    cases hvi : ρ i <;> rw [hvi] at h hi <;> simp only [] at h
    case int q n =>
     cases hi; cases hx
     obtain ⟨hk,h0,h1,cs,hm,r,rfl,hkk⟩ := h
     obtain ⟨_,h1c,vs,_,_,_,hrel,hkn⟩ := hS.ents _ hm
     refine ROk.of_eq (run_v (by rw [hax,hai]; exact run_indexAt_arr hD (lkT_ok hτ e (TD.known_ne hk)) ⟨h0,h1⟩)) (ROk.val hS (.ref (vs := (vs.toList.drop (n.toNat * (lkT τ e).sz)).take (lkT τ e).sz) (fun c hc => h1c c (List.mem_of_mem_drop (List.mem_of_mem_take hc))) (by rw [List.length_take,List.length_take,List.length_drop,List.length_drop,hrel.1]) ?_ ?_) hkk)
     ·intro j c v hc hv
      rw [List.getElem?_take] at hc hv
      split at hc
      ·rw [if_pos (by assumption)] at hv
       rw [List.getElem?_drop] at hc hv
       exact hrel.2 _ c v hc hv
      ·cases hc
     ·intro j v hv
      rw [List.getElem?_take] at hv
      split at hv
      ·rw [List.getElem?_drop] at hv
       rw [Nat.zero_add]
       exact hkn _ v hv
      ·cases hv
 | index t x i =>
  simp only [astep] at h
  have hx := hE x (by simp [Op.operands])
  have hi := hE i (by simp [Op.operands])
  generalize hax : a.eval x = vx at hx
  generalize hai : a.eval i = vi at hi
  cases hd : (lkT τ t).d <;> rw [hd] at h <;> (try simp only [] at h) <;> (try exact (show False from h).elim)
  case str =>
   have hD := (lkT_ok hτ t (by rw [hd]; simp)).d
   rw [hd] at hD
   cases hv : ρ x <;> rw [hv] at h hx <;> (try simp only [] at h) <;> (try exact (show False from h).elim)
   case str s =>
    cases hvi : ρ i <;> rw [hvi] at h hi <;> simp only [] at h
    case int q n =>
     cases hi
     obtain ⟨h0,c,hc,hkk⟩ := h
     cases hx with
     | str _ hl =>
      refine ROk.of_eq (run_v (x := .int .u8 c.toNat) (w' := w) ?_) (ROk.val hS (.int _ _ ?_) hkk)
      ·rw [hax,hai]
       simp only [Instr.index,asIntOf]
       rw [run_bind_ok (Sem.run_pure P w _)]
       rw [run_bind_ok (run_underlying (show P.underlying t = some .string from hD) w)]
       have hb : (ByteArray.mk s.toArray)[n.toNat]? = some c := by
        have hlt : n.toNat < s.length := (List.getElem?_eq_some_iff.1 hc).1
        have hlt' : n.toNat < (ByteArray.mk s.toArray).size := by simpa [ByteArray.size] using hlt
        rw [ByteArray.getElem?_lt' _ _ hlt']
        have := (List.getElem?_eq_some_iff.1 hc).2
        congr 1
       simp [h0,hb]
      ·have := c.toNat_lt
       simp only [IntKind.has,IntKind.min,IntKind.max,IntKind.bits,IntKind.signed]; simp; omega
  case array len e =>
   have hD := (lkT_ok hτ t (by rw [hd]; simp)).d
   rw [hd] at hD
   cases hv : ρ x <;> rw [hv] at h hx <;> (try simp only [] at h) <;> (try exact (show False from h).elim)
   case agg cs =>
    cases hvi : ρ i <;> rw [hvi] at h hi <;> simp only [] at h
    case int q n =>
     cases hi
     obtain ⟨hk,h0,h1,hsz,hkk⟩ := h
     cases hx with
     | @agg _ vs hone hl hr =>
      have hie := lkT_ok hτ e (TD.known_ne hk)
      obtain ⟨v,e1,e2⟩ := run_part (w := w) hie hk hone ⟨hl,hr⟩ hsz
      refine ROk.of_eq (run_v (x := v) (w' := w) ?_) (ROk.val hS e2 hkk)
      rw [hax,hai]
      simp only [Instr.index,asIntOf]
      rw [run_bind_ok (Sem.run_pure P w _)]
      rw [run_bind_ok (run_underlying (show P.underlying t = some (.array len e) from hD) w)]
      simp only []
      rw [if_pos ⟨h0,h1⟩,run_bind_ok (hie.sizeOf w)]
      exact e1
 | extract x i =>
  simp only [astep] at h
  have hx := hE x (by simp [Op.operands])
  generalize hax : a.eval x = vx at hx
  cases hv : ρ x <;> rw [hv] at h hx <;> simp only [] at h
  case tup vs =>
   obtain ⟨v,hvv,hkk⟩ := h
   cases hx with
   | @tup _ us hl hr =>
    obtain ⟨u,hu,hru⟩ := RelL.get ⟨hl,hr⟩ hvv
    exact ROk.of_eq (run_v (x := u) (w' := w) (by rw [hax]; simp [Instr.extract,hu])) (ROk.val hS hru hkk)
 | nilCheck x =>
  simp only [astep] at h
  have hx := hE x (by simp [Op.operands])
  generalize hax : a.eval x = vx at hx
  cases hv : ρ x <;> rw [hv] at h hx <;> simp only [] at h
  case ptr b o =>
   cases hx
   exact ROk.of_eq (r' := .ok (.value (.pointer (some ⟨b,o,none⟩))) w) (by simp only [execOp,hax]; rfl) (ROk.val hS (.ptr _ _) h)
  case ref cs =>
   have hx' := hx
   cases hx with
   | ref h1 hl hr hkn => exact ROk.of_eq (r' := .ok (.value _) w) (by simp only [execOp,hax]; rfl) (ROk.val hS hx' h)
 | call c =>
  simp only [astep] at h
  obtain ⟨callee,args,ats⟩ := c
  simp only [] at h
  cases callee with
  | value f =>
   simp only [] at h
   have hf := hE f (by simp [Op.operands,Call.operands])
   have hargs := evsA (K := K) (ρ := ρ) (a := a) args (fun x hx => hE x (by simp [Op.operands,Call.operands,hx]))
   exact callV_ok hS hf hargs h
  | invoke r m => exact h.elim
  | builtin b =>
   simp only [] at h
   have hargs := evsA (K := K) (ρ := ρ) (a := a) args (fun x hx => hE x (by simp [Op.operands,Call.operands,hx]))
   exact builtin_ok hτ hS hargs _ h
 | _ => exact h.elim
end Go.Aw
