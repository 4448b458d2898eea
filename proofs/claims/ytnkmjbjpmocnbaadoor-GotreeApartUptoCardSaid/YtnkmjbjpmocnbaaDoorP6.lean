/-
  Types, statements and files of Go's part as data; what the arguments read as. Own work.
-/
import Derived.Test.YtnkmjbjpmocnbaaDoorP3
set_option linter.all false
namespace Go.Proofs.YtnkmjbjpmocnbaaDoor
open Go.Aw Go.ChangeShapes Go.WideShapes Go.ChangeAt Go.RowKit

inductive Y
  | mk (op : Int) (s : List UInt8) (l : List Y)
def Y.op : Y → Int
  | .mk a _ _ => a
def Y.s : Y → List UInt8
  | .mk _ a _ => a
def Y.l : Y → List Y
  | .mk _ _ a => a
mutual
def encY : Y → AV
  | .mk op s l => .agg [.int .i64 op, .str s, .sl 3 (encYs l) .no]
def encYs : List Y → List AV
  | [] => []
  | t :: r => encY t :: encYs r
end
/-- a type's cells -/
def cY (t : Y) : List AV := [.int .i64 t.op, .str t.s, .sl 3 (encYs t.l) .no]
def encV (t : Y) : AV := .agg (cY t)
theorem encY_eq (t : Y) : encY t = encV t := by cases t; rfl
theorem encYs_map : ∀ l : List Y, encYs l = l.map encV
  | [] => rfl
  | t :: l => by rw [encYs, encY_eq, encYs_map l]; rfl
@[simp] theorem encYs_len (l : List Y) : (encYs l).length = l.length := by rw [encYs_map, List.length_map]
theorem encYs_get {l : List Y} {i : Nat} (h : i < l.length) : (encYs l)[i]? = some (encV l[i]) := by
  rw [encYs_map, List.getElem?_map, List.getElem?_eq_getElem h]; rfl
mutual
def szY : Y → Nat
  | .mk _ s l => s.length + szYs l + 1
def szYs : List Y → Nat
  | [] => 0
  | t :: r => szY t + szYs r
end
theorem szYs_map : ∀ l : List Y, szYs l = (l.map szY).sum
  | [] => rfl
  | t :: l => by rw [szYs, szYs_map l]; rfl

inductive Z
  | mk (op : Int) (s : List UInt8) (t : Y) (x y : T) (l m : List Z)
def Z.op : Z → Int
  | .mk a _ _ _ _ _ _ => a
def Z.s : Z → List UInt8
  | .mk _ a _ _ _ _ _ => a
def Z.t : Z → Y
  | .mk _ _ a _ _ _ _ => a
def Z.x : Z → T
  | .mk _ _ _ a _ _ _ => a
def Z.y : Z → T
  | .mk _ _ _ _ a _ _ => a
def Z.l : Z → List Z
  | .mk _ _ _ _ _ a _ => a
def Z.m : Z → List Z
  | .mk _ _ _ _ _ _ a => a
mutual
def encZ : Z → AV
  | .mk op s t x y l m => .agg [.int .i64 op, .str s, .int .i64 t.op, .str t.s, .sl 3 (encYs t.l) .no, .int .i64 x.op, .str x.s, .int .i64 x.n, .sl 4 (encTs x.l) .no, .int .i64 y.op, .str y.s, .int .i64 y.n, .sl 4 (encTs y.l) .no, .sl 15 (encZs l) .no, .sl 15 (encZs m) .no]
def encZs : List Z → List AV
  | [] => []
  | t :: r => encZ t :: encZs r
end
/-- a statement's cells -/
def cZ (z : Z) : List AV := [.int .i64 z.op, .str z.s, .int .i64 z.t.op, .str z.t.s, .sl 3 (encYs z.t.l) .no, .int .i64 z.x.op, .str z.x.s, .int .i64 z.x.n, .sl 4 (encTs z.x.l) .no, .int .i64 z.y.op, .str z.y.s, .int .i64 z.y.n, .sl 4 (encTs z.y.l) .no, .sl 15 (encZs z.l) .no, .sl 15 (encZs z.m) .no]
def encSt (z : Z) : AV := .agg (cZ z)
theorem encZ_eq (t : Z) : encZ t = encSt t := by cases t; rfl
theorem encZs_map : ∀ l : List Z, encZs l = l.map encSt
  | [] => rfl
  | t :: l => by rw [encZs, encZ_eq, encZs_map l]; rfl
@[simp] theorem encZs_len (l : List Z) : (encZs l).length = l.length := by rw [encZs_map, List.length_map]
theorem encZs_get {l : List Z} {i : Nat} (h : i < l.length) : (encZs l)[i]? = some (encSt l[i]) := by
  rw [encZs_map, List.getElem?_map, List.getElem?_eq_getElem h]; rfl
mutual
def szZ : Z → Nat
  | .mk _ s t x y l m => s.length + szY t + szT x + szT y + szZs l + szZs m + 1
def szZs : List Z → Nat
  | [] => 0
  | t :: r => szZ t + szZs r
end
theorem szZs_map : ∀ l : List Z, szZs l = (l.map szZ).sum
  | [] => rfl
  | t :: l => by rw [szZs, szZs_map l]; rfl

structure Sc where
  s : List UInt8
  names : List (List UInt8)
  types : List Y
def cSc (d : Sc) : List AV := [.str d.s, .sl 1 (d.names.map AV.str) .no, .sl 3 (encYs d.types) .no]
def encSc (d : Sc) : AV := .agg (cSc d)
structure Fn where
  s : List UInt8
  names : List (List UInt8)
  types : List Y
  ret : Y
  l : List Z
def cFn (d : Fn) : List AV := [.str d.s, .sl 1 (d.names.map AV.str) .no, .sl 3 (encYs d.types) .no, .int .i64 d.ret.op, .str d.ret.s, .sl 3 (encYs d.ret.l) .no, .sl 15 (encZs d.l) .no]
def encFn (d : Fn) : AV := .agg (cFn d)
structure Fi where
  structs : List Sc
  funcs : List Fn
def cFi (f : Fi) : List AV := [.sl 3 (f.structs.map encSc) .no, .sl 7 (f.funcs.map encFn) .no]
def encFi (f : Fi) : AV := .agg (cFi f)
def szN (l : List (List UInt8)) : Nat := (l.map fun s => s.length + 1).sum
def szSc (d : Sc) : Nat := d.s.length + szN d.names + szYs d.types + 1
def szFn (d : Fn) : Nat := d.s.length + szN d.names + szYs d.types + szY d.ret + szZs d.l + 1
def szFi (f : Fi) : Nat := (f.structs.map szSc).sum + (f.funcs.map szFn).sum + 1

theorem opens_Y : ∀ n, Opens Tryd.prog n 54 encV szY
  | 0 => opens_zero
  | 1 => opens_map (opens_struct Tryd.underlying54 (by kernel_rfl) (opensF_cons (c := 1) rfl (by kernel_rfl) (opens_int (k := .i64) Tryd.underlying3 0) (opensF_cons (c := 1) rfl (by kernel_rfl) (opens_str Tryd.underlying9 0) (opensF_cons (c := 1) rfl (by kernel_rfl) (opens_zero (t := 50) (av := fun l : List Y => .sl 3 (l.map encV) .no) (sz := fun l => (l.map szY).sum + 1)) opensF_nil))))
      (fun x => .mk x.1 x.2.1 x.2.2.1) (fun x => by show AV.agg [_, _, AV.sl 3 (encYs _) .no] = _; rw [encYs_map]; rfl) (fun x => by show szY (.mk x.1 x.2.1 x.2.2.1) ≤ _; rw [szY, szYs_map]; omega)
  | n + 2 => opens_map (opens_struct Tryd.underlying54 (by kernel_rfl) (opensF_cons (c := 1) rfl (by kernel_rfl) (opens_int (k := .i64) Tryd.underlying3 (n + 1)) (opensF_cons (c := 1) rfl (by kernel_rfl) (opens_str Tryd.underlying9 (n + 1)) (opensF_cons (c := 1) rfl (by kernel_rfl) (opens_slice (c := 3) Tryd.underlying50 (by kernel_rfl) (by decide) (opens_Y n)) opensF_nil))))
      (fun x => .mk x.1 x.2.1 x.2.2.1) (fun x => by show AV.agg [_, _, AV.sl 3 (encYs _) .no] = _; rw [encYs_map]; rfl) (fun x => by show szY (.mk x.1 x.2.1 x.2.2.1) ≤ _; rw [szY, szYs_map]; omega)
theorem opens_Ys (n : Nat) : Opens Tryd.prog n 50 (fun l : List Y => .sl 3 (encYs l) .no) szYs := opens_all (fun n => opens_map (opens_slice (c := 3) Tryd.underlying50 (by kernel_rfl) (by decide) (opens_Y n)) id (fun l => by show AV.sl 3 (encYs l) .no = _; rw [encYs_map]) (fun l => by show szYs l ≤ _; rw [szYs_map]; omega)) n
theorem opens_names (n : Nat) : Opens Tryd.prog n 49 (fun l : List (List UInt8) => .sl 1 (l.map AV.str) .no) szN := opens_all (fun n => opens_map (opens_slice (c := 1) Tryd.underlying49 (by kernel_rfl) (by decide) (opens_str Tryd.underlying9 n)) id (fun l => rfl) (fun l => by show szN l ≤ _; unfold szN; omega)) n
theorem opens_Z : ∀ n, Opens Tryd.prog n 99 encSt szZ
  | 0 => opens_zero
  | 1 => opens_map (opens_struct Tryd.underlying99 (by kernel_rfl)
      (opensF_cons (c := 1) rfl (by kernel_rfl) (opens_int (k := .i64) Tryd.underlying3 0) (opensF_cons (c := 1) rfl (by kernel_rfl) (opens_str Tryd.underlying9 0) (opensF_cons (c := 3) rfl (by kernel_rfl) (opens_Y 0) (opensF_cons (c := 4) rfl (by kernel_rfl) (opens_T 0) (opensF_cons (c := 4) rfl (by kernel_rfl) (opens_T 0) (opensF_cons (c := 1) rfl (by kernel_rfl) (opens_zero (t := 55) (av := fun l : List Z => .sl 15 (l.map encSt) .no) (sz := fun l => (l.map szZ).sum + 1)) (opensF_cons (c := 1) rfl (by kernel_rfl) (opens_zero (t := 55) (av := fun l : List Z => .sl 15 (l.map encSt) .no) (sz := fun l => (l.map szZ).sum + 1)) opensF_nil))))))))
        (fun x => .mk x.1 x.2.1 x.2.2.1 x.2.2.2.1 x.2.2.2.2.1 x.2.2.2.2.2.1 x.2.2.2.2.2.2.1) (fun x => by show AV.agg [_, _, _, _, _, _, _, _, _, _, _, _, _, AV.sl 15 (encZs _) .no, AV.sl 15 (encZs _) .no] = _; rw [encZs_map, encZs_map]; rfl) (fun x => by show szZ (.mk x.1 x.2.1 x.2.2.1 x.2.2.2.1 x.2.2.2.2.1 x.2.2.2.2.2.1 x.2.2.2.2.2.2.1) ≤ _; rw [szZ, szZs_map, szZs_map]; omega)
  | n + 2 => opens_map (opens_struct Tryd.underlying99 (by kernel_rfl)
      (opensF_cons (c := 1) rfl (by kernel_rfl) (opens_int (k := .i64) Tryd.underlying3 (n + 1)) (opensF_cons (c := 1) rfl (by kernel_rfl) (opens_str Tryd.underlying9 (n + 1)) (opensF_cons (c := 3) rfl (by kernel_rfl) (opens_Y (n + 1)) (opensF_cons (c := 4) rfl (by kernel_rfl) (opens_T (n + 1)) (opensF_cons (c := 4) rfl (by kernel_rfl) (opens_T (n + 1)) (opensF_cons (c := 1) rfl (by kernel_rfl) (opens_slice (c := 15) Tryd.underlying55 (by kernel_rfl) (by decide) (opens_Z n)) (opensF_cons (c := 1) rfl (by kernel_rfl) (opens_slice (c := 15) Tryd.underlying55 (by kernel_rfl) (by decide) (opens_Z n)) opensF_nil))))))))
        (fun x => .mk x.1 x.2.1 x.2.2.1 x.2.2.2.1 x.2.2.2.2.1 x.2.2.2.2.2.1 x.2.2.2.2.2.2.1) (fun x => by show AV.agg [_, _, _, _, _, _, _, _, _, _, _, _, _, AV.sl 15 (encZs _) .no, AV.sl 15 (encZs _) .no] = _; rw [encZs_map, encZs_map]; rfl) (fun x => by show szZ (.mk x.1 x.2.1 x.2.2.1 x.2.2.2.1 x.2.2.2.2.1 x.2.2.2.2.2.1 x.2.2.2.2.2.2.1) ≤ _; rw [szZ, szZs_map, szZs_map]; omega)
theorem opens_Zs (n : Nat) : Opens Tryd.prog n 55 (fun l : List Z => .sl 15 (encZs l) .no) szZs := opens_all (fun n => opens_map (opens_slice (c := 15) Tryd.underlying55 (by kernel_rfl) (by decide) (opens_Z n)) id (fun l => by show AV.sl 15 (encZs l) .no = _; rw [encZs_map]) (fun l => by show szZs l ≤ _; rw [szZs_map]; omega)) n
theorem opens_Sc (n : Nat) : Opens Tryd.prog n 52 encSc szSc := opens_all (fun n => opens_map (opens_struct Tryd.underlying52 (by kernel_rfl) (opensF_cons (c := 1) rfl (by kernel_rfl) (opens_str Tryd.underlying9 n) (opensF_cons (c := 1) rfl (by kernel_rfl) (opens_names n) (opensF_cons (c := 1) rfl (by kernel_rfl) (opens_Ys n) opensF_nil))))
  (fun x => Sc.mk x.1 x.2.1 x.2.2.1) (fun x => rfl) (fun x => by show szSc (Sc.mk x.1 x.2.1 x.2.2.1) ≤ _; simp only [szSc]; omega)) n
theorem opens_Fn (n : Nat) : Opens Tryd.prog n 57 encFn szFn := opens_all (fun n => opens_map (opens_struct Tryd.underlying57 (by kernel_rfl) (opensF_cons (c := 1) rfl (by kernel_rfl) (opens_str Tryd.underlying9 n) (opensF_cons (c := 1) rfl (by kernel_rfl) (opens_names n) (opensF_cons (c := 1) rfl (by kernel_rfl) (opens_Ys n) (opensF_cons (c := 3) rfl (by kernel_rfl) (opens_Y n) (opensF_cons (c := 1) rfl (by kernel_rfl) (opens_Zs n) opensF_nil))))))
  (fun x => Fn.mk x.1 x.2.1 x.2.2.1 x.2.2.2.1 x.2.2.2.2.1) (fun x => rfl) (fun x => by show szFn (Fn.mk x.1 x.2.1 x.2.2.1 x.2.2.2.1 x.2.2.2.2.1) ≤ _; simp only [szFn]; omega)) n
theorem opens_Fi (n : Nat) : Opens Tryd.prog n 35 encFi szFi := opens_all (fun n => opens_map (opens_struct Tryd.underlying35 (by kernel_rfl) (opensF_cons (c := 1) rfl (by kernel_rfl) (opens_all (fun n => opens_slice (c := 3) Tryd.underlying32 (by kernel_rfl) (by decide) (opens_Sc n)) n) (opensF_cons (c := 1) rfl (by kernel_rfl) (opens_all (fun n => opens_slice (c := 7) Tryd.underlying33 (by kernel_rfl) (by decide) (opens_Fn n)) n) opensF_nil)))
  (fun x => Fi.mk x.1 x.2.1) (fun x => rfl) (fun x => by show szFi (Fi.mk x.1 x.2.1) ≤ _; simp only [szFi]; omega)) n
end Go.Proofs.YtnkmjbjpmocnbaaDoor
/-
  How many parts: the law's own measure, of expressions and types. Own work.
-/
namespace Go.Proofs.YtnkmjbjpmocnbaaDoor
open Go.Aw Go.RowKit
set_option maxHeartbeats 4000000

mutual
def sizeG : T → Int → Int
  | .mk _ _ _ l, k => sizeGs l (k - 1)
def sizeGs : List T → Int → Int
  | [], k => k
  | t :: r, k => if 0 ≤ k then sizeGs r (sizeG t k) else k
end
theorem sizeG_eq (t : T) (k : Int) : sizeG t k = sizeGs t.l (k - 1) := by cases t; rfl
mutual
theorem sizeG_le : ∀ (t : T) (k : Int), -1 ≤ k → -2 ≤ sizeG t k ∧ sizeG t k ≤ k - 1
  | .mk _ s _ l, k, h => by
    rw [sizeG]
    have := sizeGs_le l (k - 1) (by omega)
    omega
theorem sizeGs_le : ∀ (l : List T) (k : Int), -2 ≤ k → -2 ≤ sizeGs l k ∧ sizeGs l k ≤ k
  | [], k, h => by rw [sizeGs]; omega
  | t :: r, k, h => by
    rw [sizeGs]
    split
    · rename_i h0
      have h1 := sizeG_le t k (by omega)
      have h2 := sizeGs_le r (sizeG t k) h1.1
      omega
    · omega
end
theorem sizeGs_neg {l : List T} {k : Int} (h : k < 0) : sizeGs l k = k := by
  cases l with
  | nil => rfl
  | cons t r => rw [sizeGs, if_neg (by omega)]
mutual
def sizeY : Y → Int → Int
  | .mk _ _ l, k => sizeYs l (k - 1)
def sizeYs : List Y → Int → Int
  | [], k => k
  | t :: r, k => if 0 ≤ k then sizeYs r (sizeY t k) else k
end
theorem sizeY_eq (t : Y) (k : Int) : sizeY t k = sizeYs t.l (k - 1) := by cases t; rfl
mutual
theorem sizeY_le : ∀ (t : Y) (k : Int), -1 ≤ k → -2 ≤ sizeY t k ∧ sizeY t k ≤ k - 1
  | .mk _ s l, k, h => by
    rw [sizeY]
    have := sizeYs_le l (k - 1) (by omega)
    omega
theorem sizeYs_le : ∀ (l : List Y) (k : Int), -2 ≤ k → -2 ≤ sizeYs l k ∧ sizeYs l k ≤ k
  | [], k, h => by rw [sizeYs]; omega
  | t :: r, k, h => by
    rw [sizeYs]
    split
    · rename_i h0
      have h1 := sizeY_le t k (by omega)
      have h2 := sizeYs_le r (sizeY t k) h1.1
      omega
    · omega
end
theorem sizeYs_neg {l : List Y} {k : Int} (h : k < 0) : sizeYs l k = k := by
  cases l with
  | nil => rfl
  | cons t r => rw [sizeYs, if_neg (by omega)]

theorem sizeExpr_ok : ∀ (n : Nat) (t : T), SizeOf.sizeOf t ≤ n → ∀ (k : Int) (R : List En), -1 ≤ k → k ≤ 100000 → ACall Tryd.prog 11 [encU t, .int .i64 k] R (fun r S => r = .int .i64 (sizeG t k) ∧ S = R)
  | 0, t, hn, k, R, _, _ => by cases t; simp at hn
  | n + 1, t, hn, k, R, h1, h2 => by
    have hs : ∀ x ∈ t.l, SizeOf.sizeOf x ≤ n := fun x hx => by
      cases t with
      | mk a b c l =>
        have := List.sizeOf_lt_of_mem (show x ∈ l from hx)
        simp at hn; omega
    have hw : IntKind.i64.wrap (k - 1) = k - 1 := wrap_i64 (by omega)
    have he := sizeG_eq t k
    refine ACall_body tab_ok Tryd.func11 rfl rfl rfl (by kernel_rfl) (Nat.le_of_ble_eq_true rfl) ?_
    repeat (first | refine go_ ?_ | intro _)
    rename_i p
    refine AW_for (α := Nat × Int) (fun z => ⟨[(1, .int .i64 z.2), (2, .ptr p 0), (5, .int .i64 (z.1 : Nat))], []⟩) (fun z => .cells p (cT t) :: R) (fun z => t.l.length - z.1) (fun z => z.1 ≤ t.l.length ∧ sizeGs t.l (k - 1) = sizeGs (t.l.drop z.1) z.2 ∧ (z.1 : Int) + z.2 ≤ 100000 ∧ (z.1 = 0 ∨ -2 ≤ z.2)) ((0, (k - 1))) ?_ (weak_of ?_ rfl ?_) (fun z hz => ?_)
    · refine ⟨Nat.zero_le _, rfl, ?_, .inl rfl⟩
      show ((0 : Nat) : Int) + ((k - 1)) ≤ 100000; omega
    · repeat (first | exact trivial | refine ⟨(AVle.eq (congrArg (AV.int .i64) hw)), ?_⟩ | refine ⟨AVle.refl _, ?_⟩ | refine ⟨AVle.tk, ?_⟩ | refine ⟨AVle.nil, ?_⟩ | refine ⟨AVle.nilFull, ?_⟩ | refine ⟨AVle.eq (congrArg (AV.int .i64) (by first | (simp; done) | (simp; omega) | (rw [wrap_i64 (by first | omega | (simp; omega))]; first | rfl | omega | (simp; done) | (simp; omega)))), ?_⟩)
    · repeat (first | exact SLe.rfl | refine SLe.tail ?_ | refine SLe.full ?_)
    obtain ⟨z, c⟩ := z
    obtain ⟨i1, i2, i4, i5⟩ : z ≤ t.l.length ∧ sizeGs t.l (k - 1) = sizeGs (t.l.drop z) c ∧ (z : Int) + c ≤ 100000 ∧ (z = 0 ∨ -2 ≤ c) := hz
    repeat (first | refine go_ ?_ | intro _)
    refine gsplit (z < t.l.length) (by first | (simp; done) | (simp <;> omega) | decide) (fun h => ?_) (fun h => ?_)
    rotate_left
    · have e : sizeGs t.l (k - 1) = c := by rw [i2, List.drop_of_length_le (by omega)]; rfl
      repeat (first | refine ga_ ?_ | intro _)
      refine AW_ret ?_
      repeat (first | refine ⟨0, rfl, ?_⟩ | refine ⟨1, rfl, ?_⟩ | refine ⟨2, rfl, ?_⟩ | refine ⟨3, rfl, ?_⟩ | refine ⟨4, rfl, ?_⟩ | refine ⟨5, rfl, ?_⟩ | refine ⟨6, rfl, ?_⟩)
      refine ⟨_, R, AVle.eq ?_, (by repeat (first | exact SLe.rfl | refine SLe.tail ?_)), rfl, rfl⟩
      rw [he, e]; rfl
    have hlt := h
    have hd : t.l.drop z = t.l[z] :: t.l.drop (z + 1) := (List.getElem_cons_drop hlt).symm
    repeat (first | refine go_ ?_ | intro _)
    refine AW_iff (0 ≤ c) rfl (by first | (simp; done) | (simp <;> omega) | decide) (fun h => ?_) (fun h => ?_)
    rotate_left
    · have e : sizeGs t.l (k - 1) = c := by rw [i2, sizeGs_neg (by omega)]
      repeat (first | refine ga_ ?_ | intro _)
      refine AW_ret ?_
      repeat (first | refine ⟨0, rfl, ?_⟩ | refine ⟨1, rfl, ?_⟩ | refine ⟨2, rfl, ?_⟩ | refine ⟨3, rfl, ?_⟩ | refine ⟨4, rfl, ?_⟩ | refine ⟨5, rfl, ?_⟩ | refine ⟨6, rfl, ?_⟩)
      refine ⟨_, R, AVle.eq ?_, (by repeat (first | exact SLe.rfl | refine SLe.tail ?_)), rfl, rfl⟩
      rw [he, e]; rfl
    have h0 := h
    obtain ⟨x, hx⟩ : ∃ x, x = t.l[z] := ⟨_, rfl⟩
    rw [hd, sizeGs, if_pos h0, ← hx] at i2
    have hb := sizeG_le x c (by omega)
    have kx := fun R => sizeExpr_ok n x (hs x (hx ▸ List.getElem_mem hlt)) c R (by omega) (by omega)
    repeat (first | refine go_ ?_ | intro _)
    refine at_get (z) (encU x) (by first | rfl | omega | (rw [wrap_i64 (by omega)]; omega)) (by rw [hx]; exact encTs_get hlt) ?_
    repeat (first | refine go_ ?_ | intro _)
    refine Or.inl ⟨⟨_, Tryd.func11, rfl, rfl⟩, ACall.mono ?_ (kx _)⟩
    rintro _ S1 ⟨rfl, hS1⟩
    subst S1
    repeat (first | refine go_ ?_ | intro _)
    refine ⟨(z + 1, sizeG x c), ?_, ?_, weak_of ?_ rfl ?_⟩
    · exact Nat.sub_lt_sub_left hlt (Nat.lt_succ_self z)
    · exact ⟨hlt, i2, by show ((z + 1 : Nat) : Int) + sizeG x c ≤ 100000; omega, .inr hb.1⟩
    · repeat (first | exact trivial | refine ⟨AVle.refl _, ?_⟩ | refine ⟨AVle.tk, ?_⟩ | refine ⟨AVle.nil, ?_⟩ | refine ⟨AVle.nilFull, ?_⟩ | refine ⟨AVle.eq (congrArg (AV.int .i64) (by first | (simp; done) | (simp; omega) | (rw [wrap_i64 (by first | omega | (simp; omega))]; first | rfl | omega | (simp; done) | (simp; omega)))), ?_⟩)
    · refine SW.le ?_
      repeat (first | exact SW.nil | refine SW.cons ?_ | refine SW.cells (by repeat (first | exact trivial | refine ⟨AVle.refl _, ?_⟩ | refine ⟨AVle.nilFull, ?_⟩ | refine ⟨AVle.tk, ?_⟩ | refine ⟨AVle.nil, ?_⟩)) rfl ?_ | refine SW.full ?_ | refine SW.drop ?_)
theorem sizeType_ok : ∀ (n : Nat) (t : Y), SizeOf.sizeOf t ≤ n → ∀ (k : Int) (R : List En), -1 ≤ k → k ≤ 100000 → ACall Tryd.prog 32 [encV t, .int .i64 k] R (fun r S => r = .int .i64 (sizeY t k) ∧ S = R)
  | 0, t, hn, k, R, _, _ => by cases t; simp at hn
  | n + 1, t, hn, k, R, h1, h2 => by
    have hs : ∀ x ∈ t.l, SizeOf.sizeOf x ≤ n := fun x hx => by
      cases t with
      | mk a b l =>
        have := List.sizeOf_lt_of_mem (show x ∈ l from hx)
        simp at hn; omega
    have hw : IntKind.i64.wrap (k - 1) = k - 1 := wrap_i64 (by omega)
    have he := sizeY_eq t k
    refine ACall_body tab_ok Tryd.func32 rfl rfl rfl (by kernel_rfl) (Nat.le_of_ble_eq_true rfl) ?_
    repeat (first | refine go_ ?_ | intro _)
    rename_i p
    refine AW_for (α := Nat × Int) (fun z => ⟨[(1, .int .i64 z.2), (2, .ptr p 0), (5, .int .i64 (z.1 : Nat))], []⟩) (fun z => .cells p (cY t) :: R) (fun z => t.l.length - z.1) (fun z => z.1 ≤ t.l.length ∧ sizeYs t.l (k - 1) = sizeYs (t.l.drop z.1) z.2 ∧ (z.1 : Int) + z.2 ≤ 100000 ∧ (z.1 = 0 ∨ -2 ≤ z.2)) ((0, (k - 1))) ?_ (weak_of ?_ rfl ?_) (fun z hz => ?_)
    · refine ⟨Nat.zero_le _, rfl, ?_, .inl rfl⟩
      show ((0 : Nat) : Int) + ((k - 1)) ≤ 100000; omega
    · repeat (first | exact trivial | refine ⟨(AVle.eq (congrArg (AV.int .i64) hw)), ?_⟩ | refine ⟨AVle.refl _, ?_⟩ | refine ⟨AVle.tk, ?_⟩ | refine ⟨AVle.nil, ?_⟩ | refine ⟨AVle.nilFull, ?_⟩ | refine ⟨AVle.eq (congrArg (AV.int .i64) (by first | (simp; done) | (simp; omega) | (rw [wrap_i64 (by first | omega | (simp; omega))]; first | rfl | omega | (simp; done) | (simp; omega)))), ?_⟩)
    · repeat (first | exact SLe.rfl | refine SLe.tail ?_ | refine SLe.full ?_)
    obtain ⟨z, c⟩ := z
    obtain ⟨i1, i2, i4, i5⟩ : z ≤ t.l.length ∧ sizeYs t.l (k - 1) = sizeYs (t.l.drop z) c ∧ (z : Int) + c ≤ 100000 ∧ (z = 0 ∨ -2 ≤ c) := hz
    repeat (first | refine go_ ?_ | intro _)
    refine gsplit (z < t.l.length) (by first | (simp; done) | (simp <;> omega) | decide) (fun h => ?_) (fun h => ?_)
    rotate_left
    · have e : sizeYs t.l (k - 1) = c := by rw [i2, List.drop_of_length_le (by omega)]; rfl
      repeat (first | refine ga_ ?_ | intro _)
      refine AW_ret ?_
      repeat (first | refine ⟨0, rfl, ?_⟩ | refine ⟨1, rfl, ?_⟩ | refine ⟨2, rfl, ?_⟩ | refine ⟨3, rfl, ?_⟩ | refine ⟨4, rfl, ?_⟩ | refine ⟨5, rfl, ?_⟩ | refine ⟨6, rfl, ?_⟩)
      refine ⟨_, R, AVle.eq ?_, (by repeat (first | exact SLe.rfl | refine SLe.tail ?_)), rfl, rfl⟩
      rw [he, e]; rfl
    have hlt := h
    have hd : t.l.drop z = t.l[z] :: t.l.drop (z + 1) := (List.getElem_cons_drop hlt).symm
    repeat (first | refine go_ ?_ | intro _)
    refine AW_iff (0 ≤ c) rfl (by first | (simp; done) | (simp <;> omega) | decide) (fun h => ?_) (fun h => ?_)
    rotate_left
    · have e : sizeYs t.l (k - 1) = c := by rw [i2, sizeYs_neg (by omega)]
      repeat (first | refine ga_ ?_ | intro _)
      refine AW_ret ?_
      repeat (first | refine ⟨0, rfl, ?_⟩ | refine ⟨1, rfl, ?_⟩ | refine ⟨2, rfl, ?_⟩ | refine ⟨3, rfl, ?_⟩ | refine ⟨4, rfl, ?_⟩ | refine ⟨5, rfl, ?_⟩ | refine ⟨6, rfl, ?_⟩)
      refine ⟨_, R, AVle.eq ?_, (by repeat (first | exact SLe.rfl | refine SLe.tail ?_)), rfl, rfl⟩
      rw [he, e]; rfl
    have h0 := h
    obtain ⟨x, hx⟩ : ∃ x, x = t.l[z] := ⟨_, rfl⟩
    rw [hd, sizeYs, if_pos h0, ← hx] at i2
    have hb := sizeY_le x c (by omega)
    have kx := fun R => sizeType_ok n x (hs x (hx ▸ List.getElem_mem hlt)) c R (by omega) (by omega)
    repeat (first | refine go_ ?_ | intro _)
    refine at_get (z) (encV x) (by first | rfl | omega | (rw [wrap_i64 (by omega)]; omega)) (by rw [hx]; exact encYs_get hlt) ?_
    repeat (first | refine go_ ?_ | intro _)
    refine Or.inl ⟨⟨_, Tryd.func32, rfl, rfl⟩, ACall.mono ?_ (kx _)⟩
    rintro _ S1 ⟨rfl, hS1⟩
    subst S1
    repeat (first | refine go_ ?_ | intro _)
    refine ⟨(z + 1, sizeY x c), ?_, ?_, weak_of ?_ rfl ?_⟩
    · exact Nat.sub_lt_sub_left hlt (Nat.lt_succ_self z)
    · exact ⟨hlt, i2, by show ((z + 1 : Nat) : Int) + sizeY x c ≤ 100000; omega, .inr hb.1⟩
    · repeat (first | exact trivial | refine ⟨AVle.refl _, ?_⟩ | refine ⟨AVle.tk, ?_⟩ | refine ⟨AVle.nil, ?_⟩ | refine ⟨AVle.nilFull, ?_⟩ | refine ⟨AVle.eq (congrArg (AV.int .i64) (by first | (simp; done) | (simp; omega) | (rw [wrap_i64 (by first | omega | (simp; omega))]; first | rfl | omega | (simp; done) | (simp; omega)))), ?_⟩)
    · refine SW.le ?_
      repeat (first | exact SW.nil | refine SW.cons ?_ | refine SW.cells (by repeat (first | exact trivial | refine ⟨AVle.refl _, ?_⟩ | refine ⟨AVle.nilFull, ?_⟩ | refine ⟨AVle.tk, ?_⟩ | refine ⟨AVle.nil, ?_⟩)) rfl ?_ | refine SW.full ?_ | refine SW.drop ?_)
theorem sizeTypes_ok (l : List Y) (k : Int) (R : List En) (h2 : k ≤ 100000) : ACall Tryd.prog 31 [.sl 3 (encYs l) .no, .int .i64 k] R (fun r S => r = .int .i64 (sizeYs l k) ∧ S = R) := by
  have he : sizeYs l k = sizeYs l k := rfl
  refine ACall_body tab_ok Tryd.func31 rfl rfl rfl (by kernel_rfl) (Nat.le_of_ble_eq_true rfl) ?_
  repeat (first | refine go_ ?_ | intro _)
  refine AW_for (α := Nat × Int) (fun z => ⟨[(1, .int .i64 z.2), (0, .sl 3 (encYs l) .no), (5, .int .i64 (z.1 : Nat))], []⟩) (fun z => R) (fun z => l.length - z.1) (fun z => z.1 ≤ l.length ∧ sizeYs l k = sizeYs (l.drop z.1) z.2 ∧ (z.1 : Int) + z.2 ≤ 100000 ∧ (z.1 = 0 ∨ -2 ≤ z.2)) ((0, k)) ?_ (weak_of ?_ rfl ?_) (fun z hz => ?_)
  · refine ⟨Nat.zero_le _, rfl, ?_, .inl rfl⟩
    show ((0 : Nat) : Int) + (k) ≤ 100000; omega
  · repeat (first | exact trivial | refine ⟨(AVle.refl _), ?_⟩ | refine ⟨AVle.refl _, ?_⟩ | refine ⟨AVle.tk, ?_⟩ | refine ⟨AVle.nil, ?_⟩ | refine ⟨AVle.nilFull, ?_⟩ | refine ⟨AVle.eq (congrArg (AV.int .i64) (by first | (simp; done) | (simp; omega) | (rw [wrap_i64 (by first | omega | (simp; omega))]; first | rfl | omega | (simp; done) | (simp; omega)))), ?_⟩)
  · repeat (first | exact SLe.rfl | refine SLe.tail ?_ | refine SLe.full ?_)
  obtain ⟨z, c⟩ := z
  obtain ⟨i1, i2, i4, i5⟩ : z ≤ l.length ∧ sizeYs l k = sizeYs (l.drop z) c ∧ (z : Int) + c ≤ 100000 ∧ (z = 0 ∨ -2 ≤ c) := hz
  repeat (first | refine go_ ?_ | intro _)
  refine gsplit (z < l.length) (by first | (simp; done) | (simp <;> omega) | decide) (fun h => ?_) (fun h => ?_)
  rotate_left
  · have e : sizeYs l k = c := by rw [i2, List.drop_of_length_le (by omega)]; rfl
    repeat (first | refine ga_ ?_ | intro _)
    refine AW_ret ?_
    repeat (first | refine ⟨0, rfl, ?_⟩ | refine ⟨1, rfl, ?_⟩ | refine ⟨2, rfl, ?_⟩ | refine ⟨3, rfl, ?_⟩ | refine ⟨4, rfl, ?_⟩ | refine ⟨5, rfl, ?_⟩ | refine ⟨6, rfl, ?_⟩)
    refine ⟨_, R, AVle.eq ?_, (by repeat (first | exact SLe.rfl | refine SLe.tail ?_)), rfl, rfl⟩
    rw [he, e]; rfl
  have hlt := h
  have hd : l.drop z = l[z] :: l.drop (z + 1) := (List.getElem_cons_drop hlt).symm
  repeat (first | refine go_ ?_ | intro _)
  refine AW_iff (0 ≤ c) rfl (by first | (simp; done) | (simp <;> omega) | decide) (fun h => ?_) (fun h => ?_)
  rotate_left
  · have e : sizeYs l k = c := by rw [i2, sizeYs_neg (by omega)]
    repeat (first | refine ga_ ?_ | intro _)
    refine AW_ret ?_
    repeat (first | refine ⟨0, rfl, ?_⟩ | refine ⟨1, rfl, ?_⟩ | refine ⟨2, rfl, ?_⟩ | refine ⟨3, rfl, ?_⟩ | refine ⟨4, rfl, ?_⟩ | refine ⟨5, rfl, ?_⟩ | refine ⟨6, rfl, ?_⟩)
    refine ⟨_, R, AVle.eq ?_, (by repeat (first | exact SLe.rfl | refine SLe.tail ?_)), rfl, rfl⟩
    rw [he, e]; rfl
  have h0 := h
  obtain ⟨x, hx⟩ : ∃ x, x = l[z] := ⟨_, rfl⟩
  rw [hd, sizeYs, if_pos h0, ← hx] at i2
  have hb := sizeY_le x c (by omega)
  have kx := fun R => sizeType_ok (SizeOf.sizeOf x) x (Nat.le_refl _) c R (by omega) (by omega)
  repeat (first | refine go_ ?_ | intro _)
  refine at_get (z) (encV x) (by first | rfl | omega | (rw [wrap_i64 (by omega)]; omega)) (by rw [hx]; exact encYs_get hlt) ?_
  repeat (first | refine go_ ?_ | intro _)
  refine Or.inl ⟨⟨_, Tryd.func32, rfl, rfl⟩, ACall.mono ?_ (kx _)⟩
  rintro _ S1 ⟨rfl, hS1⟩
  subst S1
  repeat (first | refine go_ ?_ | intro _)
  refine ⟨(z + 1, sizeY x c), ?_, ?_, weak_of ?_ rfl ?_⟩
  · exact Nat.sub_lt_sub_left hlt (Nat.lt_succ_self z)
  · exact ⟨hlt, i2, by show ((z + 1 : Nat) : Int) + sizeY x c ≤ 100000; omega, .inr hb.1⟩
  · repeat (first | exact trivial | refine ⟨AVle.refl _, ?_⟩ | refine ⟨AVle.tk, ?_⟩ | refine ⟨AVle.nil, ?_⟩ | refine ⟨AVle.nilFull, ?_⟩ | refine ⟨AVle.eq (congrArg (AV.int .i64) (by first | (simp; done) | (simp; omega) | (rw [wrap_i64 (by first | omega | (simp; omega))]; first | rfl | omega | (simp; done) | (simp; omega)))), ?_⟩)
  · refine SW.le ?_
    repeat (first | exact SW.nil | refine SW.cons ?_ | refine SW.cells (by repeat (first | exact trivial | refine ⟨AVle.refl _, ?_⟩ | refine ⟨AVle.nilFull, ?_⟩ | refine ⟨AVle.tk, ?_⟩ | refine ⟨AVle.nil, ?_⟩)) rfl ?_ | refine SW.full ?_ | refine SW.drop ?_)
end Go.Proofs.YtnkmjbjpmocnbaaDoor
