/-
  How many parts: the law's own measure, of statements and files. Own work.
-/
import Derived.Test.YtnkmjbjpmocnbaaDoorP6
import Derived.Test.YtnkmjbjpmocnbaaDoorP7
set_option linter.all false
namespace Go.Proofs.YtnkmjbjpmocnbaaDoor
open Go.Aw Go.RowKit

def nx (f : Int → Int) (k : Int) : Int := if 0 ≤ k then f k else k
theorem nx_neg {f : Int → Int} {k : Int} (h : k < 0) : nx f k = k := if_neg (by omega)
theorem nx_pos {f : Int → Int} {k : Int} (h : 0 ≤ k) : nx f k = f k := if_pos h
mutual
def sizeZ : Z → Int → Int
  | .mk _ _ t x y l m, k => nx (sizeZs m) (nx (sizeZs l) (nx (sizeG y) (nx (sizeG x) (sizeY t (k - 1)))))
def sizeZs : List Z → Int → Int
  | [], k => k
  | t :: r, k => if 0 ≤ k then sizeZs r (sizeZ t k) else k
end
theorem sizeZ_eq (z : Z) (k : Int) : sizeZ z k = nx (sizeZs z.m) (nx (sizeZs z.l) (nx (sizeG z.y) (nx (sizeG z.x) (sizeY z.t (k - 1))))) := by cases z; rfl
theorem sizeZs_neg {l : List Z} {k : Int} (h : k < 0) : sizeZs l k = k := by
  cases l with
  | nil => rfl
  | cons t r => rw [sizeZs, if_neg (by omega)]
theorem nx_le {f : Int → Int} {k : Int} (hk : -2 ≤ k) (hf : 0 ≤ k → -2 ≤ f k ∧ f k ≤ k) : -2 ≤ nx f k ∧ nx f k ≤ k := by
  unfold nx
  split
  · exact hf (by assumption)
  · omega
mutual
theorem sizeZ_le : ∀ (z : Z) (k : Int), 0 ≤ k → -2 ≤ sizeZ z k ∧ sizeZ z k ≤ k - 1
  | .mk _ _ t x y l m, k, h => by
    rw [sizeZ]
    have h1 := sizeY_le t (k - 1) (by omega)
    have h2 := nx_le (f := sizeG x) h1.1 fun h => by have := sizeG_le x _ (by omega : -1 ≤ sizeY t (k - 1)); omega
    have h3 := nx_le (f := sizeG y) h2.1 fun h => by have := sizeG_le y _ (by omega : -1 ≤ nx (sizeG x) (sizeY t (k - 1))); omega
    have h4 := nx_le (f := sizeZs l) h3.1 fun h => sizeZs_le l _ h3.1
    have h5 := nx_le (f := sizeZs m) h4.1 fun h => sizeZs_le m _ h4.1
    omega
theorem sizeZs_le : ∀ (l : List Z) (k : Int), -2 ≤ k → -2 ≤ sizeZs l k ∧ sizeZs l k ≤ k
  | [], k, h => by rw [sizeZs]; omega
  | t :: r, k, h => by
    rw [sizeZs]
    split
    · rename_i h0
      have h1 := sizeZ_le t k h0
      have h2 := sizeZs_le r (sizeZ t k) h1.1
      omega
    · omega
end
def sizeSc (d : Sc) (k : Int) : Int := sizeYs d.types (k - d.names.length - 1)
def sizeScs : List Sc → Int → Int
  | [], k => k
  | d :: r, k => if 0 ≤ k then sizeScs r (sizeSc d k) else k
def sizeFn (g : Fn) (k : Int) : Int := nx (sizeZs g.l) (nx (sizeY g.ret) (sizeYs g.types (k - g.names.length - 1)))
def sizeFns : List Fn → Int → Int
  | [], k => k
  | d :: r, k => if 0 ≤ k then sizeFns r (sizeFn d k) else k
def smallB (f : Fi) : Bool := decide (0 ≤ sizeFns f.funcs (sizeScs f.structs 3000))
def smallI (f : Fi) : Int := if smallB f = true then 1 else 0
theorem sizeScs_neg {l : List Sc} {k : Int} (h : k < 0) : sizeScs l k = k := by
  cases l with
  | nil => rfl
  | cons t r => rw [sizeScs, if_neg (by omega)]
theorem sizeFns_neg {l : List Fn} {k : Int} (h : k < 0) : sizeFns l k = k := by
  cases l with
  | nil => rfl
  | cons t r => rw [sizeFns, if_neg (by omega)]

/-! ### counts -/
mutual
def cntY : Y → Nat
  | .mk _ _ l => cntYs l + 1
def cntYs : List Y → Nat
  | [] => 0
  | t :: r => cntY t + cntYs r
end
mutual
def cntZ : Z → Nat
  | .mk _ _ t x y l m => cntY t + cntT x + cntT y + cntZs l + cntZs m + 1
def cntZs : List Z → Nat
  | [] => 0
  | t :: r => cntZ t + cntZs r
end
def cntSc (d : Sc) : Nat := d.names.length + 1 + cntYs d.types
def cntScs : List Sc → Nat
  | [] => 0
  | d :: r => cntSc d + cntScs r
def cntFn (g : Fn) : Nat := g.names.length + 1 + cntYs g.types + cntY g.ret + cntZs g.l
def cntFns : List Fn → Nat
  | [] => 0
  | d :: r => cntFn d + cntFns r
def cntFi (f : Fi) : Nat := cntScs f.structs + cntFns f.funcs
mutual
theorem sizeG_cnt : ∀ (t : T) (k : Int), 0 ≤ sizeG t k → sizeG t k + cntT t = k
  | .mk _ _ _ l, k, h => by
    rw [sizeG] at h ⊢
    rw [cntT]
    have := sizeGs_cnt l (k - 1) h
    omega
theorem sizeGs_cnt : ∀ (l : List T) (k : Int), 0 ≤ sizeGs l k → sizeGs l k + cntTs l = k
  | [], k, h => by rw [sizeGs, cntTs]; simp
  | t :: r, k, h => by
    rw [sizeGs] at h ⊢
    rw [cntTs]
    by_cases h0 : 0 ≤ k
    · rw [if_pos h0] at h ⊢
      have h2 := sizeGs_cnt r (sizeG t k) h
      have h1 := sizeG_cnt t k (by omega)
      omega
    · rw [if_neg h0] at h; omega
end
mutual
theorem sizeY_cnt : ∀ (t : Y) (k : Int), 0 ≤ sizeY t k → sizeY t k + cntY t = k
  | .mk _ _ l, k, h => by
    rw [sizeY] at h ⊢
    rw [cntY]
    have := sizeYs_cnt l (k - 1) h
    omega
theorem sizeYs_cnt : ∀ (l : List Y) (k : Int), 0 ≤ sizeYs l k → sizeYs l k + cntYs l = k
  | [], k, h => by rw [sizeYs, cntYs]; simp
  | t :: r, k, h => by
    rw [sizeYs] at h ⊢
    rw [cntYs]
    by_cases h0 : 0 ≤ k
    · rw [if_pos h0] at h ⊢
      have h2 := sizeYs_cnt r (sizeY t k) h
      have h1 := sizeY_cnt t k (by omega)
      omega
    · rw [if_neg h0] at h; omega
end
theorem nx_cnt {f : Int → Int} {k : Int} {c : Nat} (h : 0 ≤ nx f k) (hf : 0 ≤ f k → f k + c = k) : nx f k + c = k ∧ 0 ≤ k := by
  unfold nx at h ⊢
  by_cases h0 : 0 ≤ k
  · rw [if_pos h0] at h ⊢; exact ⟨hf h, h0⟩
  · rw [if_neg h0] at h; exact absurd h h0
mutual
theorem sizeZ_cnt : ∀ (z : Z) (k : Int), 0 ≤ sizeZ z k → sizeZ z k + cntZ z = k
  | .mk _ _ t x y l m, k, h => by
    rw [sizeZ] at h ⊢
    rw [cntZ]
    have h1 := nx_cnt h (fun h => sizeZs_cnt m _ h)
    have h2 := nx_cnt h1.2 (fun h => sizeZs_cnt l _ h)
    have h3 := nx_cnt h2.2 (fun h => sizeG_cnt y _ h)
    have h4 := nx_cnt h3.2 (fun h => sizeG_cnt x _ h)
    have h5 := sizeY_cnt t (k - 1) h4.2
    omega
theorem sizeZs_cnt : ∀ (l : List Z) (k : Int), 0 ≤ sizeZs l k → sizeZs l k + cntZs l = k
  | [], k, h => by rw [sizeZs, cntZs]; simp
  | t :: r, k, h => by
    rw [sizeZs] at h ⊢
    rw [cntZs]
    by_cases h0 : 0 ≤ k
    · rw [if_pos h0] at h ⊢
      have h2 := sizeZs_cnt r (sizeZ t k) h
      have h1 := sizeZ_cnt t k (by omega)
      omega
    · rw [if_neg h0] at h; omega
end
theorem sizeSc_cnt (d : Sc) (k : Int) (h : 0 ≤ sizeSc d k) : sizeSc d k + cntSc d = k := by
  unfold sizeSc at h ⊢
  have := sizeYs_cnt d.types _ h
  unfold cntSc; omega
theorem sizeFn_cnt (d : Fn) (k : Int) (h : 0 ≤ sizeFn d k) : sizeFn d k + cntFn d = k := by
  unfold sizeFn at h ⊢
  have h1 := nx_cnt h (fun h => sizeZs_cnt d.l _ h)
  have h2 := nx_cnt h1.2 (fun h => sizeY_cnt d.ret _ h)
  have h3 := sizeYs_cnt d.types _ h2.2
  unfold cntFn; omega
theorem sizeScs_cnt : ∀ (l : List Sc) (k : Int), 0 ≤ sizeScs l k → sizeScs l k + cntScs l = k
  | [], k, h => by rw [sizeScs, cntScs]; simp
  | t :: r, k, h => by
    rw [sizeScs] at h ⊢
    rw [cntScs]
    by_cases h0 : 0 ≤ k
    · rw [if_pos h0] at h ⊢
      have h2 := sizeScs_cnt r (sizeSc t k) h
      have h1 := sizeSc_cnt t k (by omega)
      omega
    · rw [if_neg h0] at h; omega
theorem sizeFns_cnt : ∀ (l : List Fn) (k : Int), 0 ≤ sizeFns l k → sizeFns l k + cntFns l = k
  | [], k, h => by rw [sizeFns, cntFns]; simp
  | t :: r, k, h => by
    rw [sizeFns] at h ⊢
    rw [cntFns]
    by_cases h0 : 0 ≤ k
    · rw [if_pos h0] at h ⊢
      have h2 := sizeFns_cnt r (sizeFn t k) h
      have h1 := sizeFn_cnt t k (by omega)
      omega
    · rw [if_neg h0] at h; omega
theorem small_cnt {f : Fi} (h : smallB f = true) : cntFi f ≤ 3000 := by
  have h0 := of_decide_eq_true h
  have h1 := sizeFns_cnt f.funcs _ h0
  have h2 := sizeScs_cnt f.structs 3000 (by omega)
  unfold cntFi; omega
theorem cntY_pos : ∀ t : Y, 1 ≤ cntY t
  | .mk _ _ l => by rw [cntY]; omega
theorem cntT_pos : ∀ t : T, 1 ≤ cntT t
  | .mk _ _ _ l => by rw [cntT]; omega
theorem cntZ_pos : ∀ t : Z, 1 ≤ cntZ t
  | .mk _ _ _ _ _ _ _ => by rw [cntZ]; omega
theorem len_cntTs : ∀ l : List T, l.length ≤ cntTs l
  | [] => by simp
  | t :: r => by have := len_cntTs r; have := cntT_pos t; rw [cntTs]; simp; omega
theorem len_cntYs : ∀ l : List Y, l.length ≤ cntYs l
  | [] => by simp
  | t :: r => by have := len_cntYs r; have := cntY_pos t; rw [cntYs]; simp; omega
theorem len_cntZs : ∀ l : List Z, l.length ≤ cntZs l
  | [] => by simp
  | t :: r => by have := len_cntZs r; have := cntZ_pos t; rw [cntZs]; simp; omega
theorem len_cntScs : ∀ l : List Sc, l.length ≤ cntScs l
  | [] => by simp
  | t :: r => by have := len_cntScs r; rw [cntScs, cntSc]; simp; omega
theorem len_cntFns : ∀ l : List Fn, l.length ≤ cntFns l
  | [] => by simp
  | t :: r => by have := len_cntFns r; rw [cntFns, cntFn]; simp; omega
theorem cntTs_mem {x : T} : ∀ {l : List T}, x ∈ l → cntT x ≤ cntTs l
  | t :: r, h => by
    rw [cntTs]
    rcases List.mem_cons.1 h with rfl | h
    · omega
    · have := cntTs_mem h; omega
theorem cntYs_mem {x : Y} : ∀ {l : List Y}, x ∈ l → cntY x ≤ cntYs l
  | t :: r, h => by
    rw [cntYs]
    rcases List.mem_cons.1 h with rfl | h
    · omega
    · have := cntYs_mem h; omega
theorem cntZs_mem {x : Z} : ∀ {l : List Z}, x ∈ l → cntZ x ≤ cntZs l
  | t :: r, h => by
    rw [cntZs]
    rcases List.mem_cons.1 h with rfl | h
    · omega
    · have := cntZs_mem h; omega
theorem cntScs_mem {x : Sc} : ∀ {l : List Sc}, x ∈ l → cntSc x ≤ cntScs l
  | t :: r, h => by
    rw [cntScs]
    rcases List.mem_cons.1 h with rfl | h
    · omega
    · have := cntScs_mem h; omega
theorem cntFns_mem {x : Fn} : ∀ {l : List Fn}, x ∈ l → cntFn x ≤ cntFns l
  | t :: r, h => by
    rw [cntFns]
    rcases List.mem_cons.1 h with rfl | h
    · omega
    · have := cntFns_mem h; omega
end Go.Proofs.YtnkmjbjpmocnbaaDoor
/-
  How many parts a file has: the walk. Own work.
-/
namespace Go.Proofs.YtnkmjbjpmocnbaaDoor
open Go.Aw Go.RowKit
set_option maxHeartbeats 4000000

theorem sizeStmts_ok : ∀ (n : Nat) (l : List Z), SizeOf.sizeOf l ≤ n → ∀ (k : Int) (R : List En), k ≤ 100000 → ACall Tryd.prog 33 [.sl 15 (encZs l) .no, .int .i64 k] R (fun r S => r = .int .i64 (sizeZs l k) ∧ S = R)
  | 0, l, hn, k, R, _ => by cases l <;> simp at hn
  | n + 1, l, hn, k, R, h2 => by
    have hs : ∀ x ∈ l, SizeOf.sizeOf x.l ≤ n ∧ SizeOf.sizeOf x.m ≤ n := fun x hx => by
      have := List.sizeOf_lt_of_mem hx
      cases x with
      | mk a b c d e f g => simp at this; exact ⟨by show SizeOf.sizeOf f ≤ n; omega, by show SizeOf.sizeOf g ≤ n; omega⟩
    refine ACall_body tab_ok Tryd.func33 rfl rfl rfl (by kernel_rfl) (Nat.le_of_ble_eq_true rfl) ?_
    repeat (first | refine go_ ?_ | intro _)
    refine AW_for (α := Nat × Int) (fun z => ⟨[(1, .int .i64 z.2), (0, .sl 15 (encZs l) .no), (5, .int .i64 (z.1 : Nat))], []⟩) (fun z => R) (fun z => l.length - z.1) (fun z => z.1 ≤ l.length ∧ sizeZs l k = sizeZs (l.drop z.1) z.2 ∧ (z.1 : Int) + z.2 ≤ 100000 ∧ (z.1 = 0 ∨ -2 ≤ z.2)) ((0, k)) ?_ (weak_of ?_ rfl ?_) (fun z hz => ?_)
    · refine ⟨Nat.zero_le _, rfl, ?_, .inl rfl⟩
      show ((0 : Nat) : Int) + k ≤ 100000; omega
    · repeat (first | exact trivial | refine ⟨AVle.refl _, ?_⟩ | refine ⟨AVle.tk, ?_⟩ | refine ⟨AVle.nil, ?_⟩ | refine ⟨AVle.nilFull, ?_⟩ | refine ⟨AVle.eq (congrArg (AV.int .i64) (by first | (simp; done) | (simp; omega) | (rw [wrap_i64 (by first | omega | (simp; omega))]; first | rfl | omega | (simp; done) | (simp; omega)))), ?_⟩)
    · repeat (first | exact SLe.rfl | refine SLe.tail ?_ | refine SLe.full ?_)
    obtain ⟨i, c⟩ := z
    obtain ⟨i1, i2, i4, i5⟩ : i ≤ l.length ∧ sizeZs l k = sizeZs (l.drop i) c ∧ (i : Int) + c ≤ 100000 ∧ (i = 0 ∨ -2 ≤ c) := hz
    repeat (first | refine go_ ?_ | intro _)
    refine gsplit (i < l.length) (by first | (simp; done) | (simp <;> omega) | decide) (fun h => ?_) (fun h => ?_)
    rotate_left
    · have e : sizeZs l k = c := by rw [i2, List.drop_of_length_le (by omega)]; rfl
      repeat (first | refine ga_ ?_ | intro _)
      refine AW_ret ?_
      repeat (first | refine ⟨0, rfl, ?_⟩ | refine ⟨1, rfl, ?_⟩ | refine ⟨2, rfl, ?_⟩ | refine ⟨3, rfl, ?_⟩ | refine ⟨4, rfl, ?_⟩ | refine ⟨5, rfl, ?_⟩ | refine ⟨6, rfl, ?_⟩)
      refine ⟨_, R, AVle.eq ?_, (by repeat (first | exact SLe.rfl | refine SLe.tail ?_)), rfl, rfl⟩
      rw [e]; rfl
    have hlt := h
    have hd : l.drop i = l[i] :: l.drop (i + 1) := (List.getElem_cons_drop hlt).symm
    repeat (first | refine go_ ?_ | intro _)
    refine AW_iff (0 ≤ c) rfl (by first | (simp; done) | (simp <;> omega) | decide) (fun h => ?_) (fun h => ?_)
    rotate_left
    · have e : sizeZs l k = c := by rw [i2, sizeZs_neg (by omega)]
      repeat (first | refine ga_ ?_ | intro _)
      refine AW_ret ?_
      repeat (first | refine ⟨0, rfl, ?_⟩ | refine ⟨1, rfl, ?_⟩ | refine ⟨2, rfl, ?_⟩ | refine ⟨3, rfl, ?_⟩ | refine ⟨4, rfl, ?_⟩ | refine ⟨5, rfl, ?_⟩ | refine ⟨6, rfl, ?_⟩)
      refine ⟨_, R, AVle.eq ?_, (by repeat (first | exact SLe.rfl | refine SLe.tail ?_)), rfl, rfl⟩
      rw [e]; rfl
    have h0 := h
    obtain ⟨x, hx⟩ : ∃ x, x = l[i] := ⟨_, rfl⟩
    rw [hd, sizeZs, if_pos h0, ← hx] at i2
    have hb := sizeZ_le x c h0
    have hsx := hs x (hx ▸ List.getElem_mem hlt)
    have hw : IntKind.i64.wrap (c - 1) = c - 1 := wrap_i64 (by omega)
    have kt := fun R => sizeType_ok _ x.t (Nat.le_refl _) (c - 1) R (by omega) (by omega)
    have kt' := kt
    rw [← hw] at kt
    have b1 := sizeY_le x.t (c - 1) (by omega)
    have b2 := nx_le (f := sizeG x.x) b1.1 fun h => by have := sizeG_le x.x _ (by omega : -1 ≤ sizeY x.t (c - 1)); omega
    have b3 := nx_le (f := sizeG x.y) b2.1 fun h => by have := sizeG_le x.y _ (by omega : -1 ≤ nx (sizeG x.x) (sizeY x.t (c - 1))); omega
    have b4 := nx_le (f := sizeZs x.l) b3.1 fun h => sizeZs_le x.l _ b3.1
    have b5 := nx_le (f := sizeZs x.m) b4.1 fun h => sizeZs_le x.m _ b4.1
    have ez := sizeZ_eq x c
    refine AW_skip ?_
    refine AW_seq ?_
    refine AW_block ?_
    refine AW_cut1 (α := Int) (fun z => ⟨[(0, .sl 15 (encZs l) .no), (1, .int .i64 z), (5, .int .i64 (i : Nat))], []⟩) (fun z => R) (fun z => sizeY x.t (c - 1) = z ∧ True) ?_ (fun z hz => ?_)
    · repeat (first | refine ga_ ?_ | intro _)
      refine at_get (i) (encSt x) (by first | rfl | omega | (rw [wrap_i64 (by omega)]; omega)) (by rw [hx]; exact encZs_get hlt) ?_
      repeat (first | refine ga_ ?_ | intro _)
      refine Or.inl ⟨⟨_, Tryd.func32, rfl, rfl⟩, ACall.mono ?_ (kt _)⟩
      rintro _ S1 ⟨rfl, hS1⟩
      subst S1
      repeat (first | refine ga_ ?_ | intro _)
      refine ⟨sizeY x.t (IntKind.i64.wrap (c - 1)), ?_, weak_of ?_ rfl ?_⟩
      · exact ⟨by rw [hw], trivial⟩
      · repeat (first | exact trivial | refine ⟨AVle.refl _, ?_⟩ | refine ⟨AVle.tk, ?_⟩ | refine ⟨AVle.nil, ?_⟩ | refine ⟨AVle.nilFull, ?_⟩ | refine ⟨AVle.eq (congrArg (AV.int .i64) (by first | (simp; done) | (simp; omega) | (rw [wrap_i64 (by first | omega | (simp; omega))]; first | rfl | omega | (simp; done) | (simp; omega)))), ?_⟩)
      · repeat (first | exact SLe.rfl | refine SLe.tail ?_ | refine SLe.full ?_)
    obtain ⟨a, ha⟩ : ∃ w, w = z := ⟨_, rfl⟩
    subst ha
    have ea := hz.1
    clear hz
    rw [ea] at b1 b2 b3 b4 b5 ez
    refine AW_cut1 (α := Int) (fun z => ⟨[(0, .sl 15 (encZs l) .no), (1, .int .i64 z), (5, .int .i64 (i : Nat))], []⟩) (fun z => R) (fun z => nx (sizeG x.x) a = z ∧ True) ?_ (fun z hz => ?_)
    · repeat (first | refine ga_ ?_ | intro _)
      refine AW_iff (0 ≤ a) rfl (by first | (simp; done) | (simp <;> omega) | decide) (fun h => ?_) (fun h => ?_)
      · have hq := h
        repeat (first | refine ga_ ?_ | intro _)
        refine at_get (i) (encSt x) (by first | rfl | omega | (rw [wrap_i64 (by omega)]; omega)) (by rw [hx]; exact encZs_get hlt) ?_
        repeat (first | refine ga_ ?_ | intro _)
        refine Or.inl ⟨⟨_, Tryd.func11, rfl, rfl⟩, ACall.mono ?_ (sizeExpr_ok _ x.x (Nat.le_refl _) a _ (by omega) (by omega))⟩
        rintro _ S1 ⟨rfl, hS1⟩
        subst S1
        repeat (first | refine ga_ ?_ | intro _)
        refine ⟨sizeG x.x a, ?_, weak_of ?_ rfl ?_⟩
        · exact ⟨nx_pos hq, trivial⟩
        · repeat (first | exact trivial | refine ⟨AVle.refl _, ?_⟩ | refine ⟨AVle.tk, ?_⟩ | refine ⟨AVle.nil, ?_⟩ | refine ⟨AVle.nilFull, ?_⟩ | refine ⟨AVle.eq (congrArg (AV.int .i64) (by first | (simp; done) | (simp; omega) | (rw [wrap_i64 (by first | omega | (simp; omega))]; first | rfl | omega | (simp; done) | (simp; omega)))), ?_⟩)
        · repeat (first | exact SLe.rfl | refine SLe.tail ?_ | refine SLe.full ?_)
      · have hq := h
        repeat (first | refine ga_ ?_ | intro _)
        refine ⟨a, ?_, weak_of ?_ rfl ?_⟩
        · exact ⟨nx_neg (by omega), trivial⟩
        · repeat (first | exact trivial | refine ⟨AVle.refl _, ?_⟩ | refine ⟨AVle.tk, ?_⟩ | refine ⟨AVle.nil, ?_⟩ | refine ⟨AVle.nilFull, ?_⟩ | refine ⟨AVle.eq (congrArg (AV.int .i64) (by first | (simp; done) | (simp; omega) | (rw [wrap_i64 (by first | omega | (simp; omega))]; first | rfl | omega | (simp; done) | (simp; omega)))), ?_⟩)
        · repeat (first | exact SLe.rfl | refine SLe.tail ?_ | refine SLe.full ?_)
    obtain ⟨b, hb⟩ : ∃ w, w = z := ⟨_, rfl⟩
    subst hb
    have eb := hz.1
    clear hz
    rw [eb] at b2 b3 b4 b5 ez
    refine AW_cut1 (α := Int) (fun z => ⟨[(0, .sl 15 (encZs l) .no), (1, .int .i64 z), (5, .int .i64 (i : Nat))], []⟩) (fun z => R) (fun z => nx (sizeG x.y) b = z ∧ True) ?_ (fun z hz => ?_)
    · repeat (first | refine ga_ ?_ | intro _)
      refine AW_iff (0 ≤ b) rfl (by first | (simp; done) | (simp <;> omega) | decide) (fun h => ?_) (fun h => ?_)
      · have hq := h
        repeat (first | refine ga_ ?_ | intro _)
        refine at_get (i) (encSt x) (by first | rfl | omega | (rw [wrap_i64 (by omega)]; omega)) (by rw [hx]; exact encZs_get hlt) ?_
        repeat (first | refine ga_ ?_ | intro _)
        refine Or.inl ⟨⟨_, Tryd.func11, rfl, rfl⟩, ACall.mono ?_ (sizeExpr_ok _ x.y (Nat.le_refl _) b _ (by omega) (by omega))⟩
        rintro _ S1 ⟨rfl, hS1⟩
        subst S1
        repeat (first | refine ga_ ?_ | intro _)
        refine ⟨sizeG x.y b, ?_, weak_of ?_ rfl ?_⟩
        · exact ⟨nx_pos hq, trivial⟩
        · repeat (first | exact trivial | refine ⟨AVle.refl _, ?_⟩ | refine ⟨AVle.tk, ?_⟩ | refine ⟨AVle.nil, ?_⟩ | refine ⟨AVle.nilFull, ?_⟩ | refine ⟨AVle.eq (congrArg (AV.int .i64) (by first | (simp; done) | (simp; omega) | (rw [wrap_i64 (by first | omega | (simp; omega))]; first | rfl | omega | (simp; done) | (simp; omega)))), ?_⟩)
        · repeat (first | exact SLe.rfl | refine SLe.tail ?_ | refine SLe.full ?_)
      · have hq := h
        repeat (first | refine ga_ ?_ | intro _)
        refine ⟨b, ?_, weak_of ?_ rfl ?_⟩
        · exact ⟨nx_neg (by omega), trivial⟩
        · repeat (first | exact trivial | refine ⟨AVle.refl _, ?_⟩ | refine ⟨AVle.tk, ?_⟩ | refine ⟨AVle.nil, ?_⟩ | refine ⟨AVle.nilFull, ?_⟩ | refine ⟨AVle.eq (congrArg (AV.int .i64) (by first | (simp; done) | (simp; omega) | (rw [wrap_i64 (by first | omega | (simp; omega))]; first | rfl | omega | (simp; done) | (simp; omega)))), ?_⟩)
        · repeat (first | exact SLe.rfl | refine SLe.tail ?_ | refine SLe.full ?_)
    obtain ⟨d, hd⟩ : ∃ w, w = z := ⟨_, rfl⟩
    subst hd
    have ed := hz.1
    clear hz
    rw [ed] at b3 b4 b5 ez
    refine AW_cut1 (α := Int) (fun z => ⟨[(0, .sl 15 (encZs l) .no), (1, .int .i64 z), (5, .int .i64 (i : Nat))], []⟩) (fun z => R) (fun z => nx (sizeZs x.l) d = z ∧ True) ?_ (fun z hz => ?_)
    · repeat (first | refine ga_ ?_ | intro _)
      refine AW_iff (0 ≤ d) rfl (by first | (simp; done) | (simp <;> omega) | decide) (fun h => ?_) (fun h => ?_)
      · have hq := h
        repeat (first | refine ga_ ?_ | intro _)
        refine at_get (i) (encSt x) (by first | rfl | omega | (rw [wrap_i64 (by omega)]; omega)) (by rw [hx]; exact encZs_get hlt) ?_
        repeat (first | refine ga_ ?_ | intro _)
        refine Or.inl ⟨⟨_, Tryd.func33, rfl, rfl⟩, ACall.mono ?_ (sizeStmts_ok n x.l hsx.1 d _ (by omega))⟩
        rintro _ S1 ⟨rfl, hS1⟩
        subst S1
        repeat (first | refine ga_ ?_ | intro _)
        refine ⟨sizeZs x.l d, ?_, weak_of ?_ rfl ?_⟩
        · exact ⟨nx_pos hq, trivial⟩
        · repeat (first | exact trivial | refine ⟨AVle.refl _, ?_⟩ | refine ⟨AVle.tk, ?_⟩ | refine ⟨AVle.nil, ?_⟩ | refine ⟨AVle.nilFull, ?_⟩ | refine ⟨AVle.eq (congrArg (AV.int .i64) (by first | (simp; done) | (simp; omega) | (rw [wrap_i64 (by first | omega | (simp; omega))]; first | rfl | omega | (simp; done) | (simp; omega)))), ?_⟩)
        · repeat (first | exact SLe.rfl | refine SLe.tail ?_ | refine SLe.full ?_)
      · have hq := h
        repeat (first | refine ga_ ?_ | intro _)
        refine ⟨d, ?_, weak_of ?_ rfl ?_⟩
        · exact ⟨nx_neg (by omega), trivial⟩
        · repeat (first | exact trivial | refine ⟨AVle.refl _, ?_⟩ | refine ⟨AVle.tk, ?_⟩ | refine ⟨AVle.nil, ?_⟩ | refine ⟨AVle.nilFull, ?_⟩ | refine ⟨AVle.eq (congrArg (AV.int .i64) (by first | (simp; done) | (simp; omega) | (rw [wrap_i64 (by first | omega | (simp; omega))]; first | rfl | omega | (simp; done) | (simp; omega)))), ?_⟩)
        · repeat (first | exact SLe.rfl | refine SLe.tail ?_ | refine SLe.full ?_)
    obtain ⟨e, he⟩ : ∃ w, w = z := ⟨_, rfl⟩
    subst he
    have ee := hz.1
    clear hz
    rw [ee] at b4 b5 ez
    have hn5 : 0 ≤ e → nx (sizeZs x.m) e = sizeZs x.m e := fun h => nx_pos h
    have hn6 : ¬ 0 ≤ e → nx (sizeZs x.m) e = e := fun h => nx_neg (by omega)
    repeat (first | refine ga_ ?_ | intro _)
    refine AW_iff (0 ≤ e) rfl (by first | (simp; done) | (simp <;> omega) | decide) (fun h => ?_) (fun h => ?_)
    · have hq := h
      rw [hn5 hq] at b5 ez
      repeat (first | refine ga_ ?_ | intro _)
      refine at_get (i) (encSt x) (by first | rfl | omega | (rw [wrap_i64 (by omega)]; omega)) (by rw [hx]; exact encZs_get hlt) ?_
      repeat (first | refine ga_ ?_ | intro _)
      refine Or.inl ⟨⟨_, Tryd.func33, rfl, rfl⟩, ACall.mono ?_ (sizeStmts_ok n x.m hsx.2 e _ (by omega))⟩
      rintro _ S1 ⟨rfl, hS1⟩
      subst S1
      repeat (first | refine ga_ ?_ | intro _)
      refine ⟨(i + 1, sizeZs x.m e), ?_, ?_, weak_of ?_ rfl ?_⟩
      · exact Nat.sub_lt_sub_left hlt (Nat.lt_succ_self i)
      · exact ⟨hlt, by rw [i2, ez], by show ((i + 1 : Nat) : Int) + sizeZs x.m e ≤ 100000; omega, .inr b5.1⟩
      · repeat (first | exact trivial | refine ⟨AVle.refl _, ?_⟩ | refine ⟨AVle.tk, ?_⟩ | refine ⟨AVle.nil, ?_⟩ | refine ⟨AVle.nilFull, ?_⟩ | refine ⟨AVle.eq (congrArg (AV.int .i64) (by first | (simp; done) | (simp; omega) | (rw [wrap_i64 (by first | omega | (simp; omega))]; first | rfl | omega | (simp; done) | (simp; omega)))), ?_⟩)
      · refine SW.le ?_
        repeat (first | exact SW.nil | refine SW.cons ?_ | refine SW.cells (by repeat (first | exact trivial | refine ⟨AVle.refl _, ?_⟩ | refine ⟨AVle.nilFull, ?_⟩ | refine ⟨AVle.tk, ?_⟩ | refine ⟨AVle.nil, ?_⟩)) rfl ?_ | refine SW.full ?_ | refine SW.drop ?_)
    · have hq := h
      rw [hn6 hq] at b5 ez
      repeat (first | refine ga_ ?_ | intro _)
      refine ⟨(i + 1, e), ?_, ?_, weak_of ?_ rfl ?_⟩
      · exact Nat.sub_lt_sub_left hlt (Nat.lt_succ_self i)
      · exact ⟨hlt, by rw [i2, ez], by show ((i + 1 : Nat) : Int) + e ≤ 100000; omega, .inr b5.1⟩
      · repeat (first | exact trivial | refine ⟨AVle.refl _, ?_⟩ | refine ⟨AVle.tk, ?_⟩ | refine ⟨AVle.nil, ?_⟩ | refine ⟨AVle.nilFull, ?_⟩ | refine ⟨AVle.eq (congrArg (AV.int .i64) (by first | (simp; done) | (simp; omega) | (rw [wrap_i64 (by first | omega | (simp; omega))]; first | rfl | omega | (simp; done) | (simp; omega)))), ?_⟩)
      · refine SW.le ?_
        repeat (first | exact SW.nil | refine SW.cons ?_ | refine SW.cells (by repeat (first | exact trivial | refine ⟨AVle.refl _, ?_⟩ | refine ⟨AVle.nilFull, ?_⟩ | refine ⟨AVle.tk, ?_⟩ | refine ⟨AVle.nil, ?_⟩)) rfl ?_ | refine SW.full ?_ | refine SW.drop ?_)

def okF (f : Fi) : Prop := (∀ d ∈ f.structs, d.names.length ≤ 9223372036854775807) ∧ ∀ g ∈ f.funcs, g.names.length ≤ 9223372036854775807
theorem encScs_get {l : List Sc} {i : Nat} {x : Sc} (h : i < l.length) (hx : x = l[i]) : (l.map encSc)[i]? = some (encSc x) := by rw [List.getElem?_map, List.getElem?_eq_getElem h, hx]; rfl
theorem encFns_get {l : List Fn} {i : Nat} {x : Fn} (h : i < l.length) (hx : x = l[i]) : (l.map encFn)[i]? = some (encFn x) := by rw [List.getElem?_map, List.getElem?_eq_getElem h, hx]; rfl
theorem sizeSc_le (d : Sc) (k : Int) (h : k ≤ 100000) : sizeSc d k ≤ k - 1 := by
  unfold sizeSc
  by_cases h0 : -2 ≤ k - d.names.length - 1
  · have := sizeYs_le d.types _ h0; omega
  · rw [sizeYs_neg (by omega)]; omega
theorem sizeFn_le (d : Fn) (k : Int) (h : k ≤ 100000) : sizeFn d k ≤ k - 1 := by
  unfold sizeFn
  by_cases h0 : -2 ≤ k - d.names.length - 1
  · have h1 := sizeYs_le d.types _ h0
    have h2 := nx_le (f := sizeY d.ret) h1.1 fun h => by have := sizeY_le d.ret _ (by omega : -1 ≤ sizeYs d.types (k - d.names.length - 1)); omega
    have h3 := nx_le (f := sizeZs d.l) h2.1 fun h => sizeZs_le d.l _ h2.1
    have h4 : (0 : Int) ≤ d.names.length := Int.natCast_nonneg _
    omega
  · rw [sizeYs_neg (by omega), nx_neg (k := k - d.names.length - 1) (by omega), nx_neg (k := k - d.names.length - 1) (by omega)]; omega
theorem small_ok (f : Fi) (R : List En) (ho : okF f) : ACall Tryd.prog 16 [encFi f] R (fun r S => r = .int .i64 (smallI f) ∧ S = R) := by
  refine ACall_body tab_ok Tryd.func16 rfl rfl rfl (by kernel_rfl) (Nat.le_of_ble_eq_true rfl) ?_
  refine AW_cut3 (α := Int × Nat) (fun z => ⟨[(1, .ptr z.2 0), (3, .int .i64 z.1)], []⟩) (fun z => .cells z.2 (cFi f) :: R) (fun z => sizeScs f.structs 3000 = z.1 ∧ z.1 ≤ 3000) ?_ (fun z hz => ?_)
  · repeat (first | refine go_ ?_ | intro _)
    rename_i p
    refine AW_for (α := Nat × Int) (fun z => ⟨[(1, .ptr p 0), (3, .int .i64 z.2), (4, .int .i64 (z.1 : Nat))], []⟩) (fun z => .cells p (cFi f) :: R) (fun z => f.structs.length - z.1) (fun z => z.1 ≤ f.structs.length ∧ sizeScs f.structs 3000 = sizeScs (f.structs.drop z.1) z.2 ∧ (z.1 : Int) + z.2 ≤ 3000) ((0, 3000)) ?_ (weak_of ?_ rfl ?_) (fun z hz => ?_)
    · exact ⟨Nat.zero_le _, rfl, by decide⟩
    · repeat (first | exact trivial | refine ⟨AVle.refl _, ?_⟩ | refine ⟨AVle.tk, ?_⟩ | refine ⟨AVle.nil, ?_⟩ | refine ⟨AVle.nilFull, ?_⟩ | refine ⟨AVle.eq (congrArg (AV.int .i64) (by first | (simp; done) | (simp; omega) | (rw [wrap_i64 (by first | omega | (simp; omega))]; first | rfl | omega | (simp; done) | (simp; omega)))), ?_⟩)
    · repeat (first | exact SLe.rfl | refine SLe.tail ?_ | refine SLe.full ?_)
    obtain ⟨i, c⟩ := z
    obtain ⟨i1, i2, i4⟩ : i ≤ f.structs.length ∧ sizeScs f.structs 3000 = sizeScs (f.structs.drop i) c ∧ (i : Int) + c ≤ 3000 := hz
    repeat (first | refine go_ ?_ | intro _)
    refine gsplit (i < f.structs.length) (by first | (simp; done) | (simp <;> omega) | decide) (fun h => ?_) (fun h => ?_)
    rotate_left
    · repeat (first | refine ga_ ?_ | intro _)
      refine ⟨((c, p) : Int × Nat), ?_, weak_of ?_ rfl ?_⟩
      · exact ⟨by show _ = c; rw [i2, List.drop_of_length_le (by omega)]; rfl, by show c ≤ 3000; omega⟩
      · repeat (first | exact trivial | refine ⟨AVle.refl _, ?_⟩ | refine ⟨AVle.tk, ?_⟩ | refine ⟨AVle.nil, ?_⟩ | refine ⟨AVle.nilFull, ?_⟩ | refine ⟨AVle.eq (congrArg (AV.int .i64) (by first | (simp; done) | (simp; omega) | (rw [wrap_i64 (by first | omega | (simp; omega))]; first | rfl | omega | (simp; done) | (simp; omega)))), ?_⟩)
      · repeat (first | exact SLe.rfl | refine SLe.tail ?_ | refine SLe.full ?_)
    have hlt := h
    have hd : f.structs.drop i = f.structs[i] :: f.structs.drop (i + 1) := (List.getElem_cons_drop hlt).symm
    repeat (first | refine go_ ?_ | intro _)
    refine AW_iff (0 ≤ c) rfl (by first | (simp; done) | (simp <;> omega) | decide) (fun h => ?_) (fun h => ?_)
    rotate_left
    · repeat (first | refine ga_ ?_ | intro _)
      refine ⟨((c, p) : Int × Nat), ?_, weak_of ?_ rfl ?_⟩
      · exact ⟨by show _ = c; rw [i2, sizeScs_neg (by omega)], by show c ≤ 3000; omega⟩
      · repeat (first | exact trivial | refine ⟨AVle.refl _, ?_⟩ | refine ⟨AVle.tk, ?_⟩ | refine ⟨AVle.nil, ?_⟩ | refine ⟨AVle.nilFull, ?_⟩ | refine ⟨AVle.eq (congrArg (AV.int .i64) (by first | (simp; done) | (simp; omega) | (rw [wrap_i64 (by first | omega | (simp; omega))]; first | rfl | omega | (simp; done) | (simp; omega)))), ?_⟩)
      · repeat (first | exact SLe.rfl | refine SLe.tail ?_ | refine SLe.full ?_)
    have h0 := h
    obtain ⟨x, hx⟩ : ∃ x, x = f.structs[i] := ⟨_, rfl⟩
    rw [hd, sizeScs, if_pos h0, ← hx] at i2
    have hm : x ∈ f.structs := hx ▸ List.getElem_mem hlt
    have hn := ho.1 x hm
    have hb := sizeSc_le x c (by omega)
    have hw : IntKind.i64.wrap (IntKind.i64.wrap (c - ((x.names.map AV.str).length : Nat)) - 1) = c - (x.names.length : Nat) - 1 := by rw [List.length_map, wrap_i64 (n := c - (x.names.length : Nat)) (by omega), wrap_i64 (by omega)]
    have kt := fun R => sizeTypes_ok x.types (c - (x.names.length : Nat) - 1) R (by omega)
    have kt2 : ∀ R, ACall Tryd.prog 31 [.sl 3 (encYs x.types) .no, .int .i64 (IntKind.i64.wrap (IntKind.i64.wrap (c - ((x.names.map AV.str).length : Nat)) - 1))] R (fun r S => r = .int .i64 (sizeSc x c) ∧ S = R) := by rw [hw]; exact kt
    repeat (first | refine ga_ ?_ | intro _)
    refine AW_draw tab_ok mixed 17 (by first | rfl | kernel_rfl) ?_
    repeat (first | refine ga_ ?_ | intro _)
    refine at_get (i) (encSc x) (by first | rfl | omega | (rw [wrap_i64 (by omega)]; omega)) (by exact encScs_get hlt hx) ?_
    repeat (first | refine ga_ ?_ | intro _)
    refine at_get (i) (encSc x) (by first | rfl | omega | (rw [wrap_i64 (by omega)]; omega)) (by exact encScs_get hlt hx) ?_
    repeat (first | refine ga_ ?_ | intro _)
    apply call_step
    · rfl
    · exact Or.inl ⟨⟨_, Tryd.func31, rfl, rfl⟩, kt2 _⟩
    repeat (first | refine ga_ ?_ | intro _)
    refine ⟨(i + 1, sizeSc x c), ?_, ?_, weak_of ?_ rfl ?_⟩
    · exact Nat.sub_lt_sub_left hlt (Nat.lt_succ_self i)
    · exact ⟨hlt, i2, by show ((i + 1 : Nat) : Int) + sizeSc x c ≤ 3000; omega⟩
    · repeat (first | exact trivial | refine ⟨AVle.refl _, ?_⟩ | refine ⟨AVle.tk, ?_⟩ | refine ⟨AVle.nil, ?_⟩ | refine ⟨AVle.nilFull, ?_⟩ | refine ⟨AVle.eq (congrArg (AV.int .i64) (by first | (simp; done) | (simp; omega) | (rw [wrap_i64 (by first | omega | (simp; omega))]; first | rfl | omega | (simp; done) | (simp; omega)))), ?_⟩)
    · refine SW.le ?_
      repeat (first | exact SW.nil | refine SW.cons ?_ | refine SW.cells (by repeat (first | exact trivial | refine ⟨AVle.refl _, ?_⟩ | refine ⟨AVle.nilFull, ?_⟩ | refine ⟨AVle.tk, ?_⟩ | refine ⟨AVle.nil, ?_⟩)) rfl ?_ | refine SW.full ?_ | refine SW.drop ?_)
  obtain ⟨k0, p⟩ := z
  obtain ⟨e0, hk0⟩ : sizeScs f.structs 3000 = k0 ∧ k0 ≤ 3000 := hz
  have hsm : smallI f = if 0 ≤ sizeFns f.funcs k0 then 1 else 0 := by
    unfold smallI smallB
    rw [e0]
    by_cases h : 0 ≤ sizeFns f.funcs k0
    · rw [if_pos h, if_pos (decide_eq_true h)]
    · rw [if_neg h, if_neg (by rw [decide_eq_false h]; simp)]
  refine AW_cut1 (α := Int) (fun z => ⟨[(1, .ptr p 0), (3, .int .i64 z)], []⟩) (fun z => .cells p (cFi f) :: R) (fun z => sizeFns f.funcs k0 = z ∧ z ≤ 3000) ?_ (fun z hz => ?_)
  · repeat (first | refine go_ ?_ | intro _)
    refine AW_for (α := Nat × Int) (fun z => ⟨[(1, .ptr p 0), (3, .int .i64 z.2), (5, .int .i64 (z.1 : Nat))], []⟩) (fun z => .cells p (cFi f) :: R) (fun z => f.funcs.length - z.1) (fun z => z.1 ≤ f.funcs.length ∧ sizeFns f.funcs k0 = sizeFns (f.funcs.drop z.1) z.2 ∧ (z.1 : Int) + z.2 ≤ 3000) ((0, k0)) ?_ (weak_of ?_ rfl ?_) (fun z hz => ?_)
    · exact ⟨Nat.zero_le _, rfl, by show ((0 : Nat) : Int) + k0 ≤ 3000; omega⟩
    · repeat (first | exact trivial | refine ⟨AVle.refl _, ?_⟩ | refine ⟨AVle.tk, ?_⟩ | refine ⟨AVle.nil, ?_⟩ | refine ⟨AVle.nilFull, ?_⟩ | refine ⟨AVle.eq (congrArg (AV.int .i64) (by first | (simp; done) | (simp; omega) | (rw [wrap_i64 (by first | omega | (simp; omega))]; first | rfl | omega | (simp; done) | (simp; omega)))), ?_⟩)
    · repeat (first | exact SLe.rfl | refine SLe.tail ?_ | refine SLe.full ?_)
    obtain ⟨i, c⟩ := z
    obtain ⟨i1, i2, i4⟩ : i ≤ f.funcs.length ∧ sizeFns f.funcs k0 = sizeFns (f.funcs.drop i) c ∧ (i : Int) + c ≤ 3000 := hz
    repeat (first | refine go_ ?_ | intro _)
    refine gsplit (i < f.funcs.length) (by first | (simp; done) | (simp <;> omega) | decide) (fun h => ?_) (fun h => ?_)
    rotate_left
    · repeat (first | refine ga_ ?_ | intro _)
      refine ⟨c, ?_, weak_of ?_ rfl ?_⟩
      · exact ⟨by rw [i2, List.drop_of_length_le (by omega)]; rfl, by omega⟩
      · repeat (first | exact trivial | refine ⟨AVle.refl _, ?_⟩ | refine ⟨AVle.tk, ?_⟩ | refine ⟨AVle.nil, ?_⟩ | refine ⟨AVle.nilFull, ?_⟩ | refine ⟨AVle.eq (congrArg (AV.int .i64) (by first | (simp; done) | (simp; omega) | (rw [wrap_i64 (by first | omega | (simp; omega))]; first | rfl | omega | (simp; done) | (simp; omega)))), ?_⟩)
      · repeat (first | exact SLe.rfl | refine SLe.tail ?_ | refine SLe.full ?_)
    have hlt := h
    have hd : f.funcs.drop i = f.funcs[i] :: f.funcs.drop (i + 1) := (List.getElem_cons_drop hlt).symm
    repeat (first | refine go_ ?_ | intro _)
    refine AW_iff (0 ≤ c) rfl (by first | (simp; done) | (simp <;> omega) | decide) (fun h => ?_) (fun h => ?_)
    rotate_left
    · repeat (first | refine ga_ ?_ | intro _)
      refine ⟨c, ?_, weak_of ?_ rfl ?_⟩
      · exact ⟨by rw [i2, sizeFns_neg (by omega)], by omega⟩
      · repeat (first | exact trivial | refine ⟨AVle.refl _, ?_⟩ | refine ⟨AVle.tk, ?_⟩ | refine ⟨AVle.nil, ?_⟩ | refine ⟨AVle.nilFull, ?_⟩ | refine ⟨AVle.eq (congrArg (AV.int .i64) (by first | (simp; done) | (simp; omega) | (rw [wrap_i64 (by first | omega | (simp; omega))]; first | rfl | omega | (simp; done) | (simp; omega)))), ?_⟩)
      · repeat (first | exact SLe.rfl | refine SLe.tail ?_ | refine SLe.full ?_)
    have h0 := h
    obtain ⟨x, hx⟩ : ∃ x, x = f.funcs[i] := ⟨_, rfl⟩
    rw [hd, sizeFns, if_pos h0, ← hx] at i2
    have hm : x ∈ f.funcs := hx ▸ List.getElem_mem hlt
    have hn := ho.2 x hm
    have hb := sizeFn_le x c (by omega)
    have hw : IntKind.i64.wrap (IntKind.i64.wrap (c - ((x.names.map AV.str).length : Nat)) - 1) = c - (x.names.length : Nat) - 1 := by rw [List.length_map, wrap_i64 (n := c - (x.names.length : Nat)) (by omega), wrap_i64 (by omega)]
    obtain ⟨a, ha⟩ : ∃ a, a = sizeYs x.types (c - (x.names.length : Nat) - 1) := ⟨_, rfl⟩
    have ez : sizeFn x c = nx (sizeZs x.l) (nx (sizeY x.ret) a) := by rw [ha]; rfl
    have hal : a ≤ 3000 := by
      rw [ha]
      by_cases h0 : -2 ≤ c - (x.names.length : Nat) - 1
      · have := sizeYs_le x.types _ h0; omega
      · rw [sizeYs_neg (by omega)]; omega
    have kt2 : ∀ R, ACall Tryd.prog 31 [.sl 3 (encYs x.types) .no, .int .i64 (IntKind.i64.wrap (IntKind.i64.wrap (c - ((x.names.map AV.str).length : Nat)) - 1))] R (fun r S => r = .int .i64 a ∧ S = R) := by rw [hw, ha]; exact fun R => sizeTypes_ok x.types _ R (by omega)
    refine AW_skip ?_
    refine AW_seq ?_
    refine AW_block ?_
    refine AW_cut1 (α := Int) (fun z => ⟨[(1, .ptr p 0), (3, .int .i64 z), (5, .int .i64 (i : Nat))], []⟩) (fun z => .cells p (cFi f) :: R) (fun z => a = z ∧ True) ?_ (fun z hz => ?_)
    · repeat (first | refine ga_ ?_ | intro _)
      refine AW_draw tab_ok mixed 17 (by first | rfl | kernel_rfl) ?_
      repeat (first | refine ga_ ?_ | intro _)
      refine at_get (i) (encFn x) (by first | rfl | omega | (rw [wrap_i64 (by omega)]; omega)) (by exact encFns_get hlt hx) ?_
      repeat (first | refine ga_ ?_ | intro _)
      refine at_get (i) (encFn x) (by first | rfl | omega | (rw [wrap_i64 (by omega)]; omega)) (by exact encFns_get hlt hx) ?_
      repeat (first | refine ga_ ?_ | intro _)
      apply call_step
      · rfl
      · exact Or.inl ⟨⟨_, Tryd.func31, rfl, rfl⟩, kt2 _⟩
      repeat (first | refine ga_ ?_ | intro _)
      refine ⟨a, ?_, weak_of ?_ rfl ?_⟩
      · exact ⟨rfl, trivial⟩
      · repeat (first | exact trivial | refine ⟨AVle.refl _, ?_⟩ | refine ⟨AVle.tk, ?_⟩ | refine ⟨AVle.nil, ?_⟩ | refine ⟨AVle.nilFull, ?_⟩ | refine ⟨AVle.eq (congrArg (AV.int .i64) (by first | (simp; done) | (simp; omega) | (rw [wrap_i64 (by first | omega | (simp; omega))]; first | rfl | omega | (simp; done) | (simp; omega)))), ?_⟩)
      · repeat (first | exact SLe.rfl | refine SLe.tail ?_ | refine SLe.full ?_)
    obtain rfl := hz.1
    refine AW_cut1 (α := Int) (fun z => ⟨[(1, .ptr p 0), (3, .int .i64 z), (5, .int .i64 (i : Nat))], []⟩) (fun z => .cells p (cFi f) :: R) (fun z => nx (sizeY x.ret) a = z ∧ True) ?_ (fun z hz => ?_)
    · repeat (first | refine ga_ ?_ | intro _)
      refine AW_iff (0 ≤ a) rfl (by first | (simp; done) | (simp <;> omega) | decide) (fun h => ?_) (fun h => ?_)
      · have hq := h
        repeat (first | refine ga_ ?_ | intro _)
        refine at_get (i) (encFn x) (by first | rfl | omega | (rw [wrap_i64 (by omega)]; omega)) (by exact encFns_get hlt hx) ?_
        repeat (first | refine ga_ ?_ | intro _)
        refine Or.inl ⟨⟨_, Tryd.func32, rfl, rfl⟩, ACall.mono ?_ (sizeType_ok _ x.ret (Nat.le_refl _) a _ (by omega) (by omega))⟩
        rintro _ S1 ⟨rfl, hS1⟩
        subst S1
        repeat (first | refine ga_ ?_ | intro _)
        refine ⟨sizeY x.ret a, ?_, weak_of ?_ rfl ?_⟩
        · exact ⟨nx_pos hq, trivial⟩
        · repeat (first | exact trivial | refine ⟨AVle.refl _, ?_⟩ | refine ⟨AVle.tk, ?_⟩ | refine ⟨AVle.nil, ?_⟩ | refine ⟨AVle.nilFull, ?_⟩ | refine ⟨AVle.eq (congrArg (AV.int .i64) (by first | (simp; done) | (simp; omega) | (rw [wrap_i64 (by first | omega | (simp; omega))]; first | rfl | omega | (simp; done) | (simp; omega)))), ?_⟩)
        · repeat (first | exact SLe.rfl | refine SLe.tail ?_ | refine SLe.full ?_)
      · have hq := h
        repeat (first | refine ga_ ?_ | intro _)
        refine ⟨a, ?_, weak_of ?_ rfl ?_⟩
        · exact ⟨nx_neg (by omega), trivial⟩
        · repeat (first | exact trivial | refine ⟨AVle.refl _, ?_⟩ | refine ⟨AVle.tk, ?_⟩ | refine ⟨AVle.nil, ?_⟩ | refine ⟨AVle.nilFull, ?_⟩ | refine ⟨AVle.eq (congrArg (AV.int .i64) (by first | (simp; done) | (simp; omega) | (rw [wrap_i64 (by first | omega | (simp; omega))]; first | rfl | omega | (simp; done) | (simp; omega)))), ?_⟩)
        · repeat (first | exact SLe.rfl | refine SLe.tail ?_ | refine SLe.full ?_)
    obtain ⟨e, he⟩ : ∃ w, w = z := ⟨_, rfl⟩
    subst he
    have ee := hz.1
    rw [ee] at ez
    have hel : e ≤ 3000 := by
      rw [← ee]
      by_cases h0 : 0 ≤ a
      · rw [nx_pos h0]; have := sizeY_le x.ret a (by omega); omega
      · rw [nx_neg (by omega)]; omega
    repeat (first | refine ga_ ?_ | intro _)
    refine AW_iff (0 ≤ e) rfl (by first | (simp; done) | (simp <;> omega) | decide) (fun h => ?_) (fun h => ?_)
    · have hq := h
      rw [nx_pos hq] at ez
      rw [ez] at i2 hb
      repeat (first | refine ga_ ?_ | intro _)
      refine at_get (i) (encFn x) (by first | rfl | omega | (rw [wrap_i64 (by omega)]; omega)) (by exact encFns_get hlt hx) ?_
      repeat (first | refine ga_ ?_ | intro _)
      refine Or.inl ⟨⟨_, Tryd.func33, rfl, rfl⟩, ACall.mono ?_ (sizeStmts_ok _ x.l (Nat.le_refl _) e _ (by omega))⟩
      rintro _ S1 ⟨rfl, hS1⟩
      subst S1
      repeat (first | refine ga_ ?_ | intro _)
      refine ⟨(i + 1, sizeZs x.l e), ?_, ?_, weak_of ?_ rfl ?_⟩
      · exact Nat.sub_lt_sub_left hlt (Nat.lt_succ_self i)
      · exact ⟨hlt, i2, by show ((i + 1 : Nat) : Int) + sizeZs x.l e ≤ 3000; omega⟩
      · repeat (first | exact trivial | refine ⟨AVle.refl _, ?_⟩ | refine ⟨AVle.tk, ?_⟩ | refine ⟨AVle.nil, ?_⟩ | refine ⟨AVle.nilFull, ?_⟩ | refine ⟨AVle.eq (congrArg (AV.int .i64) (by first | (simp; done) | (simp; omega) | (rw [wrap_i64 (by first | omega | (simp; omega))]; first | rfl | omega | (simp; done) | (simp; omega)))), ?_⟩)
      · refine SW.le ?_
        repeat (first | exact SW.nil | refine SW.cons ?_ | refine SW.cells (by repeat (first | exact trivial | refine ⟨AVle.refl _, ?_⟩ | refine ⟨AVle.nilFull, ?_⟩ | refine ⟨AVle.tk, ?_⟩ | refine ⟨AVle.nil, ?_⟩)) rfl ?_ | refine SW.full ?_ | refine SW.drop ?_)
    · have hq := h
      rw [nx_neg (by omega)] at ez
      rw [ez] at i2 hb
      repeat (first | refine ga_ ?_ | intro _)
      refine ⟨(i + 1, e), ?_, ?_, weak_of ?_ rfl ?_⟩
      · exact Nat.sub_lt_sub_left hlt (Nat.lt_succ_self i)
      · exact ⟨hlt, i2, by show ((i + 1 : Nat) : Int) + e ≤ 3000; omega⟩
      · repeat (first | exact trivial | refine ⟨AVle.refl _, ?_⟩ | refine ⟨AVle.tk, ?_⟩ | refine ⟨AVle.nil, ?_⟩ | refine ⟨AVle.nilFull, ?_⟩ | refine ⟨AVle.eq (congrArg (AV.int .i64) (by first | (simp; done) | (simp; omega) | (rw [wrap_i64 (by first | omega | (simp; omega))]; first | rfl | omega | (simp; done) | (simp; omega)))), ?_⟩)
      · refine SW.le ?_
        repeat (first | exact SW.nil | refine SW.cons ?_ | refine SW.cells (by repeat (first | exact trivial | refine ⟨AVle.refl _, ?_⟩ | refine ⟨AVle.nilFull, ?_⟩ | refine ⟨AVle.tk, ?_⟩ | refine ⟨AVle.nil, ?_⟩)) rfl ?_ | refine SW.full ?_ | refine SW.drop ?_)
  obtain ⟨w, hw⟩ : ∃ w, w = z := ⟨_, rfl⟩
  subst hw
  rw [hz.1] at hsm
  repeat (first | refine ga_ ?_ | intro _)
  refine AW_iff (w < 0) rfl (by first | (simp; done) | (simp <;> omega) | decide) (fun h => ?_) (fun h => ?_)
  · rw [if_neg (by omega)] at hsm
    repeat (first | refine ga_ ?_ | intro _)
    refine AW_ret ?_
    repeat (first | refine ⟨0, rfl, ?_⟩ | refine ⟨1, rfl, ?_⟩ | refine ⟨2, rfl, ?_⟩ | refine ⟨3, rfl, ?_⟩ | refine ⟨4, rfl, ?_⟩ | refine ⟨5, rfl, ?_⟩ | refine ⟨6, rfl, ?_⟩)
    refine ⟨_, R, AVle.eq ?_, (by repeat (first | exact SLe.rfl | refine SLe.tail ?_)), rfl, rfl⟩
    exact congrArg (AV.int .i64) hsm.symm
  · rw [if_pos (by omega)] at hsm
    repeat (first | refine ga_ ?_ | intro _)
    refine AW_ret ?_
    repeat (first | refine ⟨0, rfl, ?_⟩ | refine ⟨1, rfl, ?_⟩ | refine ⟨2, rfl, ?_⟩ | refine ⟨3, rfl, ?_⟩ | refine ⟨4, rfl, ?_⟩ | refine ⟨5, rfl, ?_⟩ | refine ⟨6, rfl, ?_⟩)
    refine ⟨_, R, AVle.eq ?_, (by repeat (first | exact SLe.rfl | refine SLe.tail ?_)), rfl, rfl⟩
    exact congrArg (AV.int .i64) hsm.symm
end Go.Proofs.YtnkmjbjpmocnbaaDoor
