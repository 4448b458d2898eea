/-
  A file's text: as data; strings.Repeat. Own work.
-/
import Derived.Test.YtnkmjbjpmocnbaaDoorP15
import Derived.Shelf.Strings.Repeat
import Derived.Test.YtnkmjbjpmocnbaaDoorP12
set_option linter.all false
namespace Go.Proofs.YtnkmjbjpmocnbaaDoor
open Go.Aw Go.RowKit Go.Shelf

theorem repeat_extra : Builder.Extra Tryd.prog Tryd.lays105_ren := {
  sizeBuilder := by kernel_rfl
  liesBuilder := by kernel_rfl
  t5 := Tryd.underlying5
  a5 := fun w => Tryd.isAgg5 w
  z5 := fun w => Tryd.sizeOf5 w
  v5 := fun w => Tryd.zeroValue5 w
  infoByte := by kernel_rfl
  cellsByte := by kernel_rfl
  sizeByte := by kernel_rfl
  neB5 := by decide }
theorem repeat_ok (k : Nat) (R : List En) (hk : k ≤ 100000000) : ACall Tryd.prog 45 [.str [9], .int .i64 (k : Nat)] R (fun r S => r = .str (List.replicate k 9) ∧ S = R) := by
  refine ACall_pure fun w0 K w vs hv hS => ?_
  obtain ⟨x, r, rfl, hx, hr⟩ := hv.cons_inv
  obtain ⟨y, r', rfl, hy, hr'⟩ := hr.cons_inv
  obtain rfl := hr'.nil_inv
  cases hx; cases hy
  have e : Lib.repeatL [9] k = List.replicate k 9 := by
    have := Lib.repeatL_replicate 9 1 k
    rw [Nat.mul_one] at this
    exact this
  have k1 := Any.strings_Repeat Tryd.lays105 repeat_extra ⟨#[9]⟩ k w (by omega) (by show 1 * k ≤ _; omega)
  refine k1.mono ?_
  rintro e w' ⟨rfl, hb⟩
  refine ⟨_, rfl, ?_, hb⟩
  have e2 : (⟨(Lib.repeatL (ByteArray.data ⟨#[9]⟩).toList k).toArray⟩ : ByteArray) = ⟨(List.replicate k 9).toArray⟩ := by
    show (⟨(Lib.repeatL [9] k).toArray⟩ : ByteArray) = _
    rw [e]
  rw [e2]
  exact .str _ (le_maxLen.2 (by simp; omega))

/-! ### a file's text -/
def pkgL : List UInt8 := [112, 97, 99, 107, 97, 103, 101, 32, 109, 97, 105, 110, 10]
def fieldT (x : List UInt8 × Y) : List UInt8 := [9] ++ (x.1 ++ ([32] ++ (showY x.2 ++ [10])))
def fieldsT (l : List (List UInt8 × Y)) : List UInt8 := l.flatMap fieldT
def headSc (d : Sc) : List UInt8 := [10, 116, 121, 112, 101, 32] ++ (d.s ++ [32, 115, 116, 114, 117, 99, 116, 32, 123, 10])
def scT (d : Sc) : List UInt8 := headSc d ++ (fieldsT (d.names.zip d.types) ++ [125, 10])
def paramT (x : List UInt8 × Y) : List UInt8 := x.1 ++ ([32] ++ showY x.2)
def retT (t : Y) : List UInt8 := if 0 < t.op then [32] ++ showY t else []
def headFn (g : Fn) : List UInt8 := [10, 102, 117, 110, 99, 32] ++ (g.s ++ ([40] ++ (Lib.join ((g.names.zip g.types).map paramT) [44, 32] ++ [41])))
def fnT (g : Fn) : List UInt8 := headFn g ++ (retT g.ret ++ ([32, 123, 10] ++ (textL (linesG g.l 1) ++ [125, 10])))
def scsT (l : List Sc) : List UInt8 := l.flatMap scT
def fnsT (l : List Fn) : List UInt8 := l.flatMap fnT
def showF (f : Fi) : List UInt8 := pkgL ++ (scsT f.structs ++ fnsT f.funcs)
theorem fm_take {α : Type} {g : α → List UInt8} {l : List α} {z : Nat} {x : α} (h : z < l.length) (hx : x = l[z]) : (l.take (z + 1)).flatMap g = (l.take z).flatMap g ++ g x := by
  rw [take_snoc h hx, List.flatMap_append]; simp
theorem fm_le {α : Type} (g : α → List UInt8) (l : List α) (z : Nat) : ((l.take z).flatMap g).length ≤ (l.flatMap g).length := by
  have e : l = l.take z ++ l.drop z := (List.take_append_drop z l).symm
  conv => rhs; rw [e]
  rw [List.flatMap_append, List.length_append]; omega
/-! ### its length -/
theorem szYs_len (l : List Y) : l.length ≤ szYs l := by
  induction l with
  | nil => simp
  | cons t r ih =>
    have : 1 ≤ szY t := by cases t; rw [szY]; omega
    rw [szYs, List.length_cons]; omega
theorem zip_len (a : List (List UInt8)) (t : List Y) : ((a.zip t).map fun x => x.1.length + (showY x.2).length + 1).sum ≤ szN a + szYs t + 6 * cntYs t := by
  induction a generalizing t with
  | nil => simp
  | cons s a ih =>
    cases t with
    | nil => simp
    | cons y t =>
      have h1 := ih t
      have h2 := showY_len y
      unfold szN at h1 ⊢
      rw [List.zip_cons_cons, List.map_cons, List.sum_cons, List.map_cons, List.sum_cons, szYs, cntYs]
      simp only []
      omega
theorem fieldsT_len (l : List (List UInt8 × Y)) : (fieldsT l).length ≤ (l.map fun x => x.1.length + (showY x.2).length + 1).sum + 3 * l.length := by
  induction l with
  | nil => simp [fieldsT]
  | cons x l ih =>
    unfold fieldsT at ih ⊢
    rw [List.flatMap_cons, List.length_append, List.map_cons, List.sum_cons, List.length_cons]
    have : (fieldT x).length = x.1.length + (showY x.2).length + 3 := by simp [fieldT]; omega
    omega
theorem params_len (l : List (List UInt8 × Y)) : ((l.map paramT).map List.length).sum ≤ (l.map fun x => x.1.length + (showY x.2).length + 1).sum := by
  induction l with
  | nil => simp
  | cons x l ih =>
    rw [List.map_cons, List.map_cons, List.sum_cons, List.map_cons, List.sum_cons]
    have : (paramT x).length = x.1.length + (showY x.2).length + 1 := by simp [paramT]; omega
    omega
theorem zip_le (a : List (List UInt8)) (t : List Y) : (a.zip t).length ≤ a.length := by rw [List.length_zip]; omega
theorem scT_len (d : Sc) : (scT d).length ≤ szSc d + 30 * cntSc d := by
  have h1 := zip_len d.names d.types
  have h2 := fieldsT_len (d.names.zip d.types)
  have h3 := zip_le d.names d.types
  unfold scT headSc szSc cntSc
  simp only [List.length_append, List.length_cons, List.length_nil]; omega
theorem joinP_len (l : List (List UInt8 × Y)) : (Lib.join (l.map paramT) [44, 32]).length ≤ (l.map fun x => x.1.length + (showY x.2).length + 1).sum + 2 * l.length := by
  have h1 := join_le (l.map paramT)
  have h2 := params_len l
  rw [List.length_map] at h1
  omega
theorem retT_len (t : Y) : (retT t).length ≤ szY t + 6 * cntY t + 1 := by
  have := showY_len t
  exact ite_len (by simp; omega) (by simp)
theorem fnT_len (g : Fn) (hr : rightZs g.l 40 = true) (ho : okZs g.l) : (fnT g).length ≤ 4 * szFn g + 300 * cntFn g := by
  have h1 := zip_len g.names g.types
  have h2 := joinP_len (g.names.zip g.types)
  have h3 := zip_le g.names g.types
  have h4 := retT_len g.ret
  have h5 := linesG_len g.l 1 40 hr ho (by omega)
  unfold fnT headFn szFn cntFn
  simp only [List.length_append, List.length_cons, List.length_nil]; omega
theorem scsT_len (l : List Sc) : (scsT l).length ≤ (l.map szSc).sum + 30 * cntScs l := by
  induction l with
  | nil => simp [scsT]
  | cons d l ih =>
    have := scT_len d
    unfold scsT at ih ⊢
    rw [List.flatMap_cons, List.length_append, List.map_cons, List.sum_cons, cntScs]; omega
theorem fnsT_len (l : List Fn) (h : ∀ g ∈ l, rightZs g.l 40 = true ∧ okZs g.l) : (fnsT l).length ≤ 4 * (l.map szFn).sum + 300 * cntFns l := by
  induction l with
  | nil => simp [fnsT]
  | cons d l ih =>
    have h1 := fnT_len d (h d (.head _)).1 (h d (.head _)).2
    have h2 := ih fun g hg => h g (.tail _ hg)
    unfold fnsT at h2 ⊢
    rw [List.flatMap_cons, List.length_append, List.map_cons, List.sum_cons, cntFns]; omega
/-- what a file's walk needs -/
structure OkF (f : Fi) : Prop where
  c : cntFi f ≤ 3000
  s : szFi f ≤ 1048576
  o : ∀ g ∈ f.funcs, okZs g.l
theorem rightF_all {f : Fi} (h : rightF f = true) : (∀ d ∈ f.structs, ownB d.s = true ∧ partsB d.names d.types = true) ∧ ∀ g ∈ f.funcs, ownB g.s = true ∧ partsB g.names g.types = true ∧ (rightY g.ret 60 || noY g.ret) = true ∧ rightZs g.l 40 = true := by
  unfold rightF at h
  simp only [Bool.and_eq_true, List.all_eq_true] at h
  refine ⟨fun d hd => ?_, fun g hg => ?_⟩
  · have := h.1 d hd
    unfold rightSc at this
    simpa using this
  · have := h.2 g hg
    unfold rightFn at this
    simp only [Bool.and_eq_true] at this
    exact ⟨this.1, this.2.1, this.2.2.1, this.2.2.2⟩
theorem showF_len {f : Fi} (h : OkF f) (hr : rightF f = true) : (showF f).length ≤ 6000000 := by
  obtain ⟨hc, hs, ho⟩ := h
  have h1 := scsT_len f.structs
  have h2 := fnsT_len f.funcs fun g hg => ⟨((rightF_all hr).2 g hg).2.2.2, ho g hg⟩
  unfold szFi at hs
  unfold cntFi at hc
  unfold showF
  have : pkgL.length = 13 := rfl
  simp only [List.length_append]; omega
theorem parts_all {names : List (List UInt8)} {types : List Y} (h : partsB names types = true) : names.length ≤ 200 ∧ types.length = names.length ∧ ∀ t ∈ types, rightY t 60 = true := by
  unfold partsB at h
  simp only [Bool.and_eq_true, decide_eq_true_eq, List.all_eq_true] at h
  refine ⟨h.1, h.2.1, fun t ht => ?_⟩
  obtain ⟨i, hi, rfl⟩ := List.mem_iff_getElem.1 ht
  have hi2 : i < (names.zip types).length := by rw [List.length_zip]; omega
  have := h.2.2 _ (List.getElem_mem hi2)
  rw [List.getElem_zip] at this
  exact this.2
end Go.Proofs.YtnkmjbjpmocnbaaDoor
/-
  A file's text: the program. Own work.
-/
namespace Go.Proofs.YtnkmjbjpmocnbaaDoor
open Go.Aw Go.RowKit
set_option maxHeartbeats 4000000

def shownF (f : Fi) : AV := .tup [.str (if rightF f = true then showF f else []), .int .i64 (if rightF f = true then 0 else 150)]
theorem shownF_t {r : Fi} (h : rightF r = true) : shownF r = .tup [.str (showF r), .int .i64 0] := by rw [shownF, if_pos h, if_pos h]
theorem shownF_f {r : Fi} (h : rightF r = false) : shownF r = .tup [.str [], .int .i64 150] := by rw [shownF, if_neg (by rw [h]; simp), if_neg (by rw [h]; simp)]
theorem ACall_drop {f : FuncId} {args : List AV} {S S' : List En} {k : AV → List En → Prop} (hS : SLe S S') (hc : ACall Tryd.prog f args S' k) : ACall Tryd.prog f args S k := by
  unfold ACall at hc ⊢
  exact fun w0 K w vs hv h => hc w0 K w vs hv (hS _ _ _ h)
theorem bld_in {b : Nat} {u : Bool} {s : List UInt8} {bb cap : Nat} {rest : List AV} {R : List En} {e : En} : SLe (Bld b u s bb cap rest (e :: R)) (e :: Bld b u s bb cap rest R) := by
  cases s with
  | nil => exact fun _ _ _ h => h.perm (List.perm_middle (l₁ := [_, _])).symm
  | cons => exact fun _ _ _ h => h.perm (List.perm_middle (l₁ := [_, _, _, _])).symm
theorem bld_out {b : Nat} {u : Bool} {s : List UInt8} {bb cap : Nat} {rest : List AV} {R : List En} {e : En} : SLe (e :: Bld b u s bb cap rest R) (Bld b u s bb cap rest (e :: R)) := by
  cases s with
  | nil => exact fun _ _ _ h => h.perm (List.perm_middle (l₁ := [_, _]))
  | cons => exact fun _ _ _ h => h.perm (List.perm_middle (l₁ := [_, _, _, _]))
theorem bld_less {b : Nat} {u : Bool} {s : List UInt8} {bb cap : Nat} {rest : List AV} {R : List En} {e : En} : SLe (Bld b u s bb cap rest (e :: R)) (Bld b u s bb cap rest R) := SLe.trans bld_in (SLe.tail SLe.rfl)
theorem bld_eq {b : Nat} {u : Bool} {s s' : List UInt8} {bb cap : Nat} {rest : List AV} {R : List En} (h : s = s') : SLe (Bld b u s bb cap rest R) (Bld b u s' bb cap rest R) := SLe.of_eq (congrArg (fun x => Bld b u x bb cap rest R) h)
theorem sum_mem {α : Type} (g : α → Nat) {x : α} : ∀ {l : List α}, x ∈ l → g x ≤ (l.map g).sum
  | a :: l, h => by
    rw [List.map_cons, List.sum_cons]
    rcases List.mem_cons.1 h with rfl | h
    · omega
    · have := sum_mem g h; omega
theorem szN_mem {s : List UInt8} {l : List (List UInt8)} (h : s ∈ l) : s.length ≤ szN l := by
  have h2 : s.length + 1 ≤ szN l := sum_mem (fun s : List UInt8 => s.length + 1) h
  omega
theorem zip_at {α β : Type} {a : List α} {b : List β} {i : Nat} {s : α} {t : β} (h1 : i < a.length) (h2 : i < b.length) (hs : s = a[i]) (ht : t = b[i]) : (s, t) = (a.zip b)[i]'(by rw [List.length_zip]; omega) := by rw [List.getElem_zip, hs, ht]
theorem show_ok (f : Fi) (R : List En) (hE : spE ∈ R) (hG : numE ∈ R) (hO : OkF f) : ACall Tryd.prog 19 [encFi f] R (fun v S => v = shownF f ∧ S = R) := by
  have hc := hO.c
  unfold cntFi at hc
  have hs := hO.s
  unfold szFi at hs
  have c1 := len_cntScs f.structs
  have c2 := len_cntFns f.funcs
  refine ACall_body tab_ok Tryd.func19 rfl rfl rfl (by kernel_rfl) (Nat.le_of_ble_eq_true rfl) ?_
  repeat (first | refine go_ ?_ | intro _)
  rename_i p
  refine Or.inl ⟨⟨_, Tryd.func20, rfl, rfl⟩, ACall.mono ?_ (right_ok f _ (.tail _ hE) hO.c)⟩
  rintro _ S1 ⟨rfl, hS1⟩
  subst S1
  repeat (first | refine go_ ?_ | intro _)
  refine AW_cond (b := !rightF f) rfl (fun h => ?_) (fun h => ?_)
  · have hr : rightF f = false := by simpa using h
    repeat (first | refine go_ ?_ | intro _)
    refine AW_ret ?_
    repeat (first | refine ⟨0, rfl, ?_⟩ | refine ⟨1, rfl, ?_⟩ | refine ⟨2, rfl, ?_⟩ | refine ⟨3, rfl, ?_⟩ | refine ⟨4, rfl, ?_⟩ | refine ⟨5, rfl, ?_⟩ | refine ⟨6, rfl, ?_⟩)
    refine ⟨_, R, AVle.eq ?_, (by repeat (first | exact SLe.rfl | refine SLe.tail ?_)), rfl, rfl⟩
    rw [shownF_f hr]; rfl
  have hr : rightF f = true := by simpa using h
  have hall := rightF_all hr
  have hT := showF_len hO hr
  unfold showF at hT
  rw [List.length_append, List.length_append] at hT
  have hpk : pkgL.length = 13 := rfl
  repeat (first | refine go_ ?_ | intro _)
  rename_i b
  refine Or.inl ⟨⟨_, Tryd.func41, rfl, rfl⟩, ACall.mono ?_ (writeString_ok b false [] 0 0 [] pkgL (.cells p (cFi f) :: R) (Nat.le_refl 0) rfl (by decide))⟩
  rintro _ S1 ⟨rfl, bb, cap, rest, h1, h2, hS1⟩
  subst S1
  repeat (first | refine go_ ?_ | intro _)
  refine AW_for (α := Nat × Nat × Nat × List AV) (fun z => ⟨[(1, .ptr p 0), (4, .ptr b 0), (21, .sl 3 (f.structs.map encSc) .no), (22, .int .i64 (f.structs.length : Nat)), (23, .int .i64 (z.1 : Nat))], []⟩) (fun z => Bld b true (pkgL ++ scsT (f.structs.take z.1)) z.2.1 z.2.2.1 z.2.2.2 (.cells p (cFi f) :: R)) (fun z => f.structs.length - z.1) (fun z => z.1 ≤ f.structs.length ∧ (pkgL ++ scsT (f.structs.take z.1)).length ≤ z.2.2.1 ∧ z.2.2.2.length = z.2.2.1 - (pkgL ++ scsT (f.structs.take z.1)).length) ((0, bb, cap, rest)) ?_ (weak_of ?_ rfl ?_) (fun z hz => ?_)
  · exact ⟨Nat.zero_le _, h1, h2⟩
  · repeat (first | exact trivial | refine ⟨(AVle.eq (congrArg (AV.int .i64) (by simp))), ?_⟩ | refine ⟨AVle.refl _, ?_⟩ | refine ⟨AVle.tk, ?_⟩ | refine ⟨AVle.nil, ?_⟩ | refine ⟨AVle.nilFull, ?_⟩ | refine ⟨AVle.eq (congrArg (AV.int .i64) (by first | (simp; done) | (simp; omega) | (rw [wrap_i64 (by first | omega | (simp; omega))]; first | rfl | omega | (simp; done) | (simp; omega)))), ?_⟩)
  · exact SLe.rfl
  obtain ⟨i, bb, cap, rest⟩ := z
  obtain ⟨hi, h1, h2⟩ : i ≤ f.structs.length ∧ (pkgL ++ scsT (f.structs.take i)).length ≤ cap ∧ rest.length = cap - (pkgL ++ scsT (f.structs.take i)).length := hz
  have hle := fm_le scT f.structs i
  replace hle : (scsT (f.structs.take i)).length ≤ (scsT f.structs).length := hle
  repeat (first | refine go_ ?_ | intro _)
  refine AW_iff (i < f.structs.length) rfl (by first | (simp; done) | (simp <;> omega) | decide) (fun h => ?_) (fun h => ?_)
  · have hlt := h
    obtain ⟨x, hx⟩ : ∃ x, x = f.structs[i] := ⟨_, rfl⟩
    have hm : x ∈ f.structs := hx ▸ List.getElem_mem hlt
    obtain ⟨hnx, hpx⟩ := hall.1 x hm
    obtain ⟨p1, p2, p3⟩ := parts_all hpx
    have cx := cntScs_mem hm
    unfold cntSc at cx
    have sx := sum_mem szSc hm
    have sx2 : szSc x = x.s.length + szN x.names + szYs x.types + 1 := rfl
    have hle2 := fm_le scT f.structs (i + 1)
    have e2 : scsT (f.structs.take (i + 1)) = scsT (f.structs.take i) ++ scT x := fm_take hlt hx
    replace hle2 : (scsT (f.structs.take (i + 1))).length ≤ (scsT f.structs).length := hle2
    rw [e2, List.length_append] at hle2
    have e3 : scT x = headSc x ++ (fieldsT (x.names.zip x.types) ++ [125, 10]) := rfl
    have e3l := congrArg List.length e3
    simp only [List.length_append, List.length_cons, List.length_nil] at e3l
    have hhd : (headSc x).length = 6 + (x.s.length + 10) := by simp [headSc]; omega
    rw [List.length_append] at h1 h2
    repeat (first | refine go_ ?_ | intro _)
    refine at_get (i) (encSc x) (by first | rfl | omega | (rw [wrap_i64 (by omega)]; omega)) (by exact encScs_get hlt hx) ?_
    repeat (first | refine go_ ?_ | intro _)
    rename_i b6
    refine cat_ ?_
    repeat (first | refine go_ ?_ | intro _)
    refine cat_ ?_
    repeat (first | refine go_ ?_ | intro _)
    refine Or.inl ⟨⟨_, Tryd.func41, rfl, rfl⟩, ACall_args (ACall.mono ?_ (ACall_drop bld_out (writeString_ok b true (pkgL ++ scsT (f.structs.take i)) bb cap rest (headSc x) (.cells b6 (cSc x) :: .cells p (cFi f) :: R) (by rw [List.length_append]; exact h1) (by rw [List.length_append]; exact h2) (by rw [List.length_append]; omega)))) ⟨AVle.refl _, AVle.eq (congrArg AV.str (show ([10, 116, 121, 112, 101, 32] ++ x.s) ++ [32, 115, 116, 114, 117, 99, 116, 32, 123, 10] = headSc x by simp [headSc])), trivial⟩⟩
    rintro _ S1 ⟨rfl, bb, cap, rest, h1, h2, hS1⟩
    subst S1
    repeat (first | refine go_ ?_ | intro _)
    refine AW_for (α := Nat × Nat × Nat × List AV) (fun z => ⟨[(1, .ptr p 0), (4, .ptr b 0), (6, .ptr b6 0), (21, .sl 3 (f.structs.map encSc) .no), (22, .int .i64 (f.structs.length : Nat)), (23, .int .i64 (i : Nat)), (33, .sl 1 (x.names.map AV.str) .no), (34, .int .i64 (x.names.length : Nat)), (35, .int .i64 (z.1 : Nat))], []⟩) (fun z => Bld b true (pkgL ++ (scsT (f.structs.take i) ++ (headSc x ++ fieldsT ((x.names.zip x.types).take z.1)))) z.2.1 z.2.2.1 z.2.2.2 (.cells b6 (cSc x) :: .cells p (cFi f) :: R)) (fun z => x.names.length - z.1) (fun z => z.1 ≤ x.names.length ∧ (pkgL ++ (scsT (f.structs.take i) ++ (headSc x ++ fieldsT ((x.names.zip x.types).take z.1)))).length ≤ z.2.2.1 ∧ z.2.2.2.length = z.2.2.1 - (pkgL ++ (scsT (f.structs.take i) ++ (headSc x ++ fieldsT ((x.names.zip x.types).take z.1)))).length) ((0, bb, cap, rest)) ?_ (weak_of ?_ rfl ?_) (fun z hz => ?_)
    · have e : (pkgL ++ scsT (f.structs.take i)) ++ headSc x = pkgL ++ (scsT (f.structs.take i) ++ (headSc x ++ fieldsT ((x.names.zip x.types).take 0))) := by simp [fieldsT]
      rw [e] at h1 h2
      exact ⟨Nat.zero_le _, h1, h2⟩
    · repeat (first | exact trivial | refine ⟨(AVle.eq (congrArg (AV.int .i64) (by simp))), ?_⟩ | refine ⟨AVle.refl _, ?_⟩ | refine ⟨AVle.tk, ?_⟩ | refine ⟨AVle.nil, ?_⟩ | refine ⟨AVle.nilFull, ?_⟩ | refine ⟨AVle.eq (congrArg (AV.int .i64) (by first | (simp; done) | (simp; omega) | (rw [wrap_i64 (by first | omega | (simp; omega))]; first | rfl | omega | (simp; done) | (simp; omega)))), ?_⟩)
    · exact bld_eq (by simp [fieldsT])
    obtain ⟨j, bb, cap, rest⟩ := z
    obtain ⟨hj, h1, h2⟩ : j ≤ x.names.length ∧ (pkgL ++ (scsT (f.structs.take i) ++ (headSc x ++ fieldsT ((x.names.zip x.types).take j)))).length ≤ cap ∧ rest.length = cap - (pkgL ++ (scsT (f.structs.take i) ++ (headSc x ++ fieldsT ((x.names.zip x.types).take j)))).length := hz
    have hfl := fm_le fieldT (x.names.zip x.types) j
    replace hfl : (fieldsT ((x.names.zip x.types).take j)).length ≤ (fieldsT (x.names.zip x.types)).length := hfl
    have hzl : (x.names.zip x.types).length = x.names.length := by rw [List.length_zip]; omega
    repeat (first | refine go_ ?_ | intro _)
    refine AW_iff (j < x.names.length) rfl (by first | (simp; done) | (simp <;> omega) | decide) (fun h => ?_) (fun h => ?_)
    · have hlj := h
      have hlj2 : j < x.types.length := by omega
      obtain ⟨s, hs⟩ : ∃ s, s = x.names[j] := ⟨_, rfl⟩
      obtain ⟨t, ht⟩ : ∃ t, t = x.types[j] := ⟨_, rfl⟩
      have hst := zip_at hlj hlj2 hs ht
      have hsl := szN_mem (l := x.names) (hs ▸ List.getElem_mem hlj)
      have htm : t ∈ x.types := ht ▸ List.getElem_mem hlj2
      have hts := szYs_mem htm
      have htc := cntYs_mem htm
      have htl := showY_len t
      have kt := fun R => showType_ok 60 t R (p3 t htm) (by omega) (by omega)
      have e4 : fieldsT ((x.names.zip x.types).take (j + 1)) = fieldsT ((x.names.zip x.types).take j) ++ fieldT (s, t) := fm_take (by omega) hst
      have hfl2 := fm_le fieldT (x.names.zip x.types) (j + 1)
      replace hfl2 : (fieldsT ((x.names.zip x.types).take (j + 1))).length ≤ (fieldsT (x.names.zip x.types)).length := hfl2
      rw [e4, List.length_append] at hfl2
      repeat (first | refine go_ ?_ | intro _)
      refine at_get (j) (.str s) (by first | rfl | omega | (rw [wrap_i64 (by omega)]; omega)) (by rw [List.getElem?_map, List.getElem?_eq_getElem hlj, hs]; rfl) ?_
      repeat (first | refine go_ ?_ | intro _)
      refine cat_ ?_
      repeat (first | refine go_ ?_ | intro _)
      refine cat_ ?_
      repeat (first | refine go_ ?_ | intro _)
      refine at_get (j) (encV t) (by first | rfl | omega | (rw [wrap_i64 (by omega)]; omega)) (by rw [ht]; exact encYs_get hlj2) ?_
      repeat (first | refine go_ ?_ | intro _)
      refine Or.inl ⟨⟨_, Tryd.func42, rfl, rfl⟩, ACall.mono ?_ (kt _)⟩
      rintro _ S1 ⟨rfl, hS1⟩
      subst S1
      repeat (first | refine go_ ?_ | intro _)
      refine cat_ ?_
      repeat (first | refine go_ ?_ | intro _)
      refine cat_ ?_
      repeat (first | refine go_ ?_ | intro _)
      refine Or.inl ⟨⟨_, Tryd.func41, rfl, rfl⟩, ACall_args (ACall.mono ?_ (writeString_ok b true (pkgL ++ (scsT (f.structs.take i) ++ (headSc x ++ fieldsT ((x.names.zip x.types).take j)))) bb cap rest (fieldT (s, t)) (.cells b6 (cSc x) :: .cells p (cFi f) :: R) h1 h2 (by simp only [List.length_append]; omega))) ⟨AVle.refl _, AVle.eq (congrArg AV.str (show ((([9] ++ s) ++ [32]) ++ showY t) ++ [10] = fieldT (s, t) by simp [fieldT])), trivial⟩⟩
      rintro _ S1 ⟨rfl, bb, cap, rest, h1, h2, hS1⟩
      subst S1
      have e5 : (pkgL ++ (scsT (f.structs.take i) ++ (headSc x ++ fieldsT ((x.names.zip x.types).take j)))) ++ fieldT (s, t) = pkgL ++ (scsT (f.structs.take i) ++ (headSc x ++ fieldsT ((x.names.zip x.types).take (j + 1)))) := by rw [e4]; simp
      repeat (first | refine go_ ?_ | intro _)
      refine ⟨((j + 1, bb, cap, rest) : Nat × Nat × Nat × List AV), ?_, ?_, weak_of ?_ rfl ?_⟩
      · exact Nat.sub_lt_sub_left hlj (Nat.lt_succ_self j)
      · rw [e5] at h1 h2
        exact ⟨hlj, h1, h2⟩
      · repeat (first | exact trivial | refine ⟨AVle.refl _, ?_⟩ | refine ⟨AVle.tk, ?_⟩ | refine ⟨AVle.nil, ?_⟩ | refine ⟨AVle.nilFull, ?_⟩ | refine ⟨AVle.eq (congrArg (AV.int .i64) (by first | (simp; done) | (simp; omega) | (rw [wrap_i64 (by first | omega | (simp; omega))]; first | rfl | omega | (simp; done) | (simp; omega)))), ?_⟩)
      · exact bld_eq e5
    · have hj' : j = x.names.length := by omega
      have e5 : (pkgL ++ (scsT (f.structs.take i) ++ (headSc x ++ fieldsT ((x.names.zip x.types).take j)))) ++ [125, 10] = pkgL ++ scsT (f.structs.take (i + 1)) := by rw [e2, e3, List.take_of_length_le (l := x.names.zip x.types) (by omega)]; simp
      repeat (first | refine go_ ?_ | intro _)
      refine Or.inl ⟨⟨_, Tryd.func41, rfl, rfl⟩, ACall.mono ?_ (writeString_ok b true (pkgL ++ (scsT (f.structs.take i) ++ (headSc x ++ fieldsT ((x.names.zip x.types).take j)))) bb cap rest [125, 10] (.cells b6 (cSc x) :: .cells p (cFi f) :: R) h1 h2 (by simp only [List.length_append, List.length_cons, List.length_nil]; omega))⟩
      rintro _ S1 ⟨rfl, bb, cap, rest, h1, h2, hS1⟩
      subst S1
      repeat (first | refine go_ ?_ | intro _)
      refine ⟨((i + 1, bb, cap, rest) : Nat × Nat × Nat × List AV), ?_, ?_, weak_of ?_ rfl ?_⟩
      · exact Nat.sub_lt_sub_left hlt (Nat.lt_succ_self i)
      · rw [e5] at h1 h2
        exact ⟨hlt, h1, h2⟩
      · repeat (first | exact trivial | refine ⟨AVle.refl _, ?_⟩ | refine ⟨AVle.tk, ?_⟩ | refine ⟨AVle.nil, ?_⟩ | refine ⟨AVle.nilFull, ?_⟩ | refine ⟨AVle.eq (congrArg (AV.int .i64) (by first | (simp; done) | (simp; omega) | (rw [wrap_i64 (by first | omega | (simp; omega))]; first | rfl | omega | (simp; done) | (simp; omega)))), ?_⟩)
      · exact SLe.trans bld_less (bld_eq e5)
  have hi' : i = f.structs.length := by omega
  have eP : pkgL ++ scsT (f.structs.take i) = pkgL ++ (scsT f.structs ++ fnsT (f.funcs.take 0)) := by rw [hi', List.take_length]; simp [fnsT]
  rw [eP] at h1 h2
  clear hle hi hi' h
  repeat (first | refine go_ ?_ | intro _)
  refine AW_for (α := Nat × List Nat × Nat × Nat × List AV) (fun z => ⟨[(1, .ptr p 0), (4, .ptr b 0), (56, .sl 7 (f.funcs.map encFn) .no), (57, .int .i64 (f.funcs.length : Nat)), (58, .int .i64 (z.1 : Nat))], z.2.1⟩) (fun z => Bld b true (pkgL ++ (scsT f.structs ++ fnsT (f.funcs.take z.1))) z.2.2.1 z.2.2.2.1 z.2.2.2.2 (.cells p (cFi f) :: (R ++ marks z.2.1))) (fun z => f.funcs.length - z.1) (fun z => z.1 ≤ f.funcs.length ∧ (pkgL ++ (scsT f.structs ++ fnsT (f.funcs.take z.1))).length ≤ z.2.2.2.1 ∧ z.2.2.2.2.length = z.2.2.2.1 - (pkgL ++ (scsT f.structs ++ fnsT (f.funcs.take z.1))).length) ((0, [], bb, cap, rest)) ?_ (weak_of ?_ rfl ?_) (fun z hz => ?_)
  · exact ⟨Nat.zero_le _, h1, h2⟩
  · repeat (first | exact trivial | refine ⟨(AVle.eq (congrArg (AV.int .i64) (by simp))), ?_⟩ | refine ⟨AVle.refl _, ?_⟩ | refine ⟨AVle.tk, ?_⟩ | refine ⟨AVle.nil, ?_⟩ | refine ⟨AVle.nilFull, ?_⟩ | refine ⟨AVle.eq (congrArg (AV.int .i64) (by first | (simp; done) | (simp; omega) | (rw [wrap_i64 (by first | omega | (simp; omega))]; first | rfl | omega | (simp; done) | (simp; omega)))), ?_⟩)
  · refine SLe.trans (bld_eq eP) (SLe.of_eq ?_)
    show _ = Bld b true _ bb cap rest (.cells p (cFi f) :: (R ++ []))
    rw [List.append_nil]
  obtain ⟨i, ds, bb, cap, rest⟩ := z
  obtain ⟨hi, h1, h2⟩ : i ≤ f.funcs.length ∧ (pkgL ++ (scsT f.structs ++ fnsT (f.funcs.take i))).length ≤ cap ∧ rest.length = cap - (pkgL ++ (scsT f.structs ++ fnsT (f.funcs.take i))).length := hz
  have hle := fm_le fnT f.funcs i
  replace hle : (fnsT (f.funcs.take i)).length ≤ (fnsT f.funcs).length := hle
  repeat (first | refine go_ ?_ | intro _)
  refine AW_iff (i < f.funcs.length) rfl (by first | (simp; done) | (simp <;> omega) | decide) (fun h => ?_) (fun h => ?_)
  rotate_left
  · have hi' : i = f.funcs.length := by omega
    repeat (first | refine go_ ?_ | intro _)
    refine Or.inl ⟨⟨_, Tryd.func46, rfl, rfl⟩, ACall.mono ?_ (bldString_ok b true (pkgL ++ (scsT f.structs ++ fnsT (f.funcs.take i))) bb cap rest (.cells p (cFi f) :: (R ++ marks ds)) (by simp only [List.length_append]; omega))⟩
    rintro _ S1 ⟨rfl, hS1⟩
    subst S1
    repeat (first | refine go_ ?_ | intro _)
    refine AW_ret ?_
    refine unmarks_end (A := .cells p (cFi f) :: R) (ds := ds) ?_
    refine ⟨_, R, AVle.eq ?_, SLe.tail SLe.rfl, rfl, rfl⟩
    rw [shownF_t hr]
    exact congrArg (fun s => AV.tup [.str s, .int .i64 0]) (show pkgL ++ (scsT f.structs ++ fnsT (f.funcs.take i)) = _ by rw [hi', List.take_length, showF])
  have hlt := h
  obtain ⟨x, hx⟩ : ∃ x, x = f.funcs[i] := ⟨_, rfl⟩
  have hm : x ∈ f.funcs := hx ▸ List.getElem_mem hlt
  obtain ⟨hnx, hpx, hrt, hrz⟩ := hall.2 x hm
  obtain ⟨p1, p2, p3⟩ := parts_all hpx
  have hox := hO.o x hm
  have cx := cntFns_mem hm
  unfold cntFn at cx
  have sx := sum_mem szFn hm
  have sx2 : szFn x = x.s.length + szN x.names + szYs x.types + szY x.ret + szZs x.l + 1 := rfl
  have hle2 := fm_le fnT f.funcs (i + 1)
  have e2 : fnsT (f.funcs.take (i + 1)) = fnsT (f.funcs.take i) ++ fnT x := fm_take hlt hx
  replace hle2 : (fnsT (f.funcs.take (i + 1))).length ≤ (fnsT f.funcs).length := hle2
  rw [e2, List.length_append] at hle2
  have e3 : fnT x = headFn x ++ (retT x.ret ++ ([32, 123, 10] ++ (textL (linesG x.l 1) ++ [125, 10]))) := rfl
  have e3l := congrArg List.length e3
  simp only [List.length_append, List.length_cons, List.length_nil] at e3l
  have hzl : (x.names.zip x.types).length = x.names.length := by rw [List.length_zip]; omega
  have hpz := zip_len x.names x.types
  have hpj := joinP_len (x.names.zip x.types)
  have hhd : headFn x = [10, 102, 117, 110, 99, 32] ++ (x.s ++ ([40] ++ (Lib.join ((x.names.zip x.types).map paramT) [44, 32] ++ [41]))) := rfl
  have hhl := congrArg List.length hhd
  simp only [List.length_append, List.length_cons, List.length_nil] at hhl
  repeat (first | refine go_ ?_ | intro _)
  refine at_get (i) (encFn x) (by first | rfl | omega | (rw [wrap_i64 (by omega)]; omega)) (by exact encFns_get hlt hx) ?_
  repeat (first | refine go_ ?_ | intro _)
  rename_i b10
  refine AW_for (α := Nat × Tk) (fun z => ⟨[(1, .ptr p 0), (4, .ptr b 0), (10, .ptr b10 0), (11, .sl 1 ((((x.names.zip x.types).take z.1).map paramT).map AV.str) z.2), (56, .sl 7 (f.funcs.map encFn) .no), (57, .int .i64 (f.funcs.length : Nat)), (58, .int .i64 (i : Nat)), (63, .sl 1 (x.names.map AV.str) .no), (64, .int .i64 (x.names.length : Nat)), (65, .int .i64 (z.1 : Nat))], ds⟩) (fun z => .grow z.2 :: .cells b10 (cFn x) :: Bld b true (pkgL ++ (scsT f.structs ++ fnsT (f.funcs.take i))) bb cap rest (.cells p (cFi f) :: (R ++ marks ds))) (fun z => x.names.length - z.1) (fun z => z.1 ≤ x.names.length) ((0, .full)) ?_ (weak_of ?_ rfl ?_) (fun z hz => ?_)
  · exact Nat.zero_le _
  · repeat (first | exact trivial | refine ⟨(AVle.eq (congrArg (AV.int .i64) (by simp))), ?_⟩ | refine ⟨AVle.refl _, ?_⟩ | refine ⟨AVle.tk, ?_⟩ | refine ⟨AVle.nil, ?_⟩ | refine ⟨AVle.nilFull, ?_⟩ | refine ⟨AVle.eq (congrArg (AV.int .i64) (by first | (simp; done) | (simp; omega) | (rw [wrap_i64 (by first | omega | (simp; omega))]; first | rfl | omega | (simp; done) | (simp; omega)))), ?_⟩)
  · refine SW.le ?_
    repeat (first | exact SW.nil | refine SW.cons ?_ | refine SW.cells (by repeat (first | exact trivial | refine ⟨AVle.refl _, ?_⟩ | refine ⟨AVle.nilFull, ?_⟩ | refine ⟨AVle.tk, ?_⟩ | refine ⟨AVle.nil, ?_⟩)) rfl ?_ | refine SW.full ?_ | refine SW.drop ?_)
  obtain ⟨j, tk⟩ := z
  replace hz : j ≤ x.names.length := hz
  repeat (first | refine go_ ?_ | intro _)
  refine AW_iff (j < x.names.length) rfl (by first | (simp; done) | (simp <;> omega) | decide) (fun h => ?_) (fun h => ?_)
  · have hlj := h
    have hlj2 : j < x.types.length := by omega
    obtain ⟨s, hs⟩ : ∃ s, s = x.names[j] := ⟨_, rfl⟩
    obtain ⟨t, ht⟩ : ∃ t, t = x.types[j] := ⟨_, rfl⟩
    have hst := zip_at hlj hlj2 hs ht
    have hsl := szN_mem (l := x.names) (hs ▸ List.getElem_mem hlj)
    have htm : t ∈ x.types := ht ▸ List.getElem_mem hlj2
    have hts := szYs_mem htm
    have htc := cntYs_mem htm
    have htl := showY_len t
    have kt := fun R => showType_ok 60 t R (p3 t htm) (by omega) (by omega)
    repeat (first | refine go_ ?_ | intro _)
    refine at_get (j) (.str s) (by first | rfl | omega | (rw [wrap_i64 (by omega)]; omega)) (by rw [List.getElem?_map, List.getElem?_eq_getElem hlj, hs]; rfl) ?_
    repeat (first | refine go_ ?_ | intro _)
    refine cat_ ?_
    repeat (first | refine go_ ?_ | intro _)
    refine at_get (j) (encV t) (by first | rfl | omega | (rw [wrap_i64 (by omega)]; omega)) (by rw [ht]; exact encYs_get hlj2) ?_
    repeat (first | refine go_ ?_ | intro _)
    refine Or.inl ⟨⟨_, Tryd.func42, rfl, rfl⟩, ACall.mono ?_ (kt _)⟩
    rintro _ S1 ⟨rfl, hS1⟩
    subst S1
    repeat (first | refine go_ ?_ | intro _)
    refine cat_ ?_
    repeat (first | refine go_ ?_ | intro _)
    refine ⟨room (by first | omega | (simp; done) | (simp; omega) | (simp at *; done) | (simp at *; omega)) rfl, .inl rfl, .inr (.inl ⟨rfl, 0, rfl, (((x.names.zip x.types).take (j + 1)).map paramT).map AV.str, by rw [take_snoc (by omega) hst, List.map_append, List.map_append]; exact congrArg (fun q => _ ++ [AV.str q]) (show (s ++ [32]) ++ showY t = _ by simp [paramT]), fun t1 => ?_⟩)⟩
    repeat (first | refine go_ ?_ | intro _)
    refine ⟨(j + 1, t1), ?_, ?_, weak_of ?_ rfl ?_⟩
    · exact Nat.sub_lt_sub_left hlj (Nat.lt_succ_self j)
    · exact hlj
    · repeat (first | exact trivial | refine ⟨AVle.refl _, ?_⟩ | refine ⟨AVle.tk, ?_⟩ | refine ⟨AVle.nil, ?_⟩ | refine ⟨AVle.nilFull, ?_⟩ | refine ⟨AVle.eq (congrArg (AV.int .i64) (by first | (simp; done) | (simp; omega) | (rw [wrap_i64 (by first | omega | (simp; omega))]; first | rfl | omega | (simp; done) | (simp; omega)))), ?_⟩)
    · refine SW.le ?_
      repeat (first | exact SW.nil | refine SW.cons ?_ | refine SW.cells (by repeat (first | exact trivial | refine ⟨AVle.refl _, ?_⟩ | refine ⟨AVle.nilFull, ?_⟩ | refine ⟨AVle.tk, ?_⟩ | refine ⟨AVle.nil, ?_⟩)) rfl ?_ | refine SW.full ?_ | refine SW.drop ?_)
  have hj' : j = x.names.length := by omega
  have ej : (x.names.zip x.types).take j = x.names.zip x.types := List.take_of_length_le (by omega)
  have kj := fun R => join_ok ((x.names.zip x.types).map paramT) [44, 32] tk R (by rw [List.length_map]; omega) (by omega)
  have kj2 : ∀ R, ACall Tryd.prog 43 [.sl 1 ((((x.names.zip x.types).take j).map paramT).map AV.str) tk, .str [44, 32]] R (fun r S => r = .str (Lib.join ((x.names.zip x.types).map paramT) [44, 32]) ∧ S = R) := by rw [ej]; exact kj
  repeat (first | refine go_ ?_ | intro _)
  refine AW_draw tab_ok mixed 8 (by first | rfl | kernel_rfl) ?_
  repeat (first | refine go_ ?_ | intro _)
  refine cat_ ?_
  repeat (first | refine go_ ?_ | intro _)
  refine cat_ ?_
  repeat (first | refine go_ ?_ | intro _)
  apply call_step
  · rfl
  · exact Or.inl ⟨⟨_, Tryd.func43, rfl, rfl⟩, kj2 _⟩
  repeat (first | refine go_ ?_ | intro _)
  refine cat_ ?_
  repeat (first | refine go_ ?_ | intro _)
  refine cat_ ?_
  repeat (first | refine go_ ?_ | intro _)
  refine Or.inl ⟨⟨_, Tryd.func41, rfl, rfl⟩, ACall_args (ACall.mono ?_ (ACall_drop (SLe.trans (SLe.tail SLe.rfl) bld_out) (writeString_ok b true (pkgL ++ (scsT f.structs ++ fnsT (f.funcs.take i))) bb cap rest (headFn x) (.cells b10 (cFn x) :: .cells p (cFi f) :: (R ++ marks ds)) h1 h2 (by simp only [List.length_append]; omega)))) ⟨AVle.refl _, AVle.eq (congrArg AV.str (show (((([10, 102, 117, 110, 99, 32] ++ x.s) ++ [40]) ++ Lib.join ((x.names.zip x.types).map paramT) [44, 32]) ++ [41]) = headFn x by rw [hhd]; simp)), trivial⟩⟩
  rintro _ S1 ⟨rfl, bb, cap, rest, h1, h2, hS1⟩
  subst S1
  have eH : (pkgL ++ (scsT f.structs ++ fnsT (f.funcs.take i))) ++ headFn x = (pkgL ++ ((scsT f.structs ++ fnsT (f.funcs.take i)) ++ headFn x)) := by simp
  rw [eH] at h1 h2
  refine AW_cut1 (α := Nat × Nat × List AV) (fun z => ⟨[(1, .ptr p 0), (4, .ptr b 0), (10, .ptr b10 0), (56, .sl 7 (f.funcs.map encFn) .no), (57, .int .i64 (f.funcs.length : Nat)), (58, .int .i64 (i : Nat))], ds⟩) (fun z => Bld b true (pkgL ++ ((scsT f.structs ++ fnsT (f.funcs.take i)) ++ (headFn x ++ retT x.ret))) z.1 z.2.1 z.2.2 (.cells b10 (cFn x) :: .cells p (cFi f) :: (R ++ marks ds))) (fun z => (pkgL ++ ((scsT f.structs ++ fnsT (f.funcs.take i)) ++ (headFn x ++ retT x.ret))).length ≤ z.2.1 ∧ z.2.2.length = z.2.1 - (pkgL ++ ((scsT f.structs ++ fnsT (f.funcs.take i)) ++ (headFn x ++ retT x.ret))).length) ?_ (fun z hz => ?_)
  · repeat (first | refine go_ ?_ | intro _)
    refine AW_iff (0 < x.ret.op) rfl (by first | (simp; done) | (simp <;> omega) | decide) (fun h => ?_) (fun h => ?_)
    · have hpos := h
      have er : retT x.ret = [32] ++ showY x.ret := by rw [retT, if_pos hpos]
      have hry : rightY x.ret 60 = true := by
        rcases (Bool.or_eq_true _ _).mp hrt with h | h
        · exact h
        · unfold noY at h
          simp only [Bool.and_eq_true, decide_eq_true_eq] at h
          omega
      have htl := showY_len x.ret
      have kt := fun R => showType_ok 60 x.ret R hry (by omega) (by omega)
      repeat (first | refine go_ ?_ | intro _)
      refine Or.inl ⟨⟨_, Tryd.func42, rfl, rfl⟩, ACall.mono ?_ (kt _)⟩
      rintro _ S1 ⟨rfl, hS1⟩
      subst S1
      repeat (first | refine go_ ?_ | intro _)
      refine cat_ ?_
      repeat (first | refine go_ ?_ | intro _)
      refine Or.inl ⟨⟨_, Tryd.func41, rfl, rfl⟩, ACall.mono ?_ (ACall_drop (bld_eq eH) (writeString_ok b true (pkgL ++ ((scsT f.structs ++ fnsT (f.funcs.take i)) ++ headFn x)) bb cap rest ([32] ++ showY x.ret) (.cells b10 (cFn x) :: .cells p (cFi f) :: (R ++ marks ds)) h1 h2 (by simp only [List.length_append, List.length_cons, List.length_nil]; omega)))⟩
      rintro _ S1 ⟨rfl, bb, cap, rest, h1, h2, hS1⟩
      subst S1
      have e5 : (pkgL ++ ((scsT f.structs ++ fnsT (f.funcs.take i)) ++ headFn x)) ++ ([32] ++ showY x.ret) = (pkgL ++ ((scsT f.structs ++ fnsT (f.funcs.take i)) ++ (headFn x ++ retT x.ret))) := by rw [er]; simp
      repeat (first | refine go_ ?_ | intro _)
      refine ⟨((bb, cap, rest) : Nat × Nat × List AV), ?_, weak_of ?_ rfl ?_⟩
      · rw [e5] at h1 h2; exact ⟨h1, h2⟩
      · repeat (first | exact trivial | refine ⟨AVle.refl _, ?_⟩ | refine ⟨AVle.tk, ?_⟩ | refine ⟨AVle.nil, ?_⟩ | refine ⟨AVle.nilFull, ?_⟩ | refine ⟨AVle.eq (congrArg (AV.int .i64) (by first | (simp; done) | (simp; omega) | (rw [wrap_i64 (by first | omega | (simp; omega))]; first | rfl | omega | (simp; done) | (simp; omega)))), ?_⟩)
      · exact bld_eq e5
    · have er : retT x.ret = [] := by rw [retT, if_neg h]
      have e5 : (pkgL ++ ((scsT f.structs ++ fnsT (f.funcs.take i)) ++ headFn x)) = (pkgL ++ ((scsT f.structs ++ fnsT (f.funcs.take i)) ++ (headFn x ++ retT x.ret))) := by rw [er]; simp
      repeat (first | refine go_ ?_ | intro _)
      refine ⟨((bb, cap, rest) : Nat × Nat × List AV), ?_, weak_of ?_ rfl ?_⟩
      · rw [e5] at h1 h2; exact ⟨h1, h2⟩
      · repeat (first | exact trivial | refine ⟨AVle.refl _, ?_⟩ | refine ⟨AVle.tk, ?_⟩ | refine ⟨AVle.nil, ?_⟩ | refine ⟨AVle.nilFull, ?_⟩ | refine ⟨AVle.eq (congrArg (AV.int .i64) (by first | (simp; done) | (simp; omega) | (rw [wrap_i64 (by first | omega | (simp; omega))]; first | rfl | omega | (simp; done) | (simp; omega)))), ?_⟩)
      · exact SLe.trans (bld_eq eH) (bld_eq e5)
  obtain ⟨bb, cap, rest⟩ := z
  obtain ⟨h1, h2⟩ : (pkgL ++ ((scsT f.structs ++ fnsT (f.funcs.take i)) ++ (headFn x ++ retT x.ret))).length ≤ cap ∧ rest.length = cap - (pkgL ++ ((scsT f.structs ++ fnsT (f.funcs.take i)) ++ (headFn x ++ retT x.ret))).length := hz
  repeat (first | refine go_ ?_ | intro _)
  refine Or.inl ⟨⟨_, Tryd.func41, rfl, rfl⟩, ACall.mono ?_ (writeString_ok b true (pkgL ++ ((scsT f.structs ++ fnsT (f.funcs.take i)) ++ (headFn x ++ retT x.ret))) bb cap rest [32, 123, 10] (.cells b10 (cFn x) :: .cells p (cFi f) :: (R ++ marks ds)) h1 h2 (by simp only [List.length_append, List.length_cons, List.length_nil]; omega))⟩
  rintro _ S1 ⟨rfl, bb, cap, rest, h1, h2, hS1⟩
  subst S1
  have e6 : (pkgL ++ ((scsT f.structs ++ fnsT (f.funcs.take i)) ++ (headFn x ++ retT x.ret))) ++ [32, 123, 10] = (pkgL ++ ((scsT f.structs ++ fnsT (f.funcs.take i)) ++ (headFn x ++ (retT x.ret ++ ([32, 123, 10] ++ textL ((linesG x.l 1).take 0)))))) := by simp [textL]
  rw [e6] at h1 h2
  repeat (first | refine go_ ?_ | intro _)
  refine Or.inl ⟨⟨_, Tryd.func44, rfl, rfl⟩, ACall.mono ?_ (lines_ok x.l 1 _)⟩
  rintro _ S1 ⟨p2', p3', rfl, hS1⟩
  subst S1
  repeat (first | refine go_ ?_ | intro _)
  have hLl := linesG_len x.l 1 40 hrz hox (by omega)
  refine AW_rangeOut (xs := (linesG x.l 1).map encLn) (α := Nat × Nat × List AV) (st := fun n z => Bld b true (pkgL ++ ((scsT f.structs ++ fnsT (f.funcs.take i)) ++ (headFn x ++ (retT x.ret ++ ([32, 123, 10] ++ textL ((linesG x.l 1).take n)))))) z.1 z.2.1 z.2.2 (.cells b10 (cFn x) :: .cells p (cFi f) :: R)) (inv := fun n z => (pkgL ++ ((scsT f.structs ++ fnsT (f.funcs.take i)) ++ (headFn x ++ (retT x.ret ++ ([32, 123, 10] ++ textL ((linesG x.l 1).take n)))))).length ≤ z.2.1 ∧ z.2.2.length = z.2.1 - (pkgL ++ ((scsT f.structs ++ fnsT (f.funcs.take i)) ++ (headFn x ++ (retT x.ret ++ ([32, 123, 10] ++ textL ((linesG x.l 1).take n)))))).length) (Q := fun _ _ => False) ([.cells p2' [.sl 15 (encZs x.l) .no], .cells p3' [.int .i64 ((1 : Nat) : Int)], numE]) (marks ds) ((bb, cap, rest)) rfl (lines_gen 3000 x.l 1 40 (by omega) (by omega) hrz hox (by omega) (by omega) p2' p3') ?_ ?_ ?_ ?_ ?_ ?_
  · refine SLe.trans (SLe.dup (e := numE) (.tail _ (.tail _ (.tail _ (.tail _ (.tail _ (.tail _ (.tail _ (.tail _ (List.mem_append_left _ hG))))))))) rfl) ?_
    refine SLe.trans (SLe.perm ((List.reverse_perm [numE, .cells p3' [.int .i64 ((1 : Nat) : Int)], .cells p2' [.sl 15 (encZs x.l) .no]]).append_right _)) ?_
    exact SLe.of_eq (congrArg (fun t => En.cells p2' [.sl 15 (encZs x.l) .no] :: En.cells p3' [.int .i64 ((1 : Nat) : Int)] :: numE :: Bld b true t bb cap rest (.cells b10 (cFn x) :: .cells p (cFi f) :: (R ++ marks ds))) e6)
  · exact ⟨h1, h2⟩
  · intro n args h
    rw [List.getElem?_map] at h
    obtain ⟨u, _, rfl⟩ := Option.map_eq_some_iff.1 h
    rfl
  · intro lp R1 n args z hl hxx hz
    rw [List.getElem?_map] at hxx
    obtain ⟨u, hu, rfl⟩ := Option.map_eq_some_iff.1 hxx
    obtain ⟨bb, cap, rest⟩ := z
    obtain ⟨h1, h2⟩ : (pkgL ++ ((scsT f.structs ++ fnsT (f.funcs.take i)) ++ (headFn x ++ (retT x.ret ++ ([32, 123, 10] ++ textL ((linesG x.l 1).take n)))))).length ≤ cap ∧ rest.length = cap - (pkgL ++ ((scsT f.structs ++ fnsT (f.funcs.take i)) ++ (headFn x ++ (retT x.ret ++ ([32, 123, 10] ++ textL ((linesG x.l 1).take n)))))).length := hz
    obtain ⟨hn, hun⟩ := List.getElem?_eq_some_iff.1 hu
    have et : textL ((linesG x.l 1).take (n + 1)) = textL ((linesG x.l 1).take n) ++ (List.replicate u.1 9 ++ (u.2 ++ [10])) := fm_take (g := fun p : Ln => List.replicate p.1 9 ++ (p.2 ++ [10])) hn hun.symm
    have ht2 := fm_le (fun p : Ln => List.replicate p.1 9 ++ (p.2 ++ [10])) (linesG x.l 1) (n + 1)
    replace ht2 : (textL ((linesG x.l 1).take (n + 1))).length ≤ (textL (linesG x.l 1)).length := ht2
    rw [et] at ht2
    simp only [List.length_append, List.length_replicate, List.length_cons, List.length_nil] at ht2
    have e7 : (pkgL ++ ((scsT f.structs ++ fnsT (f.funcs.take i)) ++ (headFn x ++ (retT x.ret ++ ([32, 123, 10] ++ textL ((linesG x.l 1).take n)))))) ++ (List.replicate u.1 9 ++ (u.2 ++ [10])) = (pkgL ++ ((scsT f.structs ++ fnsT (f.funcs.take i)) ++ (headFn x ++ (retT x.ret ++ ([32, 123, 10] ++ textL ((linesG x.l 1).take (n + 1))))))) := by rw [et]; simp
    repeat (first | refine ga_ ?_ | intro _)
    rename_i R2 hl2
    refine Or.inl ⟨⟨_, Tryd.func45, rfl, rfl⟩, ACall.mono ?_ (repeat_ok u.1 _ (by omega))⟩
    rintro _ S1 ⟨rfl, hS1⟩
    subst S1
    repeat (first | refine ga_ ?_ | intro _)
    refine cat_ ?_ (by simp only [List.length_append, List.length_replicate]; omega)
    repeat (first | refine ga_ ?_ | intro _)
    refine cat_ ?_ (by simp only [List.length_append, List.length_replicate, List.length_cons, List.length_nil]; omega)
    repeat (first | refine ga_ ?_ | intro _)
    refine Or.inl ⟨⟨_, Tryd.func41, rfl, rfl⟩, ACall_args (ACall.mono ?_ (writeString_ok b true (pkgL ++ ((scsT f.structs ++ fnsT (f.funcs.take i)) ++ (headFn x ++ (retT x.ret ++ ([32, 123, 10] ++ textL ((linesG x.l 1).take n)))))) bb cap rest (List.replicate u.1 9 ++ (u.2 ++ [10])) (.cells b10 (cFn x) :: .cells p (cFi f) :: (R ++ R2)) h1 h2 (by simp only [List.length_append, List.length_replicate, List.length_cons, List.length_nil]; omega))) ⟨AVle.refl _, AVle.eq (congrArg AV.str (show (List.replicate u.1 9 ++ u.2) ++ [10] = List.replicate u.1 9 ++ (u.2 ++ [10]) by simp)), trivial⟩⟩
    rintro _ S1 ⟨rfl, bb, cap, rest, h1, h2, hS1⟩
    subst S1
    rw [e7] at h1 h2
    repeat (first | refine ga_ ?_ | intro _)
    exact ⟨(bb, cap, rest), ⟨h1, h2⟩, bld_eq e7⟩
  · intro d z hz
    obtain ⟨bb, cap, rest⟩ := z
    obtain ⟨h1, h2⟩ : (pkgL ++ ((scsT f.structs ++ fnsT (f.funcs.take i)) ++ (headFn x ++ (retT x.ret ++ ([32, 123, 10] ++ textL ((linesG x.l 1).take ((linesG x.l 1).map encLn).length)))))).length ≤ cap ∧ rest.length = cap - (pkgL ++ ((scsT f.structs ++ fnsT (f.funcs.take i)) ++ (headFn x ++ (retT x.ret ++ ([32, 123, 10] ++ textL ((linesG x.l 1).take ((linesG x.l 1).map encLn).length)))))).length := hz
    have etn : (linesG x.l 1).take ((linesG x.l 1).map encLn).length = linesG x.l 1 := by rw [List.length_map, List.take_length]
    have e8 : (pkgL ++ ((scsT f.structs ++ fnsT (f.funcs.take i)) ++ (headFn x ++ (retT x.ret ++ ([32, 123, 10] ++ textL ((linesG x.l 1).take ((linesG x.l 1).map encLn).length)))))) ++ [125, 10] = pkgL ++ (scsT f.structs ++ fnsT (f.funcs.take (i + 1))) := by rw [etn, e2, e3]; simp
    repeat (first | refine ga_ ?_ | intro _)
    refine Or.inl ⟨⟨_, Tryd.func41, rfl, rfl⟩, ACall.mono ?_ (writeString_ok b true (pkgL ++ ((scsT f.structs ++ fnsT (f.funcs.take i)) ++ (headFn x ++ (retT x.ret ++ ([32, 123, 10] ++ textL ((linesG x.l 1).take ((linesG x.l 1).map encLn).length)))))) bb cap rest [125, 10] (.cells b10 (cFn x) :: .cells p (cFi f) :: (R ++ marks (d :: ds))) h1 h2 (by rw [etn]; simp only [List.length_append, List.length_cons, List.length_nil]; omega))⟩
    rintro _ S1 ⟨rfl, bb, cap, rest, h1, h2, hS1⟩
    subst S1
    rw [e8] at h1 h2
    repeat (first | refine ga_ ?_ | intro _)
    refine ⟨((i + 1, d :: ds, bb, cap, rest) : Nat × List Nat × Nat × Nat × List AV), ?_, ?_, weak_of ?_ rfl ?_⟩
    · exact Nat.sub_lt_sub_left hlt (Nat.lt_succ_self i)
    · exact ⟨hlt, h1, h2⟩
    · repeat (first | exact trivial | refine ⟨AVle.refl _, ?_⟩ | refine ⟨AVle.tk, ?_⟩ | refine ⟨AVle.nil, ?_⟩ | refine ⟨AVle.nilFull, ?_⟩ | refine ⟨AVle.eq (congrArg (AV.int .i64) (by first | (simp; done) | (simp; omega) | (rw [wrap_i64 (by first | omega | (simp; omega))]; first | rfl | omega | (simp; done) | (simp; omega)))), ?_⟩)
    · exact SLe.trans bld_less (bld_eq e8)
  · rintro d x Sc hf _
    exact hf.elim
end Go.Proofs.YtnkmjbjpmocnbaaDoor
/-
  GotreeParts: the walk. Own work.
-/
namespace Go.Proofs.YtnkmjbjpmocnbaaDoor
open Go.Aw Go.ChangeShapes Go.WideShapes Go.ChangeAt Go.RowKit
set_option maxHeartbeats 4000000

theorem okF_z (f : Fi) (h : Sat (encFi f)) : ∀ g ∈ f.funcs, okZs g.l := fun g hg => by
  have hc := fun c hc => (h.agg (c := .sl 7 (f.funcs.map encFn) .no) (by simp [cFi])).flat (c := c) hc
  refine okZs_of g.l fun c hcc => ?_
  exact (hc (.sl 15 (encZs g.l) .no) (List.mem_flatMap.2 ⟨encFn g, List.mem_map.2 ⟨g, hg, rfl⟩, by show _ ∈ cFn g; simp [cFn]⟩)).flat hcc
theorem OkF_of {f : Fi} (hb : smallB f = true) (hs : szFi f ≤ 1048576) (h : Sat (encFi f)) : OkF f := ⟨small_cnt hb, hs, okF_z f h⟩
theorem numE_of {R : List En} (h : NumG R) : numE ∈ R := h.1
theorem gotreeParts_ok (f : Fi) (R : List En) (hs : szFi f ≤ 1048576) (hG : NumG R) (hE : spE ∈ R) : ACall Tryd.prog 6 [encFi f] R (fun v S => v = .bool true ∧ S = R) := by
  refine ACall_sat fun hsat => ?_
  have hsat := hsat _ (.head _)
  have ka := fun R => small_ok f R (okF_of f hsat)
  by_cases hb : smallB f = true
  · rw [smallI_1 hb] at ka
    have hO := OkF_of hb hs hsat
    have k1 := fun R hE hG => show_ok f R hE hG hO
    by_cases hr : rightF f = true
    · rw [shownF_t hr] at k1
      have hr1 : rightF ⟨f.structs, []⟩ = true := by
        unfold rightF at hr ⊢
        rw [Bool.and_eq_true] at hr
        simp [hr.1]
      have hr2 : rightF ⟨[], f.funcs⟩ = true := by
        unfold rightF at hr ⊢
        rw [Bool.and_eq_true] at hr
        simp [hr.2]
      have hc := hO.c
      unfold cntFi at hc
      have hss := hO.s
      unfold szFi at hss
      have k2 := fun R hE hG => show_ok ⟨f.structs, []⟩ R hE hG ⟨by show cntScs f.structs + 0 ≤ 3000; omega, by show (f.structs.map szSc).sum + 0 + 1 ≤ 1048576; omega, fun g hg => by cases hg⟩
      have k3 := fun R hE hG => show_ok ⟨[], f.funcs⟩ R hE hG ⟨by show 0 + cntFns f.funcs ≤ 3000; omega, by show 0 + (f.funcs.map szFn).sum + 1 ≤ 1048576; omega, hO.o⟩
      rw [shownF_t hr1] at k2
      rw [shownF_t hr2] at k3
      have hT := showF_len hO hr
      have e2 : showF ⟨f.structs, []⟩ = pkgL ++ scsT f.structs := by simp [showF, fnsT]
      have e3 : showF ⟨[], f.funcs⟩ = pkgL ++ fnsT f.funcs := by simp [showF, scsT]
      have e1 : showF f = pkgL ++ (scsT f.structs ++ fnsT f.funcs) := rfl
      rw [e1] at k1 hT
      rw [e2] at k2
      rw [e3] at k3
      obtain ⟨A, hA⟩ : ∃ A, A = scsT f.structs := ⟨_, rfl⟩
      obtain ⟨B, hB⟩ : ∃ A, A = fnsT f.funcs := ⟨_, rfl⟩
      rw [← hA, ← hB] at k1 hT
      rw [← hA] at k2
      rw [← hB] at k3
      simp only [List.length_append] at hT
      have hpk : pkgL.length = 13 := rfl
      refine ACall_body tab_ok Tryd.func6 rfl rfl rfl (by kernel_rfl) (Nat.le_of_ble_eq_true rfl) ?_
      repeat (first | refine go_ ?_ | intro _)
      rename_i p
      refine Or.inl ⟨⟨_, Tryd.func8, rfl, rfl⟩, ACall.mono ?_ (shown_ok _ hG.cons (.tail _ hE))⟩
      rintro _ S1 ⟨rfl, hS1⟩
      subst S1
      repeat (first | refine go_ ?_ | intro _)
      refine Or.inl ⟨⟨_, Tryd.func16, rfl, rfl⟩, ACall.mono ?_ (ka _)⟩
      rintro _ S1 ⟨rfl, hS1⟩
      subst S1
      repeat (first | refine ga_ ?_ | intro _)
      refine Or.inl ⟨⟨_, Tryd.func19, rfl, rfl⟩, ACall.mono ?_ (k1 _ (.tail _ hE) (.tail _ (numE_of hG)))⟩
      rintro _ S1 ⟨rfl, hS1⟩
      subst S1
      repeat (first | refine ga_ ?_ | intro _)
      refine Or.inl ⟨⟨_, Tryd.func19, rfl, rfl⟩, ACall_args (ACall.mono ?_ (k2 _ (.tail _ hE) (.tail _ (numE_of hG)))) ⟨AVle.agg (bs := cFi ⟨f.structs, []⟩) ⟨AVle.refl _, AVle.nil, trivial⟩ (by simp [cFi, AV.one]), trivial⟩⟩
      rintro _ S1 ⟨rfl, hS1⟩
      subst S1
      repeat (first | refine ga_ ?_ | intro _)
      refine Or.inl ⟨⟨_, Tryd.func19, rfl, rfl⟩, ACall_args (ACall.mono ?_ (k3 _ (.tail _ hE) (.tail _ (numE_of hG)))) ⟨AVle.agg (bs := cFi ⟨[], f.funcs⟩) ⟨AVle.nil, AVle.refl _, trivial⟩ (by simp [cFi, AV.one]), trivial⟩⟩
      rintro _ S1 ⟨rfl, hS1⟩
      subst S1
      repeat (first | refine ga_ ?_ | intro _)
      refine at_ss 0 pkgL.length pkgL rfl rfl (Nat.zero_le _) (by rw [List.length_append]; omega) (by simp) ?_
      repeat (first | refine ga_ ?_ | intro _)
      refine at_ss 0 pkgL.length pkgL rfl rfl (Nat.zero_le _) (by rw [List.length_append]; omega) (by simp) ?_
      repeat (first | refine ga_ ?_ | intro _)
      refine at_ss pkgL.length (pkgL ++ B).length B rfl rfl (by rw [List.length_append]; omega) (Nat.le_refl _) (by rw [List.take_length, List.drop_left]) ?_
      repeat (first | refine ga_ ?_ | intro _)
      refine cat_ ?_
      repeat (first | refine ga_ ?_ | intro _)
      refine AW_ret ?_
      repeat (first | refine ⟨0, rfl, ?_⟩ | refine ⟨1, rfl, ?_⟩ | refine ⟨2, rfl, ?_⟩ | refine ⟨3, rfl, ?_⟩ | refine ⟨4, rfl, ?_⟩ | refine ⟨5, rfl, ?_⟩ | refine ⟨6, rfl, ?_⟩)
      refine ⟨_, R, AVle.eq ?_, (by repeat (first | exact SLe.rfl | refine SLe.tail ?_)), rfl, rfl⟩
      exact congrArg AV.bool (decide_eq_true (by simp))
    · have hr' : rightF f = false := by simpa using hr
      rw [shownF_f hr'] at k1
      have kr := fun R hE => right_ok f R hE hO.c
      rw [hr'] at kr
      refine ACall_body tab_ok Tryd.func6 rfl rfl rfl (by kernel_rfl) (Nat.le_of_ble_eq_true rfl) ?_
      repeat (first | refine go_ ?_ | intro _)
      refine Or.inl ⟨⟨_, Tryd.func8, rfl, rfl⟩, ACall.mono ?_ (shown_ok _ hG.cons (.tail _ hE))⟩
      rintro _ S1 ⟨rfl, hS1⟩
      subst S1
      repeat (first | refine go_ ?_ | intro _)
      refine Or.inl ⟨⟨_, Tryd.func16, rfl, rfl⟩, ACall.mono ?_ (ka _)⟩
      rintro _ S1 ⟨rfl, hS1⟩
      subst S1
      repeat (first | refine ga_ ?_ | intro _)
      refine Or.inl ⟨⟨_, Tryd.func19, rfl, rfl⟩, ACall.mono ?_ (k1 _ (.tail _ hE) (.tail _ (numE_of hG)))⟩
      rintro _ S1 ⟨rfl, hS1⟩
      subst S1
      repeat (first | refine ga_ ?_ | intro _)
      refine Or.inl ⟨⟨_, Tryd.func20, rfl, rfl⟩, ACall.mono ?_ (kr _ (.tail _ hE))⟩
      rintro _ S1 ⟨rfl, hS1⟩
      subst S1
      repeat (first | refine ga_ ?_ | intro _)
      refine AW_ret ?_
      repeat (first | refine ⟨0, rfl, ?_⟩ | refine ⟨1, rfl, ?_⟩ | refine ⟨2, rfl, ?_⟩ | refine ⟨3, rfl, ?_⟩ | refine ⟨4, rfl, ?_⟩ | refine ⟨5, rfl, ?_⟩ | refine ⟨6, rfl, ?_⟩)
      refine ⟨_, R, AVle.eq ?_, (by repeat (first | exact SLe.rfl | refine SLe.tail ?_)), rfl, rfl⟩
      rfl
  · rw [smallI_0 (by simpa using hb)] at ka
    refine ACall_body tab_ok Tryd.func6 rfl rfl rfl (by kernel_rfl) (Nat.le_of_ble_eq_true rfl) ?_
    repeat (first | refine go_ ?_ | intro _)
    refine Or.inl ⟨⟨_, Tryd.func8, rfl, rfl⟩, ACall.mono ?_ (shown_ok _ hG.cons (.tail _ hE))⟩
    rintro _ S1 ⟨rfl, hS1⟩
    subst S1
    repeat (first | refine go_ ?_ | intro _)
    refine Or.inl ⟨⟨_, Tryd.func16, rfl, rfl⟩, ACall.mono ?_ (ka _)⟩
    rintro _ S1 ⟨rfl, hS1⟩
    subst S1
    repeat (first | refine ga_ ?_ | intro _)
    refine AW_ret ?_
    repeat (first | refine ⟨0, rfl, ?_⟩ | refine ⟨1, rfl, ?_⟩ | refine ⟨2, rfl, ?_⟩ | refine ⟨3, rfl, ?_⟩ | refine ⟨4, rfl, ?_⟩ | refine ⟨5, rfl, ?_⟩ | refine ⟨6, rfl, ?_⟩)
    refine ⟨_, R, AVle.eq ?_, (by repeat (first | exact SLe.rfl | refine SLe.tail ?_)), rfl, rfl⟩
    rfl
end Go.Proofs.YtnkmjbjpmocnbaaDoor
