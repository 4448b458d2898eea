/-
  The book's cut; a relation by its name; a value of a text. Own work.
-/
import Derived.Test.YtgkjbpnmeeibbaaGreatDoorQ9
import Derived.Test.YtgkjbpnmeeibbaaGreatDoorQ8
import Derived.Test.YtgkjbpnmeeibbaaGreatDoorQ6
set_option linter.all false
namespace Go.Proofs.YtgkjbpnmeeibbaaGreatDoor
open Go.Aw Go.RowKit Tree
set_option maxHeartbeats 4000000
set_option maxRecDepth 4000

/-! ### a relation by its name -/
def namedB (s : List UInt8) (d : De) : Bool := decide (d.rel = s)
def findAV (s : List UInt8) (l : List De) : AV := match l.findIdx? (namedB s) with
  | some n => .tup [.int .i64 (n : Nat), .bool true]
  | none => .tup [.int .i64 0, .bool false]
theorem named_ok (s : List UInt8) (p : Nat) (d : De) (R : List En) (hp : En.cells p [.str s] ∈ R) (h0 : R[0]? = some (.cells p [.str s])) : ACall Tryz.prog 112 [encD d, .ptr p 0] R (fun r S => r = .bool (namedB s d) ∧ S = R) := by
  cases R with
  | nil => cases h0
  | cons e R =>
    obtain rfl := Option.some.inj h0
    refine ACall_body tab_ok Tryz.func112 rfl rfl rfl (by kernel_rfl) (Nat.le_of_ble_eq_true rfl) ?_
    repeat (first | refine go_ ?_ | intro _)
    refine AW_ret ?_
    repeat refine mk_ ?_
    refine ⟨_, .cells p [.str s] :: R, AVle.eq ?_, sle_, rfl, rfl⟩
    rfl
theorem indexN_ok (s : List UInt8) (p : Nat) (l : List De) (R : List En) (hll : l.length ≤ 1000) : ACall Tryz.prog 78 [.sl 6 (l.map encD) .no, .fn (.func 112) [] [.ptr p 0]] (.cells p [.str s] :: R) (fun v S => v = .int .i64 (idxB (namedB s) l) ∧ S = .cells p [.str s] :: R) := by
  refine ACall_body tab_ok Tryz.func78 rfl rfl rfl (by kernel_rfl) (Nat.le_of_ble_eq_true rfl) ?_
  repeat (first | refine go_ ?_ | intro _)
  refine AW_for (α := Nat) (fun z => ⟨[(0, .sl 6 (l.map encD) .no), (1, .fn (.func 112) [] [.ptr p 0]), (7, .int .i64 (l.length : Nat)), (8, .int .i64 (z : Nat))], []⟩) (fun z => .cells p [.str s] :: R) (fun z => l.length - z) (fun z => z ≤ l.length ∧ ∀ (i : Nat) (hi : i < l.length), i < z → namedB s l[i] = false) (0) ?_ (weak_of ?_ rfl ?_) (fun z hz => ?_)
  · exact ⟨by omega, fun i _ h => by omega⟩
  · repeat (first | exact trivial | refine ⟨(AVle.eq (congrArg (AV.int .i64) (by simp))), ?_⟩ | refine env_ ?_)
  · repeat (first | exact SLe.rfl | refine SLe.tail ?_ | refine SLe.full ?_)
  obtain ⟨i1, i2⟩ := hz
  repeat (first | refine go_ ?_ | intro _)
  refine AW_iff (z < l.length) rfl (by first | (simp; done) | (simp <;> omega) | decide) (fun h => ?_) (fun h => ?_)
  · have hlt := h
    obtain ⟨x, hx⟩ : ∃ x, x = l[z] := ⟨_, rfl⟩
    repeat (first | refine go_ ?_ | intro _)
    refine at_map (z) (by first | rfl | omega | (rw [wrap_i64 (by omega)]; omega)) (by first | assumption | omega) ?_
    rw [← hx]
    repeat (first | refine go_ ?_ | intro _)
    refine Or.inl ⟨⟨_, Tryz.func112, rfl, rfl⟩, ACall.mono ?_ (named_ok s p x (.cells p [.str s] :: R) (.head _) rfl)⟩
    rintro _ S1 ⟨rfl, hS1⟩
    subst S1
    refine AW_cond (b := namedB s x) rfl (fun h => ?_) (fun h => ?_)
    · repeat (first | refine go_ ?_ | intro _)
      refine AW_ret ?_
      repeat refine mk_ ?_
      refine ⟨_, .cells p [.str s] :: R, AVle.eq ?_, sle_, rfl, rfl⟩
      exact congrArg (AV.int .i64) (idxB_some (q := namedB s) hlt (by rw [← hx]; exact h) i2).symm
    · have hq := h
      repeat (first | refine go_ ?_ | intro _)
      refine ⟨z + 1, ?_, ?_, weak_of ?_ rfl ?_⟩
      · omega
      · refine ⟨by omega, fun i hi hiz => ?_⟩
        by_cases hc : i < z
        · exact i2 i hi hc
        · obtain rfl : i = z := by omega
          rw [← hx]; exact hq
      · repeat (first | exact trivial | refine env_ ?_)
      · repeat (first | exact SLe.rfl | refine SLe.tail ?_ | refine SLe.full ?_)
  · repeat (first | refine go_ ?_ | intro _)
    refine AW_ret ?_
    repeat refine mk_ ?_
    refine ⟨_, .cells p [.str s] :: R, AVle.eq ?_, sle_, rfl, rfl⟩
    exact congrArg (AV.int .i64) (idxB_none (q := namedB s) (fun i hi => i2 i hi (by omega))).symm
theorem find_ok (s : List UInt8) (l : List De) (R : List En) (hll : l.length ≤ 1000) : ACall Tryz.prog 86 [.sl 6 (l.map encD) .no, .str s] R (fun r S => r = findAV s l ∧ S = R) := by
  refine ACall_body tab_ok Tryz.func86 rfl rfl rfl (by kernel_rfl) (Nat.le_of_ble_eq_true rfl) ?_
  repeat (first | refine go_ ?_ | intro _)
  rename_i p
  refine Or.inl ⟨⟨_, Tryz.func78, rfl, rfl⟩, ACall.mono ?_ (indexN_ok s p l R hll)⟩
  rintro _ S1 ⟨rfl, hS1⟩
  subst S1
  repeat (first | refine go_ ?_ | intro _)
  refine AW_ret ?_
  repeat refine mk_ ?_
  refine ⟨_, R, AVle.eq ?_, sle_, rfl, rfl⟩
  unfold findAV idxB
  cases l.findIdx? (namedB s) with
  | none => rfl
  | some n =>
    show AV.tup [.int .i64 (max ((n : Nat) : Int) 0), .bool (decide ((0 : Int) ≤ ((n : Nat) : Int)))] = _
    rw [decide_eq_true (by omega), show max ((n : Nat) : Int) 0 = ((n : Nat) : Int) by omega]
end Go.Proofs.YtgkjbpnmeeibbaaGreatDoor
/-
  A line's values. Own work.
-/
namespace Go.Proofs.YtgkjbpnmeeibbaaGreatDoor
open Go.Aw Go.RowKit Tree
set_option maxHeartbeats 4000000
set_option maxRecDepth 4000
open Rel (V encV encR)

def valL (s : List UInt8) (k : Int) : V × Int :=
  if k = 1 then (if (pnL s).2 = 0 then (⟨false, (pnL s).1, []⟩, 0) else (⟨false, 0, []⟩, 95)) else (if (unqS s).2 = 0 then (⟨true, 0, (unqS s).1⟩, 0) else (⟨false, 0, []⟩, 96))
def valAV (x : V × Int) : AV := .tup [encV x.1, .int .i64 x.2]
/-- what reading values needs -/
def ErrG (R : List En) : Prop := ∃ b o, En.glob 2 [.ifc 231 (.ptr b o)] ∈ R
theorem ErrG.cons {R : List En} (h : ErrG R) {e : En} : ErrG (e :: R) := let ⟨b, o, h⟩ := h; ⟨b, o, .tail _ h⟩
theorem ErrG.app {A R : List En} (h : ErrG R) : ErrG (A ++ R) := let ⟨b, o, h⟩ := h; ⟨b, o, List.mem_append_right _ h⟩
theorem ErrG.left {A R : List En} (h : ErrG A) : ErrG (A ++ R) := let ⟨b, o, h⟩ := h; ⟨b, o, List.mem_append_left _ h⟩
theorem value_ok (s : List UInt8) (k : Int) (R : List En) (hG : NumG R) (hE : ErrG R) (hs : s.length ≤ 16777216) : ACall Tryz.prog 87 [.str s, .int .i64 k] R (fun r S => r = valAV (valL s k) ∧ S = R) := by
  obtain ⟨b, o, hE'⟩ := hE
  have kp := fun e => parseNum_ok s (e :: R) hG.cons (by omega)
  have ku := fun e => unquote_ok b o s (e :: R) (.tail _ hE') hs
  refine ACall_body tab_ok Tryz.func87 rfl rfl rfl (by kernel_rfl) (Nat.le_of_ble_eq_true rfl) ?_
  by_cases hk : k = 1
  · repeat (first | refine go_ ?_ | intro _)
    refine AW_true (b := decide (k = 1)) rfl (by exact decide_eq_true hk) ?_
    repeat (first | refine go_ ?_ | intro _)
    refine Or.inl ⟨⟨_, Tryz.func113, rfl, rfl⟩, ACall.mono ?_ (kp _)⟩
    rintro _ S1 ⟨rfl, hS1⟩
    subst S1
    repeat (first | refine go_ ?_ | intro _)
    by_cases h0 : (pnL s).2 = 0
    · have e : valL s k = (⟨false, (pnL s).1, []⟩, 0) := by rw [valL, if_pos hk, if_pos h0]
      refine AW_false (b := !decide ((pnL s).2 = 0)) rfl (by rw [h0]; rfl) ?_
      repeat (first | refine go_ ?_ | intro _)
      refine AW_ret ?_
      refine ⟨rfl, 0, _, rfl, ⟨Nat.le_of_ble_eq_true rfl, Nat.le_of_ble_eq_true rfl⟩, _, R, AVle.eq ?_, SLe.tail SLe.rfl, rfl, rfl⟩
      rw [e]; rfl
    · have e : valL s k = (⟨false, 0, []⟩, 95) := by rw [valL, if_pos hk, if_neg h0]
      refine AW_true (b := !decide ((pnL s).2 = 0)) rfl (by rw [decide_eq_false h0]; rfl) ?_
      repeat (first | refine go_ ?_ | intro _)
      refine AW_ret ?_
      refine ⟨rfl, 0, _, rfl, ⟨Nat.le_of_ble_eq_true rfl, Nat.le_of_ble_eq_true rfl⟩, _, R, AVle.eq ?_, SLe.tail SLe.rfl, rfl, rfl⟩
      rw [e]; rfl
  · repeat (first | refine go_ ?_ | intro _)
    refine AW_false (b := decide (k = 1)) rfl (by exact decide_eq_false hk) ?_
    repeat (first | refine go_ ?_ | intro _)
    refine Or.inl ⟨⟨_, Tryz.func114, rfl, rfl⟩, ACall.mono ?_ (ku _)⟩
    rintro _ S1 ⟨rfl, hS1⟩
    subst S1
    repeat (first | refine go_ ?_ | intro _)
    by_cases h0 : (unqS s).2 = 0
    · have e : valL s k = (⟨true, 0, (unqS s).1⟩, 0) := by rw [valL, if_neg hk, if_pos h0]
      refine AW_false (b := !decide ((unqS s).2 = 0)) rfl (by rw [h0]; rfl) ?_
      repeat (first | refine go_ ?_ | intro _)
      refine AW_ret ?_
      refine ⟨rfl, 0, _, rfl, ⟨Nat.le_of_ble_eq_true rfl, Nat.le_of_ble_eq_true rfl⟩, _, R, AVle.eq ?_, SLe.tail SLe.rfl, rfl, rfl⟩
      rw [e]; rfl
    · have e : valL s k = (⟨false, 0, []⟩, 96) := by rw [valL, if_neg hk, if_neg h0]
      refine AW_true (b := !decide ((unqS s).2 = 0)) rfl (by rw [decide_eq_false h0]; rfl) ?_
      repeat (first | refine go_ ?_ | intro _)
      refine AW_ret ?_
      refine ⟨rfl, 0, _, rfl, ⟨Nat.le_of_ble_eq_true rfl, Nat.le_of_ble_eq_true rfl⟩, _, R, AVle.eq ?_, SLe.tail SLe.rfl, rfl, rfl⟩
      rw [e]; rfl
/-! ### a line's values, by the columns' types -/
def valsL : List (List UInt8) → List Int → List V × Int
  | s :: ss, k :: ks => if (valL s k).2 = 0 then (if (valsL ss ks).2 = 0 then ((valL s k).1 :: (valsL ss ks).1, 0) else ([], (valsL ss ks).2)) else ([], (valL s k).2)
  | _, _ => ([], 0)
def addV (o : List V) (r : List V × Int) : List V × Int := if r.2 = 0 then (o ++ r.1, 0) else ([], r.2)
theorem addV_nil (r : List V × Int) (h : r.2 ≠ 0 → r.1 = []) : addV [] r = r := by
  unfold addV
  by_cases h0 : r.2 = 0
  · rw [if_pos h0, ← h0]; rfl
  · rw [if_neg h0, ← h h0]
theorem valsL_err : ∀ (ss : List (List UInt8)) (ks : List Int), (valsL ss ks).2 ≠ 0 → (valsL ss ks).1 = []
  | [], _, _ => rfl
  | _ :: _, [], _ => rfl
  | s :: ss, k :: ks, h => by
    rw [valsL] at h ⊢
    split
    · rename_i h1
      rw [if_pos h1] at h
      split
      · rename_i h2
        rw [if_pos h2] at h; exact absurd rfl h
      · rfl
    · rfl
theorem addV_step (o : List V) (s : List UInt8) (ss : List (List UInt8)) (k : Int) (ks : List Int) : addV o (valsL (s :: ss) (k :: ks)) = if (valL s k).2 = 0 then addV (o ++ [(valL s k).1]) (valsL ss ks) else ([], (valL s k).2) := by
  rw [valsL]
  by_cases h1 : (valL s k).2 = 0
  · rw [if_pos h1, if_pos h1]
    by_cases h2 : (valsL ss ks).2 = 0
    · rw [if_pos h2, addV, if_pos rfl, addV, if_pos h2]; simp
    · rw [if_neg h2, addV, if_neg h2, addV, if_neg h2]
  · rw [if_neg h1, if_neg h1, addV, if_neg h1]
/-- a line's relation and row -/
def rowL (p : Pr) (s : List UInt8) : Nat × List V × Int := match p.decls.findIdx? (namedB ((splitC 9 s).headD [])) with
  | none => (0, [], 93)
  | some at_ => match p.decls[at_]? with
    | none => (0, [], 93)
    | some d => if d.inp = true then (if (splitC 9 s).length = d.types.length + 1 then (if (valsL ((splitC 9 s).drop 1) d.types).2 = 0 then (at_, (valsL ((splitC 9 s).drop 1) d.types).1, 0) else (0, [], (valsL ((splitC 9 s).drop 1) d.types).2)) else (0, [], 94)) else (0, [], 93)
def rowAV (x : Nat × List V × Int) : AV := .tup [.int .i64 (x.1 : Nat), .sl 3 (x.2.1.map encV) .no, .int .i64 x.2.2]
end Go.Proofs.YtgkjbpnmeeibbaaGreatDoor
/-
  A line's relation and row. Own work.
-/
namespace Go.Proofs.YtgkjbpnmeeibbaaGreatDoor
open Go.Aw Go.RowKit Tree
set_option maxHeartbeats 4000000
set_option maxRecDepth 4000
open Rel (V encV encR)

theorem valsL_drop {ss : List (List UInt8)} {ks : List Int} {i : Nat} (h1 : i < ss.length) (h2 : i < ks.length) : ss.drop i = ss[i] :: ss.drop (i + 1) ∧ ks.drop i = ks[i] :: ks.drop (i + 1) := ⟨List.drop_eq_getElem_cons h1, List.drop_eq_getElem_cons h2⟩
theorem rowL_none {p : Pr} {s : List UInt8} (h : p.decls.findIdx? (namedB ((splitC 9 s).headD [])) = none) : rowL p s = (0, [], 93) := by rw [rowL, h]
theorem rowL_some {p : Pr} {s : List UInt8} {n : Nat} {d : De} (h : p.decls.findIdx? (namedB ((splitC 9 s).headD [])) = some n) (hd : p.decls[n]? = some d) : rowL p s = if d.inp = true then (if (splitC 9 s).length = d.types.length + 1 then (if (valsL ((splitC 9 s).drop 1) d.types).2 = 0 then (n, (valsL ((splitC 9 s).drop 1) d.types).1, 0) else (0, [], (valsL ((splitC 9 s).drop 1) d.types).2)) else (0, [], 94)) else (0, [], 93) := by
  rw [rowL, h]; simp only []; rw [hd]
theorem splitC_part {c : UInt8} {s x : List UInt8} (h : x ∈ splitC c s) : x.length ≤ s.length := by
  revert x
  induction s with
  | nil => intro x h; simp [splitC] at h; subst h; simp
  | cons d s ih =>
    intro x h
    rw [splitC] at h
    split at h
    · rcases List.mem_cons.1 h with rfl | h
      · simp
      · have := ih h; simp; omega
    · split at h
      · rename_i h2; exact absurd h2 (splitC_ne c s)
      · rename_i y r h2
        rcases List.mem_cons.1 h with rfl | h
        · have := ih (x := y) (by rw [h2]; exact .head _); simp; omega
        · have := ih (x := x) (by rw [h2]; exact .tail _ h); simp; omega
theorem addV_end (o : List V) : addV o (valsL [] []) = (o, 0) := by simp [addV, valsL]
theorem row_ok (p : Pr) (s : List UInt8) (R : List En) (hG : NumG R) (hE : ErrG R) (hs : s.length ≤ 1000000) (hp : p.decls.length ≤ 1000) (hD : ∀ d ∈ p.decls, d.types.length ≤ 1000) : ACall Tryz.prog 53 [encP p, .str s] R (fun r S => r = rowAV (rowL p s) ∧ S = R) := by
  obtain ⟨W, hW⟩ : ∃ W, W = splitC 9 s := ⟨_, rfl⟩
  have hne := splitC_ne 9 s
  have hwl := splitC_len 9 s
  have hcl := cntC_len 9 s
  have hpt : ∀ x ∈ W, x.length ≤ s.length := fun x hx => splitC_part (hW ▸ hx)
  have ksp := fun R => split_ok s 9 R (by omega)
  rw [← hW] at hne hwl ksp
  obtain ⟨w, V', hwv⟩ : ∃ w r, W = w :: r := by cases W with | nil => exact absurd rfl hne | cons w r => exact ⟨w, r, rfl⟩
  have hhd : (splitC 9 s).headD [] = w := by rw [← hW, hwv]; rfl
  have hg0 : (W.map AV.str)[0]? = some (.str w) := by rw [hwv]; rfl
  have kf := fun R => find_ok w p.decls R hp
  have hgW : ∀ (j : Nat) (h : j < W.length), (W.map AV.str)[j]? = some (.str W[j]) := fun j h => by rw [List.getElem?_map, List.getElem?_eq_getElem h]; rfl
  cases hf : p.decls.findIdx? (namedB w) with
  | none =>
    have e := rowL_none (p := p) (s := s) (by rw [hhd]; exact hf)
    rw [findAV, hf] at kf
    refine ACall_body tab_ok Tryz.func53 rfl rfl rfl (by kernel_rfl) (Nat.le_of_ble_eq_true rfl) ?_
    repeat (first | refine go_ ?_ | intro _)
    rename_i q
    refine Or.inl ⟨⟨_, Tryz.func85, rfl, rfl⟩, ACall.mono ?_ (ksp _)⟩
    rintro _ S1 ⟨rfl, hS1⟩
    subst S1
    repeat (first | refine det_step rfl ?_ | refine ⟨rfl, ?_⟩ | refine ⟨⟨_, rfl⟩, ?_⟩ | refine ⟨⟨_, rfl, rfl⟩, ?_⟩ | refine ⟨⟨rfl, rfl⟩, ?_⟩ | refine ⟨⟨Nat.le_of_ble_eq_true rfl, Nat.le_of_ble_eq_true rfl⟩, ?_⟩ | refine ⟨Nat.le_of_ble_eq_true rfl, ?_⟩ | refine ⟨_, _, rfl, ?_⟩ | refine ⟨0, _, rfl, ?_⟩ | refine ⟨1, _, rfl, ?_⟩ | refine ⟨2, _, rfl, ?_⟩ | refine ⟨3, _, rfl, ?_⟩ | refine ⟨4, _, rfl, ?_⟩ | refine ⟨5, _, rfl, ?_⟩ | refine ⟨_, rfl, ?_⟩ | intro _)
    refine AW_weak (weak_of (l := [(2, .ptr q 0), (7, .sl 1 (W.map AV.str) .no)]) (m := []) (S' := .cells q [.sl 6 (p.decls.map encD) .no, .sl 4 (p.rules.map encRu) .no] :: R) ?_ rfl ?_) ?_
    · repeat (first | exact trivial | refine env_ ?_)
    · refine SW.le ?_
      repeat (first | exact SW.nil | refine sw_ ?_)
    repeat (first | refine go_ ?_ | intro _)
    refine AW_draw tab_ok mixed 11 (by first | rfl | kernel_rfl) ?_
    repeat (first | refine go_ ?_ | intro _)
    refine at_get (0) (AV.str w) (by first | rfl | omega | (rw [wrap_i64 (by omega)]; omega)) (by exact hg0) ?_
    repeat (first | refine go_ ?_ | intro _)
    apply call_step
    · rfl
    · exact Or.inl ⟨⟨_, Tryz.func86, rfl, rfl⟩, kf _⟩
    repeat (first | refine ga_ ?_ | intro _)
    refine AW_ret ?_
    refine ⟨_, R, AVle.tup (bs := [.int .i64 0, .sl 3 [] .no, .int .i64 (93)]) ⟨AVle.refl _, AVle.nil, AVle.refl _, trivial⟩, (by repeat (first | exact SLe.rfl | refine SLe.tail ?_)), ?_, rfl⟩
    rw [e]; rfl
  | some n =>
    obtain ⟨hn, _, _⟩ := List.findIdx?_eq_some_iff_getElem.1 hf
    obtain ⟨d, hd⟩ : ∃ d, d = p.decls[n] := ⟨_, rfl⟩
    have hgd : p.decls[n]? = some d := by rw [List.getElem?_eq_getElem hn, hd]
    have hg1 : (p.decls.map encD)[n]? = some (encD d) := by rw [List.getElem?_map, hgd]; rfl
    have hdt := hD d (hd ▸ List.getElem_mem hn)
    have e := rowL_some (p := p) (s := s) (by rw [hhd]; exact hf) hgd
    rw [← hW] at e
    rw [findAV, hf] at kf
    refine ACall_body tab_ok Tryz.func53 rfl rfl rfl (by kernel_rfl) (Nat.le_of_ble_eq_true rfl) ?_
    repeat (first | refine go_ ?_ | intro _)
    rename_i q
    refine Or.inl ⟨⟨_, Tryz.func85, rfl, rfl⟩, ACall.mono ?_ (ksp _)⟩
    rintro _ S1 ⟨rfl, hS1⟩
    subst S1
    repeat (first | refine det_step rfl ?_ | refine ⟨rfl, ?_⟩ | refine ⟨⟨_, rfl⟩, ?_⟩ | refine ⟨⟨_, rfl, rfl⟩, ?_⟩ | refine ⟨⟨rfl, rfl⟩, ?_⟩ | refine ⟨⟨Nat.le_of_ble_eq_true rfl, Nat.le_of_ble_eq_true rfl⟩, ?_⟩ | refine ⟨Nat.le_of_ble_eq_true rfl, ?_⟩ | refine ⟨_, _, rfl, ?_⟩ | refine ⟨0, _, rfl, ?_⟩ | refine ⟨1, _, rfl, ?_⟩ | refine ⟨2, _, rfl, ?_⟩ | refine ⟨3, _, rfl, ?_⟩ | refine ⟨4, _, rfl, ?_⟩ | refine ⟨5, _, rfl, ?_⟩ | refine ⟨_, rfl, ?_⟩ | intro _)
    refine AW_weak (weak_of (l := [(2, .ptr q 0), (7, .sl 1 (W.map AV.str) .no)]) (m := []) (S' := .cells q [.sl 6 (p.decls.map encD) .no, .sl 4 (p.rules.map encRu) .no] :: R) ?_ rfl ?_) ?_
    · repeat (first | exact trivial | refine env_ ?_)
    · refine SW.le ?_
      repeat (first | exact SW.nil | refine sw_ ?_)
    repeat (first | refine go_ ?_ | intro _)
    refine AW_draw tab_ok mixed 11 (by first | rfl | kernel_rfl) ?_
    repeat (first | refine go_ ?_ | intro _)
    refine at_get (0) (AV.str w) (by first | rfl | omega | (rw [wrap_i64 (by omega)]; omega)) (by exact hg0) ?_
    repeat (first | refine go_ ?_ | intro _)
    apply call_step
    · rfl
    · exact Or.inl ⟨⟨_, Tryz.func86, rfl, rfl⟩, kf _⟩
    repeat (first | refine det_step rfl ?_ | refine ⟨rfl, ?_⟩ | refine ⟨⟨_, rfl⟩, ?_⟩ | refine ⟨⟨_, rfl, rfl⟩, ?_⟩ | refine ⟨⟨rfl, rfl⟩, ?_⟩ | refine ⟨⟨Nat.le_of_ble_eq_true rfl, Nat.le_of_ble_eq_true rfl⟩, ?_⟩ | refine ⟨Nat.le_of_ble_eq_true rfl, ?_⟩ | refine ⟨_, _, rfl, ?_⟩ | refine ⟨0, _, rfl, ?_⟩ | refine ⟨1, _, rfl, ?_⟩ | refine ⟨2, _, rfl, ?_⟩ | refine ⟨3, _, rfl, ?_⟩ | refine ⟨4, _, rfl, ?_⟩ | refine ⟨5, _, rfl, ?_⟩ | refine ⟨_, rfl, ?_⟩ | intro _)
    refine AW_weak (weak_of (l := [(2, .ptr q 0), (7, .sl 1 (W.map AV.str) .no), (8, .int .i64 (n : Nat)), (9, .bool true)]) (m := []) (S' := .cells q [.sl 6 (p.decls.map encD) .no, .sl 4 (p.rules.map encRu) .no] :: R) ?_ rfl ?_) ?_
    · repeat (first | exact trivial | refine env_ ?_)
    · refine SW.le ?_
      repeat (first | exact SW.nil | refine sw_ ?_)
    repeat (first | refine ga_ ?_ | intro _)
    refine at_get (n) (encD d) (by first | rfl | omega | (rw [wrap_i64 (by omega)]; omega)) (by exact hg1) ?_
    repeat (first | refine ga_ ?_ | intro _)
    by_cases hin : d.inp = true
    rotate_left
    · rw [if_neg hin] at e
      refine AW_true (b := !d.inp) rfl (by rw [show d.inp = false by simpa using hin]; rfl) ?_
      repeat (first | refine go_ ?_ | intro _)
      refine AW_ret ?_
      refine ⟨_, R, AVle.tup (bs := [.int .i64 0, .sl 3 [] .no, .int .i64 (93)]) ⟨AVle.refl _, AVle.nil, AVle.refl _, trivial⟩, (by repeat (first | exact SLe.rfl | refine SLe.tail ?_)), ?_, rfl⟩
      rw [e]; rfl
    rw [if_pos hin] at e
    refine AW_false (b := !d.inp) rfl (by rw [hin]; rfl) ?_
    repeat (first | refine go_ ?_ | intro _)
    refine at_get (n) (encD d) (by first | rfl | omega | (rw [wrap_i64 (by omega)]; omega)) (by exact hg1) ?_
    repeat (first | refine go_ ?_ | intro _)
    have hwr : IntKind.i64.wrap (((d.types.map encI).length : Nat) + 1 : Int) = ((d.types.length + 1 : Nat) : Int) := by rw [List.length_map, wrap_i64 (by omega)]; omega
    by_cases hlen : W.length = d.types.length + 1
    rotate_left
    · rw [if_neg hlen] at e
      refine AW_true (b := !decide (((W.map AV.str).length : Int) = IntKind.i64.wrap (((d.types.map encI).length : Nat) + 1 : Int))) rfl (by rw [hwr, List.length_map, decide_eq_false (by omega)]; rfl) ?_
      repeat (first | refine go_ ?_ | intro _)
      refine AW_ret ?_
      refine ⟨_, R, AVle.tup (bs := [.int .i64 0, .sl 3 [] .no, .int .i64 (94)]) ⟨AVle.refl _, AVle.nil, AVle.refl _, trivial⟩, (by repeat (first | exact SLe.rfl | refine SLe.tail ?_)), ?_, rfl⟩
      rw [e]; rfl
    rw [if_pos hlen] at e
    refine AW_false (b := !decide (((W.map AV.str).length : Int) = IntKind.i64.wrap (((d.types.map encI).length : Nat) + 1 : Int))) rfl (by rw [hwr, List.length_map, decide_eq_true (by omega)]; rfl) ?_
    refine AW_weak (weak_of (l := [(2, .ptr q 0), (7, .sl 1 (W.map AV.str) .no), (8, .int .i64 (n : Nat))]) (m := []) (S' := .cells q [.sl 6 (p.decls.map encD) .no, .sl 4 (p.rules.map encRu) .no] :: R) ?_ rfl ?_) ?_
    · repeat (first | exact trivial | refine env_ ?_)
    · refine SW.le ?_
      repeat (first | exact SW.nil | refine sw_ ?_)
    repeat (first | refine go_ ?_ | intro _)
    refine at_get (n) (encD d) (by first | rfl | omega | (rw [wrap_i64 (by omega)]; omega)) (by exact hg1) ?_
    repeat (first | refine go_ ?_ | intro _)
    obtain ⟨F, hF⟩ : ∃ F, F = W.drop 1 := ⟨_, rfl⟩
    rw [← hF] at e
    have hFl : F.length = d.types.length := by rw [hF, List.length_drop]; omega
    have hea : addV [] (valsL F d.types) = valsL F d.types := addV_nil _ (valsL_err F d.types)
    refine AW_for (α := Nat × List V × Tk) (fun z => ⟨[(7, .sl 1 (W.map AV.str) .no), (8, .int .i64 (n : Nat)), (10, .sl 3 (z.2.1.map encV) z.2.2), (55, .sl 1 (d.types.map encI) .no), (56, .int .i64 (d.types.length : Nat)), (57, .int .i64 (z.1 : Nat))], []⟩) (fun z => .grow z.2.2 :: R) (fun z => d.types.length - z.1) (fun z => z.1 ≤ d.types.length ∧ z.2.1.length = z.1 ∧ valsL F d.types = addV z.2.1 (valsL (F.drop z.1) (d.types.drop z.1))) ((0, [], .full)) ?_ (weak_of ?_ rfl ?_) (fun z hz => ?_)
    · exact ⟨Nat.zero_le _, rfl, hea.symm⟩
    · repeat (first | exact trivial | refine ⟨(AVle.eq (congrArg (AV.int .i64) (by simp))), ?_⟩ | refine env_ ?_)
    · repeat (first | exact SLe.rfl | refine SLe.tail ?_ | refine SLe.full ?_)
    obtain ⟨z, o, tk⟩ := z
    obtain ⟨i1, i2, i3⟩ : z ≤ d.types.length ∧ o.length = z ∧ valsL F d.types = addV o (valsL (F.drop z) (d.types.drop z)) := hz
    show AW _ _ _ _ ⟨[(7, .sl 1 (W.map AV.str) .no), (8, .int .i64 (n : Nat)), (10, .sl 3 (o.map encV) tk), (55, .sl 1 (d.types.map encI) .no), (56, .int .i64 (d.types.length : Nat)), (57, .int .i64 (z : Nat))], []⟩ (.grow tk :: R) _
    repeat (first | refine go_ ?_ | intro _)
    refine AW_iff (z < d.types.length) rfl (by first | (simp; done) | (simp <;> omega) | decide) (fun h => ?_) (fun h => ?_)
    · have hlt := h
      obtain ⟨kd, hkd⟩ : ∃ k, k = d.types[z] := ⟨_, rfl⟩
      have hgk : (d.types.map encI)[z]? = some (encI kd) := by rw [List.getElem?_map, List.getElem?_eq_getElem hlt, hkd]; rfl
      obtain ⟨x, hx⟩ : ∃ x, x = F[z]'(by omega) := ⟨_, rfl⟩
      have hxW : x = W[z + 1]'(by omega) := by
        subst hF
        rw [hx, List.getElem_drop]; congr 1; omega
      have hxl : x.length ≤ s.length := hpt x (hxW ▸ List.getElem_mem _)
      have hgx : (W.map AV.str)[z + 1]? = some (.str x) := by rw [hgW (z + 1) (by omega), hxW]
      obtain ⟨d1, d2⟩ := valsL_drop (ss := F) (ks := d.types) (i := z) (by omega) hlt
      rw [d1, d2, ← hx, ← hkd, addV_step] at i3
      have kv := fun R (hG : NumG R) (hE : ErrG R) => value_ok x kd R hG hE (by omega)
      repeat (first | refine go_ ?_ | intro _)
      refine at_get (z) (encI kd) (by first | rfl | omega | (rw [wrap_i64 (by omega)]; omega)) (by exact hgk) ?_
      repeat (first | refine go_ ?_ | intro _)
      refine at_get (z + 1) (AV.str x) (by first | rfl | omega | (rw [wrap_i64 (by omega)]; omega)) (by exact hgx) ?_
      repeat (first | refine go_ ?_ | intro _)
      refine Or.inl ⟨⟨_, Tryz.func87, rfl, rfl⟩, ACall.mono ?_ (kv _ hG.cons hE.cons)⟩
      rintro _ S1 ⟨rfl, hS1⟩
      subst S1
      repeat (first | refine det_step rfl ?_ | refine ⟨rfl, ?_⟩ | refine ⟨⟨_, rfl⟩, ?_⟩ | refine ⟨⟨_, rfl, rfl⟩, ?_⟩ | refine ⟨⟨rfl, rfl⟩, ?_⟩ | refine ⟨⟨Nat.le_of_ble_eq_true rfl, Nat.le_of_ble_eq_true rfl⟩, ?_⟩ | refine ⟨Nat.le_of_ble_eq_true rfl, ?_⟩ | refine ⟨_, _, rfl, ?_⟩ | refine ⟨0, _, rfl, ?_⟩ | refine ⟨1, _, rfl, ?_⟩ | refine ⟨2, _, rfl, ?_⟩ | refine ⟨3, _, rfl, ?_⟩ | refine ⟨4, _, rfl, ?_⟩ | refine ⟨5, _, rfl, ?_⟩ | refine ⟨_, rfl, ?_⟩ | intro _)
      rename_i b13
      refine AW_weak (weak_of (l := [(7, .sl 1 (W.map AV.str) .no), (8, .int .i64 (n : Nat)), (10, .sl 3 (o.map encV) tk), (13, .ptr b13 0), (14, .int .i64 (valL x kd).2), (55, .sl 1 (d.types.map encI) .no), (56, .int .i64 (d.types.length : Nat)), (57, .int .i64 (z : Nat))]) (m := []) (S' := .cells b13 (encV (valL x kd).1).cells :: .grow tk :: R) ?_ rfl ?_) ?_
      · repeat (first | exact trivial | refine env_ ?_)
      · refine SW.le ?_
        repeat (first | exact SW.nil | refine sw_ ?_)
      repeat (first | refine go_ ?_ | intro _)
      by_cases hv : (valL x kd).2 = 0
      · rw [if_pos hv] at i3
        refine AW_false (b := !decide ((valL x kd).2 = 0)) rfl (by rw [hv]; rfl) ?_
        repeat (first | refine go_ ?_ | intro _)
        refine ⟨room (by first | omega | (simp; done) | (simp; omega) | (simp at *; done) | (simp at *; omega)) rfl, .inl rfl, .inr (.inl ⟨rfl, 1, rfl, (o ++ [(valL x kd).1]).map encV, (by rw [List.map_append]; rfl), fun t1 => ?_⟩)⟩
        repeat (first | refine go_ ?_ | intro _)
        refine ⟨((z + 1, o ++ [(valL x kd).1], t1) : Nat × List V × Tk), ?_, ?_, weak_of ?_ rfl ?_⟩
        · show d.types.length - (z + 1) < d.types.length - z; omega
        · exact ⟨hlt, by show (o ++ _).length = z + 1; simp; omega, i3⟩
        · repeat (first | exact trivial | refine env_ ?_)
        · repeat (first | exact SLe.rfl | refine SLe.tail ?_ | refine SLe.full ?_)
      · rw [if_neg hv] at i3
        have e2 : rowL p s = (0, [], (valL x kd).2) := by rw [e, i3, if_neg hv]
        refine AW_true (b := !decide ((valL x kd).2 = 0)) rfl (by rw [decide_eq_false hv]; rfl) ?_
        repeat (first | refine go_ ?_ | intro _)
        refine AW_ret ?_
        refine ⟨_, R, AVle.tup (bs := [.int .i64 0, .sl 3 [] .no, .int .i64 ((valL x kd).2)]) ⟨AVle.refl _, AVle.nil, AVle.refl _, trivial⟩, (by repeat (first | exact SLe.rfl | refine SLe.tail ?_)), ?_, rfl⟩
        rw [e2]; rfl
    · have hz : z = d.types.length := by omega
      rw [List.drop_of_length_le (by omega), List.drop_of_length_le (by omega), addV_end] at i3
      have e2 : rowL p s = (n, o, 0) := by rw [e, i3, if_pos rfl]
      repeat (first | refine go_ ?_ | intro _)
      refine AW_ret ?_
      refine ⟨_, R, AVle.tup (bs := [.int .i64 (n : Nat), .sl 3 (o.map encV) .no, .int .i64 0]) ⟨AVle.refl _, AVle.tk, AVle.refl _, trivial⟩, (by repeat (first | exact SLe.rfl | refine SLe.tail ?_)), ?_, rfl⟩
      rw [e2]; rfl
end Go.Proofs.YtgkjbpnmeeibbaaGreatDoor
