/-
  Read, the book's. Own work.
-/
import Derived.Test.YtgkjbpnmeeibbaaGreatDoorQ15
import Derived.Test.YtgkjbpnmeeibbaaGreatDoorQ16
set_option linter.all false
namespace Go.Proofs.YtgkjbpnmeeibbaaGreatDoor
open Go.Aw Go.RowKit Tree
set_option maxHeartbeats 4000000
set_option maxRecDepth 4000
open Rel (V encV encR foldPut Cl riseB)

end Go.Proofs.YtgkjbpnmeeibbaaGreatDoor
/-
  Lists of rows held against each other; what the laws ask first. Own work.
-/
namespace Go.Proofs.YtgkjbpnmeeibbaaGreatDoor
open Go.Aw Go.RowKit Tree
set_option maxHeartbeats 4000000
set_option maxRecDepth 4000
open Rel (V encV encR foldPut Cl riseB)

theorem resX_fault {p : Pr} {s : List UInt8} (hr : rightP p = true) : resX p s = (match faultX p s with | some y => ([], ((y.1 + 1 : Nat) : Int), y.2) | none => (sortX (outX p (linesL s)), 0, 0)) := by
  rw [resX, if_pos hr, readX_first, faultX]
  cases hf : firstX p (linesL s) with
  | none => rfl
  | some y => exact if_neg (firstX_some hf).1
theorem get_encL {a : Rows} {z : Nat} (h : z < a.length) : (a.map Rel.encL)[z]? = some (Rel.encL a[z]) := by rw [List.getElem?_map, List.getElem?_eq_getElem h]; rfl
theorem same3_ok (a b : Rows) (ta tb : Tk) (R : List En) (ha : a.length ≤ 16777216) : ACall Tryz.prog 15 [.sl 1 (a.map Rel.encL) ta, .sl 1 (b.map Rel.encL) tb] R (fun r S => r = .bool (decide (a = b)) ∧ S = R) := by
  by_cases hl : a.length = b.length
  rotate_left
  · refine ACall_body tab_ok Tryz.func15 rfl rfl rfl (by kernel_rfl) (Nat.le_of_ble_eq_true rfl) ?_
    repeat (first | refine go_ ?_ | intro _)
    refine AW_true (b := !decide (((a.map Rel.encL).length : Int) = ((b.map Rel.encL).length : Int))) rfl (by rw [List.length_map, List.length_map, decide_eq_false (by omega)]; rfl) ?_
    repeat (first | refine go_ ?_ | intro _)
    refine AW_ret ?_
    repeat refine mk_ ?_
    refine ⟨_, R, AVle.eq ?_, sle_, rfl, rfl⟩
    rw [decide_eq_false (fun e => hl (congrArg List.length e))]; rfl
  refine ACall_body tab_ok Tryz.func15 rfl rfl rfl (by kernel_rfl) (Nat.le_of_ble_eq_true rfl) ?_
  repeat (first | refine go_ ?_ | intro _)
  refine AW_false (b := !decide (((a.map Rel.encL).length : Int) = ((b.map Rel.encL).length : Int))) rfl (by rw [List.length_map, List.length_map, decide_eq_true (by omega)]; rfl) ?_
  repeat (first | refine go_ ?_ | intro _)
  refine AW_for (α := Nat) (fun z => ⟨[(0, .sl 1 (a.map Rel.encL) ta), (1, .sl 1 (b.map Rel.encL) tb), (5, .int .i64 (z : Nat))], []⟩) (fun z => R) (fun z => a.length - z) (fun z => z ≤ a.length ∧ a.take z = b.take z) (0) ?_ (weak_of ?_ rfl ?_) (fun z hz => ?_)
  · exact ⟨Nat.zero_le _, by simp⟩
  · repeat (first | exact trivial | refine env_ ?_)
  · repeat (first | exact SLe.rfl | refine SLe.tail ?_ | refine SLe.full ?_)
  obtain ⟨i1, i2⟩ := hz
  repeat (first | refine go_ ?_ | intro _)
  refine AW_iff (z < a.length) rfl (by rw [decide_eq_true_eq, List.length_map]; omega) (fun h => ?_) (fun h => ?_)
  · have hlt := h
    have hlt2 : z < b.length := by omega
    obtain ⟨x, hx⟩ : ∃ x, x = a[z] := ⟨_, rfl⟩
    obtain ⟨y, hy⟩ : ∃ y, y = b[z] := ⟨_, rfl⟩
    have hga := get_encL hlt
    have hgb := get_encL hlt2
    rw [← hx] at hga
    rw [← hy] at hgb
    have ks := fun R => Rel.same_ok x y .no .no R
    repeat (first | refine go_ ?_ | intro _)
    refine AW_draw tab_ok mixed 10 (by first | rfl | kernel_rfl) ?_
    repeat (first | refine go_ ?_ | intro _)
    refine at_get (z) (Rel.encL x) (by first | rfl | omega | (rw [wrap_i64 (by omega)]; omega)) (by exact hga) ?_
    repeat (first | refine go_ ?_ | intro _)
    refine at_get (z) (Rel.encL y) (by first | rfl | omega | (rw [wrap_i64 (by omega)]; omega)) (by exact hgb) ?_
    repeat (first | refine go_ ?_ | intro _)
    apply call_step
    · rfl
    · exact Or.inl ⟨⟨_, Tryz.func34, rfl, rfl⟩, ks _⟩
    repeat (first | refine go_ ?_ | intro _)
    by_cases he : x = y
    · refine AW_false (b := !decide (x = y)) rfl (by rw [decide_eq_true he]; rfl) ?_
      repeat (first | refine go_ ?_ | intro _)
      refine ⟨z + 1, ?_, ?_, weak_of ?_ rfl ?_⟩
      · omega
      · refine ⟨by omega, ?_⟩
        rw [List.take_succ_eq_append_getElem hlt, List.take_succ_eq_append_getElem hlt2, i2, ← hx, ← hy, he]
      · repeat (first | exact trivial | refine env_ ?_)
      · repeat (first | exact SLe.rfl | refine SLe.tail ?_ | refine SLe.full ?_)
    · refine AW_true (b := !decide (x = y)) rfl (by rw [decide_eq_false he]; rfl) ?_
      repeat (first | refine go_ ?_ | intro _)
      refine AW_ret ?_
      repeat refine mk_ ?_
      refine ⟨_, R, AVle.eq ?_, sle_, rfl, rfl⟩
      have : a ≠ b := fun e => he (by subst e; rw [hx, hy])
      rw [decide_eq_false this]; rfl
  · have : a = b := by rw [List.take_of_length_le (by omega), List.take_of_length_le (by omega)] at i2; exact i2
    repeat (first | refine go_ ?_ | intro _)
    refine AW_ret ?_
    repeat refine mk_ ?_
    refine ⟨_, R, AVle.eq ?_, sle_, rfl, rfl⟩
    rw [decide_eq_true this]; rfl
theorem take_le (s : List UInt8) (n : Nat) : (s.take n).length ≤ n := by rw [List.length_take]; omega

/-! ### what is shown -/
def oneF : Pr := ⟨[⟨[101], [[97], [98]], [1, 2], true, true, 0⟩], []⟩
def rowF : List V := [⟨false, 1, []⟩, ⟨true, 0, [97]⟩]
theorem itoa_one : Lib.itoa 1 = [49] := by
  have := Lib.itoa_nonneg 1
  rw [show (1 : Int) = ((1 : Nat) : Int) from rfl, this, Lib.decDigits_one (by decide)]; decide
theorem pn_01 : (pnL [48, 49]).2 ≠ 0 := by
  have h : Lib.parseIntB 64 [48, 49] = .ok 1 := by decide
  have e : Lib.itoa 1 ≠ [48, 49] := by rw [itoa_one]; decide
  simp [pnL, h, e]
theorem oneF_right : rightP oneF = true := by decide
def sF1 : List UInt8 := [101, 9, 49, 9, 34, 97, 34, 10]
def sF2 : List UInt8 := [101, 9, 48, 49, 9, 34, 97, 34, 10]
theorem sF1_eq : sF1 = tellAll [[rowF]] oneF.decls := by
  have h1 : wordL ⟨false, 1, []⟩ = [49] := itoa_one
  have h2 : wordL ⟨true, 0, [97]⟩ = [34, 97, 34] := by decide
  have h3 : rowF.flatMap fieldL = [9, 49, 9, 34, 97, 34] := by
    show fieldL _ ++ (fieldL _ ++ []) = _
    rw [fieldL, fieldL, h1, h2]; rfl
  show sF1 = ((oneF.decls.headD ⟨[], [], [], false, false, 0⟩).rel ++ rowF.flatMap fieldL ++ [10] ++ []) ++ []
  rw [h3]; rfl
theorem oneF_apart : apartD oneF.decls := fun i j hi hj _ => by
  have h1 : i < 1 := hi
  have h2 : j < 1 := hj
  omega
theorem sF1_back : faultX oneF sF1 = none ∧ sortX (outX oneF (linesL sF1)) = [[rowF]] := by
  rw [sF1_eq]
  refine tell_back oneF_apart (by decide) (by decide) (by decide) (by decide) fun l hl t ht v hv => ?_
  obtain rfl := List.mem_singleton.1 hl
  obtain rfl := List.mem_singleton.1 ht
  simp only [rowF, List.mem_cons, List.not_mem_nil, or_false] at hv
  rcases hv with rfl | rfl <;> (show inR64 _; unfold inR64; decide)
theorem sF2_fault : faultX oneF sF2 = some (0, 95) := by
  have hl : linesL sF2 = [([101, 9, 48, 49, 9, 34, 97, 34], true)] := linesL_at (w := [101, 9, 48, 49, 9, 34, 97, 34]) (r := []) (by decide)
  have hv : valL [48, 49] 1 = (⟨false, 0, []⟩, 95) := by rw [valL, if_pos rfl, if_neg pn_01]
  have hr : rowL oneF [101, 9, 48, 49, 9, 34, 97, 34] = (0, [], 95) := by
    rw [rowL_some (n := 0) (d := ⟨[101], [[97], [98]], [1, 2], true, true, 0⟩) (by decide) rfl, if_pos rfl, if_pos (by decide)]
    have : valsL (List.drop 1 (splitC 9 [101, 9, 48, 49, 9, 34, 97, 34])) [1, 2] = ([], 95) := by
      rw [show List.drop 1 (splitC 9 [101, 9, 48, 49, 9, 34, 97, 34]) = [[48, 49], [34, 97, 34]] by decide, valsL, hv]; rfl
    show (if (valsL (List.drop 1 (splitC 9 [101, 9, 48, 49, 9, 34, 97, 34])) [1, 2]).2 = 0 then _ else _) = _
    rw [this]; rfl
  have hc : codeX oneF ([101, 9, 48, 49, 9, 34, 97, 34], true) = 95 := by rw [codeX, if_pos rfl, hr]
  rw [faultX, hl, firstX, hc]; rfl
theorem res_F1 : resX oneF sF1 = ([[rowF]], 0, 0) := by rw [resX_fault oneF_right, sF1_back.1, sF1_back.2]
theorem res_F2 : resX oneF (sF1 ++ sF2) = ([], 2, 95) := by
  have he : EndsL sF1 := .inr ⟨[101, 9, 49, 9, 34, 97, 34], rfl⟩
  have hll : (linesL sF1).length = 1 := by rw [show linesL sF1 = [([101, 9, 49, 9, 34, 97, 34], true)] from linesL_at (w := [101, 9, 49, 9, 34, 97, 34]) (r := []) (by decide)]; rfl
  rw [resX_fault oneF_right, fault_app he, sF1_back.1, sF2_fault, hll]; rfl
theorem AVle.slFlat {sz : Nat} {es es' : List AV} {t : Tk} (hl : es.length = es'.length) (hf : AVleL (flat es) (flat es')) (hz : ∀ e ∈ es', e.cells.length = sz) (h1 : ∀ c ∈ flat es', c.one = true) : AVle (.sl sz es t) (.sl sz es' .no) := by
  intro K v hv
  rcases sl_cases hv with ⟨a0, rfl, rfl, ht⟩ | ⟨b, o, c, vs, ha, ht⟩
  · have : es' = [] := by simpa using hl.symm
    subst this; exact .slnil _ _ _ trivial
  · rw [ha.eq, hl]
    have h3 := hf.rel (show RelL K (flat es) vs from ha.rel)
    exact .sl (by rw [← hl]; exact ha.hcap) ha.hmax hz h1 h3.1 h3.2 ha.known trivial
theorem AVle.agg {es bs : List AV} (h : AVleL es bs) (h1 : ∀ c ∈ bs, c.one = true) : AVle (.agg es) (.agg bs) := by
  intro K v hv
  cases hv with
  | agg _ hl h' =>
    have := h.rel (K := K) ⟨hl, h'⟩
    exact .agg h1 this.1 this.2
theorem oneF_ok (R : List En) : ACall Tryz.prog 23 [] R (fun v S => v = encP oneF ∧ S = R) := by
  refine ACall_body tab_ok Tryz.func23 rfl rfl rfl (by kernel_rfl) (Nat.le_of_ble_eq_true rfl) ?_
  repeat (first | refine go_ ?_ | intro _)
  refine AW_ret ?_
  refine ⟨rfl, 0, _, rfl, ⟨Nat.le_of_ble_eq_true rfl, Nat.le_of_ble_eq_true rfl⟩, _, R, ?_, (by repeat (first | exact SLe.rfl | refine SLe.tail ?_)), rfl, rfl⟩
  show AVle (.agg [.sl 6 [.agg [.str [101], .sl 1 [.str [97], .str [98]] .full, .sl 1 [.int .i64 1, .int .i64 2] .full, .bool true, .bool true, .int .i64 0]] .full, .sl 0 [] .full]) (encP oneF)
  refine AVle.agg ⟨AVle.slFlat rfl ⟨AVle.refl _, AVle.tk, AVle.tk, AVle.refl _, AVle.refl _, AVle.refl _, trivial⟩ (by decide) (by decide), AVle.nil, trivial⟩ (by decide)
theorem shown_ok (R : List En) (hG : FactG R) : ACall Tryz.prog 10 [] R (fun r S => r = .bool true ∧ S = R) := by
  have hok : ∀ r ∈ oneF.rules, okR r := fun r hr => by cases hr
  have k1 := readP_ok oneF sF1 R hG (by decide) hok
  have k2 := readP_ok oneF (sF1 ++ sF2) R hG (by decide) hok
  rw [res_F1] at k1
  rw [res_F2] at k2
  refine ACall_body tab_ok Tryz.func10 rfl rfl rfl (by kernel_rfl) (Nat.le_of_ble_eq_true rfl) ?_
  repeat (first | refine go_ ?_ | intro _)
  refine Or.inl ⟨⟨_, Tryz.func23, rfl, rfl⟩, ACall.mono ?_ (oneF_ok R)⟩
  rintro _ S1 ⟨rfl, hS1⟩
  subst S1
  repeat (first | refine go_ ?_ | intro _)
  refine Or.inl ⟨⟨_, Tryz.func13, rfl, rfl⟩, ACall.mono ?_ (k1)⟩
  rintro _ S1 ⟨rfl, hS1⟩
  subst S1
  repeat (first | refine go_ ?_ | intro _)
  refine Or.inl ⟨⟨_, Tryz.func23, rfl, rfl⟩, ACall.mono ?_ (oneF_ok R)⟩
  rintro _ S1 ⟨rfl, hS1⟩
  subst S1
  repeat (first | refine go_ ?_ | intro _)
  refine Or.inl ⟨⟨_, Tryz.func13, rfl, rfl⟩, ACall.mono ?_ (k2)⟩
  rintro _ S1 ⟨rfl, hS1⟩
  subst S1
  repeat (first | refine ga_ ?_ | intro _)
  refine ⟨(by decide), _, rfl, ?_⟩
  repeat (first | refine ga_ ?_ | intro _)
  refine ⟨(by decide), _, rfl, ?_⟩
  repeat (first | refine ga_ ?_ | intro _)
  refine ⟨(by decide), _, rfl, ?_⟩
  repeat (first | refine ga_ ?_ | intro _)
  refine ⟨(by decide), _, rfl, ?_⟩
  repeat (first | refine ga_ ?_ | intro _)
  refine ⟨(by decide), _, rfl, ?_⟩
  repeat (first | refine ga_ ?_ | intro _)
  refine ⟨(by decide), _, rfl, ?_⟩
  repeat (first | refine ga_ ?_ | intro _)
  refine ⟨(by decide), _, rfl, ?_⟩
  repeat (first | refine ga_ ?_ | intro _)
  refine ⟨(by decide), _, rfl, ?_⟩
  repeat (first | refine ga_ ?_ | intro _)
  refine ⟨(by decide), _, rfl, ?_⟩
  repeat (first | refine ga_ ?_ | intro _)
  refine AW_ret ?_
  repeat refine mk_ ?_
  refine ⟨_, R, AVle.eq ?_, sle_, rfl, rfl⟩
  rfl
end Go.Proofs.YtgkjbpnmeeibbaaGreatDoor
