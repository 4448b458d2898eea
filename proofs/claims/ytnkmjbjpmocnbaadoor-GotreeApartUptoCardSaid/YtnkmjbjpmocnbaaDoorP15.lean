/-
  A statement's lines: what stands within it. Own work.
-/
import Derived.Test.YtnkmjbjpmocnbaaDoorP14
import Derived.Test.YtnkmjbjpmocnbaaDoorSegs
set_option linter.all false
namespace Go.Proofs.YtnkmjbjpmocnbaaDoor
open Go.Aw Go.RowKit
set_option maxHeartbeats 4000000

theorem SLe.swapIn (A M C : List En) : SLe (A ++ (M ++ C)) (A ++ (C ++ M)) := SLe.perm (List.perm_append_comm.append_left A)
theorem unmarks_end {A : List En} {k : List En → Prop} {ds : List Nat} (h : k A) : unmarks ds (A ++ marks ds) k := by
  have := unmarks_all (A := A) (B := []) (ds := ds) (k := k) (by rw [List.append_nil]; exact h)
  rwa [List.append_nil] at this
def numE : En := .glob 5 (Lib.pow10Tab.map (AV.int .u64))
theorem numG_of {R : List En} (h : numE ∈ R) : NumG R := ⟨h, trivial⟩
def encLn (p : Ln) : List AV := [.int .i64 (p.1 : Nat), .str p.2]
theorem stmt_ok (z : Z) (k : Nat) (R : List En) : ACall Tryd.prog 74 [encSt z, .int .i64 (k : Nat)] R (fun v S => ∃ p3 p2, v = .fn (.func 95) [] [.ptr p3 0, .ptr p2 0] ∧ S = .cells p3 [.int .i64 (k : Nat)] :: .cells p2 (cZ z) :: R) := by
  refine ACall_body tab_ok Tryd.func74 rfl rfl rfl (by kernel_rfl) (Nat.le_of_ble_eq_true rfl) ?_
  repeat (first | refine go_ ?_ | intro _)
  refine AW_ret ?_
  repeat (first | refine ⟨0, rfl, ?_⟩ | refine ⟨1, rfl, ?_⟩ | refine ⟨2, rfl, ?_⟩ | refine ⟨3, rfl, ?_⟩ | refine ⟨4, rfl, ?_⟩ | refine ⟨5, rfl, ?_⟩ | refine ⟨6, rfl, ?_⟩)
  refine ⟨_, _, AVle.refl _, SLe.rfl, ?_⟩
  exact ⟨_, _, rfl, rfl⟩
theorem lines_ok (l : List Z) (k : Nat) (R : List En) : ACall Tryd.prog 44 [.sl 15 (encZs l) .no, .int .i64 (k : Nat)] R (fun v S => ∃ p2 p3, v = .fn (.func 73) [] [.ptr p2 0, .ptr p3 0] ∧ S = .cells p3 [.int .i64 (k : Nat)] :: .cells p2 [.sl 15 (encZs l) .no] :: R) := by
  refine ACall_body tab_ok Tryd.func44 rfl rfl rfl (by kernel_rfl) (Nat.le_of_ble_eq_true rfl) ?_
  repeat (first | refine go_ ?_ | intro _)
  refine AW_ret ?_
  repeat (first | refine ⟨0, rfl, ?_⟩ | refine ⟨1, rfl, ?_⟩ | refine ⟨2, rfl, ?_⟩ | refine ⟨3, rfl, ?_⟩ | refine ⟨4, rfl, ?_⟩ | refine ⟨5, rfl, ?_⟩ | refine ⟨6, rfl, ?_⟩)
  refine ⟨_, _, AVle.refl _, SLe.rfl, ?_⟩
  exact ⟨_, _, rfl, rfl⟩
/-- a yield that takes these, from so many on -/
def Feed (lp : Nat) (xs : List (List AV)) (i0 : Nat) (J : Nat → List En → Prop) (ZZ : List En → Prop) : Prop := ∀ (o : List En) (j : Nat) (args : List AV) (Sc : List En), xs[j]? = some args → J (i0 + j) Sc →
  AYield Tryd.prog lp args (o ++ Sc) (fun r S' => ∃ b Sc', r = .bool b ∧ S' = o ++ Sc' ∧ (b = true → J (i0 + j + 1) Sc') ∧ (b = false → ZZ Sc'))
def linesAt (l : List Z) (k : Nat) : Prop := ∀ p2 p3, AGen Tryd.prog (.fn (.func 73) [] [.ptr p2 0, .ptr p3 0]) [.cells p2 [.sl 15 (encZs l) .no], .cells p3 [.int .i64 (k : Nat)], numE] ((linesG l k).map encLn)
theorem within_ok (l : List Z) (k : Nat) (pi q lp : Nat) (c : En) (i0 : Nat) (J : Nat → List En → Prop) (ZZ : List En → Prop) (Sc : List En) (hk : k ≤ 100) (hgen : linesAt l (k + 1)) (hF : Feed lp ((linesG l (k + 1)).map encLn) i0 J ZZ) (hJ : J i0 Sc) :
    ACall Tryd.prog 96 [.sl 15 (encZs l) .no, .ptr pi 0, .ptr q 0] (.cells q [.fn (.yield lp) [] []] :: .cells pi [.int .i64 (k : Nat)] :: c :: numE :: Sc)
      (fun r S' => ∃ b Sc', r = .bool b ∧ S' = .cells q [.fn (.yield lp) [] []] :: .cells pi [.int .i64 (k : Nat)] :: c :: numE :: Sc' ∧ (b = true → J (i0 + (linesG l (k + 1)).length) Sc') ∧ (b = false → ZZ Sc')) := by
  have em : IntKind.i64.wrap ((k : Int) + 1) = ((k + 1 : Nat) : Int) := by rw [wrap_i64 (by omega)]; omega
  have kl : ∀ R, ACall Tryd.prog 44 [.sl 15 (encZs l) .no, .int .i64 (IntKind.i64.wrap ((k : Int) + 1))] R (fun v S => ∃ p2 p3, v = .fn (.func 73) [] [.ptr p2 0, .ptr p3 0] ∧ S = .cells p3 [.int .i64 ((k + 1 : Nat) : Int)] :: .cells p2 [.sl 15 (encZs l) .no] :: R) := by rw [em]; exact fun R => lines_ok l (k + 1) R
  refine ACall_body tab_ok Tryd.func96 rfl rfl rfl (by kernel_rfl) (Nat.le_of_ble_eq_true rfl) ?_
  repeat (first | refine go_ ?_ | intro _)
  rename_i r
  refine Or.inl ⟨⟨_, Tryd.func44, rfl, rfl⟩, ACall.mono ?_ (kl _)⟩
  rintro _ S1 ⟨p2, p3, rfl, hS1⟩
  subst S1
  repeat (first | refine go_ ?_ | intro _)
  refine AW_rangeOut (xs := (linesG l (k + 1)).map encLn) (α := List En) (st := fun i Sc => .cells r [.bool false] :: .cells q [.fn (.yield lp) [] []] :: .cells pi [.int .i64 (k : Nat)] :: c :: numE :: Sc) (inv := fun i Sc => J (i0 + i) Sc) (Q := fun x S => x = .ret ∧ ∃ Sc', ZZ Sc' ∧ S = .cells r [.bool false] :: .cells q [.fn (.yield lp) [] []] :: .cells pi [.int .i64 (k : Nat)] :: c :: numE :: Sc') ([.cells p2 [.sl 15 (encZs l) .no], .cells p3 [.int .i64 ((k + 1 : Nat) : Int)], numE]) ([]) (Sc) rfl (hgen p2 p3) ?_ ?_ ?_ ?_ ?_ ?_
  · refine SLe.trans (SLe.dup (e := numE) (.tail _ (.tail _ (.tail _ (.tail _ (.tail _ (.tail _ (.head _))))))) rfl) (SLe.perm ?_)
    rw [List.append_nil]
    exact (List.reverse_perm [numE, .cells p3 [.int .i64 ((k + 1 : Nat) : Int)], .cells p2 [.sl 15 (encZs l) .no]]).append_right _
  · exact hJ
  · intro i args h
    rw [List.getElem?_map] at h
    obtain ⟨x, _, rfl⟩ := Option.map_eq_some_iff.1 h
    rfl
  · intro lp2 R1 i args Sc3 hl hx hz
    rw [List.getElem?_map] at hx
    obtain ⟨u, hu, rfl⟩ := Option.map_eq_some_iff.1 hx
    repeat (first | refine ga_ ?_ | intro _)
    rename_i R2 hl2
    refine AYield_weak (SLe.swapIn [.cells r [.bool false], .cells q [.fn (.yield lp) [] []], .cells pi [.int .i64 (k : Nat)], c, numE] Sc3 R2) ?_
    refine AYield.mono ?_ (hF (.cells r [.bool false] :: .cells q [.fn (.yield lp) [] []] :: .cells pi [.int .i64 (k : Nat)] :: c :: numE :: R2) i (encLn u) Sc3 (by rw [List.getElem?_map, hu]; rfl) hz)
    rintro _ S3 ⟨w, Sc4, rfl, rfl, hj4, hz4⟩
    cases w with
    | false =>
      repeat (first | refine ga_ ?_ | intro _)
      exact AW_ret ⟨_, ⟨rfl, Sc4, hz4 rfl, rfl⟩, SLe.swapIn [.cells r [.bool false], .cells q [.fn (.yield lp) [] []], .cells pi [.int .i64 (k : Nat)], c, numE] R2 Sc4⟩
    | true =>
      repeat (first | refine ga_ ?_ | intro _)
      exact ⟨Sc4, hj4 rfl, SLe.swapIn [.cells r [.bool false], .cells q [.fn (.yield lp) [] []], .cells pi [.int .i64 (k : Nat)], c, numE] R2 Sc4⟩
  · intro d Sc5 hz5
    repeat (first | refine ga_ ?_ | intro _)
    refine AW_ret ?_
    refine unmarks_end (A := .cells r [.bool true] :: .cells q [.fn (.yield lp) [] []] :: .cells pi [.int .i64 (k : Nat)] :: c :: numE :: Sc5) (ds := [d]) ?_
    refine ⟨rfl, 0, _, rfl, ⟨Nat.le_of_ble_eq_true rfl, Nat.le_of_ble_eq_true rfl⟩, .bool true, _, AVle.eq rfl, SLe.tail SLe.rfl, true, Sc5, rfl, rfl, fun _ => ?_, fun h => by cases h⟩
    rw [List.length_map] at hz5
    exact hz5
  · rintro d x S ⟨rfl, Sc5, hz5, rfl⟩ _
    repeat (first | refine ga_ ?_ | intro _)
    refine unmarks_end (A := .cells r [.bool false] :: .cells q [.fn (.yield lp) [] []] :: .cells pi [.int .i64 (k : Nat)] :: c :: numE :: Sc5) (ds := [d]) ?_
    exact ⟨rfl, 0, _, rfl, ⟨Nat.le_of_ble_eq_true rfl, Nat.le_of_ble_eq_true rfl⟩, .bool false, _, AVle.eq rfl, SLe.tail SLe.rfl, false, Sc5, rfl, rfl, (fun h => by cases h), fun _ => hz5⟩
end Go.Proofs.YtnkmjbjpmocnbaaDoor
/-
  A statement's lines: the generator. Own work.
-/
namespace Go.Proofs.YtnkmjbjpmocnbaaDoor
open Go.Aw Go.RowKit
set_option maxHeartbeats 4000000

/-- what a statement's walk needs -/
structure OkZ (st : Z) (h : Nat) : Prop where
  r : rightZ st h = true
  o : okZ st
  s : szZ st ≤ 1048576
  c : cntZ st ≤ 3000
theorem szZ_eq (z : Z) : szZ z = z.s.length + szY z.t + szT z.x + szT z.y + szZs z.l + szZs z.m + 1 := by cases z; rw [szZ]; rfl
theorem stmt_gen (st : Z) (k h pi ps : Nat) (hO : OkZ st h) (hk : k ≤ 40) (gl : st.op = 4 ∨ st.op = 5 → linesAt st.l (k + 1)) (gm : st.op = 4 → linesAt st.m (k + 1)) : AGen Tryd.prog (.fn (.func 95) [] [.ptr pi 0, .ptr ps 0]) [.cells pi [.int .i64 (k : Nat)], .cells ps (cZ st), numE] ((stmtG st k).map encLn) := by
  intro l J ZZ Sc hY h0
  obtain ⟨hr, ho, hs, hc⟩ := hO
  have hop := rightZ_op hr
  have hll := fun ho => rightZ_lists hr ho
  have es := szZ_eq st
  have ec : cntZ st = cntY st.t + cntT st.x + cntT st.y + cntZs st.l + cntZs st.m + 1 := by cases st; rw [cntZ]; rfl
  have ho' := (okZ_eq st).1 ho
  have lx := showG_cnt st.x ho'.1
  have ly := showG_cnt st.y ho'.2.1
  have lt := showY_len st.t
  have kx := fun (hx : rightG st.x 60 = true) R hG => showExpr_ok 60 st.x R hx ho'.1 (by omega) hG
  have ky := fun (hy : rightG st.y 60 = true) R hG => showExpr_ok 60 st.y R hy ho'.2.1 (by omega) hG
  have kt := fun (ht : rightY st.t 60 = true) R => showType_ok 60 st.t R ht (by omega) (by omega)
  have e0 := stmtG_eq st k
  rw [rightZ_eq] at hr
  unfold stmtB at hr
  refine ⟨⟨_, Tryd.func95, rfl, rfl⟩, ?_⟩
  show ACall Tryd.prog 95 [.fn (.yield l) [] [], .ptr pi 0, .ptr ps 0] (.cells pi [.int .i64 (k : Nat)] :: .cells ps (cZ st) :: numE :: Sc) _
  refine ACall_body tab_ok Tryd.func95 rfl rfl rfl (by kernel_rfl) (Nat.le_of_ble_eq_true rfl) ?_
  repeat (first | refine ga_ ?_ | intro _)
  rename_i q
  by_cases q1 : st.op = 1
  · rw [if_pos q1] at hr e0
    simp only [Bool.and_eq_true] at hr
    have e : (stmtG st k).map encLn = [encLn (k, [118, 97, 114, 32] ++ (st.s ++ ([32] ++ showY st.t)))] := by rw [e0]; rfl
    refine AW_true (b := decide (st.op = 1)) rfl (by exact decide_eq_true q1) ?_
    refine AW_draw tab_ok mixed 10 (by first | rfl | kernel_rfl) ?_
    repeat (first | refine ga_ ?_ | intro _)
    refine cat_ ?_
    repeat (first | refine ga_ ?_ | intro _)
    refine cat_ ?_
    repeat (first | refine ga_ ?_ | intro _)
    apply call_step
    · rfl
    · exact Or.inl ⟨⟨_, Tryd.func42, rfl, rfl⟩, kt hr.2.1 _⟩
    repeat (first | refine ga_ ?_ | intro _)
    refine cat_ ?_
    repeat (first | refine ga_ ?_ | intro _)
    refine AYield_args (args' := encLn (k, [118, 97, 114, 32] ++ (st.s ++ ([32] ++ showY st.t)))) ?_ ⟨AVle.refl _, AVle.eq (congrArg AV.str (show (([118, 97, 114, 32] ++ st.s) ++ [32]) ++ showY st.t = _ by simp)), trivial⟩
    refine AYield.mono ?_ (hY [.cells q [.fn (.yield l) [] []], .cells pi [.int .i64 (k : Nat)], .cells ps (cZ st), numE] 0 (encLn (k, [118, 97, 114, 32] ++ (st.s ++ ([32] ++ showY st.t)))) Sc (by rw [e]; rfl) h0)
    rintro _ S1 ⟨w, Sc1, rfl, rfl, hj, hz⟩
    repeat (first | refine ga_ ?_ | intro _)
    refine ⟨_, _, AVle.refl _, SLe.rfl, Sc1, SLe.tail (SLe.tail (SLe.tail (SLe.tail SLe.rfl))), ?_⟩
    cases w with
    | true => exact .inl (by rw [e]; exact hj rfl)
    | false => exact .inr (hz rfl)
  refine AW_false (b := decide (st.op = 1)) rfl (by exact decide_eq_false q1) ?_
  rw [if_neg q1] at hr e0
  repeat (first | refine ga_ ?_ | intro _)
  by_cases q2 : st.op = 2
  · rw [if_pos q2] at hr e0
    simp only [Bool.and_eq_true] at hr
    have e : (stmtG st k).map encLn = [encLn (k, st.s ++ ([32, 58, 61, 32] ++ showG st.x))] := by rw [e0]; rfl
    refine AW_true (b := decide (st.op = 2)) rfl (by exact decide_eq_true q2) ?_
    refine AW_draw tab_ok mixed 9 (by first | rfl | kernel_rfl) ?_
    repeat (first | refine ga_ ?_ | intro _)
    refine cat_ ?_
    repeat (first | refine ga_ ?_ | intro _)
    apply call_step
    · rfl
    · exact Or.inl ⟨⟨_, Tryd.func27, rfl, rfl⟩, kx hr.2.1 _ (numG_of (.tail _ (.tail _ (.tail _ (.head _)))))⟩
    repeat (first | refine ga_ ?_ | intro _)
    refine cat_ ?_
    repeat (first | refine ga_ ?_ | intro _)
    refine AYield_args (args' := encLn (k, st.s ++ ([32, 58, 61, 32] ++ showG st.x))) ?_ ⟨AVle.refl _, AVle.eq (congrArg AV.str (show (st.s ++ [32, 58, 61, 32]) ++ showG st.x = _ by simp)), trivial⟩
    refine AYield.mono ?_ (hY [.cells q [.fn (.yield l) [] []], .cells pi [.int .i64 (k : Nat)], .cells ps (cZ st), numE] 0 (encLn (k, st.s ++ ([32, 58, 61, 32] ++ showG st.x))) Sc (by rw [e]; rfl) h0)
    rintro _ S1 ⟨w, Sc1, rfl, rfl, hj, hz⟩
    repeat (first | refine ga_ ?_ | intro _)
    refine ⟨_, _, AVle.refl _, SLe.rfl, Sc1, SLe.tail (SLe.tail (SLe.tail (SLe.tail SLe.rfl))), ?_⟩
    cases w with
    | true => exact .inl (by rw [e]; exact hj rfl)
    | false => exact .inr (hz rfl)
  refine AW_false (b := decide (st.op = 2)) rfl (by exact decide_eq_false q2) ?_
  rw [if_neg q2] at hr e0
  repeat (first | refine ga_ ?_ | intro _)
  by_cases q3 : st.op = 3
  · rw [if_pos q3] at hr e0
    simp only [Bool.and_eq_true] at hr
    have e : (stmtG st k).map encLn = [encLn (k, showG st.x ++ ([32, 61, 32] ++ showG st.y))] := by rw [e0]; rfl
    refine AW_true (b := decide (st.op = 3)) rfl (by exact decide_eq_true q3) ?_
    refine AW_draw tab_ok mixed 10 (by first | rfl | kernel_rfl) ?_
    repeat (first | refine ga_ ?_ | intro _)
    apply call_step
    · rfl
    · exact Or.inl ⟨⟨_, Tryd.func27, rfl, rfl⟩, kx hr.1 _ (numG_of (.tail _ (.tail _ (.tail _ (.head _)))))⟩
    repeat (first | refine ga_ ?_ | intro _)
    refine cat_ ?_
    repeat (first | refine ga_ ?_ | intro _)
    apply call_step
    · rfl
    · exact Or.inl ⟨⟨_, Tryd.func27, rfl, rfl⟩, ky hr.2.1 _ (numG_of (.tail _ (.tail _ (.tail _ (.head _)))))⟩
    repeat (first | refine ga_ ?_ | intro _)
    refine cat_ ?_
    repeat (first | refine ga_ ?_ | intro _)
    refine AYield_args (args' := encLn (k, showG st.x ++ ([32, 61, 32] ++ showG st.y))) ?_ ⟨AVle.refl _, AVle.eq (congrArg AV.str (show (showG st.x ++ [32, 61, 32]) ++ showG st.y = _ by simp)), trivial⟩
    refine AYield.mono ?_ (hY [.cells q [.fn (.yield l) [] []], .cells pi [.int .i64 (k : Nat)], .cells ps (cZ st), numE] 0 (encLn (k, showG st.x ++ ([32, 61, 32] ++ showG st.y))) Sc (by rw [e]; rfl) h0)
    rintro _ S1 ⟨w, Sc1, rfl, rfl, hj, hz⟩
    repeat (first | refine ga_ ?_ | intro _)
    refine ⟨_, _, AVle.refl _, SLe.rfl, Sc1, SLe.tail (SLe.tail (SLe.tail (SLe.tail SLe.rfl))), ?_⟩
    cases w with
    | true => exact .inl (by rw [e]; exact hj rfl)
    | false => exact .inr (hz rfl)
  refine AW_false (b := decide (st.op = 3)) rfl (by exact decide_eq_false q3) ?_
  rw [if_neg q3] at hr e0
  repeat (first | refine ga_ ?_ | intro _)
  by_cases q6 : st.op = 6
  · rw [if_neg (by omega), if_neg (by omega), if_pos q6] at hr
    rw [if_pos q6] at e0
    simp only [Bool.and_eq_true, Bool.or_eq_true] at hr
    have e : (stmtG st k).map encLn = [encLn (k, bodyX st.x)] := by rw [e0]; rfl
    refine AW_true (b := decide (st.op = 6)) rfl (by exact decide_eq_true q6) ?_
    repeat (first | refine ga_ ?_ | intro _)
    refine AW_iff (0 < st.x.op) rfl (by first | (simp; done) | (simp <;> omega) | decide) (fun h => ?_) (fun h => ?_)
    · have hxp := h
      have hx : rightG st.x 60 = true := by
        rcases hr.1 with h | h
        · exact h
        · unfold noX at h
          simp only [Bool.and_eq_true, decide_eq_true_eq] at h
          omega
      have eb : bodyX st.x = [114, 101, 116, 117, 114, 110] ++ ([32] ++ showG st.x) := by rw [bodyX, if_pos hxp]
      repeat (first | refine ga_ ?_ | intro _)
      refine Or.inl ⟨⟨_, Tryd.func27, rfl, rfl⟩, ACall.mono ?_ (kx hx _ (numG_of (.tail _ (.tail _ (.tail _ (.head _))))))⟩
      rintro _ S1 ⟨rfl, hS1⟩
      subst S1
      repeat (first | refine ga_ ?_ | intro _)
      refine cat_ ?_
      repeat (first | refine ga_ ?_ | intro _)
      refine cat_ ?_
      repeat (first | refine ga_ ?_ | intro _)
      rw [eb] at e
      refine AYield_args (args' := encLn (k, [114, 101, 116, 117, 114, 110] ++ ([32] ++ showG st.x))) ?_ ⟨AVle.refl _, AVle.eq (congrArg AV.str (show [114, 101, 116, 117, 114, 110] ++ ([32] ++ showG st.x) = _ by simp)), trivial⟩
      refine AYield.mono ?_ (hY [.cells q [.fn (.yield l) [] []], .cells pi [.int .i64 (k : Nat)], .cells ps (cZ st), numE] 0 (encLn (k, [114, 101, 116, 117, 114, 110] ++ ([32] ++ showG st.x))) Sc (by rw [e]; rfl) h0)
      rintro _ S1 ⟨w, Sc1, rfl, rfl, hj, hz⟩
      repeat (first | refine ga_ ?_ | intro _)
      refine ⟨_, _, AVle.refl _, SLe.rfl, Sc1, SLe.tail (SLe.tail (SLe.tail (SLe.tail SLe.rfl))), ?_⟩
      cases w with
      | true => exact .inl (by rw [e]; exact hj rfl)
      | false => exact .inr (hz rfl)
    · have eb : bodyX st.x = [114, 101, 116, 117, 114, 110] := by rw [bodyX, if_neg h]; rfl
      rw [eb] at e
      repeat (first | refine ga_ ?_ | intro _)
      refine AYield_args (args' := encLn (k, [114, 101, 116, 117, 114, 110])) ?_ ⟨AVle.refl _, AVle.eq (congrArg AV.str (show [114, 101, 116, 117, 114, 110] = _ by simp)), trivial⟩
      refine AYield.mono ?_ (hY [.cells q [.fn (.yield l) [] []], .cells pi [.int .i64 (k : Nat)], .cells ps (cZ st), numE] 0 (encLn (k, [114, 101, 116, 117, 114, 110])) Sc (by rw [e]; rfl) h0)
      rintro _ S1 ⟨w, Sc1, rfl, rfl, hj, hz⟩
      repeat (first | refine ga_ ?_ | intro _)
      refine ⟨_, _, AVle.refl _, SLe.rfl, Sc1, SLe.tail (SLe.tail (SLe.tail (SLe.tail SLe.rfl))), ?_⟩
      cases w with
      | true => exact .inl (by rw [e]; exact hj rfl)
      | false => exact .inr (hz rfl)
  refine AW_false (b := decide (st.op = 6)) rfl (by exact decide_eq_false q6) ?_
  rw [if_neg q6] at e0
  repeat (first | refine ga_ ?_ | intro _)
  by_cases q7 : st.op = 7
  · rw [if_neg (by omega), if_neg (by omega), if_neg q6, if_pos q7] at hr
    rw [if_pos q7] at e0
    simp only [Bool.and_eq_true] at hr
    have e : (stmtG st k).map encLn = [encLn (k, showG st.x)] := by rw [e0]; rfl
    refine AW_true (b := decide (st.op = 7)) rfl (by exact decide_eq_true q7) ?_
    refine AW_draw tab_ok mixed 5 (by first | rfl | kernel_rfl) ?_
    repeat (first | refine ga_ ?_ | intro _)
    apply call_step
    · rfl
    · exact Or.inl ⟨⟨_, Tryd.func27, rfl, rfl⟩, kx hr.1 _ (numG_of (.tail _ (.tail _ (.tail _ (.head _)))))⟩
    repeat (first | refine ga_ ?_ | intro _)
    refine AYield_args (args' := encLn (k, showG st.x)) ?_ ⟨AVle.refl _, AVle.eq (congrArg AV.str (show showG st.x = _ by simp)), trivial⟩
    refine AYield.mono ?_ (hY [.cells q [.fn (.yield l) [] []], .cells pi [.int .i64 (k : Nat)], .cells ps (cZ st), numE] 0 (encLn (k, showG st.x)) Sc (by rw [e]; rfl) h0)
    rintro _ S1 ⟨w, Sc1, rfl, rfl, hj, hz⟩
    repeat (first | refine ga_ ?_ | intro _)
    refine ⟨_, _, AVle.refl _, SLe.rfl, Sc1, SLe.tail (SLe.tail (SLe.tail (SLe.tail SLe.rfl))), ?_⟩
    cases w with
    | true => exact .inl (by rw [e]; exact hj rfl)
    | false => exact .inr (hz rfl)
  refine AW_false (b := decide (st.op = 7)) rfl (by exact decide_eq_false q7) ?_
  rw [if_neg q7] at e0
  repeat (first | refine ga_ ?_ | intro _)
  by_cases q8 : st.op = 8
  · rw [if_pos q8] at e0
    have e : (stmtG st k).map encLn = [encLn (k, [98, 114, 101, 97, 107])] := by rw [e0]; rfl
    refine AW_true (b := decide (st.op = 8)) rfl (by exact decide_eq_true q8) ?_
    repeat (first | refine ga_ ?_ | intro _)
    refine AYield_args (args' := encLn (k, [98, 114, 101, 97, 107])) ?_ ⟨AVle.refl _, AVle.eq (congrArg AV.str (show [98, 114, 101, 97, 107] = _ by simp)), trivial⟩
    refine AYield.mono ?_ (hY [.cells q [.fn (.yield l) [] []], .cells pi [.int .i64 (k : Nat)], .cells ps (cZ st), numE] 0 (encLn (k, [98, 114, 101, 97, 107])) Sc (by rw [e]; rfl) h0)
    rintro _ S1 ⟨w, Sc1, rfl, rfl, hj, hz⟩
    repeat (first | refine ga_ ?_ | intro _)
    refine ⟨_, _, AVle.refl _, SLe.rfl, Sc1, SLe.tail (SLe.tail (SLe.tail (SLe.tail SLe.rfl))), ?_⟩
    cases w with
    | true => exact .inl (by rw [e]; exact hj rfl)
    | false => exact .inr (hz rfl)
  refine AW_false (b := decide (st.op = 8)) rfl (by exact decide_eq_false q8) ?_
  rw [if_neg q8] at e0
  repeat (first | refine ga_ ?_ | intro _)
  by_cases q5 : st.op = 5
  · rw [if_pos q5] at e0
    obtain ⟨hx, _, _⟩ := hll (.inr q5)
    refine AW_true (b := decide (st.op = 5)) rfl (by exact decide_eq_true q5) ?_
    obtain ⟨n, hn⟩ : ∃ n, n = (linesG st.l (k + 1)).length := ⟨_, rfl⟩
    have e : (stmtG st k).map encLn = encLn (k, [102, 111, 114, 32] ++ (showG st.x ++ [32, 123])) :: ((linesG st.l (k + 1)).map encLn ++ [encLn (k, [125])]) := by rw [e0]; simp
    have hF : Feed l ((linesG st.l (k + 1)).map encLn) 1 J ZZ := fun o j args Sc hx hj => hY o (1 + j) args Sc (by rw [e, Nat.add_comm 1 j, List.getElem?_cons_succ, List.getElem?_append_left (List.getElem?_eq_some_iff.1 hx).1, hx]) hj
    have hE : ((stmtG st k).map encLn)[1 + n]? = some (encLn (k, [125])) := by rw [e, Nat.add_comm 1 n, List.getElem?_cons_succ, List.getElem?_append_right (by simp [hn])]; simp [hn]
    have hL : ((stmtG st k).map encLn).length = 1 + n + 1 := by rw [e]; simp [hn]; omega
    repeat (first | refine ga_ ?_ | intro _)
    refine AW_segs tab_ok mixed [7, 0, 4, 0, 0] (by first | rfl | kernel_rfl) ?_
    repeat (first | refine ga_ ?_ | intro _)
    apply call_step
    · rfl
    · exact Or.inl ⟨⟨_, Tryd.func27, rfl, rfl⟩, kx hx _ (numG_of (.tail _ (.tail _ (.tail _ (.head _)))))⟩
    repeat (first | refine ga_ ?_ | intro _)
    refine cat_ ?_
    repeat (first | refine ga_ ?_ | intro _)
    refine cat_ ?_
    repeat (first | refine ga_ ?_ | intro _)
    refine AYield_args (args' := encLn (k, [102, 111, 114, 32] ++ (showG st.x ++ [32, 123]))) ?_ ⟨AVle.refl _, AVle.eq (congrArg AV.str (show ([102, 111, 114, 32] ++ showG st.x) ++ [32, 123] = _ by simp)), trivial⟩
    refine AYield.mono ?_ (hY [.cells q [.fn (.yield l) [] []], .cells pi [.int .i64 (k : Nat)], .cells ps (cZ st), numE] 0 (encLn (k, [102, 111, 114, 32] ++ (showG st.x ++ [32, 123]))) Sc (by rw [e]; rfl) h0)
    rintro _ S1 ⟨w, Sc1, rfl, rfl, hj, hz⟩
    cases w with
    | false =>
      repeat (first | refine ga_ ?_ | intro _)
      exact ⟨_, _, AVle.refl _, SLe.rfl, Sc1, SLe.tail (SLe.tail (SLe.tail (SLe.tail SLe.rfl))), .inr (hz rfl)⟩
    | true =>
    repeat (first | refine ga_ ?_ | intro _)
    refine Or.inl ⟨⟨_, Tryd.func96, rfl, rfl⟩, ACall.mono ?_ (within_ok st.l k pi q l (.cells ps (cZ st)) 1 J ZZ Sc1 (by omega) (gl (.inr q5)) hF (hj rfl))⟩
    rintro _ S2 ⟨b, Sc2, rfl, rfl, hjb, hzb⟩
    rw [← hn] at hjb
    cases b with
    | false =>
      repeat (first | refine ga_ ?_ | intro _)
      exact ⟨_, _, AVle.refl _, SLe.rfl, Sc2, SLe.tail (SLe.tail (SLe.tail (SLe.tail SLe.rfl))), .inr (hzb rfl)⟩
    | true =>
    repeat (first | refine ga_ ?_ | intro _)
    refine AYield.mono ?_ (hY [.cells q [.fn (.yield l) [] []], .cells pi [.int .i64 (k : Nat)], .cells ps (cZ st), numE] (1 + n) (encLn (k, [125])) Sc2 hE (hjb rfl))
    rintro _ S1 ⟨w, Sc3, rfl, rfl, hj3, hz3⟩
    repeat (first | refine ga_ ?_ | intro _)
    refine ⟨_, _, AVle.refl _, SLe.rfl, Sc3, SLe.tail (SLe.tail (SLe.tail (SLe.tail SLe.rfl))), ?_⟩
    cases w with
    | true => exact .inl (by rw [hL]; exact hj3 rfl)
    | false => exact .inr (hz3 rfl)
  refine AW_false (b := decide (st.op = 5)) rfl (by exact decide_eq_false q5) ?_
  rw [if_neg q5] at e0
  have q4 : st.op = 4 := by omega
  obtain ⟨hx, _, _⟩ := hll (.inl q4)
  obtain ⟨n, hn⟩ : ∃ n, n = (linesG st.l (k + 1)).length := ⟨_, rfl⟩
  have e : (stmtG st k).map encLn = encLn (k, [105, 102, 32] ++ (showG st.x ++ [32, 123])) :: ((linesG st.l (k + 1)).map encLn ++ ((if st.m.length = 0 then [] else encLn (k, [125, 32, 101, 108, 115, 101, 32, 123]) :: (linesG st.m (k + 1)).map encLn) ++ [encLn (k, [125])])) := by
    rw [e0]
    by_cases hm : st.m.length = 0
    · rw [if_pos hm, if_pos hm]; simp
    · rw [if_neg hm, if_neg hm]; simp
  have hF : Feed l ((linesG st.l (k + 1)).map encLn) 1 J ZZ := fun o j args Sc hx hj => hY o (1 + j) args Sc (by rw [e, Nat.add_comm 1 j, List.getElem?_cons_succ, List.getElem?_append_left (List.getElem?_eq_some_iff.1 hx).1, hx]) hj
  repeat (first | refine ga_ ?_ | intro _)
  refine AW_segs tab_ok mixed [7, 0, 5, 0, 0, 0] (by first | rfl | kernel_rfl) ?_
  repeat (first | refine ga_ ?_ | intro _)
  apply call_step
  · rfl
  · exact Or.inl ⟨⟨_, Tryd.func27, rfl, rfl⟩, kx hx _ (numG_of (.tail _ (.tail _ (.tail _ (.head _)))))⟩
  repeat (first | refine ga_ ?_ | intro _)
  refine cat_ ?_
  repeat (first | refine ga_ ?_ | intro _)
  refine cat_ ?_
  repeat (first | refine ga_ ?_ | intro _)
  refine AYield_args (args' := encLn (k, [105, 102, 32] ++ (showG st.x ++ [32, 123]))) ?_ ⟨AVle.refl _, AVle.eq (congrArg AV.str (show ([105, 102, 32] ++ showG st.x) ++ [32, 123] = _ by simp)), trivial⟩
  refine AYield.mono ?_ (hY [.cells q [.fn (.yield l) [] []], .cells pi [.int .i64 (k : Nat)], .cells ps (cZ st), numE] 0 (encLn (k, [105, 102, 32] ++ (showG st.x ++ [32, 123]))) Sc (by rw [e]; rfl) h0)
  rintro _ S1 ⟨w, Sc1, rfl, rfl, hj, hz⟩
  cases w with
  | false =>
    repeat (first | refine ga_ ?_ | intro _)
    exact AW_ret ⟨_, _, AVle.refl _, SLe.rfl, Sc1, SLe.tail (SLe.tail (SLe.tail (SLe.tail SLe.rfl))), .inr (hz rfl)⟩
  | true =>
  repeat (first | refine ga_ ?_ | intro _)
  refine Or.inl ⟨⟨_, Tryd.func96, rfl, rfl⟩, ACall.mono ?_ (within_ok st.l k pi q l (.cells ps (cZ st)) 1 J ZZ Sc1 (by omega) (gl (.inl q4)) hF (hj rfl))⟩
  rintro _ S2 ⟨b, Sc2, rfl, rfl, hjb, hzb⟩
  rw [← hn] at hjb
  cases b with
  | false =>
    repeat (first | refine ga_ ?_ | intro _)
    exact AW_ret ⟨_, _, AVle.refl _, SLe.rfl, Sc2, SLe.tail (SLe.tail (SLe.tail (SLe.tail SLe.rfl))), .inr (hzb rfl)⟩
  | true =>
  have hj2 := hjb rfl
  repeat (first | refine ga_ ?_ | intro _)
  refine gsplit (0 < st.m.length) (by first | (simp; done) | (simp <;> omega) | decide) (fun h => ?_) (fun h => ?_)
  · have hm := h
    rw [if_neg (by omega)] at e
    obtain ⟨n2, hn2⟩ : ∃ n, n = (linesG st.m (k + 1)).length := ⟨_, rfl⟩
    have hE1 : ((stmtG st k).map encLn)[1 + n]? = some (encLn (k, [125, 32, 101, 108, 115, 101, 32, 123])) := by rw [e, Nat.add_comm 1 n, List.getElem?_cons_succ, List.getElem?_append_right (by simp [hn])]; simp [hn]
    have hF2 : Feed l ((linesG st.m (k + 1)).map encLn) (1 + n + 1) J ZZ := fun o j args Sc hx hj => hY o (1 + n + 1 + j) args Sc (by rw [e, show 1 + n + 1 + j = (n + (j + 1)) + 1 by omega, List.getElem?_cons_succ, List.getElem?_append_right (by simp [hn]), List.length_map, ← hn, Nat.add_sub_cancel_left, List.cons_append, List.getElem?_cons_succ, List.getElem?_append_left (List.getElem?_eq_some_iff.1 hx).1, hx]) hj
    have hE : ((stmtG st k).map encLn)[1 + n + 1 + n2]? = some (encLn (k, [125])) := by rw [e, show 1 + n + 1 + n2 = (n + (n2 + 1)) + 1 by omega, List.getElem?_cons_succ, List.getElem?_append_right (by simp [hn]), List.length_map, ← hn, Nat.add_sub_cancel_left, List.cons_append, List.getElem?_cons_succ, List.getElem?_append_right (by simp [hn2])]; simp [hn2]
    have hL : ((stmtG st k).map encLn).length = 1 + n + 1 + n2 + 1 := by rw [e]; simp [hn, hn2]; omega
    repeat (first | refine ga_ ?_ | intro _)
    refine AYield.mono ?_ (hY [.cells q [.fn (.yield l) [] []], .cells pi [.int .i64 (k : Nat)], .cells ps (cZ st), numE] (1 + n) (encLn (k, [125, 32, 101, 108, 115, 101, 32, 123])) Sc2 hE1 hj2)
    rintro _ S1 ⟨w, Sc3, rfl, rfl, hj3, hz3⟩
    cases w with
    | false =>
      repeat (first | refine ga_ ?_ | intro _)
      exact AW_ret ⟨_, _, AVle.refl _, SLe.rfl, Sc3, SLe.tail (SLe.tail (SLe.tail (SLe.tail SLe.rfl))), .inr (hz3 rfl)⟩
    | true =>
    repeat (first | refine ga_ ?_ | intro _)
    refine Or.inl ⟨⟨_, Tryd.func96, rfl, rfl⟩, ACall.mono ?_ (within_ok st.m k pi q l (.cells ps (cZ st)) (1 + n + 1) J ZZ Sc3 (by omega) (gm q4) hF2 (hj3 rfl))⟩
    rintro _ S3 ⟨b, Sc4, rfl, rfl, hjc, hzc⟩
    rw [← hn2] at hjc
    cases b with
    | false =>
      repeat (first | refine ga_ ?_ | intro _)
      exact AW_ret ⟨_, _, AVle.refl _, SLe.rfl, Sc4, SLe.tail (SLe.tail (SLe.tail (SLe.tail SLe.rfl))), .inr (hzc rfl)⟩
    | true =>
    repeat (first | refine ga_ ?_ | intro _)
    refine AYield.mono ?_ (hY [.cells q [.fn (.yield l) [] []], .cells pi [.int .i64 (k : Nat)], .cells ps (cZ st), numE] (1 + n + 1 + n2) (encLn (k, [125])) Sc4 hE (hjc rfl))
    rintro _ S1 ⟨w, Sc5, rfl, rfl, hj5, hz5⟩
    repeat (first | refine ga_ ?_ | intro _)
    refine ⟨_, _, AVle.refl _, SLe.rfl, Sc5, SLe.tail (SLe.tail (SLe.tail (SLe.tail SLe.rfl))), ?_⟩
    cases w with
    | true => exact .inl (by rw [hL]; exact hj5 rfl)
    | false => exact .inr (hz5 rfl)
  · rw [if_pos (by omega)] at e
    have hE : ((stmtG st k).map encLn)[1 + n]? = some (encLn (k, [125])) := by rw [e, Nat.add_comm 1 n, List.getElem?_cons_succ, List.getElem?_append_right (by simp [hn])]; simp [hn]
    have hL : ((stmtG st k).map encLn).length = 1 + n + 1 := by rw [e]; simp [hn]; omega
    repeat (first | refine ga_ ?_ | intro _)
    refine AYield.mono ?_ (hY [.cells q [.fn (.yield l) [] []], .cells pi [.int .i64 (k : Nat)], .cells ps (cZ st), numE] (1 + n) (encLn (k, [125])) Sc2 hE hj2)
    rintro _ S1 ⟨w, Sc3, rfl, rfl, hj3, hz3⟩
    repeat (first | refine ga_ ?_ | intro _)
    refine ⟨_, _, AVle.refl _, SLe.rfl, Sc3, SLe.tail (SLe.tail (SLe.tail (SLe.tail SLe.rfl))), ?_⟩
    cases w with
    | true => exact .inl (by rw [hL]; exact hj3 rfl)
    | false => exact .inr (hz3 rfl)
end Go.Proofs.YtnkmjbjpmocnbaaDoor
/-
  Statements' lines: the generator. Own work.
-/
namespace Go.Proofs.YtnkmjbjpmocnbaaDoor
open Go.Aw Go.RowKit
set_option maxHeartbeats 4000000

theorem rightZs_mem {l : List Z} {hn : Nat} {x : Z} (h : rightZs l hn = true) (hx : x ∈ l) : ∃ h', hn = h' + 1 ∧ rightZ x h' = true := by
  cases hn with
  | zero =>
    cases l with
    | nil => cases hx
    | cons a r => rw [rightZs] at h; cases h
  | succ h' => exact ⟨h', rfl, List.all_eq_true.1 ((rightZs_all l h').symm.trans h) x hx⟩
theorem lines_gen (n : Nat) : ∀ (l : List Z) (k hn : Nat), cntZs l ≤ n → n ≤ 3000 → rightZs l hn = true → okZs l → szZs l ≤ 1048576 → k + hn ≤ 41 → linesAt l k := by
  induction n using Nat.strongRecOn with
  | _ n ih =>
  intro l k hn hc hn3 hr ho hs hk p2 p3 lp J ZZ Sc hY h0
  have hll := len_cntZs l
  refine ⟨⟨_, Tryd.func73, rfl, rfl⟩, ?_⟩
  show ACall Tryd.prog 73 [.fn (.yield lp) [] [], .ptr p2 0, .ptr p3 0] (.cells p2 [.sl 15 (encZs l) .no] :: .cells p3 [.int .i64 (k : Nat)] :: numE :: Sc) _
  refine ACall_body tab_ok Tryd.func73 rfl rfl rfl (by kernel_rfl) (Nat.le_of_ble_eq_true rfl) ?_
  repeat (first | refine go_ ?_ | intro _)
  rename_i q
  refine AW_for (α := Nat × List Nat × List En) (fun z => ⟨[(1, .ptr p2 0), (2, .ptr p3 0), (3, .ptr q 0), (8, .sl 15 (encZs l) .no), (9, .int .i64 (l.length : Nat)), (10, .int .i64 (z.1 : Nat))], z.2.1⟩) (fun z => .cells q [.fn (.yield lp) [] []] :: .cells p2 [.sl 15 (encZs l) .no] :: .cells p3 [.int .i64 (k : Nat)] :: numE :: (marks z.2.1 ++ z.2.2)) (fun z => l.length - z.1) (fun z => z.1 ≤ l.length ∧ J (linesG (l.take z.1) k).length z.2.2) ((0, [], Sc)) ?_ (weak_of ?_ rfl ?_) (fun z hz => ?_)
  · exact ⟨Nat.zero_le _, h0⟩
  · repeat (first | exact trivial | refine ⟨(AVle.eq (congrArg (AV.int .i64) (by simp))), ?_⟩ | refine ⟨AVle.refl _, ?_⟩ | refine ⟨AVle.tk, ?_⟩ | refine ⟨AVle.nil, ?_⟩ | refine ⟨AVle.nilFull, ?_⟩ | refine ⟨AVle.eq (congrArg (AV.int .i64) (by first | (simp; done) | (simp; omega) | (rw [wrap_i64 (by first | omega | (simp; omega))]; first | rfl | omega | (simp; done) | (simp; omega)))), ?_⟩)
  · repeat (first | exact SLe.rfl | refine SLe.tail ?_ | refine SLe.full ?_)
  obtain ⟨z, ds, Sc2⟩ := z
  obtain ⟨i1, i2⟩ : z ≤ l.length ∧ J (linesG (l.take z) k).length Sc2 := hz
  repeat (first | refine go_ ?_ | intro _)
  refine AW_iff (z < l.length) rfl (by first | (simp; done) | (simp <;> omega) | decide) (fun h => ?_) (fun h => ?_)
  · have hlt := h
    obtain ⟨x, hx⟩ : ∃ x, x = l[z] := ⟨_, rfl⟩
    have hm : x ∈ l := hx ▸ List.getElem_mem hlt
    obtain ⟨h', rfl, hrx⟩ := rightZs_mem hr hm
    have cx := cntZs_mem hm
    have sx := szZs_mem hm
    have ec : cntZ x = cntY x.t + cntT x.x + cntT x.y + cntZs x.l + cntZs x.m + 1 := by cases x; rw [cntZ]; rfl
    have es := szZ_eq x
    have ox := (okZ_eq x).1 (okZs_mem ho hm)
    have kg := stmt_gen x k h'
    have gl : x.op = 4 ∨ x.op = 5 → linesAt x.l (k + 1) := fun q => ih (cntZs x.l) (by omega) x.l (k + 1) h' (Nat.le_refl _) (by omega) (rightZ_lists hrx q).2.1 ox.2.2.1 (by omega) (by omega)
    have gm : x.op = 4 → linesAt x.m (k + 1) := fun q => ih (cntZs x.m) (by omega) x.m (k + 1) h' (Nat.le_refl _) (by omega) ((rightZ_lists hrx (.inl q)).2.2 q) ox.2.2.2 (by omega) (by omega)
    have e1 : ∀ (i : Nat) (u : Ln), (stmtG x k)[i]? = some u → ((linesG l k).map encLn)[(linesG (l.take z) k).length + i]? = some (encLn u) := fun i u hu => by
      have hi := (List.getElem?_eq_some_iff.1 hu).1
      rw [List.getElem?_map, linesG_at hlt hx, List.getElem?_append_right (by omega), Nat.add_sub_cancel_left, List.getElem?_append_left hi, hu]; rfl
    have e2 : (linesG (l.take (z + 1)) k).length = (linesG (l.take z) k).length + ((stmtG x k).map encLn).length := by
      rw [linesG_take hlt hx, List.length_append, List.length_map]
    repeat (first | refine go_ ?_ | intro _)
    refine at_get (z) (encSt x) (by first | rfl | omega | (rw [wrap_i64 (by omega)]; omega)) (by rw [hx]; exact encZs_get hlt) ?_
    repeat (first | refine go_ ?_ | intro _)
    rename_i b
    refine Or.inl ⟨⟨_, Tryd.func74, rfl, rfl⟩, ACall.mono ?_ (stmt_ok x k _)⟩
    rintro _ S2 ⟨p5, p4, rfl, hS2⟩
    subst S2
    repeat (first | refine go_ ?_ | intro _)
    refine AW_rangeOut (xs := (stmtG x k).map encLn) (α := List En) (st := fun i Sc => .cells q [.fn (.yield lp) [] []] :: .cells p2 [.sl 15 (encZs l) .no] :: .cells p3 [.int .i64 (k : Nat)] :: numE :: Sc) (inv := fun i Sc => J ((linesG (l.take z) k).length + i) Sc) (Q := fun x Sc => x = .ret ∧ ZZ Sc) ([.cells p5 [.int .i64 (k : Nat)], .cells p4 (cZ x), numE]) (marks ds) (Sc2) rfl (stmt_gen x k h' p5 p4 ⟨hrx, okZs_mem ho hm, by omega, by omega⟩ (by omega) gl gm) ?_ ?_ ?_ ?_ ?_ ?_
    · refine SLe.trans (SLe.dup (e := numE) (.tail _ (.tail _ (.tail _ (.tail _ (.tail _ (.tail _ (.head _))))))) rfl) ?_
      refine SLe.trans (SLe.sub ((((List.Sublist.refl _).cons _).cons_cons _).cons_cons _ |>.cons_cons _)) (SLe.perm ?_)
      refine (List.perm_middle (l₁ := [.cells p5 [.int .i64 (k : Nat)], .cells p4 (cZ x)]) (a := numE)).trans ?_
      exact List.perm_append_comm.append_left [numE, .cells p5 [.int .i64 (k : Nat)], .cells p4 (cZ x), .cells q [.fn (.yield lp) [] []], .cells p2 [.sl 15 (encZs l) .no], .cells p3 [.int .i64 (k : Nat)], numE]
    · exact i2
    · intro i args h
      rw [List.getElem?_map] at h
      obtain ⟨x, _, rfl⟩ := Option.map_eq_some_iff.1 h
      rfl
    · intro lp2 R1 i args Sc3 hl hx hz
      rw [List.getElem?_map] at hx
      obtain ⟨u, hu, rfl⟩ := Option.map_eq_some_iff.1 hx
      repeat (first | refine ga_ ?_ | intro _)
      rename_i R2 hl2
      refine AYield_weak (SLe.swapIn [.cells q [.fn (.yield lp) [] []], .cells p2 [.sl 15 (encZs l) .no], .cells p3 [.int .i64 (k : Nat)], numE] Sc3 R2) ?_
      refine AYield.mono ?_ (hY (.cells q [.fn (.yield lp) [] []] :: .cells p2 [.sl 15 (encZs l) .no] :: .cells p3 [.int .i64 (k : Nat)] :: numE :: R2) _ (encLn u) Sc3 (e1 i u hu) hz)
      rintro _ S3 ⟨w, Sc4, rfl, rfl, hj4, hz4⟩
      cases w with
      | false =>
        repeat (first | refine ga_ ?_ | intro _)
        exact AW_ret ⟨Sc4, ⟨rfl, hz4 rfl⟩, SLe.tail (SLe.tail (SLe.tail (SLe.tail (SLe.perm List.perm_append_comm))))⟩
      | true =>
        repeat (first | refine ga_ ?_ | intro _)
        exact ⟨Sc4, hj4 rfl, SLe.swapIn [.cells q [.fn (.yield lp) [] []], .cells p2 [.sl 15 (encZs l) .no], .cells p3 [.int .i64 (k : Nat)], numE] R2 Sc4⟩
    · intro d Sc5 hz5
      repeat (first | refine ga_ ?_ | intro _)
      refine ⟨(z + 1, d :: ds, Sc5), ?_, ?_, weak_of ?_ rfl ?_⟩
      · exact Nat.sub_lt_sub_left hlt (Nat.lt_succ_self z)
      · exact ⟨hlt, by rw [e2]; exact hz5⟩
      · repeat (first | exact trivial | refine ⟨AVle.refl _, ?_⟩ | refine ⟨AVle.tk, ?_⟩ | refine ⟨AVle.nil, ?_⟩ | refine ⟨AVle.nilFull, ?_⟩ | refine ⟨AVle.eq (congrArg (AV.int .i64) (by first | (simp; done) | (simp; omega) | (rw [wrap_i64 (by first | omega | (simp; omega))]; first | rfl | omega | (simp; done) | (simp; omega)))), ?_⟩)
      · exact SLe.swapIn [.cells q [.fn (.yield lp) [] []], .cells p2 [.sl 15 (encZs l) .no], .cells p3 [.int .i64 (k : Nat)], numE] Sc5 (marks (d :: ds))
    · rintro d x Sc5 ⟨rfl, hz5⟩ _
      repeat (first | refine ga_ ?_ | intro _)
      refine unmarks_end (ds := d :: ds) ?_
      exact ⟨_, _, AVle.refl _, SLe.rfl, Sc5, SLe.rfl, .inr hz5⟩
  · have hz : z = l.length := by omega
    subst hz
    rw [List.take_length] at i2
    repeat (first | refine go_ ?_ | intro _)
    refine unmarks_all (A := [.cells q [.fn (.yield lp) [] []], .cells p2 [.sl 15 (encZs l) .no], .cells p3 [.int .i64 (k : Nat)], numE]) (B := Sc2) (ds := ds) ?_
    refine ⟨_, _, AVle.refl _, SLe.rfl, Sc2, SLe.tail (SLe.tail (SLe.tail (SLe.tail SLe.rfl))), .inl ?_⟩
    rw [List.length_map]
    exact i2
end Go.Proofs.YtnkmjbjpmocnbaaDoor
