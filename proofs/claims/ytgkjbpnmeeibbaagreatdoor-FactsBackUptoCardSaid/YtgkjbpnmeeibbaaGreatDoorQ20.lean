/-
  FactsLines, FactsApart: the walks. Own work.
-/
import Derived.Test.YtgkjbpnmeeibbaaGreatDoorQ19
set_option linter.all false
namespace Go.Proofs.YtgkjbpnmeeibbaaGreatDoor
open Go.Aw Go.ChangeShapes Go.WideShapes Go.ChangeAt Go.RowKit Tree
set_option maxHeartbeats 40000000
set_option maxRecDepth 4000
open Rel (V encV encR foldPut Cl riseB eqk_val)

/-! ### what arguments read as -/
def szV (v : V) : Nat := v.s.length + 1
def szR (r : List V) : Nat := (r.map szV).sum + 1
def szL (l : List (List V)) : Nat := (l.map szR).sum + 1
def szA (a : Rows) : Nat := (a.map szL).sum + 1
theorem opens_val (n : Nat) : Opens Tryz.prog n 47 encV (szV) :=
  opens_all (fun n => opens_map (opens_struct Tryz.underlying47 (by kernel_rfl) (opensF_cons (c := 1) rfl (by kernel_rfl) (opens_bool Tryz.underlying4 n) (opensF_cons (c := 1) rfl (by kernel_rfl) (opens_int (k := .i64) Tryz.underlying2 n) (opensF_cons (c := 1) rfl (by kernel_rfl) (opens_str Tryz.underlying9 n) (opensF_nil))))) (fun x => ⟨x.1, x.2.1, x.2.2.1⟩) (fun _ => rfl) (fun x => by first | (simp; omega) | (simp [szV]; omega) | (simp [szV]; done))) n
theorem opens_row (n : Nat) : Opens Tryz.prog n 40 (encR) (szR) := opens_all (fun n => opens_slice (c := 3) Tryz.underlying40 (by kernel_rfl) (by decide) (opens_val n)) n
theorem opens_rows (n : Nat) : Opens Tryz.prog n 42 (Rel.encL) (szL) := opens_all (fun n => opens_slice (c := 1) Tryz.underlying42 (by kernel_rfl) (by decide) (opens_row n)) n
theorem opens_all3 (n : Nat) : Opens Tryz.prog n 29 (fun a : Rows => .sl 1 (a.map Rel.encL) .no) (szA) := opens_all (fun n => opens_slice (c := 1) Tryz.underlying29 (by kernel_rfl) (by decide) (opens_rows n)) n
theorem opens_De (n : Nat) : Opens Tryz.prog n 39 encD (fun d => d.rel.length) := opens_all (fun n => opens_map (opens_struct Tryz.underlying39 (by kernel_rfl) (opensF_cons (c := 1) rfl (by kernel_rfl) (opens_str Tryz.underlying9 n) (opensF_cons (c := 1) rfl (by kernel_rfl) (opens_all (fun n => opens_slice (c := 1) Tryz.underlying36 (by kernel_rfl) (by decide) (opens_str Tryz.underlying9 n)) n) (opensF_cons (c := 1) rfl (by kernel_rfl) (opens_all (fun n => opens_slice (c := 1) Tryz.underlying37 (by kernel_rfl) (by decide) (opens_int (k := .i64) Tryz.underlying3 n)) n) (opensF_cons (c := 1) rfl (by kernel_rfl) (opens_bool Tryz.underlying4 n) (opensF_cons (c := 1) rfl (by kernel_rfl) (opens_bool Tryz.underlying4 n) (opensF_cons (c := 1) rfl (by kernel_rfl) (opens_int (k := .i64) Tryz.underlying3 n) opensF_nil)))))))
  (fun x => De.mk x.1 x.2.1 x.2.2.1 x.2.2.2.1 x.2.2.2.2.1 x.2.2.2.2.2.1) (fun x => rfl) (fun x => by simp; omega)) n
theorem szR_len (r : List V) : r.length ≤ szR r := Nat.le_succ_of_le (sum_ge szV (fun v => by simp [szV]) r)
theorem szL_len (l : List (List V)) : l.length ≤ szL l := Nat.le_succ_of_le (sum_ge szR (fun v => by simp [szR]) l)
theorem szA_len (a : Rows) : a.length ≤ szA a := Nat.le_succ_of_le (sum_ge szL (fun v => by simp [szL]) a)

/-! ### numbers are in range -/
theorem sat_val {t : List V} {tk : Tk} (h : Sat (.sl 3 (t.map encV) tk)) : ∀ v ∈ t, inV v ∧ v.s.length ≤ 9223372036854775807 := fun v hv =>
  ⟨i64_of ((h.flat (c := .int .i64 v.n) (flat_mem hv (by simp [encV, AV.cells]))).int), (h.flat (c := .str v.s) (flat_mem hv (by simp [encV, AV.cells]))).str⟩
theorem sumV_take {t : List V} (h : ∀ v ∈ t, v.s.length ≤ 9223372036854775807) : sumV (t.take 20) ≤ 20 * 184467440737095517 := by
  have : ∀ l : List V, (∀ v ∈ l, v.s.length ≤ 9223372036854775807) → sumV l ≤ l.length * 184467440737095517 := fun l hl => by
    induction l with
    | nil => simp [sumV]
    | cons v l ih =>
      have h1 := hl v (.head _)
      have h2 := ih fun u hu => hl u (.tail _ hu)
      simp only [sumV, List.map_cons, List.sum_cons, List.length_cons] at h2 ⊢
      omega
  have h1 := this (t.take 20) fun v hv => h v (List.mem_of_mem_take hv)
  have h2 : (t.take 20).length ≤ 20 := by rw [List.length_take]; omega
  exact Nat.le_trans h1 (Nat.mul_le_mul_right 184467440737095517 h2)
theorem few_short {l : List (List V)} (h : fewB [l] = true) : ∀ t ∈ l, ∀ v ∈ t, v.s.length ≤ 5049 := fun t ht v hv => by
  rw [fewB, Bool.and_eq_true, decide_eq_true_eq] at h
  have h1 : v.s.length / 50 ≤ sumV t := sum_mem (fun v : V => v.s.length / 50) hv
  have h2 : sumV t + 1 ≤ sumT l := sum_mem (fun t : List V => sumV t + 1) ht
  have h3 : sumA [l] = sumT l := by simp [sumA]
  omega
theorem factsLines_ok (d : De) (t : List V) (R : List En) (hG : FactG R) (hd : d.rel.length ≤ 1048576) : ACall Tryz.prog 6 [encD d, encR t] R (fun r S => r = .bool true ∧ S = R) := by
  refine ACall_sat fun hs => ?_
  have hv := sat_val (hs (encR t) (by simp))
  obtain ⟨u, hu⟩ : ∃ u, u = t.take 20 := ⟨_, rfl⟩
  have hul : u.length ≤ 20 := by rw [hu, List.length_take]; omega
  have huv : ∀ v ∈ u, inV v ∧ v.s.length ≤ 9223372036854775807 := fun v h => hv v (List.mem_of_mem_take (hu ▸ h))
  have hsv : sumV u ≤ 20 * 184467440737095517 := hu ▸ sumV_take fun v h => (hv v h).2
  have hsa : sumA [[u]] = sumV u + 1 := by simp [sumA, sumT]
  have kf := fun R => few_ok [[u]] .no R (by omega) (by simp) (fun l hl => by
    obtain rfl := List.mem_singleton.1 hl
    refine ⟨by simp, fun r hr => ?_⟩
    obtain rfl := List.mem_singleton.1 hr
    exact ⟨by omega, fun v h => (huv v h).2⟩)
  refine ACall_body tab_ok Tryz.func6 rfl rfl rfl (by kernel_rfl) (Nat.le_of_ble_eq_true rfl) ?_
  repeat (first | refine go_ ?_ | intro _)
  refine Or.inl ⟨⟨_, Tryz.func10, rfl, rfl⟩, ACall.mono ?_ (shown_ok _ hG.cons)⟩
  rintro _ S1 ⟨rfl, hS1⟩
  subst S1
  repeat (first | refine go_ ?_ | intro _)
  refine ⟨.inl rfl, (by simp), (show (0 : Int) ≤ 0 by first | omega | (simp; done) | (simp; omega)), (show (0 : Int) ≤ min ((t.map encV).length : Int) 20 by first | omega | (simp; done) | (simp; omega)), (by show (min ((t.map encV).length : Int) 20 : Int) ≤ _; first | omega | (simp; done) | (simp; omega)), (by simp), u.map encV, hu ▸ take_min encV t 20, ?_⟩
  repeat (first | refine go_ ?_ | intro _)
  refine Or.inl ⟨⟨_, Tryz.func16, rfl, rfl⟩, ACall_args (ACall.mono ?_ (kf _)) ⟨AVle.slParts (es' := [Rel.encL [u]]) ⟨AVle.slParts (es' := [encR u]) ⟨AVle.tk, trivial⟩ rfl rfl, trivial⟩ rfl rfl, trivial⟩⟩
  rintro _ S1 ⟨rfl, hS1⟩
  subst S1
  repeat (first | refine go_ ?_ | intro _)
  by_cases hf : fewB [[u]] = true
  rotate_left
  · refine AW_true (b := !fewB [[u]]) rfl (by rw [show fewB [[u]] = false by simpa using hf]; rfl) ?_
    repeat (first | refine go_ ?_ | intro _)
    refine AW_ret ?_
    repeat refine mk_ ?_
    refine ⟨_, R, AVle.eq ?_, sle_, rfl, rfl⟩
    rfl
  have hsh := few_short hf u (.head _)
  have k1 := fun R hG => line_ok d u .no R hG (by omega) hd (fun v h => (huv v h).1) (fun v h => by have := hsh v h; omega)
  have k2 := fun R => refLine_ok d u .no R (by omega) hd (fun v h => (huv v h).1) (fun v h => by have := hsh v h; omega)
  obtain ⟨x, hx⟩ : ∃ x, x = lineL d u := ⟨_, rfl⟩
  rw [← hx] at k1 k2
  obtain ⟨w, e⟩ := x
  refine AW_false (b := !fewB [[u]]) rfl (by rw [hf]; rfl) ?_
  repeat (first | refine go_ ?_ | intro _)
  refine Or.inl ⟨⟨_, Tryz.func17, rfl, rfl⟩, ACall_args (ACall.mono ?_ (k1 _ hG.1.cons)) ⟨AVle.refl _, AVle.tk, trivial⟩⟩
  rintro _ S1 ⟨rfl, hS1⟩
  subst S1
  repeat (first | refine go_ ?_ | intro _)
  refine Or.inl ⟨⟨_, Tryz.func18, rfl, rfl⟩, ACall_args (ACall.mono ?_ (k2 _)) ⟨AVle.refl _, AVle.tk, trivial⟩⟩
  rintro _ S1 ⟨rfl, hS1⟩
  subst S1
  repeat (first | refine ga_ ?_ | intro _)
  refine known_true (b := decide (w = w)) (by exact decide_eq_true rfl) ?_
  repeat (first | refine ga_ ?_ | intro _)
  refine AW_ret ?_
  repeat refine mk_ ?_
  refine ⟨_, R, AVle.eq ?_, sle_, rfl, rfl⟩
  exact congrArg AV.bool (decide_eq_true rfl)
theorem few_short2 {l m : List (List V)} (h : fewB [l, m] = true) : (∀ t ∈ l, ∀ v ∈ t, v.s.length ≤ 5049) ∧ ∀ t ∈ m, ∀ v ∈ t, v.s.length ≤ 5049 := by
  rw [fewB, Bool.and_eq_true, decide_eq_true_eq] at h
  have h3 : sumA [l, m] = sumT l + sumT m := by simp [sumA]
  constructor
  · intro t ht v hv
    have h1 : v.s.length / 50 ≤ sumV t := sum_mem (fun v : V => v.s.length / 50) hv
    have h2 : sumV t + 1 ≤ sumT l := sum_mem (fun t : List V => sumV t + 1) ht
    omega
  · intro t ht v hv
    have h1 : v.s.length / 50 ≤ sumV t := sum_mem (fun v : V => v.s.length / 50) hv
    have h2 : sumV t + 1 ≤ sumT m := sum_mem (fun t : List V => sumV t + 1) ht
    omega
theorem beq_dec {p q : Prop} [Decidable p] [Decidable q] (h : p ↔ q) : (decide p == decide q) = true := by
  by_cases hp : p
  · rw [decide_eq_true hp, decide_eq_true (h.1 hp)]; rfl
  · rw [decide_eq_false hp, decide_eq_false (fun hq => hp (h.2 hq))]; rfl
theorem factsApart_ok (c d : De) (s t : List V) (R : List En) (hG : FactG R) (hc : c.rel.length ≤ 1048576) (hd : d.rel.length ≤ 1048576) : ACall Tryz.prog 7 [encD c, encD d, encR s, encR t] R (fun r S => r = .bool true ∧ S = R) := by
  refine ACall_sat fun hs => ?_
  have hv1 := sat_val (hs (encR s) (by simp))
  have hv2 := sat_val (hs (encR t) (by simp))
  obtain ⟨u, hu⟩ : ∃ u, u = s.take 20 := ⟨_, rfl⟩
  obtain ⟨w, hw⟩ : ∃ u, u = t.take 20 := ⟨_, rfl⟩
  have hul : u.length ≤ 20 := by rw [hu, List.length_take]; omega
  have hwl : w.length ≤ 20 := by rw [hw, List.length_take]; omega
  have huv : ∀ v ∈ u, inV v ∧ v.s.length ≤ 9223372036854775807 := fun v h => hv1 v (List.mem_of_mem_take (hu ▸ h))
  have hwv : ∀ v ∈ w, inV v ∧ v.s.length ≤ 9223372036854775807 := fun v h => hv2 v (List.mem_of_mem_take (hw ▸ h))
  have hsu : sumV u ≤ 20 * 184467440737095517 := hu ▸ sumV_take fun v h => (hv1 v h).2
  have hsw : sumV w ≤ 20 * 184467440737095517 := hw ▸ sumV_take fun v h => (hv2 v h).2
  have hsa : sumA [[u], [w]] = sumV u + 1 + (sumV w + 1) := by simp [sumA, sumT]
  have kf := fun R => few_ok [[u], [w]] .no R (by omega) (by simp) (fun l hl => by
    simp only [List.mem_cons, List.not_mem_nil, or_false] at hl
    rcases hl with rfl | rfl
    · refine ⟨by simp, fun r hr => ?_⟩
      obtain rfl := List.mem_singleton.1 hr
      exact ⟨by omega, fun v h => (huv v h).2⟩
    · refine ⟨by simp, fun r hr => ?_⟩
      obtain rfl := List.mem_singleton.1 hr
      exact ⟨by omega, fun v h => (hwv v h).2⟩)
  refine ACall_body tab_ok Tryz.func7 rfl rfl rfl (by kernel_rfl) (Nat.le_of_ble_eq_true rfl) ?_
  repeat (first | refine go_ ?_ | intro _)
  rename_i b4 b5
  refine Or.inl ⟨⟨_, Tryz.func10, rfl, rfl⟩, ACall.mono ?_ (shown_ok _ hG.cons.cons)⟩
  rintro _ S1 ⟨rfl, hS1⟩
  subst S1
  repeat (first | refine go_ ?_ | intro _)
  refine ⟨.inl rfl, (by simp), (show (0 : Int) ≤ 0 by first | omega | (simp; done) | (simp; omega)), (show (0 : Int) ≤ min ((s.map encV).length : Int) 20 by first | omega | (simp; done) | (simp; omega)), (by show (min ((s.map encV).length : Int) 20 : Int) ≤ _; first | omega | (simp; done) | (simp; omega)), (by simp), u.map encV, hu ▸ take_min encV s 20, ?_⟩
  repeat (first | refine go_ ?_ | intro _)
  refine ⟨.inl rfl, (by simp), (show (0 : Int) ≤ 0 by first | omega | (simp; done) | (simp; omega)), (show (0 : Int) ≤ min ((t.map encV).length : Int) 20 by first | omega | (simp; done) | (simp; omega)), (by show (min ((t.map encV).length : Int) 20 : Int) ≤ _; first | omega | (simp; done) | (simp; omega)), (by simp), w.map encV, hw ▸ take_min encV t 20, ?_⟩
  repeat (first | refine go_ ?_ | intro _)
  refine Or.inl ⟨⟨_, Tryz.func16, rfl, rfl⟩, ACall_args (ACall.mono ?_ (kf _)) ⟨AVle.slParts (es' := [Rel.encL [u], Rel.encL [w]]) ⟨AVle.slParts (es' := [encR u]) ⟨AVle.tk, trivial⟩ rfl rfl, AVle.slParts (es' := [encR w]) ⟨AVle.tk, trivial⟩ rfl rfl, trivial⟩ rfl rfl, trivial⟩⟩
  rintro _ S1 ⟨rfl, hS1⟩
  subst S1
  repeat (first | refine go_ ?_ | intro _)
  by_cases hf : fewB [[u], [w]] = true
  rotate_left
  · refine AW_true (b := !fewB [[u], [w]]) rfl (by rw [show fewB [[u], [w]] = false by simpa using hf]; rfl) ?_
    repeat (first | refine go_ ?_ | intro _)
    refine AW_ret ?_
    repeat refine mk_ ?_
    refine ⟨_, R, AVle.eq ?_, sle_, rfl, rfl⟩
    rfl
  obtain ⟨hf1, hf2⟩ := few_short2 hf
  have hsu' := hf1 u (.head _)
  have hsw' := hf2 w (.head _)
  have k1 := fun R hG => line_ok d u .no R hG (by omega) hd (fun v h => (huv v h).1) (fun v h => by have := hsu' v h; omega)
  have k2 := fun R hG => line_ok d w .no R hG (by omega) hd (fun v h => (hwv v h).1) (fun v h => by have := hsw' v h; omega)
  have k3 := fun R hG => line_ok c u .no R hG (by omega) hc (fun v h => (huv v h).1) (fun v h => by have := hsu' v h; omega)
  have q1 := fun h1 h2 => line_apart (d := d) (s := u) (t := w) h1 h2 (fun v h => (huv v h).1) (fun v h => (hwv v h).1)
  have q2 := fun h1 h2 hl => rel_apart (c := c) (d := d) (s := u) h1 h2 hl
  obtain ⟨x1, hx1⟩ : ∃ x, x = lineL d u := ⟨_, rfl⟩
  obtain ⟨x2, hx2⟩ : ∃ x, x = lineL d w := ⟨_, rfl⟩
  obtain ⟨x3, hx3⟩ : ∃ x, x = lineL c u := ⟨_, rfl⟩
  rw [← hx1] at k1 q1 q2
  rw [← hx2] at k2 q1
  rw [← hx3] at k3 q2
  obtain ⟨a, e⟩ := x1
  obtain ⟨b, f⟩ := x2
  obtain ⟨x, g⟩ := x3
  simp only [] at q1 q2
  refine AW_false (b := !fewB [[u], [w]]) rfl (by rw [hf]; rfl) ?_
  refine AW_weak (weak_of (l := [(2, .sl 3 (u.map encV) .no), (3, .sl 3 (w.map encV) .no), (4, .ptr b4 0), (5, .ptr b5 0), (9, .bool true)]) (m := []) (S' := .cells b5 (cD d) :: .cells b4 (cD c) :: R) ?_ rfl ?_) ?_
  · repeat (first | exact trivial | refine env_ ?_)
  · refine SW.le ?_
    repeat (first | exact SW.nil | refine sw_ ?_)
  repeat (first | refine go_ ?_ | intro _)
  refine Or.inl ⟨⟨_, Tryz.func17, rfl, rfl⟩, ACall.mono ?_ (k1 _ hG.1.cons.cons)⟩
  rintro _ S1 ⟨rfl, hS1⟩
  subst S1
  repeat (first | refine det_step rfl ?_ | refine ⟨rfl, ?_⟩ | refine ⟨⟨_, rfl⟩, ?_⟩ | refine ⟨⟨_, rfl, rfl⟩, ?_⟩ | refine ⟨⟨rfl, rfl⟩, ?_⟩ | refine ⟨⟨Nat.le_of_ble_eq_true rfl, Nat.le_of_ble_eq_true rfl⟩, ?_⟩ | refine ⟨Nat.le_of_ble_eq_true rfl, ?_⟩ | refine ⟨_, _, rfl, ?_⟩ | refine ⟨0, _, rfl, ?_⟩ | refine ⟨1, _, rfl, ?_⟩ | refine ⟨2, _, rfl, ?_⟩ | refine ⟨3, _, rfl, ?_⟩ | refine ⟨4, _, rfl, ?_⟩ | refine ⟨5, _, rfl, ?_⟩ | refine ⟨_, rfl, ?_⟩ | intro _)
  refine AW_weak (weak_of (l := [(2, .sl 3 (u.map encV) .no), (3, .sl 3 (w.map encV) .no), (4, .ptr b4 0), (5, .ptr b5 0), (9, .bool true), (10, .str a), (11, .int .i64 e)]) (m := []) (S' := .cells b5 (cD d) :: .cells b4 (cD c) :: R) ?_ rfl ?_) ?_
  · repeat (first | exact trivial | refine env_ ?_)
  · refine SW.le ?_
    repeat (first | exact SW.nil | refine sw_ ?_)
  repeat (first | refine go_ ?_ | intro _)
  refine Or.inl ⟨⟨_, Tryz.func17, rfl, rfl⟩, ACall.mono ?_ (k2 _ hG.1.cons.cons)⟩
  rintro _ S1 ⟨rfl, hS1⟩
  subst S1
  repeat (first | refine det_step rfl ?_ | refine ⟨rfl, ?_⟩ | refine ⟨⟨_, rfl⟩, ?_⟩ | refine ⟨⟨_, rfl, rfl⟩, ?_⟩ | refine ⟨⟨rfl, rfl⟩, ?_⟩ | refine ⟨⟨Nat.le_of_ble_eq_true rfl, Nat.le_of_ble_eq_true rfl⟩, ?_⟩ | refine ⟨Nat.le_of_ble_eq_true rfl, ?_⟩ | refine ⟨_, _, rfl, ?_⟩ | refine ⟨0, _, rfl, ?_⟩ | refine ⟨1, _, rfl, ?_⟩ | refine ⟨2, _, rfl, ?_⟩ | refine ⟨3, _, rfl, ?_⟩ | refine ⟨4, _, rfl, ?_⟩ | refine ⟨5, _, rfl, ?_⟩ | refine ⟨_, rfl, ?_⟩ | intro _)
  refine AW_weak (weak_of (l := [(2, .sl 3 (u.map encV) .no), (3, .sl 3 (w.map encV) .no), (4, .ptr b4 0), (5, .ptr b5 0), (9, .bool true), (10, .str a), (11, .int .i64 e), (12, .str b), (13, .int .i64 f)]) (m := []) (S' := .cells b5 (cD d) :: .cells b4 (cD c) :: R) ?_ rfl ?_) ?_
  · repeat (first | exact trivial | refine env_ ?_)
  · refine SW.le ?_
    repeat (first | exact SW.nil | refine sw_ ?_)
  repeat (first | refine go_ ?_ | intro _)
  refine Or.inl ⟨⟨_, Tryz.func17, rfl, rfl⟩, ACall.mono ?_ (k3 _ hG.1.cons.cons)⟩
  rintro _ S1 ⟨rfl, hS1⟩
  subst S1
  repeat (first | refine det_step rfl ?_ | refine ⟨rfl, ?_⟩ | refine ⟨⟨_, rfl⟩, ?_⟩ | refine ⟨⟨_, rfl, rfl⟩, ?_⟩ | refine ⟨⟨rfl, rfl⟩, ?_⟩ | refine ⟨⟨Nat.le_of_ble_eq_true rfl, Nat.le_of_ble_eq_true rfl⟩, ?_⟩ | refine ⟨Nat.le_of_ble_eq_true rfl, ?_⟩ | refine ⟨_, _, rfl, ?_⟩ | refine ⟨0, _, rfl, ?_⟩ | refine ⟨1, _, rfl, ?_⟩ | refine ⟨2, _, rfl, ?_⟩ | refine ⟨3, _, rfl, ?_⟩ | refine ⟨4, _, rfl, ?_⟩ | refine ⟨5, _, rfl, ?_⟩ | refine ⟨_, rfl, ?_⟩ | intro _)
  refine AW_weak (weak_of (l := [(2, .sl 3 (u.map encV) .no), (3, .sl 3 (w.map encV) .no), (4, .ptr b4 0), (5, .ptr b5 0), (9, .bool true), (10, .str a), (11, .int .i64 e), (12, .str b), (13, .int .i64 f), (14, .str x), (15, .int .i64 g)]) (m := []) (S' := .cells b5 (cD d) :: .cells b4 (cD c) :: R) ?_ rfl ?_) ?_
  · repeat (first | exact trivial | refine env_ ?_)
  · refine SW.le ?_
    repeat (first | exact SW.nil | refine sw_ ?_)
  repeat (first | refine ga_ ?_ | intro _)
  by_cases he : e = 0
  rotate_left
  · refine known_true (b := !decide (e = 0)) (by rw [decide_eq_false he]; rfl) ?_
    repeat (first | refine ga_ ?_ | intro _)
    refine AW_ret ?_
    repeat refine mk_ ?_
    refine ⟨_, R, AVle.eq ?_, sle_, rfl, rfl⟩
    rfl
  refine known_false (b := !decide (e = 0)) (by rw [he]; rfl) ?_
  repeat (first | refine ga_ ?_ | intro _)
  by_cases hf0 : f = 0
  rotate_left
  · refine AW_true (b := !decide (f = 0)) rfl (by rw [decide_eq_false hf0]; rfl) ?_
    repeat (first | refine ga_ ?_ | intro _)
    refine AW_ret ?_
    repeat refine mk_ ?_
    refine ⟨_, R, AVle.eq ?_, sle_, rfl, rfl⟩
    rfl
  refine AW_false (b := !decide (f = 0)) rfl (by rw [hf0]; rfl) ?_
  have q1 := q1 he hf0
  have q2 := q2 he
  repeat (first | refine ga_ ?_ | intro _)
  refine AW_for (α := Nat × Bool) (fun z => ⟨[(2, .sl 3 (u.map encV) .no), (3, .sl 3 (w.map encV) .no), (4, .ptr b4 0), (5, .ptr b5 0), (9, .bool true), (10, .str a), (12, .str b), (14, .str x), (15, .int .i64 g), (16, .bool z.2), (17, .int .i64 (z.1 : Nat))], []⟩) (fun z => .cells b5 (cD d) :: .cells b4 (cD c) :: R) (fun z => u.length - z.1) (fun z => z.1 ≤ u.length ∧ (z.2 = true → u.length = w.length ∧ u.take z.1 = w.take z.1) ∧ (z.2 = false → u ≠ w)) ((0, decide (u.length = w.length))) ?_ (weak_of ?_ rfl ?_) (fun z hz => ?_)
  · exact ⟨Nat.zero_le _, fun h => ⟨of_decide_eq_true h, rfl⟩, fun h e => (of_decide_eq_false h) (congrArg List.length e)⟩
  · repeat (first | exact trivial | refine ⟨(AVle.eq (congrArg AV.bool (by rw [List.length_map, List.length_map]; exact decide_eq_decide.2 (by omega)))), ?_⟩ | refine env_ ?_)
  · repeat (first | exact SLe.rfl | refine SLe.tail ?_ | refine SLe.full ?_)
  obtain ⟨z, m⟩ := z
  obtain ⟨j1, j2, j3⟩ : z ≤ u.length ∧ (m = true → u.length = w.length ∧ u.take z = w.take z) ∧ (m = false → u ≠ w) := hz
  show AW _ _ _ _ ⟨[(2, .sl 3 (u.map encV) .no), (3, .sl 3 (w.map encV) .no), (4, .ptr b4 0), (5, .ptr b5 0), (9, .bool true), (10, .str a), (12, .str b), (14, .str x), (15, .int .i64 g), (16, .bool m), (17, .int .i64 (z : Nat))], []⟩ (.cells b5 (cD d) :: .cells b4 (cD c) :: R) _
  repeat (first | refine go_ ?_ | intro _)
  by_cases hz : z < u.length
  · refine known_true (b := decide ((z : Int) < ((u.map encV).length : Nat))) (by rw [List.length_map]; exact decide_eq_true (by omega)) ?_
    repeat (first | refine ga_ ?_ | intro _)
    cases m with
    | true =>
      obtain ⟨r1, r2⟩ := j2 rfl
      have hzw : z < w.length := by omega
      have hg1 := get_encV hz
      have hg2 := get_encV hzw
      obtain ⟨v1, hv1'⟩ : ∃ v, v = u[z] := ⟨_, rfl⟩
      obtain ⟨v2, hv2'⟩ : ∃ v, v = w[z] := ⟨_, rfl⟩
      rw [← hv1'] at hg1
      rw [← hv2'] at hg2
      repeat (first | refine ga_ ?_ | intro _)
      refine AW_draw tab_ok mixed 10 (by first | rfl | kernel_rfl) ?_
      repeat (first | refine go_ ?_ | intro _)
      refine at_get (z) (encV v1) (by first | rfl | omega | (rw [wrap_i64 (by omega)]; omega)) (by exact hg1) ?_
      repeat (first | refine go_ ?_ | intro _)
      refine at_get (z) (encV v2) (by first | rfl | omega | (rw [wrap_i64 (by omega)]; omega)) (by exact hg2) ?_
      repeat (first | refine go_ ?_ | intro _)
      refine ⟨⟨_, eqk_val, rfl⟩, decide (v1 = v2), congrArg some (Rel.eqV v1 v2), ?_⟩
      repeat (first | refine go_ ?_ | intro _)
      refine ⟨((z + 1, decide (v1 = v2)) : Nat × Bool), ?_, ?_, weak_of ?_ rfl ?_⟩
      · show u.length - (z + 1) < u.length - z; omega
      · refine ⟨hz, fun h => ⟨r1, ?_⟩, fun h e => ?_⟩
        · have h : decide (v1 = v2) = true := h
          show u.take (z + 1) = w.take (z + 1)
          rw [List.take_succ_eq_append_getElem hz, List.take_succ_eq_append_getElem hzw, r2, ← hv1', ← hv2', of_decide_eq_true h]
        · have h : decide (v1 = v2) = false := h
          exact of_decide_eq_false h (by subst e; rw [hv1', hv2'])
      · repeat (first | exact trivial | refine env_ ?_)
      · repeat (first | exact SLe.rfl | refine SLe.tail ?_ | refine SLe.full ?_)
    | false =>
      have hne := j3 rfl
      repeat (first | refine ga_ ?_ | intro _)
      refine known_true (b := (decide (a = b) == false)) (by rw [decide_eq_false (fun e => hne (q1.1 e))]; rfl) ?_
      repeat (first | refine ga_ ?_ | intro _)
      by_cases hg0 : g = 0
      · refine known_false (b := !decide (g = 0)) (by rw [hg0]; rfl) ?_
        repeat (first | refine ga_ ?_ | intro _)
        by_cases hl : c.rel.length = d.rel.length
        · refine known_false (b := !decide ((c.rel.length : Int) = (d.rel.length : Nat))) (by rw [decide_eq_true (by omega)]; rfl) ?_
          repeat (first | refine ga_ ?_ | intro _)
          refine AW_ret ?_
          repeat refine mk_ ?_
          refine ⟨_, R, AVle.eq ?_, sle_, rfl, rfl⟩
          exact congrArg AV.bool (beq_dec (q2 hg0 hl))
        · refine known_true (b := !decide ((c.rel.length : Int) = (d.rel.length : Nat))) (by rw [decide_eq_false (by omega)]; rfl) ?_
          repeat (first | refine ga_ ?_ | intro _)
          refine AW_ret ?_
          repeat refine mk_ ?_
          refine ⟨_, R, AVle.eq ?_, sle_, rfl, rfl⟩
          rfl
      · refine known_true (b := !decide (g = 0)) (by rw [decide_eq_false hg0]; rfl) ?_
        repeat (first | refine ga_ ?_ | intro _)
        refine AW_ret ?_
        repeat refine mk_ ?_
        refine ⟨_, R, AVle.eq ?_, sle_, rfl, rfl⟩
        rfl
  · refine known_false (b := decide ((z : Int) < ((u.map encV).length : Nat))) (by rw [List.length_map]; exact decide_eq_false (by omega)) ?_
    repeat (first | refine ga_ ?_ | intro _)
    cases m with
    | true =>
      obtain ⟨r1, r2⟩ := j2 rfl
      have heq : u = w := by rw [List.take_of_length_le (by omega), List.take_of_length_le (by omega)] at r2; exact r2
      refine known_true (b := (decide (a = b) == true)) (by rw [decide_eq_true (q1.2 heq)]; rfl) ?_
      repeat (first | refine ga_ ?_ | intro _)
      by_cases hg0 : g = 0
      · refine known_false (b := !decide (g = 0)) (by rw [hg0]; rfl) ?_
        repeat (first | refine ga_ ?_ | intro _)
        by_cases hl : c.rel.length = d.rel.length
        · refine known_false (b := !decide ((c.rel.length : Int) = (d.rel.length : Nat))) (by rw [decide_eq_true (by omega)]; rfl) ?_
          repeat (first | refine ga_ ?_ | intro _)
          refine AW_ret ?_
          repeat refine mk_ ?_
          refine ⟨_, R, AVle.eq ?_, sle_, rfl, rfl⟩
          exact congrArg AV.bool (beq_dec (q2 hg0 hl))
        · refine known_true (b := !decide ((c.rel.length : Int) = (d.rel.length : Nat))) (by rw [decide_eq_false (by omega)]; rfl) ?_
          repeat (first | refine ga_ ?_ | intro _)
          refine AW_ret ?_
          repeat refine mk_ ?_
          refine ⟨_, R, AVle.eq ?_, sle_, rfl, rfl⟩
          rfl
      · refine known_true (b := !decide (g = 0)) (by rw [decide_eq_false hg0]; rfl) ?_
        repeat (first | refine ga_ ?_ | intro _)
        refine AW_ret ?_
        repeat refine mk_ ?_
        refine ⟨_, R, AVle.eq ?_, sle_, rfl, rfl⟩
        rfl
    | false =>
      have hne := j3 rfl
      refine known_true (b := (decide (a = b) == false)) (by rw [decide_eq_false (fun e => hne (q1.1 e))]; rfl) ?_
      repeat (first | refine ga_ ?_ | intro _)
      by_cases hg0 : g = 0
      · refine known_false (b := !decide (g = 0)) (by rw [hg0]; rfl) ?_
        repeat (first | refine ga_ ?_ | intro _)
        by_cases hl : c.rel.length = d.rel.length
        · refine known_false (b := !decide ((c.rel.length : Int) = (d.rel.length : Nat))) (by rw [decide_eq_true (by omega)]; rfl) ?_
          repeat (first | refine ga_ ?_ | intro _)
          refine AW_ret ?_
          repeat refine mk_ ?_
          refine ⟨_, R, AVle.eq ?_, sle_, rfl, rfl⟩
          exact congrArg AV.bool (beq_dec (q2 hg0 hl))
        · refine known_true (b := !decide ((c.rel.length : Int) = (d.rel.length : Nat))) (by rw [decide_eq_false (by omega)]; rfl) ?_
          repeat (first | refine ga_ ?_ | intro _)
          refine AW_ret ?_
          repeat refine mk_ ?_
          refine ⟨_, R, AVle.eq ?_, sle_, rfl, rfl⟩
          rfl
      · refine known_true (b := !decide (g = 0)) (by rw [decide_eq_false hg0]; rfl) ?_
        repeat (first | refine ga_ ?_ | intro _)
        refine AW_ret ?_
        repeat refine mk_ ?_
        refine ⟨_, R, AVle.eq ?_, sle_, rfl, rfl⟩
        rfl
end Go.Proofs.YtgkjbpnmeeibbaaGreatDoor
/-
  FactsTells, FactsBack: the walks. Own work.
-/
namespace Go.Proofs.YtgkjbpnmeeibbaaGreatDoor
open Go.Aw Go.ChangeShapes Go.WideShapes Go.ChangeAt Go.RowKit Tree
set_option maxHeartbeats 4000000
set_option maxRecDepth 4000
open Rel (V encV encR foldPut Cl riseB)

theorem sumV_sz (t : List V) : sumV t + 1 ≤ szR t := by
  have : sumV t ≤ (t.map szV).sum := by
    unfold sumV
    induction t with
    | nil => simp
    | cons v t ih => simp only [List.map_cons, List.sum_cons, szV] at ih ⊢; omega
  unfold szR; omega
theorem sumT_sz (l : List (List V)) : sumT l + 1 ≤ szL l := by
  have : sumT l ≤ (l.map szR).sum := by
    unfold sumT
    induction l with
    | nil => simp
    | cons v t ih => have := sumV_sz v; simp only [List.map_cons, List.sum_cons] at ih ⊢; omega
  unfold szL; omega
theorem sumA_sz (a : Rows) : sumA a ≤ szA a := by
  have : sumA a ≤ (a.map szL).sum := by
    unfold sumA
    induction a with
    | nil => simp
    | cons v t ih => have := sumT_sz v; simp only [List.map_cons, List.sum_cons] at ih ⊢; omega
  unfold szA; omega
theorem szA_in {a : Rows} {l : List (List V)} (h : l ∈ a) : szL l ≤ szA a := Nat.le_succ_of_le (sum_mem szL h)
theorem szL_in {l : List (List V)} {t : List V} (h : t ∈ l) : szR t ≤ szL l := Nat.le_succ_of_le (sum_mem szR h)
theorem szR_in {t : List V} {v : V} (h : v ∈ t) : v.s.length ≤ szR t := by
  have : szV v ≤ szR t := Nat.le_succ_of_le (sum_mem szV h)
  unfold szV at this; omega
theorem sat_all {a : Rows} {tk : Tk} (h : Sat (.sl 1 (a.map Rel.encL) tk)) : ∀ l ∈ a, ∀ t ∈ l, ∀ v ∈ t, inV v := fun l hl t ht v hv =>
  (sat_val ((h.flat (c := Rel.encL l) (flat_mem hl (.head _))).flat (c := encR t) (flat_mem ht (.head _))) v hv).1
theorem few_all {a : Rows} (hz : szA a ≤ 1048576) (R : List En) : ACall Tryz.prog 16 [.sl 1 (a.map Rel.encL) .no] R (fun r S => r = .bool (fewB a) ∧ S = R) := by
  have h1 := sumA_sz a
  have h2 := szA_len a
  refine few_ok a .no R (by omega) (by omega) fun l hl => ?_
  have h3 := szA_in hl
  have h4 := szL_len l
  refine ⟨by omega, fun t ht => ?_⟩
  have h5 := szL_in ht
  have h6 := szR_len t
  exact ⟨by omega, fun v hv => by have := szR_in hv; omega⟩
theorem few_of {a : Rows} (hz : szA a ≤ 1048576) (hn : ∀ l ∈ a, ∀ t ∈ l, ∀ v ∈ t, inV v) (hf : fewB a = true) : FewR a := few_R hf fun l hl t ht => by
  have h3 := szA_in hl
  have h5 := szL_in ht
  have h6 := szR_len t
  exact ⟨by omega, hn l hl t ht⟩
theorem factsTells_ok (p : Pr) (all : Rows) (R : List En) (hG : FactG R) (hz : szA all ≤ 1048576) : ACall Tryz.prog 8 [encP p, .sl 1 (all.map Rel.encL) .no] R (fun r S => r = .bool true ∧ S = R) := by
  refine ACall_sat fun hs => ?_
  have hn := sat_all (hs (.sl 1 (all.map Rel.encL) .no) (by simp))
  have hs := hs _ (.head _)
  have ks := fun R => small_ok p R (okP_of p hs)
  by_cases hb : smallB p = true
  rotate_left
  · rw [smallI_0 (by simpa using hb)] at ks
    refine ACall_body tab_ok Tryz.func8 rfl rfl rfl (by kernel_rfl) (Nat.le_of_ble_eq_true rfl) ?_
    repeat (first | refine go_ ?_ | intro _)
    rename_i b2
    refine Or.inl ⟨⟨_, Tryz.func10, rfl, rfl⟩, ACall.mono ?_ (shown_ok _ hG.cons)⟩
    rintro _ S1 ⟨rfl, hS1⟩
    subst S1
    repeat (first | refine go_ ?_ | intro _)
    refine Or.inl ⟨⟨_, Tryz.func11, rfl, rfl⟩, ACall.mono ?_ (ks _)⟩
    rintro _ S1 ⟨rfl, hS1⟩
    subst S1
    repeat (first | refine ga_ ?_ | intro _)
    refine AW_ret ?_
    repeat refine mk_ ?_
    refine ⟨_, R, AVle.eq ?_, sle_, rfl, rfl⟩
    rfl
  rw [smallI_1 hb] at ks
  have hok := small_R hb (nP_of p hs)
  refine ACall_body tab_ok Tryz.func8 rfl rfl rfl (by kernel_rfl) (Nat.le_of_ble_eq_true rfl) ?_
  repeat (first | refine go_ ?_ | intro _)
  rename_i b2
  refine Or.inl ⟨⟨_, Tryz.func10, rfl, rfl⟩, ACall.mono ?_ (shown_ok _ hG.cons)⟩
  rintro _ S1 ⟨rfl, hS1⟩
  subst S1
  repeat (first | refine go_ ?_ | intro _)
  refine Or.inl ⟨⟨_, Tryz.func11, rfl, rfl⟩, ACall.mono ?_ (ks _)⟩
  rintro _ S1 ⟨rfl, hS1⟩
  subst S1
  repeat (first | refine ga_ ?_ | intro _)
  refine Or.inl ⟨⟨_, Tryz.func16, rfl, rfl⟩, ACall.mono ?_ (few_all hz _)⟩
  rintro _ S1 ⟨rfl, hS1⟩
  subst S1
  repeat (first | refine ga_ ?_ | intro _)
  by_cases hf : fewB all = true
  rotate_left
  · refine AW_true (b := !fewB all) rfl (by rw [show fewB all = false by simpa using hf]; rfl) ?_
    repeat (first | refine ga_ ?_ | intro _)
    refine AW_ret ?_
    repeat refine mk_ ?_
    refine ⟨_, R, AVle.eq ?_, sle_, rfl, rfl⟩
    rfl
  have hF := few_of hz hn hf
  have k1 := fun R hG => tell_ok p all .no R hG hok hF
  have k2 := fun R => refTell_ok p all .no R hF
  obtain ⟨x, hx⟩ : ∃ x, x = tellL p all := ⟨_, rfl⟩
  rw [← hx] at k1 k2
  obtain ⟨w, e⟩ := x
  refine AW_false (b := !fewB all) rfl (by rw [hf]; rfl) ?_
  repeat (first | refine ga_ ?_ | intro _)
  refine Or.inl ⟨⟨_, Tryz.func19, rfl, rfl⟩, ACall.mono ?_ (k1 _ hG.cons)⟩
  rintro _ S1 ⟨rfl, hS1⟩
  subst S1
  repeat (first | refine ga_ ?_ | intro _)
  refine Or.inl ⟨⟨_, Tryz.func20, rfl, rfl⟩, ACall.mono ?_ (k2 _)⟩
  rintro _ S1 ⟨rfl, hS1⟩
  subst S1
  repeat (first | refine ga_ ?_ | intro _)
  refine known_true (b := decide (w = w)) (by exact decide_eq_true rfl) ?_
  repeat (first | refine ga_ ?_ | intro _)
  refine AW_ret ?_
  repeat refine mk_ ?_
  refine ⟨_, R, AVle.eq ?_, sle_, rfl, rfl⟩
  exact congrArg AV.bool (decide_eq_true rfl)

/-! ### what is told is read back -/
theorem told_tight {d : De} {t : List V} (hd : d.rel.length ≤ 40) (ht : d.types.length ≤ 8) (hf : fitR t d.types = true) (hn : ∀ v ∈ t, inV v) : (textL d t ++ [10]).length ≤ 1793 * (sumV t + 1) := by
  have h1 := fitR_len hf
  have : ∀ l : List V, (∀ v ∈ l, inV v) → (l.flatMap fieldL).length ≤ 219 * l.length + 200 * sumV l := fun l hl => by
    induction l with
    | nil => simp
    | cons v l ih =>
      have i1 := itoa_len (hl v (.head _))
      have i2 := (quoteL_len v.s).2
      have i3 := ih fun u hu => hl u (.tail _ hu)
      have i4 : (fieldL v).length ≤ 219 + 200 * (v.s.length / 50) := by
        rw [fieldL, List.length_cons, wordL]
        split <;> omega
      simp only [List.flatMap_cons, List.length_append, List.length_cons, sumV, List.map_cons, List.sum_cons] at i3 ⊢
      omega
  have := this t hn
  rw [textL]
  simp only [List.length_append, List.length_cons, List.length_nil]; omega
theorem tell_tight : ∀ (all : Rows) (ds : List De), (∀ d ∈ ds, d.rel.length ≤ 40 ∧ d.types.length ≤ 8) → fitAll all ds = true → (∀ l ∈ all, ∀ t ∈ l, ∀ v ∈ t, inV v) → (tellAll all ds).length ≤ 1793 * sumA all
  | [], _, _, _, _ => by simp [tellAll]
  | _ :: _, [], _, h, _ => by cases h
  | l :: ls, d :: ds, h1, h2, h3 => by
    rw [fitAll, Bool.and_eq_true] at h2
    have i1 := tell_tight ls ds (fun x hx => h1 x (.tail _ hx)) h2.2 (fun x hx => h3 x (.tail _ hx))
    have hf := h2.1
    rw [fitOne, Bool.and_eq_true, List.all_eq_true] at hf
    have hrow : ∀ m : List (List V), (∀ t ∈ m, fitR t d.types = true) → (∀ t ∈ m, ∀ v ∈ t, inV v) → (m.flatMap (fun t => textL d t ++ [10])).length ≤ 1793 * sumT m := fun m g1 g2 => by
      induction m with
      | nil => simp
      | cons t m ih =>
        have j1 := told_tight (h1 d (.head _)).1 (h1 d (.head _)).2 (g1 t (.head _)) (g2 t (.head _))
        have j2 := ih (fun x hx => g1 x (.tail _ hx)) (fun x hx => g2 x (.tail _ hx))
        rw [List.flatMap_cons, List.length_append]
        simp only [sumT, List.map_cons, List.sum_cons] at j2 ⊢
        omega
    have i2 := hrow l hf.2 (h3 l (.head _))
    rw [tellAll, List.length_append]
    simp only [sumA, List.map_cons, List.sum_cons] at i1 ⊢
    split
    · omega
    · simp only [List.length_nil]; omega
theorem right_rel40 {p : Pr} (h : rightP p = true) : ∀ d ∈ p.decls, d.rel.length ≤ 40 ∧ d.types.length ≤ 8 := fun d hd => by
  refine ⟨?_, ((right_D h).2 d hd).1⟩
  rw [rightP] at h
  simp only [Bool.and_eq_true, Bool.not_eq_true', List.all_eq_true] at h
  have := h.2.2.1 d hd
  rw [rightD] at this
  simp only [Bool.and_eq_true] at this
  have := this.1
  rw [nameB] at this
  simp only [Bool.and_eq_true, decide_eq_true_eq] at this
  omega
theorem apart_ok (p : Pr) (R : List En) (hl : p.decls.length ≤ 100) : ACall Tryz.prog 21 [encP p] R (fun r S => ∃ b, r = .bool b ∧ (b = true → apartD p.decls) ∧ S = R) := by
  refine ACall_body tab_ok Tryz.func21 rfl rfl rfl (by kernel_rfl) (Nat.le_of_ble_eq_true rfl) ?_
  repeat (first | refine go_ ?_ | intro _)
  rename_i b1
  refine AW_for (α := Nat) (fun z => ⟨[(1, .ptr b1 0), (3, .int .i64 (z : Nat))], []⟩) (fun z => .cells b1 [.sl 6 (p.decls.map encD) .no, .sl 4 (p.rules.map encRu) .no] :: R) (fun z => p.decls.length - z) (fun z => z ≤ p.decls.length ∧ ∀ (i k : Nat) (hi : i < p.decls.length) (hk : k < p.decls.length), i < z → k < i → p.decls[i].rel ≠ p.decls[k].rel) (0) ?_ (weak_of ?_ rfl ?_) (fun z hz => ?_)
  · exact ⟨Nat.zero_le _, fun i k _ _ h => absurd h (Nat.not_lt_zero _)⟩
  · repeat (first | exact trivial | refine env_ ?_)
  · repeat (first | exact SLe.rfl | refine SLe.tail ?_ | refine SLe.full ?_)
  obtain ⟨i1, i2⟩ := hz
  obtain ⟨i, rfl⟩ : ∃ i, i = z := ⟨_, rfl⟩
  repeat (first | refine go_ ?_ | intro _)
  refine AW_iff (i < p.decls.length) rfl (by rw [decide_eq_true_eq, List.length_map]; omega) (fun h => ?_) (fun h => ?_)
  rotate_left
  · repeat (first | refine go_ ?_ | intro _)
    refine AW_ret ?_
    refine ⟨_, R, AVle.refl _, sle_, true, rfl, fun _ => ?_, rfl⟩
    intro x y hx hy e
    rcases Nat.lt_trichotomy x y with h | h | h
    · exact absurd e.symm (i2 y x hy hx (by omega) h)
    · exact h
    · exact absurd e (i2 x y hx hy (by omega) h)
  have hlt := h
  have hgi := get_encD hlt
  obtain ⟨d, hd⟩ : ∃ d, d = p.decls[i] := ⟨_, rfl⟩
  rw [← hd] at hgi
  repeat (first | refine go_ ?_ | intro _)
  refine AW_for (α := Nat) (fun z => ⟨[(1, .ptr b1 0), (3, .int .i64 (i : Nat)), (4, .int .i64 (z : Nat))], []⟩) (fun z => .cells b1 [.sl 6 (p.decls.map encD) .no, .sl 4 (p.rules.map encRu) .no] :: R) (fun z => i - z) (fun z => z ≤ i ∧ ∀ (k : Nat) (hk : k < p.decls.length), k < z → d.rel ≠ p.decls[k].rel) (0) ?_ (weak_of ?_ rfl ?_) (fun z hz => ?_)
  · exact ⟨Nat.zero_le _, fun k _ h => absurd h (Nat.not_lt_zero _)⟩
  · repeat (first | exact trivial | refine env_ ?_)
  · repeat (first | exact SLe.rfl | refine SLe.tail ?_ | refine SLe.full ?_)
  obtain ⟨j1, j2⟩ := hz
  repeat (first | refine go_ ?_ | intro _)
  refine AW_iff (z < i) rfl (by first | (simp; done) | (simp <;> omega) | decide) (fun h => ?_) (fun h => ?_)
  rotate_left
  · repeat (first | refine go_ ?_ | intro _)
    refine ⟨i + 1, ?_, ?_, weak_of ?_ rfl ?_⟩
    · omega
    · refine ⟨by omega, fun x k hx hk h1 h2 => ?_⟩
      by_cases hxi : x < i
      · exact i2 x k hx hk hxi h2
      · obtain rfl : x = i := by omega
        rw [← hd]; exact j2 k hk (by omega)
    · repeat (first | exact trivial | refine env_ ?_)
    · repeat (first | exact SLe.rfl | refine SLe.tail ?_ | refine SLe.full ?_)
  have hzi := h
  have hgz := get_encD (l := p.decls) (i := z) (by omega)
  obtain ⟨f, hf⟩ : ∃ d, d = p.decls[z]'(by omega) := ⟨_, rfl⟩
  rw [← hf] at hgz
  repeat (first | refine go_ ?_ | intro _)
  refine AW_draw tab_ok mixed 13 (by first | rfl | kernel_rfl) ?_
  repeat (first | refine go_ ?_ | intro _)
  refine at_get (i) (encD d) (by first | rfl | omega | (rw [wrap_i64 (by omega)]; omega)) (by exact hgi) ?_
  repeat (first | refine go_ ?_ | intro _)
  refine at_get (z) (encD f) (by first | rfl | omega | (rw [wrap_i64 (by omega)]; omega)) (by exact hgz) ?_
  repeat (first | refine go_ ?_ | intro _)
  refine AW_iff (d.rel = f.rel) rfl (by first | (simp; done) | (simp <;> omega) | decide) (fun h => ?_) (fun h => ?_)
  · repeat (first | refine go_ ?_ | intro _)
    refine AW_ret ?_
    exact ⟨_, R, AVle.refl _, sle_, false, rfl, (fun h => by cases h), rfl⟩
  · have hne := h
    repeat (first | refine go_ ?_ | intro _)
    refine ⟨z + 1, ?_, ?_, weak_of ?_ rfl ?_⟩
    · omega
    · refine ⟨by omega, fun k hk h1 => ?_⟩
      by_cases hkz : k < z
      · exact j2 k hk hkz
      · obtain rfl : k = z := by omega
        rw [← hf]; exact hne
    · repeat (first | exact trivial | refine env_ ?_)
    · repeat (first | exact SLe.rfl | refine SLe.tail ?_ | refine SLe.full ?_)
theorem both_ok (p : Pr) (R : List En) (hl : p.decls.length ≤ 100) : ACall Tryz.prog 22 [encP p] R (fun r S => r = encP (bothP p) ∧ S = R) := by
  refine ACall_body tab_ok Tryz.func22 rfl rfl rfl (by kernel_rfl) (Nat.le_of_ble_eq_true rfl) ?_
  repeat (first | refine go_ ?_ | intro _)
  rename_i b1 b2 b3
  refine AW_for (α := Nat × Tk) (fun z => ⟨[(1, .ptr b1 0), (2, .ptr b2 0), (3, .ptr b3 0), (4, .int .i64 (z.1 : Nat))], []⟩) (fun z => .cells b3 [.sl 6 (((p.decls.take z.1).map bothD).map encD) z.2, .sl 0 [] .full] :: .grow z.2 :: .cells b2 [.sl 0 [] .full, .sl 0 [] .full] :: .cells b1 [.sl 6 (p.decls.map encD) .no, .sl 4 (p.rules.map encRu) .no] :: R) (fun z => p.decls.length - z.1) (fun z => z.1 ≤ p.decls.length) ((0, .full)) ?_ (weak_of ?_ rfl ?_) (fun z hz => ?_)
  · exact Nat.zero_le _
  · repeat (first | exact trivial | refine env_ ?_)
  · exact SW.le (SW.cells ⟨AVle.nilFull, AVle.refl _, trivial⟩ rfl (SW.full (SW.cons SW.nil)))
  obtain ⟨i, tk⟩ := z
  have hi : i ≤ p.decls.length := hz
  have hl' : (((p.decls.take i).map bothD).map encD).length = i := by simp; omega
  show AW _ _ _ _ ⟨[(1, .ptr b1 0), (2, .ptr b2 0), (3, .ptr b3 0), (4, .int .i64 (i : Nat))], []⟩ (.cells b3 [.sl 6 (((p.decls.take i).map bothD).map encD) tk, .sl 0 [] .full] :: .grow tk :: .cells b2 [.sl 0 [] .full, .sl 0 [] .full] :: .cells b1 [.sl 6 (p.decls.map encD) .no, .sl 4 (p.rules.map encRu) .no] :: R) _
  repeat (first | refine go_ ?_ | intro _)
  refine AW_iff (i < p.decls.length) rfl (by rw [decide_eq_true_eq, List.length_map]; omega) (fun h => ?_) (fun h => ?_)
  rotate_left
  · have hz' : i = p.decls.length := by omega
    rw [hz', List.take_length]
    repeat (first | refine go_ ?_ | intro _)
    refine AW_ret ?_
    refine ⟨rfl, 2, _, rfl, ⟨Nat.le_of_ble_eq_true rfl, Nat.le_of_ble_eq_true rfl⟩, _, R, ?_, sle_, rfl, rfl⟩
    show AVle (.agg [.sl 6 ((p.decls.map bothD).map encD) tk, .sl 0 [] .full]) (encP (bothP p))
    exact AVle.agg ⟨AVle.tk, AVle.nil, trivial⟩ (by intro c hc; simp only [List.mem_cons, List.not_mem_nil, or_false] at hc; rcases hc with rfl | rfl <;> rfl)
  have hlt := h
  have hg := get_encD hlt
  obtain ⟨d, hd⟩ : ∃ d, d = p.decls[i] := ⟨_, rfl⟩
  rw [← hd] at hg
  have hst : ((p.decls.take (i + 1)).map bothD).map encD = ((p.decls.take i).map bothD).map encD ++ [encD (bothD d)] := by rw [List.take_succ_eq_append_getElem hlt, ← hd]; simp
  repeat (first | refine go_ ?_ | intro _)
  refine at_get (i) (encD d) (by first | rfl | omega | (rw [wrap_i64 (by omega)]; omega)) (by exact hg) ?_
  repeat (first | refine go_ ?_ | intro _)
  refine ⟨room (by rw [hl']; show i + 1 ≤ _; omega) rfl, .inl rfl, .inr (.inl ⟨rfl, 2, rfl, ((p.decls.take (i + 1)).map bothD).map encD, hst.symm, fun t1 => ?_⟩)⟩
  repeat (first | refine go_ ?_ | intro _)
  refine ⟨((i + 1, t1) : Nat × Tk), ?_, ?_, weak_of ?_ rfl ?_⟩
  · show p.decls.length - (i + 1) < p.decls.length - i; omega
  · show i + 1 ≤ _; omega
  · repeat (first | exact trivial | refine env_ ?_)
  · repeat (first | exact SLe.rfl | refine SLe.tail ?_ | refine SLe.full ?_)
theorem apart_both {p : Pr} (h : apartD p.decls) : apartD (bothP p).decls := fun i j hi hj e => by
  have hi' : i < p.decls.length := by simpa [bothP] using hi
  have hj' : j < p.decls.length := by simpa [bothP] using hj
  refine h i j hi' hj' ?_
  have e1 : (bothP p).decls[i].rel = p.decls[i].rel := by simp [bothP, bothD]
  have e2 : (bothP p).decls[j].rel = p.decls[j].rel := by simp [bothP, bothD]
  rw [← e1, ← e2, e]
theorem factsBack_ok (p : Pr) (all : Rows) (R : List En) (hG : FactG R) (hz : szA all ≤ 1048576) : ACall Tryz.prog 9 [encP p, .sl 1 (all.map Rel.encL) .no] R (fun r S => r = .bool true ∧ S = R) := by
  refine ACall_sat fun hs => ?_
  have hn := sat_all (hs (.sl 1 (all.map Rel.encL) .no) (by simp))
  have hs := hs _ (.head _)
  have ks := fun R => small_ok p R (okP_of p hs)
  by_cases hb : smallB p = true
  rotate_left
  · rw [smallI_0 (by simpa using hb)] at ks
    refine ACall_body tab_ok Tryz.func9 rfl rfl rfl (by kernel_rfl) (Nat.le_of_ble_eq_true rfl) ?_
    repeat (first | refine go_ ?_ | intro _)
    rename_i b2
    refine Or.inl ⟨⟨_, Tryz.func10, rfl, rfl⟩, ACall.mono ?_ (shown_ok _ hG.cons)⟩
    rintro _ S1 ⟨rfl, hS1⟩
    subst S1
    repeat (first | refine go_ ?_ | intro _)
    refine Or.inl ⟨⟨_, Tryz.func11, rfl, rfl⟩, ACall.mono ?_ (ks _)⟩
    rintro _ S1 ⟨rfl, hS1⟩
    subst S1
    repeat (first | refine ga_ ?_ | intro _)
    refine AW_ret ?_
    repeat refine mk_ ?_
    refine ⟨_, R, AVle.eq ?_, sle_, rfl, rfl⟩
    rfl
  obtain ⟨_, _, _, hdl, _⟩ := small_cnt hb (nP_of p hs)
  rw [smallI_1 hb] at ks
  obtain ⟨q, hq⟩ : ∃ q, q = bothP p := ⟨_, rfl⟩
  have hok : ∀ r ∈ q.rules, okR r := fun r hr => by rw [hq] at hr; cases hr
  have kb := fun R => both_ok p R hdl
  rw [← hq] at kb
  refine ACall_body tab_ok Tryz.func9 rfl rfl rfl (by kernel_rfl) (Nat.le_of_ble_eq_true rfl) ?_
  repeat (first | refine go_ ?_ | intro _)
  rename_i b2
  refine Or.inl ⟨⟨_, Tryz.func10, rfl, rfl⟩, ACall.mono ?_ (shown_ok _ hG.cons)⟩
  rintro _ S1 ⟨rfl, hS1⟩
  subst S1
  repeat (first | refine go_ ?_ | intro _)
  refine Or.inl ⟨⟨_, Tryz.func11, rfl, rfl⟩, ACall.mono ?_ (ks _)⟩
  rintro _ S1 ⟨rfl, hS1⟩
  subst S1
  repeat (first | refine ga_ ?_ | intro _)
  refine Or.inl ⟨⟨_, Tryz.func16, rfl, rfl⟩, ACall.mono ?_ (few_all hz _)⟩
  rintro _ S1 ⟨rfl, hS1⟩
  subst S1
  repeat (first | refine ga_ ?_ | intro _)
  by_cases hf : fewB all = true
  rotate_left
  · refine known_true (b := !fewB all) (by rw [show fewB all = false by simpa using hf]; rfl) ?_
    repeat (first | refine ga_ ?_ | intro _)
    refine AW_ret ?_
    repeat refine mk_ ?_
    refine ⟨_, R, AVle.eq ?_, sle_, rfl, rfl⟩
    rfl
  have hF := few_of hz hn hf
  refine known_false (b := !fewB all) (by rw [hf]; rfl) ?_
  repeat (first | refine ga_ ?_ | intro _)
  refine Or.inl ⟨⟨_, Tryz.func21, rfl, rfl⟩, ACall.mono ?_ (apart_ok p _ hdl)⟩
  rintro _ S1 ⟨bb, rfl, hap, hS1⟩
  subst S1
  repeat (first | refine ga_ ?_ | intro _)
  cases bb with
  | false =>
    repeat (first | refine ga_ ?_ | intro _)
    refine AW_ret ?_
    repeat refine mk_ ?_
    refine ⟨_, R, AVle.eq ?_, sle_, rfl, rfl⟩
    rfl
  | true =>
  have hap := hap rfl
  repeat (first | refine ga_ ?_ | intro _)
  refine Or.inl ⟨⟨_, Tryz.func22, rfl, rfl⟩, ACall.mono ?_ (kb _)⟩
  rintro _ S1 ⟨rfl, hS1⟩
  subst S1
  repeat (first | refine det_step rfl ?_ | refine ⟨rfl, ?_⟩ | refine ⟨⟨_, rfl⟩, ?_⟩ | refine ⟨⟨_, rfl, rfl⟩, ?_⟩ | refine ⟨⟨rfl, rfl⟩, ?_⟩ | refine ⟨⟨Nat.le_of_ble_eq_true rfl, Nat.le_of_ble_eq_true rfl⟩, ?_⟩ | refine ⟨Nat.le_of_ble_eq_true rfl, ?_⟩ | refine ⟨_, _, rfl, ?_⟩ | refine ⟨0, _, rfl, ?_⟩ | refine ⟨1, _, rfl, ?_⟩ | refine ⟨2, _, rfl, ?_⟩ | refine ⟨3, _, rfl, ?_⟩ | refine ⟨4, _, rfl, ?_⟩ | refine ⟨5, _, rfl, ?_⟩ | refine ⟨_, rfl, ?_⟩ | intro _)
  rename_i b6
  refine AW_weak (weak_of (l := [(1, .sl 1 (all.map Rel.encL) .no), (5, .bool true), (6, .ptr b6 0)]) (m := []) (S' := .cells b6 [.sl 6 (q.decls.map encD) .no, .sl 4 (q.rules.map encRu) .no] :: R) ?_ rfl ?_) ?_
  · repeat (first | exact trivial | refine env_ ?_)
  · refine SW.le ?_
    repeat (first | exact SW.nil | refine sw_ ?_)
  repeat (first | refine ga_ ?_ | intro _)
  have k1 := fun R hG => tell_ok q all .no R hG hok hF
  by_cases hr : rightP q = true
  rotate_left
  · rw [tellL_no (by simpa using hr)] at k1
    refine Or.inl ⟨⟨_, Tryz.func19, rfl, rfl⟩, ACall.mono ?_ (k1 _ hG.cons)⟩
    rintro _ S1 ⟨rfl, hS1⟩
    subst S1
    repeat (first | refine ga_ ?_ | intro _)
    refine AW_ret ?_
    repeat refine mk_ ?_
    refine ⟨_, R, AVle.eq ?_, sle_, rfl, rfl⟩
    rfl
  by_cases hfa : fitAll all q.decls = true
  rotate_left
  · rw [tellL_bad hr (by simpa using hfa)] at k1
    refine Or.inl ⟨⟨_, Tryz.func19, rfl, rfl⟩, ACall.mono ?_ (k1 _ hG.cons)⟩
    rintro _ S1 ⟨rfl, hS1⟩
    subst S1
    repeat (first | refine ga_ ?_ | intro _)
    refine AW_ret ?_
    repeat refine mk_ ?_
    refine ⟨_, R, AVle.eq ?_, sle_, rfl, rfl⟩
    rfl
  rw [tellL_yes hr hfa] at k1
  have hlen := tell_tight all q.decls (right_rel40 hr) hfa hn
  have hsum : sumA all ≤ 100 := by
    rw [fewB, Bool.and_eq_true, decide_eq_true_eq] at hf
    exact hf.1
  have hbk := tell_back (p := q) (by rw [hq]; exact apart_both hap) (fun d hd => by rw [hq] at hd; obtain ⟨x, _, rfl⟩ := List.mem_map.1 hd; rfl) (fun d hd => by rw [hq] at hd; obtain ⟨x, _, rfl⟩ := List.mem_map.1 hd; rfl) (fun d hd => ((right_D hr).2 d hd).2) hfa hn
  obtain ⟨s, hs'⟩ : ∃ s, s = tellAll all q.decls := ⟨_, rfl⟩
  rw [← hs'] at k1 hlen hbk
  have k2 := fun R hG => readP_ok q s R hG (by omega) hok
  rw [resX_fault hr, hbk.1, hbk.2] at k2
  have k3 := fun R => same3_ok all all .no .no R (by have := hF.len; omega)
  refine Or.inl ⟨⟨_, Tryz.func19, rfl, rfl⟩, ACall.mono ?_ (k1 _ hG.cons)⟩
  rintro _ S1 ⟨rfl, hS1⟩
  subst S1
  repeat (first | refine ga_ ?_ | intro _)
  refine Or.inl ⟨⟨_, Tryz.func13, rfl, rfl⟩, ACall.mono ?_ (k2 _ hG.cons)⟩
  rintro _ S1 ⟨rfl, hS1⟩
  subst S1
  repeat (first | refine ga_ ?_ | intro _)
  refine Or.inl ⟨⟨_, Tryz.func15, rfl, rfl⟩, ACall.mono ?_ (k3 _)⟩
  rintro _ S1 ⟨rfl, hS1⟩
  subst S1
  repeat (first | refine ga_ ?_ | intro _)
  refine AW_ret ?_
  repeat refine mk_ ?_
  refine ⟨_, R, AVle.eq ?_, sle_, rfl, rfl⟩
  exact congrArg AV.bool (decide_eq_true rfl)
end Go.Proofs.YtgkjbpnmeeibbaaGreatDoor
