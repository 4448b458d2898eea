/-
  Which rows are a relation's; how much rows hold. Own work.
-/
import Derived.Test.YtgkjbpnmeeibbaaGreatDoorQ18
import Derived.Test.YtgkjbpnmeeibbaaGreatDoorQ1
set_option linter.all false
namespace Go.Proofs.YtgkjbpnmeeibbaaGreatDoor
open Go.Aw Go.RowKit Tree
set_option maxHeartbeats 4000000
set_option maxRecDepth 4000
open Rel (V encV encR foldPut Cl riseB eqk_val)

theorem fitR_get : ∀ {t : List V} {ks : List Int}, fitR t ks = true → ∀ (j : Nat) (h : j < t.length) (h' : j < ks.length), fitV t[j] ks[j] = true
  | [], _, _, j, h, _ => absurd h (Nat.not_lt_zero _)
  | _ :: _, [], h, _, _, _ => by cases h
  | v :: t, k :: ks, h, j, h1, h2 => by
    rw [fitR, Bool.and_eq_true] at h
    cases j with
    | zero => exact h.1
    | succ j => exact fitR_get h.2 j (by simpa using h1) (by simpa using h2)
theorem fitR_of : ∀ {t : List V} {ks : List Int}, t.length = ks.length → (∀ (j : Nat) (h : j < t.length) (h' : j < ks.length), fitV t[j] ks[j] = true) → fitR t ks = true
  | [], [], _, _ => rfl
  | [], _ :: _, h, _ => by simp at h
  | _ :: _, [], h, _ => by simp at h
  | v :: t, k :: ks, h, hf => by
    rw [fitR, Bool.and_eq_true]
    exact ⟨hf 0 (by simp) (by simp), fitR_of (by simpa using h) fun j h1 h2 => hf (j + 1) (by simpa using h1) (by simpa using h2)⟩
theorem typed_ok (v : V) (k : Int) (R : List En) : ACall Tryz.prog 74 [encV v, .int .i64 k] R (fun r S => r = .bool (fitV v k) ∧ S = R) := by
  by_cases hk : k = 1
  · have e : fitV v k = (!v.sym && decide (v.s = [])) := by rw [fitV, if_pos hk]
    refine ACall_body tab_ok Tryz.func74 rfl rfl rfl (by kernel_rfl) (Nat.le_of_ble_eq_true rfl) ?_
    repeat (first | refine go_ ?_ | intro _)
    refine AW_true (b := decide (k = 1)) rfl (by exact decide_eq_true hk) ?_
    cases hs : v.sym with
    | true =>
      repeat (first | refine go_ ?_ | intro _)
      refine known_false (b := !v.sym) (by rw [hs]; rfl) ?_
      repeat (first | refine ga_ ?_ | intro _)
      refine AW_ret ?_
      repeat refine mk_ ?_
      refine ⟨_, R, AVle.eq ?_, sle_, rfl, rfl⟩
      rw [e, hs]; rfl
    | false =>
      repeat (first | refine go_ ?_ | intro _)
      refine known_true (b := !v.sym) (by rw [hs]; rfl) ?_
      repeat (first | refine ga_ ?_ | intro _)
      refine AW_ret ?_
      repeat refine mk_ ?_
      refine ⟨_, R, AVle.eq ?_, sle_, rfl, rfl⟩
      rw [e, hs]; rfl
  · have e : fitV v k = (v.sym && decide (v.n = 0)) := by rw [fitV, if_neg hk]
    refine ACall_body tab_ok Tryz.func74 rfl rfl rfl (by kernel_rfl) (Nat.le_of_ble_eq_true rfl) ?_
    repeat (first | refine go_ ?_ | intro _)
    refine AW_false (b := decide (k = 1)) rfl (by exact decide_eq_false hk) ?_
    cases hs : v.sym with
    | true =>
      repeat (first | refine go_ ?_ | intro _)
      refine known_true (b := v.sym) (by exact hs) ?_
      repeat (first | refine ga_ ?_ | intro _)
      refine AW_ret ?_
      repeat refine mk_ ?_
      refine ⟨_, R, AVle.eq ?_, sle_, rfl, rfl⟩
      rw [e, hs]; rfl
    | false =>
      repeat (first | refine go_ ?_ | intro _)
      refine known_false (b := v.sym) (by exact hs) ?_
      repeat (first | refine ga_ ?_ | intro _)
      refine AW_ret ?_
      repeat refine mk_ ?_
      refine ⟨_, R, AVle.eq ?_, sle_, rfl, rfl⟩
      rw [e, hs]; rfl
theorem get_encR {l : List (List V)} {i : Nat} (h : i < l.length) : (l.map encR)[i]? = some (encR l[i]) := by rw [List.getElem?_map, List.getElem?_eq_getElem h]; rfl
theorem get_encV {l : List V} {i : Nat} (h : i < l.length) : (l.map encV)[i]? = some (encV l[i]) := by rw [List.getElem?_map, List.getElem?_eq_getElem h]; rfl
theorem get_encI {l : List Int} {i : Nat} (h : i < l.length) : (l.map encI)[i]? = some (encI l[i]) := by rw [List.getElem?_map, List.getElem?_eq_getElem h]; rfl
theorem fitsOne_ok (d : De) (l : List (List V)) (tk : Tk) (R : List En) (hl : l.length ≤ 16777216) (hr : ∀ r ∈ l, r.length ≤ 16777216) : ACall Tryz.prog 37 [encD d, .sl 1 (l.map encR) tk] R (fun r S => r = .bool (fitOne d l) ∧ S = R) := by
  have kr := fun R => Rel.refRise_ok l tk R
  by_cases hrise : riseB l = true
  rotate_left
  · have hrise : riseB l = false := by simpa using hrise
    have e : fitOne d l = false := by rw [fitOne, hrise]; rfl
    rw [hrise] at kr
    refine ACall_body tab_ok Tryz.func37 rfl rfl rfl (by kernel_rfl) (Nat.le_of_ble_eq_true rfl) ?_
    repeat (first | refine go_ ?_ | intro _)
    refine Or.inl ⟨⟨_, Tryz.func73, rfl, rfl⟩, ACall.mono ?_ (kr _)⟩
    rintro _ S1 ⟨rfl, hS1⟩
    subst S1
    repeat (first | refine ga_ ?_ | intro _)
    refine AW_ret ?_
    repeat refine mk_ ?_
    refine ⟨_, R, AVle.eq ?_, sle_, rfl, rfl⟩
    rw [e]; rfl
  rw [hrise] at kr
  have e : fitOne d l = l.all fun t => fitR t d.types := by rw [fitOne, hrise]; rfl
  rw [e]
  refine ACall_body tab_ok Tryz.func37 rfl rfl rfl (by kernel_rfl) (Nat.le_of_ble_eq_true rfl) ?_
  repeat (first | refine go_ ?_ | intro _)
  rename_i b2
  refine Or.inl ⟨⟨_, Tryz.func73, rfl, rfl⟩, ACall.mono ?_ (kr _)⟩
  rintro _ S1 ⟨rfl, hS1⟩
  subst S1
  repeat (first | refine ga_ ?_ | intro _)
  refine AW_for (α := Nat) (fun z => ⟨[(1, .sl 1 (l.map encR) tk), (2, .ptr b2 0), (6, .int .i64 (z : Nat))], []⟩) (fun z => .cells b2 (cD d) :: R) (fun z => l.length - z) (fun z => z ≤ l.length ∧ ∀ (j : Nat) (h : j < l.length), j < z → fitR l[j] d.types = true) (0) ?_ (weak_of ?_ rfl ?_) (fun z hz => ?_)
  · exact ⟨Nat.zero_le _, fun j h h' => absurd h' (Nat.not_lt_zero _)⟩
  · repeat (first | exact trivial | refine env_ ?_)
  · repeat (first | exact SLe.rfl | refine SLe.tail ?_ | refine SLe.full ?_)
  obtain ⟨i1, i2⟩ := hz
  obtain ⟨i, rfl⟩ : ∃ i, i = z := ⟨_, rfl⟩
  repeat (first | refine go_ ?_ | intro _)
  refine AW_iff (i < l.length) rfl (by rw [decide_eq_true_eq, List.length_map]; omega) (fun h => ?_) (fun h => ?_)
  rotate_left
  · have : (l.all fun t => fitR t d.types) = true := List.all_eq_true.2 fun t ht => by
      obtain ⟨j, hj, rfl⟩ := List.mem_iff_getElem.1 ht
      exact i2 j hj (by omega)
    repeat (first | refine go_ ?_ | intro _)
    refine AW_ret ?_
    repeat refine mk_ ?_
    refine ⟨_, R, AVle.eq ?_, sle_, rfl, rfl⟩
    rw [this]; rfl
  have hlt := h
  obtain ⟨t, ht⟩ : ∃ t, t = l[i] := ⟨_, rfl⟩
  have hg := get_encR hlt
  rw [← ht] at hg
  have htl := hr t (ht ▸ List.getElem_mem hlt)
  have hno : fitR t d.types = false → (l.all fun t => fitR t d.types) = false := fun hn => List.all_eq_false.2 ⟨t, ht ▸ List.getElem_mem hlt, by rw [hn]; simp⟩
  repeat (first | refine go_ ?_ | intro _)
  refine AW_draw tab_ok mixed 9 (by first | rfl | kernel_rfl) ?_
  repeat (first | refine go_ ?_ | intro _)
  refine at_get (i) (encR t) (by first | rfl | omega | (rw [wrap_i64 (by omega)]; omega)) (by exact hg) ?_
  repeat (first | refine go_ ?_ | intro _)
  by_cases hlen : t.length = d.types.length
  rotate_left
  · have : fitR t d.types = false := by
      cases hf : fitR t d.types with
      | false => rfl
      | true => exact absurd (fitR_len hf) hlen
    refine AW_true (b := !decide (((t.map encV).length : Int) = ((d.types.map encI).length : Int))) rfl (by rw [List.length_map, List.length_map, decide_eq_false (by omega)]; rfl) ?_
    repeat (first | refine go_ ?_ | intro _)
    refine AW_ret ?_
    repeat refine mk_ ?_
    refine ⟨_, R, AVle.eq ?_, sle_, rfl, rfl⟩
    rw [hno this]; rfl
  refine AW_false (b := !decide (((t.map encV).length : Int) = ((d.types.map encI).length : Int))) rfl (by rw [List.length_map, List.length_map, decide_eq_true (by omega)]; rfl) ?_
  repeat (first | refine go_ ?_ | intro _)
  refine AW_for (α := Nat) (fun z => ⟨[(1, .sl 1 (l.map encR) tk), (2, .ptr b2 0), (6, .int .i64 (i : Nat)), (7, .int .i64 (z : Nat))], []⟩) (fun z => .cells b2 (cD d) :: R) (fun z => t.length - z) (fun z => z ≤ t.length ∧ ∀ (j : Nat) (h : j < t.length) (h' : j < d.types.length), j < z → fitV t[j] d.types[j] = true) (0) ?_ (weak_of ?_ rfl ?_) (fun z hz => ?_)
  · exact ⟨Nat.zero_le _, fun j h h1 h' => absurd h' (Nat.not_lt_zero _)⟩
  · repeat (first | exact trivial | refine env_ ?_)
  · repeat (first | exact SLe.rfl | refine SLe.tail ?_ | refine SLe.full ?_)
  obtain ⟨j1, j2⟩ := hz
  repeat (first | refine go_ ?_ | intro _)
  refine at_get (i) (encR t) (by first | rfl | omega | (rw [wrap_i64 (by omega)]; omega)) (by exact hg) ?_
  repeat (first | refine go_ ?_ | intro _)
  refine AW_iff (z < t.length) rfl (by rw [decide_eq_true_eq, List.length_map]; omega) (fun h => ?_) (fun h => ?_)
  · have hz := h
    have hz' : z < d.types.length := by omega
    obtain ⟨v, hv⟩ : ∃ v, v = t[z] := ⟨_, rfl⟩
    obtain ⟨k, hk⟩ : ∃ k, k = d.types[z] := ⟨_, rfl⟩
    have hgv := get_encV hz
    have hgk := get_encI hz'
    rw [← hv] at hgv
    rw [← hk] at hgk
    have kt := fun R => typed_ok v k R
    repeat (first | refine go_ ?_ | intro _)
    refine AW_draw tab_ok mixed 14 (by first | rfl | kernel_rfl) ?_
    repeat (first | refine go_ ?_ | intro _)
    refine at_get (i) (encR t) (by first | rfl | omega | (rw [wrap_i64 (by omega)]; omega)) (by exact hg) ?_
    repeat (first | refine go_ ?_ | intro _)
    refine at_get (z) (encV v) (by first | rfl | omega | (rw [wrap_i64 (by omega)]; omega)) (by exact hgv) ?_
    repeat (first | refine go_ ?_ | intro _)
    refine at_get (z) (encI k) (by first | rfl | omega | (rw [wrap_i64 (by omega)]; omega)) (by exact hgk) ?_
    repeat (first | refine go_ ?_ | intro _)
    apply call_step
    · rfl
    · exact Or.inl ⟨⟨_, Tryz.func74, rfl, rfl⟩, kt _⟩
    repeat (first | refine go_ ?_ | intro _)
    by_cases hf : fitV v k = true
    · refine AW_false (b := !fitV v k) rfl (by rw [hf]; rfl) ?_
      repeat (first | refine go_ ?_ | intro _)
      refine ⟨z + 1, ?_, ?_, weak_of ?_ rfl ?_⟩
      · omega
      · refine ⟨by omega, fun j h1 h2 h3 => ?_⟩
        by_cases hjz : j < z
        · exact j2 j h1 h2 hjz
        · obtain rfl : j = z := by omega
          rw [← hv, ← hk]; exact hf
      · repeat (first | exact trivial | refine env_ ?_)
      · repeat (first | exact SLe.rfl | refine SLe.tail ?_ | refine SLe.full ?_)
    · have hf' : fitV v k = false := by simpa using hf
      refine AW_true (b := !fitV v k) rfl (by rw [hf']; rfl) ?_
      have hx : fitR t d.types = false := by
        cases hft : fitR t d.types with
        | false => rfl
        | true =>
          have := fitR_get hft z hz hz'
          rw [← hv, ← hk] at this
          exact absurd this hf
      repeat (first | refine go_ ?_ | intro _)
      refine AW_ret ?_
      repeat refine mk_ ?_
      refine ⟨_, R, AVle.eq ?_, sle_, rfl, rfl⟩
      rw [hno hx]; rfl
  · have hft : fitR t d.types = true := fitR_of hlen fun j h1 h2 => j2 j h1 h2 (by omega)
    repeat (first | refine go_ ?_ | intro _)
    refine ⟨i + 1, ?_, ?_, weak_of ?_ rfl ?_⟩
    · omega
    · refine ⟨by omega, fun j h1 h2 => ?_⟩
      by_cases hji : j < i
      · exact i2 j h1 hji
      · obtain rfl : j = i := by omega
        rw [← ht]; exact hft
    · repeat (first | exact trivial | refine env_ ?_)
    · repeat (first | exact SLe.rfl | refine SLe.tail ?_ | refine SLe.full ?_)
theorem fitAll_of : ∀ {all : Rows} {ds : List De}, all.length = ds.length → (∀ (i : Nat) (h : i < all.length) (h' : i < ds.length), fitOne ds[i] all[i] = true) → fitAll all ds = true
  | [], [], _, _ => rfl
  | [], _ :: _, h, _ => by simp at h
  | _ :: _, [], h, _ => by simp at h
  | l :: ls, d :: ds, h, hf => by
    rw [fitAll, Bool.and_eq_true]
    exact ⟨hf 0 (by simp) (by simp), fitAll_of (by simpa using h) fun i h1 h2 => hf (i + 1) (by simpa using h1) (by simpa using h2)⟩
theorem get_encD {l : List De} {i : Nat} (h : i < l.length) : (l.map encD)[i]? = some (encD l[i]) := by rw [List.getElem?_map, List.getElem?_eq_getElem h]; rfl
theorem fits_ok (p : Pr) (all : Rows) (tk : Tk) (R : List En) (hr : rightP p = true) (hl : ∀ l ∈ all, l.length ≤ 16777216 ∧ ∀ r ∈ l, r.length ≤ 16777216) : ACall Tryz.prog 43 [encP p, .sl 1 (all.map Rel.encL) tk] R (fun r S => r = .bool (fitAll all p.decls) ∧ S = R) := by
  have kr := fun R => refRight_ok p R
  rw [hr] at kr
  obtain ⟨hd, _⟩ := right_D hr
  by_cases hlen : all.length = p.decls.length
  rotate_left
  · have e : fitAll all p.decls = false := by
      cases hf : fitAll all p.decls with
      | false => rfl
      | true => exact absurd (fitAll_at hf).1 hlen
    refine ACall_body tab_ok Tryz.func43 rfl rfl rfl (by kernel_rfl) (Nat.le_of_ble_eq_true rfl) ?_
    repeat (first | refine go_ ?_ | intro _)
    refine Or.inl ⟨⟨_, Tryz.func30, rfl, rfl⟩, ACall.mono ?_ (kr _)⟩
    rintro _ S1 ⟨rfl, hS1⟩
    subst S1
    repeat (first | refine ga_ ?_ | intro _)
    refine AW_true (b := !decide (((all.map Rel.encL).length : Int) = ((p.decls.map encD).length : Int))) rfl (by rw [List.length_map, List.length_map, decide_eq_false (by omega)]; rfl) ?_
    repeat (first | refine ga_ ?_ | intro _)
    refine AW_ret ?_
    repeat refine mk_ ?_
    refine ⟨_, R, AVle.eq ?_, sle_, rfl, rfl⟩
    rw [e]; rfl
  refine ACall_body tab_ok Tryz.func43 rfl rfl rfl (by kernel_rfl) (Nat.le_of_ble_eq_true rfl) ?_
  repeat (first | refine go_ ?_ | intro _)
  rename_i b2
  refine Or.inl ⟨⟨_, Tryz.func30, rfl, rfl⟩, ACall.mono ?_ (kr _)⟩
  rintro _ S1 ⟨rfl, hS1⟩
  subst S1
  repeat (first | refine ga_ ?_ | intro _)
  refine AW_false (b := !decide (((all.map Rel.encL).length : Int) = ((p.decls.map encD).length : Int))) rfl (by rw [List.length_map, List.length_map, decide_eq_true (by omega)]; rfl) ?_
  repeat (first | refine ga_ ?_ | intro _)
  refine AW_for (α := Nat) (fun z => ⟨[(1, .sl 1 (all.map Rel.encL) tk), (2, .ptr b2 0), (6, .int .i64 (z : Nat))], []⟩) (fun z => .cells b2 [.sl 6 (p.decls.map encD) .no, .sl 4 (p.rules.map encRu) .no] :: R) (fun z => all.length - z) (fun z => z ≤ all.length ∧ ∀ (j : Nat) (h : j < all.length) (h' : j < p.decls.length), j < z → fitOne p.decls[j] all[j] = true) (0) ?_ (weak_of ?_ rfl ?_) (fun z hz => ?_)
  · exact ⟨Nat.zero_le _, fun j h h1 h' => absurd h' (Nat.not_lt_zero _)⟩
  · repeat (first | exact trivial | refine env_ ?_)
  · repeat (first | exact SLe.rfl | refine SLe.tail ?_ | refine SLe.full ?_)
  obtain ⟨i1, i2⟩ := hz
  repeat (first | refine go_ ?_ | intro _)
  refine AW_iff (z < all.length) rfl (by rw [decide_eq_true_eq, List.length_map]; omega) (fun h => ?_) (fun h => ?_)
  rotate_left
  · have : fitAll all p.decls = true := fitAll_of hlen fun j h1 h2 => i2 j h1 h2 (by omega)
    repeat (first | refine go_ ?_ | intro _)
    refine AW_ret ?_
    repeat refine mk_ ?_
    refine ⟨_, R, AVle.eq ?_, sle_, rfl, rfl⟩
    rw [this]; rfl
  have hlt := h
  have hlt' : z < p.decls.length := by omega
  obtain ⟨l, hl'⟩ : ∃ l, l = all[z] := ⟨_, rfl⟩
  obtain ⟨d, hd'⟩ : ∃ d, d = p.decls[z] := ⟨_, rfl⟩
  have hg := get_encL hlt
  have hgd := get_encD hlt'
  rw [← hl'] at hg
  rw [← hd'] at hgd
  obtain ⟨h1, h2⟩ := hl l (hl' ▸ List.getElem_mem hlt)
  have kf := fun R => fitsOne_ok d l .no R h1 h2
  repeat (first | refine go_ ?_ | intro _)
  refine AW_draw tab_ok mixed 11 (by first | rfl | kernel_rfl) ?_
  repeat (first | refine go_ ?_ | intro _)
  refine at_get (z) (encD d) (by first | rfl | omega | (rw [wrap_i64 (by omega)]; omega)) (by exact hgd) ?_
  repeat (first | refine go_ ?_ | intro _)
  refine at_get (z) (Rel.encL l) (by first | rfl | omega | (rw [wrap_i64 (by omega)]; omega)) (by exact hg) ?_
  repeat (first | refine go_ ?_ | intro _)
  apply call_step
  · rfl
  · exact Or.inl ⟨⟨_, Tryz.func37, rfl, rfl⟩, kf _⟩
  repeat (first | refine go_ ?_ | intro _)
  by_cases hf : fitOne d l = true
  · refine AW_false (b := !fitOne d l) rfl (by rw [hf]; rfl) ?_
    repeat (first | refine go_ ?_ | intro _)
    refine ⟨z + 1, ?_, ?_, weak_of ?_ rfl ?_⟩
    · omega
    · refine ⟨by omega, fun j h1 h2 h3 => ?_⟩
      by_cases hjz : j < z
      · exact i2 j h1 h2 hjz
      · obtain rfl : j = z := by omega
        rw [← hl', ← hd']; exact hf
    · repeat (first | exact trivial | refine env_ ?_)
    · repeat (first | exact SLe.rfl | refine SLe.tail ?_ | refine SLe.full ?_)
  · have hf' : fitOne d l = false := by simpa using hf
    have e : fitAll all p.decls = false := by
      cases hfa : fitAll all p.decls with
      | false => rfl
      | true =>
        have := (fitAll_at hfa).2 z hlt hlt'
        rw [← hl', ← hd'] at this
        exact absurd this hf
    refine AW_true (b := !fitOne d l) rfl (by rw [hf']; rfl) ?_
    repeat (first | refine go_ ?_ | intro _)
    refine AW_ret ?_
    repeat refine mk_ ?_
    refine ⟨_, R, AVle.eq ?_, sle_, rfl, rfl⟩
    rw [e]; rfl
end Go.Proofs.YtgkjbpnmeeibbaaGreatDoor
/-
  A row's line, the program's and the book's. Own work.
-/
namespace Go.Proofs.YtgkjbpnmeeibbaaGreatDoor
open Go.Aw Go.RowKit Tree
set_option maxHeartbeats 4000000
set_option maxRecDepth 4000
open Rel (V encV encR foldPut Cl riseB eqk_val)

def tellAV (x : List UInt8 × Int) : AV := .tup [.str x.1, .int .i64 x.2]
theorem field_len {v : V} (hn : inV v) (hs : v.s.length ≤ 1048576) : (fieldL v).length ≤ 4194400 := by
  have h1 := itoa_len hn
  have h2 := (quoteL_len v.s).2
  rw [fieldL, List.length_cons, wordL]
  split <;> omega
theorem flds_take {t : List V} {i : Nat} (h : i < t.length) : (t.take (i + 1)).flatMap fieldL = (t.take i).flatMap fieldL ++ fieldL t[i] := by
  rw [List.take_succ_eq_append_getElem h, List.flatMap_append]; simp
theorem flds_len {t : List V} (hn : ∀ v ∈ t, inV v) (hs : ∀ v ∈ t, v.s.length ≤ 1048576) : (t.flatMap fieldL).length ≤ 4194400 * t.length := by
  induction t with
  | nil => simp
  | cons v t ih =>
    have h1 := field_len (hn v (.head _)) (hs v (.head _))
    have h2 := ih (fun u hu => hn u (.tail _ hu)) (fun u hu => hs u (.tail _ hu))
    simp only [List.flatMap_cons, List.length_append, List.length_cons]; omega
theorem flds_part {t : List V} (hn : ∀ v ∈ t, inV v) (hs : ∀ v ∈ t, v.s.length ≤ 1048576) (i : Nat) : ((t.take i).flatMap fieldL).length ≤ 4194400 * t.length := by
  have h1 := flds_len (t := t.take i) (fun v hv => hn v (List.mem_of_mem_take hv)) (fun v hv => hs v (List.mem_of_mem_take hv))
  have h2 : (t.take i).length ≤ t.length := by rw [List.length_take]; omega
  have h3 := Nat.mul_le_mul_left 4194400 h2
  omega
theorem lineL_no {d : De} {t : List V} (h : fitR t d.types = false) : lineL d t = ([], 90) := by rw [lineL, if_neg (by rw [h]; simp)]
theorem lineL_yes {d : De} {t : List V} (h : fitR t d.types = true) : lineL d t = (textL d t ++ [10], 0) := by rw [lineL, if_pos h]
theorem line_len0 {d : De} {t : List V} (h : t.length ≠ d.types.length) : fitR t d.types = false := by
  cases hf : fitR t d.types with
  | false => rfl
  | true => exact absurd (fitR_len hf) h
theorem line_ok (d : De) (t : List V) (tk : Tk) (R : List En) (hG : NumG R) (hl : t.length ≤ 1048576) (hd : d.rel.length ≤ 1048576) (hn : ∀ v ∈ t, inV v) (hs : ∀ v ∈ t, v.s.length ≤ 1048576) : ACall Tryz.prog 17 [encD d, .sl 3 (t.map encV) tk] R (fun r S => r = tellAV (lineL d t) ∧ S = R) := by
  by_cases hlen : t.length = d.types.length
  rotate_left
  · have hno := line_len0 hlen
    refine ACall_body tab_ok Tryz.func17 rfl rfl rfl (by kernel_rfl) (Nat.le_of_ble_eq_true rfl) ?_
    repeat (first | refine go_ ?_ | intro _)
    refine AW_true (b := !decide (((t.map encV).length : Int) = ((d.types.map encI).length : Int))) rfl (by rw [List.length_map, List.length_map, decide_eq_false (by omega)]; rfl) ?_
    repeat (first | refine go_ ?_ | intro _)
    refine AW_ret ?_
    repeat refine mk_ ?_
    refine ⟨_, R, AVle.eq ?_, sle_, rfl, rfl⟩
    rw [lineL_no hno]; rfl
  have hpart := flds_part hn hs
  refine ACall_body tab_ok Tryz.func17 rfl rfl rfl (by kernel_rfl) (Nat.le_of_ble_eq_true rfl) ?_
  repeat (first | refine go_ ?_ | intro _)
  rename_i b2
  refine AW_false (b := !decide (((t.map encV).length : Int) = ((d.types.map encI).length : Int))) rfl (by rw [List.length_map, List.length_map, decide_eq_true (by omega)]; rfl) ?_
  repeat (first | refine go_ ?_ | intro _)
  refine AW_for (α := Nat) (fun z => ⟨[(2, .ptr b2 0), (6, .str (d.rel ++ (t.take z).flatMap fieldL)), (17, .sl 3 (t.map encV) tk), (18, .int .i64 (t.length : Nat)), (19, .int .i64 (z : Nat))], []⟩) (fun z => .cells b2 (cD d) :: R) (fun z => t.length - z) (fun z => z ≤ t.length ∧ ∀ (j : Nat) (h : j < t.length) (h' : j < d.types.length), j < z → fitV t[j] d.types[j] = true) (0) ?_ (weak_of ?_ rfl ?_) (fun z hz => ?_)
  · exact ⟨Nat.zero_le _, fun j h h1 h' => absurd h' (Nat.not_lt_zero _)⟩
  · repeat (first | exact trivial | refine ⟨(AVle.eq (congrArg AV.str (by simp))), ?_⟩ | refine ⟨(AVle.eq (congrArg (AV.int .i64) (by simp))), ?_⟩ | refine env_ ?_)
  · repeat (first | exact SLe.rfl | refine SLe.tail ?_ | refine SLe.full ?_)
  obtain ⟨j1, j2⟩ := hz
  have hpz := hpart z
  have hbz : (d.rel ++ (t.take z).flatMap fieldL).length ≤ 1048576 + 4194400 * 1048576 := by rw [List.length_append]; omega
  obtain ⟨B, hB⟩ : ∃ B, B = d.rel ++ (t.take z).flatMap fieldL := ⟨_, rfl⟩
  rw [← hB] at hbz
  rw [← hB]
  repeat (first | refine go_ ?_ | intro _)
  refine AW_iff (z < t.length) rfl (by first | (simp; done) | (simp <;> omega) | decide) (fun h => ?_) (fun h => ?_)
  rotate_left
  · have hft : fitR t d.types = true := fitR_of hlen fun j h1 h2 => j2 j h1 h2 (by omega)
    have hz : z = t.length := by omega
    have e : B ++ [10] = (lineL d t).1 := by rw [hB, lineL_yes hft, hz, List.take_length]; rfl
    have e2 : (lineL d t).2 = 0 := by rw [lineL_yes hft]
    repeat (first | refine go_ ?_ | intro _)
    refine cat_ ?_
    repeat (first | refine go_ ?_ | intro _)
    refine AW_ret ?_
    repeat refine mk_ ?_
    refine ⟨_, R, AVle.eq ?_, sle_, rfl, rfl⟩
    show AV.tup [.str (B ++ [10]), .int .i64 0] = AV.tup [.str (lineL d t).1, .int .i64 (lineL d t).2]
    rw [e, e2]
  have hlt := h
  have hlt' : z < d.types.length := by omega
  obtain ⟨v, hv⟩ : ∃ v, v = t[z] := ⟨_, rfl⟩
  obtain ⟨k, hk⟩ : ∃ k, k = d.types[z] := ⟨_, rfl⟩
  have hgv := get_encV hlt
  have hgk := get_encI hlt'
  rw [← hv] at hgv
  rw [← hk] at hgk
  have hvm : v ∈ t := hv ▸ List.getElem_mem hlt
  have hfl := field_len (hn v hvm) (hs v hvm)
  have hstep0 := flds_take hlt
  rw [← hv] at hstep0
  have hno : fitV v k = false → fitR t d.types = false := fun hf => by
    cases hft : fitR t d.types with
    | false => rfl
    | true =>
      have := fitR_get hft z hlt hlt'
      rw [← hv, ← hk] at this
      rw [this] at hf; cases hf
  repeat (first | refine go_ ?_ | intro _)
  refine at_get (z) (encV v) (by first | rfl | omega | (rw [wrap_i64 (by omega)]; omega)) (by exact hgv) ?_
  repeat (first | refine det_step rfl ?_ | refine ⟨rfl, ?_⟩ | refine ⟨⟨_, rfl⟩, ?_⟩ | refine ⟨⟨_, rfl, rfl⟩, ?_⟩ | refine ⟨⟨rfl, rfl⟩, ?_⟩ | refine ⟨⟨Nat.le_of_ble_eq_true rfl, Nat.le_of_ble_eq_true rfl⟩, ?_⟩ | refine ⟨Nat.le_of_ble_eq_true rfl, ?_⟩ | refine ⟨_, _, rfl, ?_⟩ | refine ⟨0, _, rfl, ?_⟩ | refine ⟨1, _, rfl, ?_⟩ | refine ⟨2, _, rfl, ?_⟩ | refine ⟨3, _, rfl, ?_⟩ | refine ⟨4, _, rfl, ?_⟩ | refine ⟨5, _, rfl, ?_⟩ | refine ⟨_, rfl, ?_⟩ | intro _)
  rename_i b8
  refine AW_weak (weak_of (l := [(2, .ptr b2 0), (6, .str B), (7, .int .i64 (z : Nat)), (8, .ptr b8 0), (17, .sl 3 (t.map encV) tk), (18, .int .i64 (t.length : Nat)), (19, .int .i64 (z : Nat))]) (m := []) (S' := .cells b8 [.bool v.sym, .int .i64 v.n, .str v.s] :: .cells b2 (cD d) :: R) ?_ rfl ?_) ?_
  · repeat (first | exact trivial | refine env_ ?_)
  · refine SW.le ?_
    repeat (first | exact SW.nil | refine sw_ ?_)
  repeat (first | refine go_ ?_ | intro _)
  refine at_get (z) (encI k) (by first | rfl | omega | (rw [wrap_i64 (by omega)]; omega)) (by exact hgk) ?_
  repeat (first | refine go_ ?_ | intro _)
  by_cases hk1 : k = 1
  · have e : fitV v k = (!v.sym && decide (v.s = [])) := by rw [fitV, if_pos hk1]
    refine known_true (b := decide (k = 1)) (by exact decide_eq_true hk1) ?_
    repeat (first | refine go_ ?_ | intro _)
    refine ⟨⟨_, eqk_val, rfl⟩, fitV v k, congrArg some (by rw [e]; cases v.sym <;> simp), ?_⟩
    repeat (first | refine go_ ?_ | intro _)
    by_cases hf : fitV v k = true
    · have hsym : v.sym = false := by rw [e] at hf; cases hb : v.sym with | false => rfl | true => rw [hb] at hf; cases hf
      have hstep : B ++ ([9] ++ Lib.itoa v.n) = d.rel ++ (t.take (z + 1)).flatMap fieldL := by rw [hB, hstep0, fieldL, wordL, if_neg (by rw [hsym]; simp)]; simp
      have hil := itoa_len (hn v hvm)
      refine AW_true (b := fitV v k) rfl (by exact hf) ?_
      repeat (first | refine go_ ?_ | intro _)
      refine Or.inl ⟨⟨_, Tryz.func35, rfl, rfl⟩, ACall.mono ?_ (num_ok v.n _ hG.cons.cons)⟩
      rintro _ S1 ⟨rfl, hS1⟩
      subst S1
      repeat (first | refine go_ ?_ | intro _)
      refine cat_ ?_
      repeat (first | refine ga_ ?_ | intro _)
      refine cat_ ?_
      repeat (first | refine ga_ ?_ | intro _)
      refine ⟨z + 1, ?_, ?_, weak_of ?_ rfl ?_⟩
      · omega
      · refine ⟨by omega, fun j h1 h2 h3 => ?_⟩
        by_cases hjz : j < z
        · exact j2 j h1 h2 hjz
        · obtain rfl : j = z := by omega
          rw [← hv, ← hk]; exact hf
      · repeat (first | exact trivial | refine ⟨(AVle.eq (congrArg AV.str hstep)), ?_⟩ | refine env_ ?_)
      · repeat (first | exact SLe.rfl | refine SLe.tail ?_ | refine SLe.full ?_)
    · have hf : fitV v k = false := by simpa using hf
      have hno := hno hf
      refine AW_false (b := fitV v k) rfl (by exact hf) ?_
      repeat (first | refine go_ ?_ | intro _)
      refine at_get (z) (encI k) (by first | rfl | omega | (rw [wrap_i64 (by omega)]; omega)) (by exact hgk) ?_
      repeat (first | refine go_ ?_ | intro _)
      refine known_false (b := !decide (k = 1)) (by rw [decide_eq_true hk1]; rfl) ?_
      repeat (first | refine ga_ ?_ | intro _)
      repeat (first | refine go_ ?_ | intro _)
      refine AW_ret ?_
      repeat refine mk_ ?_
      refine ⟨_, R, AVle.eq ?_, sle_, rfl, rfl⟩
      rw [lineL_no hno]; rfl
  · have e : fitV v k = (v.sym && decide (v.n = 0)) := by rw [fitV, if_neg hk1]
    refine known_false (b := decide (k = 1)) (by exact decide_eq_false hk1) ?_
    repeat (first | refine ga_ ?_ | intro _)
    refine at_get (z) (encI k) (by first | rfl | omega | (rw [wrap_i64 (by omega)]; omega)) (by exact hgk) ?_
    repeat (first | refine ga_ ?_ | intro _)
    refine known_true (b := !decide (k = 1)) (by rw [decide_eq_false hk1]; rfl) ?_
    repeat (first | refine go_ ?_ | intro _)
    refine ⟨⟨_, eqk_val, rfl⟩, fitV v k, congrArg some (by rw [e]; cases v.sym <;> simp), ?_⟩
    repeat (first | refine go_ ?_ | intro _)
    by_cases hf : fitV v k = true
    · have hsym : v.sym = true := by rw [e] at hf; cases hb : v.sym with | true => rfl | false => rw [hb] at hf; cases hf
      have hstep : B ++ ([9] ++ quoteL v.s) = d.rel ++ (t.take (z + 1)).flatMap fieldL := by rw [hB, hstep0, fieldL, wordL, if_pos hsym]; simp
      have hil := (quoteL_len v.s).2
      have hvs := hs v hvm
      refine AW_true (b := fitV v k) rfl (by exact hf) ?_
      repeat (first | refine go_ ?_ | intro _)
      refine Or.inl ⟨⟨_, Tryz.func36, rfl, rfl⟩, ACall.mono ?_ (quote_ok v.s _ (by omega))⟩
      rintro _ S1 ⟨rfl, hS1⟩
      subst S1
      repeat (first | refine go_ ?_ | intro _)
      refine cat_ ?_
      repeat (first | refine ga_ ?_ | intro _)
      refine cat_ ?_
      repeat (first | refine ga_ ?_ | intro _)
      refine ⟨z + 1, ?_, ?_, weak_of ?_ rfl ?_⟩
      · omega
      · refine ⟨by omega, fun j h1 h2 h3 => ?_⟩
        by_cases hjz : j < z
        · exact j2 j h1 h2 hjz
        · obtain rfl : j = z := by omega
          rw [← hv, ← hk]; exact hf
      · repeat (first | exact trivial | refine ⟨(AVle.eq (congrArg AV.str hstep)), ?_⟩ | refine env_ ?_)
      · repeat (first | exact SLe.rfl | refine SLe.tail ?_ | refine SLe.full ?_)
    · have hf : fitV v k = false := by simpa using hf
      have hno := hno hf
      refine AW_false (b := fitV v k) rfl (by exact hf) ?_
      repeat (first | refine go_ ?_ | intro _)
      refine AW_ret ?_
      repeat refine mk_ ?_
      refine ⟨_, R, AVle.eq ?_, sle_, rfl, rfl⟩
      rw [lineL_no hno]; rfl
theorem refLine_ok (d : De) (t : List V) (tk : Tk) (R : List En) (hl : t.length ≤ 1048576) (hd : d.rel.length ≤ 1048576) (hn : ∀ v ∈ t, inV v) (hs : ∀ v ∈ t, v.s.length ≤ 1048576) : ACall Tryz.prog 18 [encD d, .sl 3 (t.map encV) tk] R (fun r S => r = tellAV (lineL d t) ∧ S = R) := by
  have kf := fun R => fitsOne_ok d [t] .no R (by simp) (fun r hr => by rw [List.mem_singleton.1 hr]; omega)
  have e1 : fitOne d [t] = fitR t d.types := by rw [fitOne]; simp [riseB]
  rw [e1] at kf
  by_cases hft : fitR t d.types = true
  rotate_left
  · have hft : fitR t d.types = false := by simpa using hft
    rw [hft] at kf
    refine ACall_body tab_ok Tryz.func18 rfl rfl rfl (by kernel_rfl) (Nat.le_of_ble_eq_true rfl) ?_
    repeat (first | refine go_ ?_ | intro _)
    refine Or.inl ⟨⟨_, Tryz.func37, rfl, rfl⟩, ACall_args (ACall.mono ?_ (kf _)) ⟨AVle.refl _, AVle.slParts ⟨AVle.tk, trivial⟩ rfl rfl, trivial⟩⟩
    rintro _ S1 ⟨rfl, hS1⟩
    subst S1
    repeat (first | refine ga_ ?_ | intro _)
    refine AW_ret ?_
    repeat refine mk_ ?_
    refine ⟨_, R, AVle.eq ?_, sle_, rfl, rfl⟩
    rw [lineL_no hft]; rfl
  have hpart := flds_part hn hs
  rw [hft] at kf
  refine ACall_body tab_ok Tryz.func18 rfl rfl rfl (by kernel_rfl) (Nat.le_of_ble_eq_true rfl) ?_
  repeat (first | refine go_ ?_ | intro _)
  rename_i b2
  refine Or.inl ⟨⟨_, Tryz.func37, rfl, rfl⟩, ACall_args (ACall.mono ?_ (kf _)) ⟨AVle.refl _, AVle.slParts ⟨AVle.tk, trivial⟩ rfl rfl, trivial⟩⟩
  rintro _ S1 ⟨rfl, hS1⟩
  subst S1
  repeat (first | refine ga_ ?_ | intro _)
  refine AW_for (α := Nat) (fun z => ⟨[(1, .sl 3 (t.map encV) tk), (7, .str (d.rel ++ (t.take z).flatMap fieldL)), (8, .int .i64 (z : Nat))], []⟩) (fun z => R) (fun z => t.length - z) (fun z => z ≤ t.length) (0) ?_ (weak_of ?_ rfl ?_) (fun z hz => ?_)
  · exact Nat.zero_le _
  · repeat (first | exact trivial | refine ⟨(AVle.eq (congrArg AV.str (by simp))), ?_⟩ | refine env_ ?_)
  · repeat (first | exact SLe.rfl | refine SLe.tail ?_ | refine SLe.full ?_)
  have hpz := hpart z
  have hbz : (d.rel ++ (t.take z).flatMap fieldL).length ≤ 1048576 + 4194400 * 1048576 := by rw [List.length_append]; omega
  obtain ⟨B, hB⟩ : ∃ B, B = d.rel ++ (t.take z).flatMap fieldL := ⟨_, rfl⟩
  rw [← hB] at hbz
  repeat (first | refine go_ ?_ | intro _)
  refine AW_iff (z < t.length) rfl (by rw [decide_eq_true_eq, List.length_map]; omega) (fun h => ?_) (fun h => ?_)
  rotate_left
  · have hz' : z = t.length := by omega
    have e : B ++ [10] = (lineL d t).1 := by rw [hB, lineL_yes hft, hz', List.take_length]; rfl
    have e2 : (lineL d t).2 = 0 := by rw [lineL_yes hft]
    rw [← hB]
    repeat (first | refine go_ ?_ | intro _)
    refine cat_ ?_
    repeat (first | refine go_ ?_ | intro _)
    refine AW_ret ?_
    repeat refine mk_ ?_
    refine ⟨_, R, AVle.eq ?_, sle_, rfl, rfl⟩
    show AV.tup [.str (B ++ [10]), .int .i64 0] = AV.tup [.str (lineL d t).1, .int .i64 (lineL d t).2]
    rw [e, e2]
  have hlt := h
  obtain ⟨v, hv⟩ : ∃ v, v = t[z] := ⟨_, rfl⟩
  have hgv := get_encV hlt
  rw [← hv] at hgv
  have hvm : v ∈ t := hv ▸ List.getElem_mem hlt
  have hfl := field_len (hn v hvm) (hs v hvm)
  have hstep0 := flds_take hlt
  rw [← hv] at hstep0
  rw [← hB]
  repeat (first | refine go_ ?_ | intro _)
  refine at_get (z) (encV v) (by first | rfl | omega | (rw [wrap_i64 (by omega)]; omega)) (by exact hgv) ?_
  repeat (first | refine go_ ?_ | intro _)
  refine AW_cond (b := v.sym) rfl (fun h => ?_) (fun h => ?_)
  · have hsym := h
    have hstep : (B ++ [9]) ++ quoteL v.s = d.rel ++ (t.take (z + 1)).flatMap fieldL := by rw [hB, hstep0, fieldL, wordL, if_pos hsym]; simp
    have hil := (quoteL_len v.s).2
    have hvs := hs v hvm
    repeat (first | refine go_ ?_ | intro _)
    refine cat_ ?_
    repeat (first | refine go_ ?_ | intro _)
    refine at_get (z) (encV v) (by first | rfl | omega | (rw [wrap_i64 (by omega)]; omega)) (by exact hgv) ?_
    repeat (first | refine go_ ?_ | intro _)
    refine Or.inl ⟨⟨_, Tryz.func38, rfl, rfl⟩, ACall.mono ?_ (refQuote_ok v.s _ (by omega))⟩
    rintro _ S1 ⟨rfl, hS1⟩
    subst S1
    repeat (first | refine go_ ?_ | intro _)
    refine cat_ ?_
    repeat (first | refine go_ ?_ | intro _)
    refine ⟨z + 1, ?_, ?_, weak_of ?_ rfl ?_⟩
    · omega
    · omega
    · repeat (first | exact trivial | refine ⟨(AVle.eq (congrArg AV.str hstep)), ?_⟩ | refine env_ ?_)
    · repeat (first | exact SLe.rfl | refine SLe.tail ?_ | refine SLe.full ?_)
  · have hsym := h
    have hstep : (B ++ [9]) ++ Lib.itoa v.n = d.rel ++ (t.take (z + 1)).flatMap fieldL := by rw [hB, hstep0, fieldL, wordL, if_neg (by rw [hsym]; simp)]; simp
    have hil := itoa_len (hn v hvm)
    repeat (first | refine go_ ?_ | intro _)
    refine cat_ ?_
    repeat (first | refine go_ ?_ | intro _)
    refine at_get (z) (encV v) (by first | rfl | omega | (rw [wrap_i64 (by omega)]; omega)) (by exact hgv) ?_
    repeat (first | refine go_ ?_ | intro _)
    refine Or.inl ⟨⟨_, Tryz.func39, rfl, rfl⟩, ACall.mono ?_ (refNum_ok v.n _ (hn v hvm))⟩
    rintro _ S1 ⟨rfl, hS1⟩
    subst S1
    repeat (first | refine go_ ?_ | intro _)
    refine cat_ ?_
    repeat (first | refine go_ ?_ | intro _)
    refine ⟨z + 1, ?_, ?_, weak_of ?_ rfl ?_⟩
    · omega
    · omega
    · repeat (first | exact trivial | refine ⟨(AVle.eq (congrArg AV.str hstep)), ?_⟩ | refine env_ ?_)
    · repeat (first | exact SLe.rfl | refine SLe.tail ?_ | refine SLe.full ?_)
end Go.Proofs.YtgkjbpnmeeibbaaGreatDoor
/-
  What is told, the program's and the book's. Own work.
-/
namespace Go.Proofs.YtgkjbpnmeeibbaaGreatDoor
open Go.Aw Go.RowKit Tree
set_option maxHeartbeats 4000000
set_option maxRecDepth 4000
open Rel (V encV encR foldPut Cl riseB)

theorem bldF_in {b : Nat} {u : Bool} {s : List UInt8} {bb cap : Nat} {rest : List AV} {R : List En} {e : En} : SLe (Bld b u s bb cap rest (e :: R)) (e :: Bld b u s bb cap rest R) := by
  cases s with
  | nil => exact fun _ _ _ h => h.perm (List.perm_middle (l₁ := [_, _])).symm
  | cons => exact fun _ _ _ h => h.perm (List.perm_middle (l₁ := [_, _, _, _])).symm
theorem bldF_out {b : Nat} {u : Bool} {s : List UInt8} {bb cap : Nat} {rest : List AV} {R : List En} {e : En} : SLe (e :: Bld b u s bb cap rest R) (Bld b u s bb cap rest (e :: R)) := by
  cases s with
  | nil => exact fun _ _ _ h => h.perm (List.perm_middle (l₁ := [_, _]))
  | cons => exact fun _ _ _ h => h.perm (List.perm_middle (l₁ := [_, _, _, _]))
theorem ACall_dropX {f : FuncId} {args : List AV} {S S' : List En} {k : AV → List En → Prop} (hS : SLe S S') (hc : ACall Tryz.prog f args S' k) : ACall Tryz.prog f args S k := by
  unfold ACall at hc ⊢
  exact fun w0 K w vs hv h => hc w0 K w vs hv (hS _ _ _ h)
theorem bldF_drop {b : Nat} {u : Bool} {s : List UInt8} {bb cap : Nat} {rest : List AV} {R : List En} : SLe (Bld b u s bb cap rest R) R := by
  cases s with
  | nil => exact SLe.tail (SLe.tail SLe.rfl)
  | cons => exact SLe.tail (SLe.tail (SLe.tail (SLe.tail SLe.rfl)))
theorem NumG.bldF {b : Nat} {u : Bool} {s : List UInt8} {bb cap : Nat} {rest : List AV} {R : List En} {e : En} (h : NumG R) : NumG (e :: Bld b u s bb cap rest R) := by
  cases s with
  | nil => exact h.cons.cons.cons
  | cons => exact h.cons.cons.cons.cons.cons
/-- short rows: how many, how long -/
structure FewR (all : Rows) : Prop where
  len : all.length ≤ 100
  cnt : (all.map List.length).sum ≤ 100
  row : ∀ l ∈ all, ∀ t ∈ l, t.length ≤ 1048576 ∧ ∀ v ∈ t, inV v ∧ v.s.length ≤ 5049
theorem sum_at {α : Type} (f : α → Nat) {l : List α} {i : Nat} (h : i < l.length) : ((l.take (i + 1)).map f).sum = ((l.take i).map f).sum + f l[i] := by
  rw [List.take_succ_eq_append_getElem h, List.map_append, List.sum_append]; simp
theorem sum_part {α : Type} (f : α → Nat) (l : List α) (i : Nat) : ((l.take i).map f).sum ≤ (l.map f).sum := by
  have := List.take_append_drop i l
  conv => rhs; rw [← this]
  rw [List.map_append, List.sum_append]; omega
theorem sum_mem {α : Type} (f : α → Nat) {l : List α} {x : α} (h : x ∈ l) : f x ≤ (l.map f).sum := by
  induction l with
  | nil => cases h
  | cons a l ih =>
    rcases List.mem_cons.1 h with rfl | h
    · simp
    · have := ih h; simp; omega
/-- a line of a fitting row is short -/
theorem told_len {d : De} {t : List V} (hd : d.rel.length ≤ 1000) (ht : d.types.length ≤ 8) (hf : fitR t d.types = true) (hv : ∀ v ∈ t, inV v ∧ v.s.length ≤ 5049) : (textL d t ++ [10]).length ≤ 162800 := by
  have h1 := fitR_len hf
  have hfl : ∀ v ∈ t, (fieldL v).length ≤ 20200 := fun v hm => by
    obtain ⟨h1, h2⟩ := hv v hm
    have h3 := itoa_len h1
    have h4 := (quoteL_len v.s).2
    rw [fieldL, List.length_cons, wordL]
    split <;> omega
  have : ∀ l : List V, (∀ v ∈ l, (fieldL v).length ≤ 20200) → (l.flatMap fieldL).length ≤ 20200 * l.length := fun l hl => by
    induction l with
    | nil => simp
    | cons v l ih =>
      have h1 := hl v (.head _)
      have h2 := ih fun u hu => hl u (.tail _ hu)
      simp only [List.flatMap_cons, List.length_append, List.length_cons]; omega
  have := this t hfl
  rw [textL]
  simp only [List.length_append, List.length_cons, List.length_nil]; omega
/-- rows' lines -/
def rowsT (d : De) (l : List (List V)) : List UInt8 := if d.out = true then l.flatMap (fun t => textL d t ++ [10]) else []
theorem tellAll_at : ∀ {all : Rows} {ds : List De} {i : Nat}, (h : i < all.length) → (h' : i < ds.length) → tellAll (all.take (i + 1)) ds = tellAll (all.take i) ds ++ rowsT ds[i] all[i]
  | l :: ls, d :: ds, 0, _, _ => by
    simp only [List.take_succ_cons, List.take_zero, tellAll, List.getElem_cons_zero]
    cases ls <;> simp [tellAll, rowsT]
  | l :: ls, d :: ds, i + 1, h, h' => by
    simp only [List.take_succ_cons, tellAll, List.getElem_cons_succ]
    rw [tellAll_at (by simpa using h) (by simpa using h'), List.append_assoc]
theorem rowsT_at {d : De} {l : List (List V)} {i : Nat} (h : i < l.length) : rowsT d (l.take (i + 1)) = rowsT d (l.take i) ++ if d.out = true then textL d l[i] ++ [10] else [] := by
  rw [rowsT, rowsT]
  by_cases hd : d.out = true
  · rw [if_pos hd, if_pos hd, if_pos hd, List.take_succ_eq_append_getElem h, List.flatMap_append]; simp
  · rw [if_neg hd, if_neg hd, if_neg hd]; rfl
theorem rowsT_len {d : De} {l : List (List V)} (hd : d.rel.length ≤ 1000) (ht : d.types.length ≤ 8) (hf : ∀ t ∈ l, fitR t d.types = true) (hv : ∀ t ∈ l, ∀ v ∈ t, inV v ∧ v.s.length ≤ 5049) : (rowsT d l).length ≤ 162800 * l.length := by
  rw [rowsT]
  split
  · induction l with
    | nil => simp
    | cons t l ih =>
      have h1 := told_len hd ht (hf t (.head _)) (hv t (.head _))
      have h2 := ih (fun x hx => hf x (.tail _ hx)) (fun x hx => hv x (.tail _ hx))
      simp only [List.flatMap_cons, List.length_append, List.length_cons] at h1 h2 ⊢; omega
  · simp
theorem tellAll_len : ∀ (all : Rows) (ds : List De), (∀ d ∈ ds, d.rel.length ≤ 1000 ∧ d.types.length ≤ 8) → (∀ (i : Nat) (h : i < all.length) (h' : i < ds.length), fitOne ds[i] all[i] = true) → (∀ l ∈ all, ∀ t ∈ l, ∀ v ∈ t, inV v ∧ v.s.length ≤ 5049) → (tellAll all ds).length ≤ 162800 * (all.map List.length).sum
  | [], _, _, _, _ => by simp [tellAll]
  | _ :: _, [], _, _, _ => by simp [tellAll]
  | l :: ls, d :: ds, h1, h2, h3 => by
    have i1 := tellAll_len ls ds (fun x hx => h1 x (.tail _ hx)) (fun i a b => h2 (i + 1) (by simpa using a) (by simpa using b)) (fun x hx => h3 x (.tail _ hx))
    have hf : fitOne d l = true := h2 0 (by simp) (by simp)
    rw [fitOne, Bool.and_eq_true, List.all_eq_true] at hf
    have i2 := rowsT_len (h1 d (.head _)).1 (h1 d (.head _)).2 hf.2 (h3 l (.head _))
    rw [rowsT] at i2
    rw [tellAll, List.length_append, List.map_cons, List.sum_cons]
    omega
theorem tellL_no {p : Pr} {all : Rows} (h : rightP p = false) : tellL p all = ([], 30) := by rw [tellL, if_neg (by rw [h]; simp)]
theorem tellL_bad {p : Pr} {all : Rows} (h : rightP p = true) (hf : fitAll all p.decls = false) : tellL p all = ([], 90) := by rw [tellL, if_pos h, if_neg (by rw [hf]; simp)]
theorem tellL_yes {p : Pr} {all : Rows} (h : rightP p = true) (hf : fitAll all p.decls = true) : tellL p all = (tellAll all p.decls, 0) := by rw [tellL, if_pos h, if_pos hf]
theorem fit_no {all : Rows} {ds : List De} {i : Nat} (h : i < all.length) (h' : i < ds.length) (hf : fitOne ds[i] all[i] = false) : fitAll all ds = false := by
  cases hfa : fitAll all ds with
  | false => rfl
  | true => rw [(fitAll_at hfa).2 i h h'] at hf; cases hf
theorem fit_len {all : Rows} {ds : List De} (h : all.length ≠ ds.length) : fitAll all ds = false := by
  cases hf : fitAll all ds with
  | false => rfl
  | true => exact absurd (fitAll_at hf).1 h
theorem right_rel {p : Pr} (h : rightP p = true) : ∀ d ∈ p.decls, d.rel.length ≤ 1000 ∧ d.types.length ≤ 8 := fun d hd => by
  refine ⟨?_, ((right_D h).2 d hd).1⟩
  rw [rightP] at h
  simp only [Bool.and_eq_true, Bool.not_eq_true', List.all_eq_true] at h
  have := h.2.2.1 d hd
  rw [rightD] at this
  simp only [Bool.and_eq_true] at this
  have := this.1
  rw [nameB] at this
  simp only [Bool.and_eq_true, decide_eq_true_eq] at this
  omega
theorem tell_ok (p : Pr) (all : Rows) (tk : Tk) (R : List En) (hG : FactG R) (hok : ∀ r ∈ p.rules, okR r) (hF : FewR all) : ACall Tryz.prog 19 [encP p, .sl 1 (all.map Rel.encL) tk] R (fun r S => r = tellAV (tellL p all) ∧ S = R) := by
  obtain ⟨gN, _, _, bE, oE, gT⟩ := hG
  have kr := fun R hE => right_ok bE oE p R hE hok
  by_cases hr : rightP p = true
  rotate_left
  · have hr : rightP p = false := by simpa using hr
    rw [hr] at kr
    refine ACall_body tab_ok Tryz.func19 rfl rfl rfl (by kernel_rfl) (Nat.le_of_ble_eq_true rfl) ?_
    repeat (first | refine go_ ?_ | intro _)
    refine Or.inl ⟨⟨_, Tryz.func26, rfl, rfl⟩, ACall.mono ?_ (kr _ (.tail _ gT))⟩
    rintro _ S1 ⟨rfl, hS1⟩
    subst S1
    repeat (first | refine ga_ ?_ | intro _)
    refine AW_ret ?_
    repeat refine mk_ ?_
    refine ⟨_, R, AVle.eq ?_, sle_, rfl, rfl⟩
    rw [tellL_no hr]; rfl
  rw [hr] at kr
  have hD := right_rel hr
  have hdl := (right_D hr).1
  by_cases hlen : all.length = p.decls.length
  rotate_left
  · refine ACall_body tab_ok Tryz.func19 rfl rfl rfl (by kernel_rfl) (Nat.le_of_ble_eq_true rfl) ?_
    repeat (first | refine go_ ?_ | intro _)
    refine Or.inl ⟨⟨_, Tryz.func26, rfl, rfl⟩, ACall.mono ?_ (kr _ (.tail _ gT))⟩
    rintro _ S1 ⟨rfl, hS1⟩
    subst S1
    repeat (first | refine ga_ ?_ | intro _)
    refine AW_true (b := !decide (((all.map Rel.encL).length : Int) = ((p.decls.map encD).length : Int))) rfl (by rw [List.length_map, List.length_map, decide_eq_false (by omega)]; rfl) ?_
    repeat (first | refine ga_ ?_ | intro _)
    refine AW_ret ?_
    repeat refine mk_ ?_
    refine ⟨_, R, AVle.eq ?_, sle_, rfl, rfl⟩
    rw [tellL_bad hr (fit_len hlen)]; rfl
  obtain ⟨hF1, hF2, hF3⟩ := hF
  refine ACall_body tab_ok Tryz.func19 rfl rfl rfl (by kernel_rfl) (Nat.le_of_ble_eq_true rfl) ?_
  repeat (first | refine go_ ?_ | intro _)
  rename_i b2
  refine Or.inl ⟨⟨_, Tryz.func26, rfl, rfl⟩, ACall.mono ?_ (kr _ (.tail _ gT))⟩
  rintro _ S1 ⟨rfl, hS1⟩
  subst S1
  repeat (first | refine ga_ ?_ | intro _)
  refine AW_false (b := !decide (((all.map Rel.encL).length : Int) = ((p.decls.map encD).length : Int))) rfl (by rw [List.length_map, List.length_map, decide_eq_true (by omega)]; rfl) ?_
  repeat (first | refine ga_ ?_ | intro _)
  rename_i b6
  refine AW_for (α := Nat × Bool × Nat × Nat × List AV) (fun z => ⟨[(2, .ptr b2 0), (6, .ptr b6 0), (24, .sl 1 (all.map Rel.encL) tk), (25, .int .i64 (all.length : Nat)), (26, .int .i64 (z.1 : Nat))], []⟩) (fun z => .cells b2 [.sl 6 (p.decls.map encD) .no, .sl 4 (p.rules.map encRu) .no] :: Bld b6 z.2.1 (tellAll (all.take z.1) p.decls) z.2.2.1 z.2.2.2.1 z.2.2.2.2 R) (fun z => all.length - z.1) (fun z => z.1 ≤ all.length ∧ (tellAll (all.take z.1) p.decls).length ≤ z.2.2.2.1 ∧ z.2.2.2.2.length = z.2.2.2.1 - (tellAll (all.take z.1) p.decls).length ∧ ∀ (j : Nat) (h : j < all.length) (h' : j < p.decls.length), j < z.1 → fitOne p.decls[j] all[j] = true) ((0, false, 0, 0, [])) ?_ (weak_of ?_ rfl ?_) (fun z hz => ?_)
  · exact ⟨Nat.zero_le _, Nat.zero_le _, rfl, fun j h h1 h' => absurd h' (Nat.not_lt_zero _)⟩
  · repeat (first | exact trivial | refine ⟨(AVle.eq (congrArg (AV.int .i64) (by simp))), ?_⟩ | refine env_ ?_)
  · exact bldF_in (s := []) (rest := []) (b := b6) (u := false) (bb := 0) (cap := 0)
  obtain ⟨i, u, bb, cap, rest⟩ := z
  obtain ⟨i1, i2, i3, i4⟩ : i ≤ all.length ∧ (tellAll (all.take i) p.decls).length ≤ cap ∧ rest.length = cap - (tellAll (all.take i) p.decls).length ∧ ∀ (j : Nat) (h : j < all.length) (h' : j < p.decls.length), j < i → fitOne p.decls[j] all[j] = true := hz
  show AW _ _ _ _ ⟨[(2, .ptr b2 0), (6, .ptr b6 0), (24, .sl 1 (all.map Rel.encL) tk), (25, .int .i64 (all.length : Nat)), (26, .int .i64 (i : Nat))], []⟩ (.cells b2 [.sl 6 (p.decls.map encD) .no, .sl 4 (p.rules.map encRu) .no] :: Bld b6 u (tellAll (all.take i) p.decls) bb cap rest R) _
  have hsi : (tellAll (all.take i) p.decls).length ≤ 162800 * ((all.take i).map List.length).sum := tellAll_len _ _ hD (fun j h h' => by
    rw [List.getElem_take]
    rw [List.length_take] at h
    exact i4 j (by omega) h' (by omega)) (fun l hl t ht v hv => (hF3 l (List.mem_of_mem_take hl) t ht).2 v hv)
  have hsp := sum_part List.length all i
  repeat (first | refine go_ ?_ | intro _)
  refine AW_iff (i < all.length) rfl (by first | (simp; done) | (simp <;> omega) | decide) (fun h => ?_) (fun h => ?_)
  rotate_left
  · have hz : i = all.length := by omega
    have hfa : fitAll all p.decls = true := fitAll_of hlen fun j h1 h2 => i4 j h1 h2 (by omega)
    rw [tellL_yes hr hfa]
    repeat (first | refine go_ ?_ | intro _)
    refine Or.inl ⟨⟨_, Tryz.func42, rfl, rfl⟩, ACall_dropX bldF_out (ACall.mono ?_ (bldString_ok b6 u (tellAll (all.take i) p.decls) bb cap rest _ (by omega)))⟩
    rintro _ S1 ⟨rfl, hS1⟩
    subst S1
    repeat (first | refine go_ ?_ | intro _)
    refine AW_ret ?_
    repeat refine mk_ ?_
    refine ⟨_, R, AVle.eq ?_, sle_, rfl, rfl⟩
    rw [hz, List.take_length]; rfl
  have hlt := h
  have hlt' : i < p.decls.length := by omega
  obtain ⟨l, hl'⟩ : ∃ l, l = all[i] := ⟨_, rfl⟩
  obtain ⟨d, hd'⟩ : ∃ d, d = p.decls[i] := ⟨_, rfl⟩
  have hg := get_encL hlt
  have hgd := get_encD hlt'
  rw [← hl'] at hg
  rw [← hd'] at hgd
  have hlm : l ∈ all := hl' ▸ List.getElem_mem hlt
  have hll := sum_mem List.length hlm
  obtain ⟨hdr, hdt⟩ := hD d (hd' ▸ List.getElem_mem hlt')
  have hsum := sum_at List.length hlt
  have hsp2 := sum_part List.length all (i + 1)
  rw [← hl'] at hsum
  repeat (first | refine go_ ?_ | intro _)
  refine at_get (i) (Rel.encL l) (by first | rfl | omega | (rw [wrap_i64 (by omega)]; omega)) (by exact hg) ?_
  repeat (first | refine go_ ?_ | intro _)
  have krise := fun R => Rel.rise_ok l .no R
  by_cases hrise : riseB l = true
  rotate_left
  · have hrise : riseB l = false := by simpa using hrise
    have hno : fitOne d l = false := by rw [fitOne, hrise]; rfl
    rw [hrise] at krise
    refine Or.inl ⟨⟨_, Tryz.func40, rfl, rfl⟩, ACall.mono ?_ (krise _)⟩
    rintro _ S1 ⟨rfl, hS1⟩
    subst S1
    repeat (first | refine ga_ ?_ | intro _)
    repeat (first | refine go_ ?_ | intro _)
    refine AW_ret ?_
    refine ⟨_, R, AVle.eq ?_, SLe.tail bldF_drop, rfl, rfl⟩
    rw [tellL_bad hr (fit_no hlt hlt' (by rw [← hl', ← hd']; exact hno))]; rfl
  rw [hrise] at krise
  refine Or.inl ⟨⟨_, Tryz.func40, rfl, rfl⟩, ACall.mono ?_ (krise _)⟩
  rintro _ S1 ⟨rfl, hS1⟩
  subst S1
  repeat (first | refine ga_ ?_ | intro _)
  obtain ⟨T, hT⟩ : ∃ T, T = tellAll (all.take i) p.decls := ⟨_, rfl⟩
  rw [← hT] at i2 i3 hsi
  rw [← hT]
  refine AW_for (α := Nat × Bool × Nat × Nat × List AV) (fun z => ⟨[(2, .ptr b2 0), (6, .ptr b6 0), (7, .int .i64 (i : Nat)), (24, .sl 1 (all.map Rel.encL) tk), (25, .int .i64 (all.length : Nat)), (26, .int .i64 (i : Nat)), (34, .sl 1 (l.map encR) .no), (35, .int .i64 (l.length : Nat)), (36, .int .i64 (z.1 : Nat))], []⟩) (fun z => .cells b2 [.sl 6 (p.decls.map encD) .no, .sl 4 (p.rules.map encRu) .no] :: Bld b6 z.2.1 (T ++ rowsT d (l.take z.1)) z.2.2.1 z.2.2.2.1 z.2.2.2.2 R) (fun z => l.length - z.1) (fun z => z.1 ≤ l.length ∧ (T ++ rowsT d (l.take z.1)).length ≤ z.2.2.2.1 ∧ z.2.2.2.2.length = z.2.2.2.1 - (T ++ rowsT d (l.take z.1)).length ∧ ∀ (j : Nat) (h : j < l.length), j < z.1 → fitR l[j] d.types = true) ((0, u, bb, cap, rest)) ?_ (weak_of ?_ rfl ?_) (fun z hz => ?_)
  · have e0 : rowsT d (l.take 0) = [] := by rw [rowsT]; split <;> rfl
    show 0 ≤ l.length ∧ (T ++ rowsT d (l.take 0)).length ≤ cap ∧ rest.length = cap - (T ++ rowsT d (l.take 0)).length ∧ _
    rw [e0, List.append_nil]
    exact ⟨Nat.zero_le _, i2, i3, fun j h h' => absurd h' (Nat.not_lt_zero _)⟩
  · repeat (first | exact trivial | refine ⟨(AVle.eq (congrArg (AV.int .i64) (by simp))), ?_⟩ | refine env_ ?_)
  · have e0 : rowsT d (l.take 0) = [] := by rw [rowsT]; split <;> rfl
    show SLe _ (.cells b2 _ :: Bld b6 u (T ++ rowsT d (l.take 0)) bb cap rest R)
    rw [e0, List.append_nil]
    exact SLe.rfl
  obtain ⟨k, u', bb', cap', rest'⟩ := z
  obtain ⟨k1, k2, k3, k4⟩ : k ≤ l.length ∧ (T ++ rowsT d (l.take k)).length ≤ cap' ∧ rest'.length = cap' - (T ++ rowsT d (l.take k)).length ∧ ∀ (j : Nat) (h : j < l.length), j < k → fitR l[j] d.types = true := hz
  show AW _ _ _ _ ⟨[(2, .ptr b2 0), (6, .ptr b6 0), (7, .int .i64 (i : Nat)), (24, .sl 1 (all.map Rel.encL) tk), (25, .int .i64 (all.length : Nat)), (26, .int .i64 (i : Nat)), (34, .sl 1 (l.map encR) .no), (35, .int .i64 (l.length : Nat)), (36, .int .i64 (k : Nat))], []⟩ (.cells b2 [.sl 6 (p.decls.map encD) .no, .sl 4 (p.rules.map encRu) .no] :: Bld b6 u' (T ++ rowsT d (l.take k)) bb' cap' rest' R) _
  repeat (first | refine go_ ?_ | intro _)
  refine AW_iff (k < l.length) rfl (by first | (simp; done) | (simp <;> omega) | decide) (fun h => ?_) (fun h => ?_)
  rotate_left
  · have hz : k = l.length := by omega
    have hfo : fitOne d l = true := by
      rw [fitOne, hrise, Bool.true_and, List.all_eq_true]
      intro t ht
      obtain ⟨j, hj, rfl⟩ := List.mem_iff_getElem.1 ht
      exact k4 j hj (by omega)
    have e' : T ++ rowsT d (l.take k) = tellAll (all.take (i + 1)) p.decls := by rw [tellAll_at hlt hlt', ← hT, ← hl', ← hd', hz, List.take_length]
    rw [e'] at k2 k3 ⊢
    repeat (first | refine go_ ?_ | intro _)
    refine ⟨((i + 1, u', bb', cap', rest') : Nat × Bool × Nat × Nat × List AV), ?_, ?_, weak_of ?_ rfl ?_⟩
    · show all.length - (i + 1) < all.length - i; omega
    · refine ⟨hlt, k2, k3, fun j h1 h2 h3 => ?_⟩
      have h3 : j < i + 1 := h3
      by_cases hji : j < i
      · exact i4 j h1 h2 hji
      · obtain rfl : j = i := by omega
        rw [← hl', ← hd']; exact hfo
    · repeat (first | exact trivial | refine env_ ?_)
    · exact SLe.rfl
  have hkl := h
  obtain ⟨t, ht⟩ : ∃ t, t = l[k] := ⟨_, rfl⟩
  have hgt := get_encR hkl
  rw [← ht] at hgt
  have htm : t ∈ l := ht ▸ List.getElem_mem hkl
  obtain ⟨ht1, ht2⟩ := hF3 l hlm t htm
  have kl := fun R hG => line_ok d t .no R hG ht1 (by omega) (fun v hv => (ht2 v hv).1) (fun v hv => by have := (ht2 v hv).2; omega)
  have hrl : (rowsT d (l.take k)).length ≤ 162800 * k := by
    have := rowsT_len (l := l.take k) hdr hdt (fun x hx => by
      obtain ⟨j, hj, rfl⟩ := List.mem_iff_getElem.1 hx
      rw [List.getElem_take]
      rw [List.length_take] at hj
      exact k4 j (by omega) (by omega)) (fun x hx v hv => (hF3 l hlm x (List.mem_of_mem_take hx)).2 v hv)
    rw [List.length_take] at this; omega
  repeat (first | refine go_ ?_ | intro _)
  refine at_get (k) (encR t) (by first | rfl | omega | (rw [wrap_i64 (by omega)]; omega)) (by exact hgt) ?_
  repeat (first | refine go_ ?_ | intro _)
  refine at_get (i) (encD d) (by first | rfl | omega | (rw [wrap_i64 (by omega)]; omega)) (by exact hgd) ?_
  repeat (first | refine go_ ?_ | intro _)
  by_cases hft : fitR t d.types = true
  rotate_left
  · have hft : fitR t d.types = false := by simpa using hft
    rw [lineL_no hft] at kl
    have hno : fitOne d l = false := by
      rw [fitOne, hrise, Bool.true_and]
      exact List.all_eq_false.2 ⟨t, htm, by rw [hft]; simp⟩
    refine Or.inl ⟨⟨_, Tryz.func17, rfl, rfl⟩, ACall.mono ?_ (kl _ gN.bldF)⟩
    rintro _ S1 ⟨rfl, hS1⟩
    subst S1
    repeat (first | refine ga_ ?_ | intro _)
    refine AW_ret ?_
    refine ⟨_, R, AVle.eq ?_, SLe.tail bldF_drop, rfl, rfl⟩
    rw [tellL_bad hr (fit_no hlt hlt' (by rw [← hl', ← hd']; exact hno))]; rfl
  have htl := told_len hdr hdt hft ht2
  have hk4 : ∀ (j : Nat) (h : j < l.length), j < k + 1 → fitR l[j] d.types = true := fun j h1 h2 => by
    by_cases hjk : j < k
    · exact k4 j h1 hjk
    · obtain rfl : j = k := by omega
      rw [← ht]; exact hft
  rw [lineL_yes hft] at kl
  refine Or.inl ⟨⟨_, Tryz.func17, rfl, rfl⟩, ACall.mono ?_ (kl _ gN.bldF)⟩
  rintro _ S1 ⟨rfl, hS1⟩
  subst S1
  repeat (first | refine ga_ ?_ | intro _)
  refine at_get (i) (encD d) (by first | rfl | omega | (rw [wrap_i64 (by omega)]; omega)) (by exact hgd) ?_
  repeat (first | refine ga_ ?_ | intro _)
  refine AW_cond (b := d.out) rfl (fun h => ?_) (fun h => ?_)
  · have ho := h
    have e' : (T ++ rowsT d (l.take k)) ++ (textL d t ++ [10]) = T ++ rowsT d (l.take (k + 1)) := by rw [rowsT_at hkl, if_pos ho, ← ht, List.append_assoc]
    have hTT : (T ++ rowsT d (l.take k)).length = T.length + (rowsT d (l.take k)).length := List.length_append
    repeat (first | refine ga_ ?_ | intro _)
    refine Or.inl ⟨⟨_, Tryz.func41, rfl, rfl⟩, ACall_dropX bldF_out (ACall.mono ?_ (writeString_ok b6 u' (T ++ rowsT d (l.take k)) bb' cap' rest' (textL d t ++ [10]) _ k2 k3 (by omega)))⟩
    rintro _ S1 ⟨rfl, bb2, cap2, rest2, g1, g2, hS1⟩
    subst S1
    rw [e'] at g1 g2
    repeat (first | refine go_ ?_ | intro _)
    refine ⟨((k + 1, true, bb2, cap2, rest2) : Nat × Bool × Nat × Nat × List AV), ?_, ?_, weak_of ?_ rfl ?_⟩
    · show l.length - (k + 1) < l.length - k; omega
    · exact ⟨hkl, g1, g2, hk4⟩
    · repeat (first | exact trivial | refine env_ ?_)
    · rw [e']; exact bldF_in
  · have ho := h
    have e' : T ++ rowsT d (l.take k) = T ++ rowsT d (l.take (k + 1)) := by rw [rowsT_at hkl, if_neg (by rw [ho]; simp), List.append_nil]
    rw [e'] at k2 k3 ⊢
    repeat (first | refine ga_ ?_ | intro _)
    refine ⟨((k + 1, u', bb', cap', rest') : Nat × Bool × Nat × Nat × List AV), ?_, ?_, weak_of ?_ rfl ?_⟩
    · show l.length - (k + 1) < l.length - k; omega
    · exact ⟨hkl, k2, k3, hk4⟩
    · repeat (first | exact trivial | refine env_ ?_)
    · exact SLe.rfl
end Go.Proofs.YtgkjbpnmeeibbaaGreatDoor
/-
  What is told, the book's; what the last laws ask. Own work.
-/
namespace Go.Proofs.YtgkjbpnmeeibbaaGreatDoor
open Go.Aw Go.RowKit Tree
set_option maxHeartbeats 4000000
set_option maxRecDepth 4000
open Rel (V encV encR foldPut Cl riseB)

theorem tell_part {p : Pr} {all : Rows} (hr : rightP p = true) (hfa : fitAll all p.decls = true) (hF : FewR all) (i : Nat) : (tellAll (all.take i) p.decls).length ≤ 16280000 := by
  have h1 := tellAll_len (all.take i) p.decls (right_rel hr) (fun j h h' => by
    rw [List.getElem_take]
    rw [List.length_take] at h
    exact (fitAll_at hfa).2 j (by omega) h') (fun l hl t ht v hv => (hF.row l (List.mem_of_mem_take hl) t ht).2 v hv)
  have h2 := sum_part List.length all i
  have h3 := hF.cnt
  omega
theorem refTell_ok (p : Pr) (all : Rows) (tk : Tk) (R : List En) (hF : FewR all) : ACall Tryz.prog 20 [encP p, .sl 1 (all.map Rel.encL) tk] R (fun r S => r = tellAV (tellL p all) ∧ S = R) := by
  have kr := fun R => refRight_ok p R
  by_cases hr : rightP p = true
  rotate_left
  · have hr : rightP p = false := by simpa using hr
    rw [hr] at kr
    refine ACall_body tab_ok Tryz.func20 rfl rfl rfl (by kernel_rfl) (Nat.le_of_ble_eq_true rfl) ?_
    repeat (first | refine go_ ?_ | intro _)
    refine Or.inl ⟨⟨_, Tryz.func30, rfl, rfl⟩, ACall.mono ?_ (kr _)⟩
    rintro _ S1 ⟨rfl, hS1⟩
    subst S1
    repeat (first | refine ga_ ?_ | intro _)
    refine AW_ret ?_
    repeat refine mk_ ?_
    refine ⟨_, R, AVle.eq ?_, sle_, rfl, rfl⟩
    rw [tellL_no hr]; rfl
  rw [hr] at kr
  have hD := right_rel hr
  have hll : ∀ l ∈ all, l.length ≤ 100 := fun l hl => Nat.le_trans (sum_mem List.length hl) hF.cnt
  have kf := fun R => fits_ok p all tk R hr fun l hl => ⟨by have := hll l hl; omega, fun r hr => by have := (hF.row l hl r hr).1; omega⟩
  by_cases hfa : fitAll all p.decls = true
  rotate_left
  · have hfa : fitAll all p.decls = false := by simpa using hfa
    rw [hfa] at kf
    refine ACall_body tab_ok Tryz.func20 rfl rfl rfl (by kernel_rfl) (Nat.le_of_ble_eq_true rfl) ?_
    repeat (first | refine go_ ?_ | intro _)
    refine Or.inl ⟨⟨_, Tryz.func30, rfl, rfl⟩, ACall.mono ?_ (kr _)⟩
    rintro _ S1 ⟨rfl, hS1⟩
    subst S1
    repeat (first | refine ga_ ?_ | intro _)
    refine Or.inl ⟨⟨_, Tryz.func43, rfl, rfl⟩, ACall.mono ?_ (kf _)⟩
    rintro _ S1 ⟨rfl, hS1⟩
    subst S1
    repeat (first | refine ga_ ?_ | intro _)
    refine AW_ret ?_
    repeat refine mk_ ?_
    refine ⟨_, R, AVle.eq ?_, sle_, rfl, rfl⟩
    rw [tellL_bad hr hfa]; rfl
  rw [hfa] at kf
  rw [tellL_yes hr hfa]
  obtain ⟨hlen, hfo⟩ := fitAll_at hfa
  have hpart := tell_part hr hfa hF
  obtain ⟨hF1, hF2, hF3⟩ := hF
  refine ACall_body tab_ok Tryz.func20 rfl rfl rfl (by kernel_rfl) (Nat.le_of_ble_eq_true rfl) ?_
  repeat (first | refine go_ ?_ | intro _)
  rename_i b2
  refine Or.inl ⟨⟨_, Tryz.func30, rfl, rfl⟩, ACall.mono ?_ (kr _)⟩
  rintro _ S1 ⟨rfl, hS1⟩
  subst S1
  repeat (first | refine ga_ ?_ | intro _)
  refine Or.inl ⟨⟨_, Tryz.func43, rfl, rfl⟩, ACall.mono ?_ (kf _)⟩
  rintro _ S1 ⟨rfl, hS1⟩
  subst S1
  repeat (first | refine ga_ ?_ | intro _)
  refine AW_for (α := Nat) (fun z => ⟨[(1, .sl 1 (all.map Rel.encL) tk), (2, .ptr b2 0), (8, .str (tellAll (all.take z) p.decls)), (9, .int .i64 (z : Nat))], []⟩) (fun z => .cells b2 [.sl 6 (p.decls.map encD) .no, .sl 4 (p.rules.map encRu) .no] :: R) (fun z => all.length - z) (fun z => z ≤ all.length) (0) ?_ (weak_of ?_ rfl ?_) (fun z hz => ?_)
  · exact Nat.zero_le _
  · repeat (first | exact trivial | refine env_ ?_)
  · repeat (first | exact SLe.rfl | refine SLe.tail ?_ | refine SLe.full ?_)
  obtain ⟨i, rfl⟩ : ∃ i, i = z := ⟨_, rfl⟩
  have hpi := hpart (i + 1)
  obtain ⟨T, hT⟩ : ∃ T, T = tellAll (all.take i) p.decls := ⟨_, rfl⟩
  rw [← hT]
  repeat (first | refine go_ ?_ | intro _)
  refine AW_iff (i < all.length) rfl (by rw [decide_eq_true_eq, List.length_map]; omega) (fun h => ?_) (fun h => ?_)
  rotate_left
  · have hi : i = all.length := by omega
    repeat (first | refine go_ ?_ | intro _)
    refine AW_ret ?_
    repeat refine mk_ ?_
    refine ⟨_, R, AVle.eq ?_, sle_, rfl, rfl⟩
    rw [hT, hi, List.take_length]; rfl
  have hlt := h
  have hlt' : i < p.decls.length := by omega
  obtain ⟨l, hl'⟩ : ∃ l, l = all[i] := ⟨_, rfl⟩
  obtain ⟨d, hd'⟩ : ∃ d, d = p.decls[i] := ⟨_, rfl⟩
  have hg := get_encL hlt
  have hgd := get_encD hlt'
  rw [← hl'] at hg
  rw [← hd'] at hgd
  have hlm : l ∈ all := hl' ▸ List.getElem_mem hlt
  have hl1 := hll l hlm
  obtain ⟨hdr, hdt⟩ := hD d (hd' ▸ List.getElem_mem hlt')
  have hf := hfo i hlt hlt'
  rw [← hl', ← hd', fitOne, Bool.and_eq_true, List.all_eq_true] at hf
  have hat := tellAll_at hlt hlt'
  rw [← hT, ← hl', ← hd'] at hat
  rw [hat, List.length_append] at hpi
  repeat (first | refine go_ ?_ | intro _)
  refine AW_for (α := Nat) (fun z => ⟨[(1, .sl 1 (all.map Rel.encL) tk), (2, .ptr b2 0), (8, .str (T ++ rowsT d (l.take z))), (9, .int .i64 (i : Nat)), (10, .int .i64 (z : Nat))], []⟩) (fun z => .cells b2 [.sl 6 (p.decls.map encD) .no, .sl 4 (p.rules.map encRu) .no] :: R) (fun z => l.length - z) (fun z => z ≤ l.length) (0) ?_ (weak_of ?_ rfl ?_) (fun z hz => ?_)
  · exact Nat.zero_le _
  · repeat (first | exact trivial | refine ⟨(AVle.eq (congrArg AV.str (by rw [rowsT]; split <;> simp))), ?_⟩ | refine env_ ?_)
  · repeat (first | exact SLe.rfl | refine SLe.tail ?_ | refine SLe.full ?_)
  have hpk : (rowsT d (l.take z)).length ≤ 162800 * l.length := by
    have := rowsT_len (l := l.take z) hdr hdt (fun x hx => hf.2 x (List.mem_of_mem_take hx)) (fun x hx v hv => (hF3 l hlm x (List.mem_of_mem_take hx)).2 v hv)
    rw [List.length_take] at this; omega
  have hTl : (T ++ rowsT d (l.take z)).length = T.length + (rowsT d (l.take z)).length := List.length_append
  repeat (first | refine go_ ?_ | intro _)
  refine at_get (i) (Rel.encL l) (by first | rfl | omega | (rw [wrap_i64 (by omega)]; omega)) (by exact hg) ?_
  repeat (first | refine go_ ?_ | intro _)
  by_cases hzl : z < l.length
  rotate_left
  · have hz0 : z = l.length := by omega
    refine known_false (b := decide ((z : Int) < ((l.map encR).length : Nat))) (decide_eq_false (by rw [List.length_map]; omega)) ?_
    repeat (first | refine ga_ ?_ | intro _)
    refine ⟨i + 1, ?_, ?_, weak_of ?_ rfl ?_⟩
    · omega
    · omega
    · repeat (first | exact trivial | refine ⟨(AVle.eq (congrArg AV.str (by rw [hat, hz0, List.take_length]))), ?_⟩ | refine env_ ?_)
    · repeat (first | exact SLe.rfl | refine SLe.tail ?_ | refine SLe.full ?_)
  obtain ⟨t, ht⟩ : ∃ t, t = l[z] := ⟨_, rfl⟩
  have hgt := get_encR hzl
  rw [← ht] at hgt
  have htm : t ∈ l := ht ▸ List.getElem_mem hzl
  obtain ⟨ht1, ht2⟩ := hF3 l hlm t htm
  have hft := hf.2 t htm
  have kl := fun R => refLine_ok d t .no R ht1 (by omega) (fun v hv => (ht2 v hv).1) (fun v hv => by have := (ht2 v hv).2; omega)
  rw [lineL_yes hft] at kl
  have htl := told_len hdr hdt hft ht2
  refine known_true (b := decide ((z : Int) < ((l.map encR).length : Nat))) (decide_eq_true (by rw [List.length_map]; omega)) ?_
  repeat (first | refine go_ ?_ | intro _)
  refine at_get (i) (encD d) (by first | rfl | omega | (rw [wrap_i64 (by omega)]; omega)) (by exact hgd) ?_
  repeat (first | refine go_ ?_ | intro _)
  cases ho : d.out with
  | false =>
    have e0 : ∀ x, rowsT d x = [] := fun x => by rw [rowsT, if_neg (by rw [ho]; simp)]
    refine AW_false (b := d.out) rfl (by exact ho) ?_
    repeat (first | refine go_ ?_ | intro _)
    refine ⟨i + 1, ?_, ?_, weak_of ?_ rfl ?_⟩
    · omega
    · omega
    · repeat (first | exact trivial | refine ⟨(AVle.eq (congrArg AV.str (by rw [hat, e0, e0]))), ?_⟩ | refine env_ ?_)
    · repeat (first | exact SLe.rfl | refine SLe.tail ?_ | refine SLe.full ?_)
  | true =>
    have e' : (T ++ rowsT d (l.take z)) ++ (textL d t ++ [10]) = T ++ rowsT d (l.take (z + 1)) := by rw [rowsT_at hzl, if_pos ho, ← ht, List.append_assoc]
    refine AW_true (b := d.out) rfl (by exact ho) ?_
    repeat (first | refine go_ ?_ | intro _)
    refine AW_draw tab_ok mixed 18 (by first | rfl | kernel_rfl) ?_
    repeat (first | refine go_ ?_ | intro _)
    refine at_get (i) (encD d) (by first | rfl | omega | (rw [wrap_i64 (by omega)]; omega)) (by exact hgd) ?_
    repeat (first | refine go_ ?_ | intro _)
    refine at_get (i) (Rel.encL l) (by first | rfl | omega | (rw [wrap_i64 (by omega)]; omega)) (by exact hg) ?_
    repeat (first | refine go_ ?_ | intro _)
    refine at_get (z) (encR t) (by first | rfl | omega | (rw [wrap_i64 (by omega)]; omega)) (by exact hgt) ?_
    repeat (first | refine go_ ?_ | intro _)
    apply call_step
    · rfl
    · exact Or.inl ⟨⟨_, Tryz.func18, rfl, rfl⟩, kl _⟩
    repeat (first | refine go_ ?_ | intro _)
    refine cat_ ?_ (by show (T ++ rowsT d (l.take z)).length + (textL d t ++ [10]).length ≤ _; omega)
    repeat (first | refine go_ ?_ | intro _)
    refine ⟨z + 1, ?_, ?_, weak_of ?_ rfl ?_⟩
    · omega
    · omega
    · repeat (first | exact trivial | refine ⟨(AVle.eq (congrArg AV.str e')), ?_⟩ | refine env_ ?_)
    · repeat (first | exact SLe.rfl | refine SLe.tail ?_ | refine SLe.full ?_)

/-! ### how much rows hold -/
def sumV (t : List V) : Nat := (t.map fun v => v.s.length / 50).sum
def sumT (l : List (List V)) : Nat := (l.map fun t => sumV t + 1).sum
def sumA (all : Rows) : Nat := (all.map sumT).sum
def fewB (all : Rows) : Bool := decide (sumA all ≤ 100) && decide (all.length ≤ 100)
theorem sum_ge {α : Type} (f : α → Nat) (hf : ∀ x, 1 ≤ f x) : ∀ l : List α, l.length ≤ (l.map f).sum
  | [] => by simp
  | a :: l => by have := sum_ge f hf l; have := hf a; simp; omega
theorem few_R {all : Rows} (h : fewB all = true) (hr : ∀ l ∈ all, ∀ t ∈ l, t.length ≤ 1048576 ∧ ∀ v ∈ t, inV v) : FewR all := by
  rw [fewB, Bool.and_eq_true, decide_eq_true_eq, decide_eq_true_eq] at h
  refine ⟨h.2, ?_, fun l hl t ht => ⟨(hr l hl t ht).1, fun v hv => ⟨(hr l hl t ht).2 v hv, ?_⟩⟩⟩
  · refine Nat.le_trans ?_ h.1
    have : ∀ a : Rows, (a.map List.length).sum ≤ sumA a := fun a => by
      induction a with
      | nil => simp
      | cons l a ih =>
        have := sum_ge (fun t : List V => sumV t + 1) (fun _ => by omega) l
        simp only [sumA, List.map_cons, List.sum_cons, sumT] at ih ⊢; omega
    exact this all
  · have h1 : v.s.length / 50 ≤ sumV t := sum_mem (fun v : V => v.s.length / 50) hv
    have h2 : sumV t + 1 ≤ sumT l := sum_mem (fun t : List V => sumV t + 1) ht
    have h3 : sumT l ≤ sumA all := sum_mem sumT hl
    omega
theorem few_ok (all : Rows) (tk : Tk) (R : List En) (hb : sumA all ≤ 9223372036854775807) (hl : all.length ≤ 4611686018427387904) (hr : ∀ l ∈ all, l.length ≤ 4611686018427387904 ∧ ∀ t ∈ l, t.length ≤ 4611686018427387904 ∧ ∀ v ∈ t, v.s.length ≤ 9223372036854775807) : ACall Tryz.prog 16 [.sl 1 (all.map Rel.encL) tk] R (fun r S => r = .bool (fewB all) ∧ S = R) := by
  refine ACall_body tab_ok Tryz.func16 rfl rfl rfl (by kernel_rfl) (Nat.le_of_ble_eq_true rfl) ?_
  repeat (first | refine go_ ?_ | intro _)
  refine AW_for (α := Nat) (fun z => ⟨[(0, .sl 1 (all.map Rel.encL) tk), (3, .int .i64 (sumA (all.take z) : Nat)), (4, .int .i64 (z : Nat))], []⟩) (fun z => R) (fun z => all.length - z) (fun z => z ≤ all.length) (0) ?_ (weak_of ?_ rfl ?_) (fun z hz => ?_)
  · exact Nat.zero_le _
  · repeat (first | exact trivial | refine env_ ?_)
  · repeat (first | exact SLe.rfl | refine SLe.tail ?_ | refine SLe.full ?_)
  obtain ⟨i, rfl⟩ : ∃ i, i = z := ⟨_, rfl⟩
  have hpi := sum_part sumT all (i + 1)
  repeat (first | refine go_ ?_ | intro _)
  refine AW_iff (i < all.length) rfl (by rw [decide_eq_true_eq, List.length_map]; omega) (fun h => ?_) (fun h => ?_)
  rotate_left
  · have hi : i = all.length := by omega
    rw [hi, List.take_length]
    repeat (first | refine go_ ?_ | intro _)
    by_cases hs : sumA all ≤ 100
    · refine known_true (b := decide ((sumA all : Int) ≤ 100)) (by exact decide_eq_true (by omega)) ?_
      repeat (first | refine ga_ ?_ | intro _)
      refine AW_ret ?_
      repeat refine mk_ ?_
      refine ⟨_, R, AVle.eq ?_, sle_, rfl, rfl⟩
      show AV.bool (decide (((all.map Rel.encL).length : Int) ≤ 100)) = _
      rw [fewB, decide_eq_true hs, List.length_map, Bool.true_and]
      congr 1
      exact decide_eq_decide.2 (by omega)
    · refine known_false (b := decide ((sumA all : Int) ≤ 100)) (by exact decide_eq_false (by omega)) ?_
      repeat (first | refine ga_ ?_ | intro _)
      refine AW_ret ?_
      repeat refine mk_ ?_
      refine ⟨_, R, AVle.eq ?_, sle_, rfl, rfl⟩
      rw [fewB, decide_eq_false hs]; rfl
  have hlt := h
  obtain ⟨l, hl'⟩ : ∃ l, l = all[i] := ⟨_, rfl⟩
  have hg := get_encL hlt
  rw [← hl'] at hg
  obtain ⟨hl1, hr1⟩ := hr l (hl' ▸ List.getElem_mem hlt)
  have hsi := sum_at sumT hlt
  rw [← hl'] at hsi
  obtain ⟨A, hA⟩ : ∃ A, A = sumA (all.take i) := ⟨_, rfl⟩
  have hsi' : sumA (all.take (i + 1)) = A + sumT l := by rw [hA]; exact hsi
  have hb' : A + sumT l ≤ 9223372036854775807 := by rw [← hsi']; exact Nat.le_trans hpi hb
  rw [← hA]
  repeat (first | refine go_ ?_ | intro _)
  refine AW_for (α := Nat) (fun z => ⟨[(0, .sl 1 (all.map Rel.encL) tk), (3, .int .i64 ((A + sumT (l.take z) : Nat) : Int)), (4, .int .i64 (i : Nat)), (5, .int .i64 (z : Nat))], []⟩) (fun z => R) (fun z => l.length - z) (fun z => z ≤ l.length) (0) ?_ (weak_of ?_ rfl ?_) (fun z hz => ?_)
  · exact Nat.zero_le _
  · repeat (first | exact trivial | refine ⟨(AVle.eq (congrArg (AV.int .i64) (by simp [sumT]))), ?_⟩ | refine env_ ?_)
  · repeat (first | exact SLe.rfl | refine SLe.tail ?_ | refine SLe.full ?_)
  obtain ⟨k, rfl⟩ : ∃ k, k = z := ⟨_, rfl⟩
  have hpk := sum_part (fun t : List V => sumV t + 1) l (k + 1)
  repeat (first | refine go_ ?_ | intro _)
  refine at_get (i) (Rel.encL l) (by first | rfl | omega | (rw [wrap_i64 (by omega)]; omega)) (by exact hg) ?_
  repeat (first | refine go_ ?_ | intro _)
  refine AW_iff (k < l.length) rfl (by rw [decide_eq_true_eq, List.length_map]; omega) (fun h => ?_) (fun h => ?_)
  rotate_left
  · have hk : k = l.length := by omega
    rw [hk, List.take_length]
    repeat (first | refine go_ ?_ | intro _)
    refine ⟨i + 1, ?_, ?_, weak_of ?_ rfl ?_⟩
    · omega
    · omega
    · repeat (first | exact trivial | refine ⟨(AVle.eq (congrArg (fun n : Nat => AV.int .i64 (n : Int)) hsi'.symm)), ?_⟩ | refine env_ ?_)
    · repeat (first | exact SLe.rfl | refine SLe.tail ?_ | refine SLe.full ?_)
  have hkl := h
  obtain ⟨t, ht⟩ : ∃ t, t = l[k] := ⟨_, rfl⟩
  have hgt := get_encR hkl
  rw [← ht] at hgt
  obtain ⟨ht1, ht2⟩ := hr1 t (ht ▸ List.getElem_mem hkl)
  have hsk := sum_at (fun t : List V => sumV t + 1) hkl
  rw [← ht] at hsk
  obtain ⟨B, hB⟩ : ∃ B, B = A + sumT (l.take k) := ⟨_, rfl⟩
  have hsk' : A + sumT (l.take (k + 1)) = B + 1 + sumV t := by rw [hB, sumT, sumT]; omega
  have hbk : B + 1 + sumV t ≤ 9223372036854775807 := by rw [← hsk', sumT]; rw [sumT] at hb'; omega
  have hw : IntKind.i64.wrap ((B : Int) + 1) = ((B + 1 : Nat) : Int) := by rw [wrap_i64 (by omega)]; rfl
  rw [← hB]
  repeat (first | refine go_ ?_ | intro _)
  refine AW_for (α := Nat) (fun z => ⟨[(0, .sl 1 (all.map Rel.encL) tk), (3, .int .i64 ((B + 1 + sumV (t.take z) : Nat) : Int)), (4, .int .i64 (i : Nat)), (5, .int .i64 (k : Nat)), (6, .int .i64 (z : Nat))], []⟩) (fun z => R) (fun z => t.length - z) (fun z => z ≤ t.length) (0) ?_ (weak_of ?_ rfl ?_) (fun z hz => ?_)
  · exact Nat.zero_le _
  · repeat (first | exact trivial | refine ⟨(AVle.eq (congrArg (AV.int .i64) (by rw [hw]; simp [sumV]))), ?_⟩ | refine env_ ?_)
  · repeat (first | exact SLe.rfl | refine SLe.tail ?_ | refine SLe.full ?_)
  have hpz := sum_part (fun v : V => v.s.length / 50) t (z + 1)
  repeat (first | refine go_ ?_ | intro _)
  refine at_get (i) (Rel.encL l) (by first | rfl | omega | (rw [wrap_i64 (by omega)]; omega)) (by exact hg) ?_
  repeat (first | refine go_ ?_ | intro _)
  refine at_get (k) (encR t) (by first | rfl | omega | (rw [wrap_i64 (by omega)]; omega)) (by exact hgt) ?_
  repeat (first | refine go_ ?_ | intro _)
  refine AW_iff (z < t.length) rfl (by rw [decide_eq_true_eq, List.length_map]; omega) (fun h => ?_) (fun h => ?_)
  rotate_left
  · have hz0 : z = t.length := by omega
    rw [hz0, List.take_length]
    repeat (first | refine go_ ?_ | intro _)
    refine ⟨k + 1, ?_, ?_, weak_of ?_ rfl ?_⟩
    · omega
    · omega
    · repeat (first | exact trivial | refine ⟨(AVle.eq (congrArg (fun n : Nat => AV.int .i64 (n : Int)) hsk'.symm)), ?_⟩ | refine env_ ?_)
    · repeat (first | exact SLe.rfl | refine SLe.tail ?_ | refine SLe.full ?_)
  have hzt := h
  obtain ⟨v, hv⟩ : ∃ v, v = t[z] := ⟨_, rfl⟩
  have hgv := get_encV hzt
  rw [← hv] at hgv
  have hvs := ht2 v (hv ▸ List.getElem_mem hzt)
  have hsv := sum_at (fun v : V => v.s.length / 50) hzt
  rw [← hv] at hsv
  have hdiv : Int.tdiv (v.s.length : Int) 50 = ((v.s.length / 50 : Nat) : Int) := by rw [Int.tdiv_eq_ediv_of_nonneg (by omega)]; omega
  have hfin : IntKind.i64.wrap (((B + 1 + sumV (t.take z) : Nat) : Int) + IntKind.i64.wrap (Int.tdiv (v.s.length : Int) 50)) = ((B + 1 + sumV (t.take (z + 1)) : Nat) : Int) := by
    rw [hdiv, wrap_i64 (n := ((v.s.length / 50 : Nat) : Int)) (by omega)]
    rw [sumV] at hbk ⊢
    rw [sumV, hsv]
    rw [wrap_i64 (by omega)]; omega
  repeat (first | refine go_ ?_ | intro _)
  refine at_get (i) (Rel.encL l) (by first | rfl | omega | (rw [wrap_i64 (by omega)]; omega)) (by exact hg) ?_
  repeat (first | refine go_ ?_ | intro _)
  refine at_get (k) (encR t) (by first | rfl | omega | (rw [wrap_i64 (by omega)]; omega)) (by exact hgt) ?_
  repeat (first | refine go_ ?_ | intro _)
  refine at_get (z) (encV v) (by first | rfl | omega | (rw [wrap_i64 (by omega)]; omega)) (by exact hgv) ?_
  repeat (first | refine go_ ?_ | intro _)
  refine ⟨by decide, ?_⟩
  repeat (first | refine go_ ?_ | intro _)
  refine ⟨z + 1, ?_, ?_, weak_of ?_ rfl ?_⟩
  · omega
  · omega
  · repeat (first | exact trivial | refine ⟨(AVle.eq (congrArg (AV.int .i64) hfin)), ?_⟩ | refine env_ ?_)
  · repeat (first | exact SLe.rfl | refine SLe.tail ?_ | refine SLe.full ?_)
end Go.Proofs.YtgkjbpnmeeibbaaGreatDoor
