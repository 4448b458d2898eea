/-
  Each operation does what its abstract step says. Own work.
-/
import Derived.Test.YtgkjbpnmeeibbaaGreatDoorAw7
set_option linter.all false
namespace Go.Aw
open Go.RowKit

theorem run_v {P : Program} {s : Sem Value} {w w' : World} {x : Value} (h : s.run P w = .ok x w') : ((do pure (Next.value (← s))) : Sem Next).run P w = .ok (.value x) w' := by
  rw [run_bind_ok h]; rfl
theorem run_u {P : Program} {s : Sem Unit} {w w' : World} (h : s.run P w = .ok () w') : ((do s; pure Next.skip) : Sem Next).run P w = .ok .skip w' := by
  rw [run_bind_ok h]; rfl

theorem ROk.of_eq {P : Program} {w0 : World} {K : Kn} {k : AV → List En → Prop} {r r' : Result Next} (h : r = r') (x : ROk P w0 K k r') : ROk P w0 K k r := h ▸ x

theorem RelL.toArr {K : Kn} {as : List AV} {vs : Array Value} (h : RelL K as vs.toList) : ∃ l, vs = List.toArray l ∧ RelL K as l := ⟨vs.toList, by simp, h⟩

/-- the operands of an operation are related -/
def ROp (K : Kn) (ρ : Operand → AV) (a : Act) (op : Op) : Prop := ∀ x ∈ op.operands, Rel K (ρ x) (a.eval x)

theorem evsL {K : Kn} {ρ : Operand → AV} {a : Act} : ∀ (xs : List Operand), (∀ x ∈ xs, Rel K (ρ x) (a.eval x)) → RelL K (xs.map ρ) (xs.map a.eval)
  | [], _ => RelL.nil
  | x :: xs, h => RelL.cons (h x (by simp)) (evsL xs fun y hy => h y (by simp [hy]))
theorem evsA {K : Kn} {ρ : Operand → AV} {a : Act} (xs : Array Operand) (h : ∀ x ∈ xs, Rel K (ρ x) (a.eval x)) : RelL K (xs.toList.map ρ) (xs.map a.eval).toList := by
  have := evsL xs.toList (fun x hx => h x (by simpa using hx))
  simpa using this
theorem relO {K : Kn} {ρ : Operand → AV} {a : Act} (x : Option Operand) (h : ∀ y, x = some y → Rel K (ρ y) (a.eval y)) : RelO K (oev ρ x) (x.map a.eval) := by
  cases x with
  | none => exact .none
  | some x => exact .some (h x rfl)
theorem relPof {K : Kn} {ρ : Operand → AV} {a : Act} : ∀ (ps : List (Nat × Operand)), (∀ p ∈ ps, Rel K (ρ p.2) (a.eval p.2)) → RelP K (ps.map fun p => (p.1, ρ p.2)) (ps.map fun p => (p.1, a.eval p.2))
  | [], _ => .nil
  | p :: ps, h => .cons (h p (by simp)) (relPof ps fun q hq => h q (by simp [hq]))

theorem run_callFunc {P : Program} {w : World} {f : FuncId} (h : fnOk P f) (args : Array Value) : (callFunc f args).run P w = .ok (.enter f args) w := by
  obtain ⟨fn, h1, h2, h3⟩ := h
  unfold callFunc
  rw [run_bind_ok (run_program P w)]
  simp only [h1, h2, h3, Bool.false_eq_true, if_false]
  rfl

theorem callV_ok {P : Program} {w0 w : World} {K : Kn} {S : List En} {k : AV → List En → Prop} (hS : RelS w0 K S w) {f : AV} {fv : Value} (hf : Rel K f fv) {args : List AV} {vs : Array Value} (hv : RelL K args vs.toList) (h : aCallV P f args S k) :
    ROk P w0 K k ((do let d ← Deferred.ofValue fv vs; invoke d.target d.args : Sem Next).run P w) := by
  cases f with
  | fn g first cap =>
    cases hf with
    | @fn _ _ _ us cs hl hr hl' hr' =>
      cases g with
      | method _ => exact h.elim
      | methodOf _ _ => exact h.elim
      | via _ _ _ _ => exact h.elim
      | func g =>
        have harg : RelL K (first ++ args ++ cap) (us ++ vs.toList ++ cs) := RelL.append (RelL.append ⟨hl, hr⟩ hv) ⟨hl', hr'⟩
        have e2 : (us ++ vs.toList ++ cs).toArray = us.toArray ++ vs ++ cs.toArray := by simp
        rcases (h : (fnOk P g ∧ ACall P g (first ++ args ++ cap) S k) ∨ AExt P g (first ++ args ++ cap) S k) with ⟨hok, hc⟩ | ⟨fn, ex, hf1, hf2, hf3, hf4, hf5, hE⟩
        rotate_left
        · obtain ⟨v, w', K', av, S', h1, h2, h3, h4, h5⟩ := hE w0 K w _ harg hS
          rw [e2] at h1
          have e : ((do let d ← Deferred.ofValue (.func (.func g) us.toArray cs.toArray) vs; invoke d.target d.args : Sem Next).run P w) = .ok (.value v) w' := by
            simp only [Deferred.ofValue]
            rw [run_bind_ok (Sem.run_pure P w _)]
            simp only [invoke]
            rw [run_callFunc_extern hf1 hf2 hf3 hf4 hf5, h1]; rfl
          rw [e]
          exact ⟨K', av, S', h2, h3, h4, h5⟩
        have e : ((do let d ← Deferred.ofValue (.func (.func g) us.toArray cs.toArray) vs; invoke d.target d.args : Sem Next).run P w) = .ok (.enter g ((us.toArray ++ vs) ++ cs.toArray)) w := by
          simp only [Deferred.ofValue]
          rw [run_bind_ok (Sem.run_pure P w _)]
          simp only [invoke]
          exact run_callFunc hok _
        rw [e]
        unfold ACall at hc
        have := hc w0 K w _ harg hS
        rw [e2] at this
        exact this
      | yield l =>
        cases first with
        | cons _ _ => exact h.elim
        | nil =>
          cases cap with
          | cons _ _ => exact h.elim
          | nil =>
            have hus : us = [] := by simpa using hl.symm
            have hcs : cs = [] := by simpa using hl'.symm
            subst hus; subst hcs
            have h : AYield P l args S k := h
            unfold AYield at h
            obtain ⟨fn, tmps, assign, body, h1, h2⟩ := h w0 K w _ hv hS
            have e : ((do let d ← Deferred.ofValue (.func (.yield l) [].toArray [].toArray) vs; invoke d.target d.args : Sem Next).run P w) = .ok (.round l fn tmps assign body) w := by
              simp only [Deferred.ofValue]
              rw [run_bind_ok (Sem.run_pure P w _)]
              simp only [invoke]
              have e3 : ([].toArray ++ vs : Array Value) = vs.toList.toArray := by simp
              rw [e3]
              exact h1
            rw [e]
            exact h2
  | _ => exact h.elim

theorem has_nat {n : Nat} (h : n ≤ maxLen) : IntKind.i64.has n := by
  simp only [IntKind.has, IntKind.min, IntKind.max, IntKind.bits, IntKind.signed]; simp only [maxLen] at h; simp; omega

theorem builtin_ok {P : Program} {τ : List (TypeId × TI)} (hτ : AllOk P τ) {w0 w : World} {K : Kn} {S : List En} {k : AV → List En → Prop} (hS : RelS w0 K S w) {b : Builtin} {ts : Array TypeId} {ty : TypeId} {args : List AV} {vs : Array Value} (hv : RelL K args vs.toList)
    (cs : Array Bool) (h : aBuiltin P τ b ts.toList args S k) : ROk P w0 K k ((builtin b ts ty cs vs).run P w) := by
  obtain ⟨vl, rfl, hvl⟩ := hv.toArr
  obtain ⟨tl, rfl⟩ : ∃ tl : List TypeId, ts = tl.toArray := ⟨ts.toList, by simp⟩
  simp only [] at h
  unfold aBuiltin at h
  split at h
  · -- len of a slice
    rename_i t tl sz es tk
    obtain ⟨⟨e, hd⟩, hk⟩ := h
    have hD := (lkT_ok hτ t (by rw [hd]; simp)).d
    rw [hd] at hD
    obtain ⟨v, r, rfl, hx, hr⟩ := hvl.cons_inv
    have := hr.nil_inv; subst this
    rcases sl_cases hx with ⟨a0, rfl, rfl, _⟩ | ⟨bb, o, c, ws, ha, _⟩
    · have e : (builtin .len (t :: tl).toArray ty cs #[.slice a0 0 0]).run P w = .ok (.value (.int .i64 (0 : Nat))) w := run_v (by simp [Builtin.len_, run_underlying hD, goInt])
      rw [e]
      exact ROk.val hS (.int _ _ (has_nat (by simp))) (by simpa using hk)
    · rw [ha.eq]
      have e : (builtin .len (t :: tl).toArray ty cs #[.slice (some ⟨bb, o, none⟩) es.length c]).run P w = .ok (.value (.int .i64 es.length)) w := run_v (by simp [Builtin.len_, run_underlying hD, goInt])
      rw [e]
      exact ROk.val hS (.int _ _ (has_nat (Nat.le_trans ha.hcap ha.hmax))) hk
  · rename_i t tl bb o n c
    obtain ⟨⟨e, hd⟩, hk⟩ := h
    have hD := (lkT_ok hτ t (by rw [hd]; simp)).d
    rw [hd] at hD
    obtain ⟨v, r, rfl, hx, hr⟩ := hvl.cons_inv
    have := hr.nil_inv; subst this
    cases hx with
    | mslnil _ _ a0 =>
      have e : (builtin .len (t :: tl).toArray ty cs #[.slice a0 0 0]).run P w = .ok (.value (.int .i64 (0 : Nat))) w := run_v (by simp [Builtin.len_, run_underlying hD, goInt])
      rw [e]
      exact ROk.val hS (.int _ _ (has_nat (by simp))) (by simpa using hk)
    | @msl _ _ _ _ b' o' h1 h2 _ =>
      have e : (builtin .len (t :: tl).toArray ty cs #[.slice (some ⟨b', o', none⟩) n c]).run P w = .ok (.value (.int .i64 n)) w := run_v (by simp [Builtin.len_, run_underlying hD, goInt])
      rw [e]
      exact ROk.val hS (.int _ _ (has_nat (Nat.le_trans h1 h2))) hk
  · rename_i t tl
    obtain ⟨⟨e, hd⟩, hk⟩ := h
    have hD := (lkT_ok hτ t (by rw [hd]; simp)).d
    rw [hd] at hD
    obtain ⟨v, r, rfl, hx, hr⟩ := hvl.cons_inv
    have := hr.nil_inv; subst this
    cases hx
    have e : (builtin .len (t :: tl).toArray ty cs #[.slice none 0 0]).run P w = .ok (.value (.int .i64 (0 : Nat))) w := run_v (by simp [Builtin.len_, run_underlying hD, goInt])
    rw [e]
    exact ROk.val hS (.int _ _ (has_nat (by simp))) hk
  · rename_i t tl s
    obtain ⟨hd, hk⟩ := h
    have hD := (lkT_ok hτ t (by rw [hd]; simp)).d
    rw [hd] at hD
    obtain ⟨v, r, rfl, hx, hr⟩ := hvl.cons_inv
    have := hr.nil_inv; subst this
    cases hx with
    | str _ hs =>
      have e : (builtin .len (t :: tl).toArray ty cs #[.string ⟨s.toArray⟩]).run P w = .ok (.value (.int .i64 s.length)) w := run_v (by
        have h5 := run_underlying (show P.underlying t = some .string from hD) w
        have h6 : (ByteArray.mk s.toArray).size = s.length := by simp [ByteArray.size]
        have h7 : (Builtin.len_ (t :: tl).toArray ty #[.string ⟨s.toArray⟩]).run P w = .ok (goInt (ByteArray.mk s.toArray).size) w := by
          simp only [Builtin.len_, List.getElem?_toArray, List.getElem?_cons_zero]
          rw [run_bind_ok h5]; rfl
        rw [h6] at h7; exact h7)
      rw [e]
      exact ROk.val hS (.int _ _ (has_nat hs)) hk
  · rename_i t tl bb o n c
    obtain ⟨⟨e, hd⟩, hk⟩ := h
    have hD := (lkT_ok hτ t (by rw [hd]; simp)).d
    rw [hd] at hD
    obtain ⟨v, r, rfl, hx, hr⟩ := hvl.cons_inv
    have := hr.nil_inv; subst this
    cases hx with
    | mslnil _ _ a0 =>
      have e : (builtin .cap (t :: tl).toArray ty cs #[.slice a0 0 0]).run P w = .ok (.value (.int .i64 (0 : Nat))) w := run_v (by simp [Builtin.cap_, run_underlying hD, goInt])
      rw [e]
      exact ROk.val hS (.int _ _ (has_nat (by simp))) (by simpa using hk)
    | @msl _ _ _ _ b' o' h1 h2 _ =>
      have e : (builtin .cap (t :: tl).toArray ty cs #[.slice (some ⟨b', o', none⟩) n c]).run P w = .ok (.value (.int .i64 c)) w := run_v (by
        simp [Builtin.cap_, run_underlying hD, goInt])
      rw [e]
      exact ROk.val hS (.int _ _ (has_nat h2)) hk
  · rename_i q a q' b
    obtain ⟨rfl, hk⟩ := h
    obtain ⟨v, r, rfl, hx, hr⟩ := hvl.cons_inv
    obtain ⟨v', r', rfl, hx', hr'⟩ := hr.cons_inv
    have := hr'.nil_inv; subst this
    cases hx with
    | int _ _ h1 =>
      cases hx' with
      | int _ _ h2 =>
        have e : (builtin .min tl.toArray ty cs #[.int q a, .int q b]).run P w = .ok (.value (.int q (min a b))) w := run_v (by
          simp only [Builtin.min_, List.foldlM, Builtin.min2]
          have : (if b < a then b else a) = min a b := by omega
          simp [this])
        rw [e]
        exact ROk.val hS (.int _ _ (by simp only [IntKind.has] at h1 h2 ⊢; omega)) hk
  · rename_i q a q' b
    obtain ⟨rfl, hk⟩ := h
    obtain ⟨v, r, rfl, hx, hr⟩ := hvl.cons_inv
    obtain ⟨v', r', rfl, hx', hr'⟩ := hr.cons_inv
    have := hr'.nil_inv; subst this
    cases hx with
    | int _ _ h1 =>
      cases hx' with
      | int _ _ h2 =>
        have e : (builtin .max tl.toArray ty cs #[.int q a, .int q b]).run P w = .ok (.value (.int q (max a b))) w := run_v (by
          simp only [Builtin.max_, List.foldlM, Builtin.max2]
          have : (if b > a then b else a) = max a b := by omega
          simp [this])
        rw [e]
        exact ROk.val hS (.int _ _ (by simp only [IntKind.has] at h1 h2 ⊢; omega)) hk
  · rename_i t t' sz es tk sz' xs tk'
    obtain ⟨e, hd, htt, hk, hroom, hsz', hcase⟩ := h
    subst htt
    have hD := (lkT_ok hτ _ (by rw [hd]; simp)).d
    rw [hd] at hD
    have hi := lkT_ok hτ e (TD.known_ne hk)
    obtain ⟨v, r, rfl, hx, hr⟩ := hvl.cons_inv
    obtain ⟨v', r', rfl, hx', hr'⟩ := hr.cons_inv
    have := hr'.nil_inv; subst this
    rcases hcase with ⟨rfl, hsz, r, rfl, hkk⟩ | ⟨hsz, p, hp, r, rfl, hkk⟩ | ⟨rfl, rfl, r, n, rfl, rfl, hkk⟩
    · obtain ⟨u, w', K', t2, h1, h2, h3, h4⟩ := run_append_full hS (ty := ty) hD hi hx hx' hsz hsz' hroom
      exact ROk.of_eq (run_v h1) ⟨K', _, _, h2, h3, h4, hkk _⟩
    · obtain ⟨u, w', K', t2, h1, h2, h3, h4⟩ := run_append_own' hS (ty := ty) hD hi hp hx hx' hsz hsz' hroom
      exact ROk.of_eq (run_v h1) ⟨K', _, _, h2, h3, h4, hkk _⟩
    · obtain ⟨u, w', b, cap, rest, h1, h2, h3, h4, h5, h6⟩ := run_append_mut hS (ty := ty) hD hi hx hx' hsz' (by simpa using hroom)
      exact ROk.of_eq (run_v h1) ⟨K, _, _, Kle.refl K, h2, h3, hkk _ _ _ h4 (fun h => h5 (by simpa using h)) h6⟩
  · -- append to an owned block
    rename_i t t' b off n cap x
    obtain ⟨e, hd, hk, m, p, cur, hroom, hp, hfit, hcase⟩ := h
    have hD := (lkT_ok hτ _ (by rw [hd]; simp)).d
    rw [hd] at hD
    have hi := lkT_ok hτ e (TD.known_ne hk)
    obtain ⟨v, r, rfl, hx, hr⟩ := hvl.cons_inv
    obtain ⟨v', r', rfl, hx', hr'⟩ := hr.cons_inv
    have := hr'.nil_inv; subst this
    rcases hcase with ⟨ht', cs0, hs, hin, hnew⟩ | ⟨⟨q0, hq⟩, ⟨q, rfl⟩, hgrow, old, rfl, hkk⟩
    · have hT : SrcT P t' := by
        rcases ht' with ⟨e', h⟩ | h
        · have h2 := (lkT_ok hτ t' (by rw [h]; simp)).d
          rw [h] at h2; exact .inl ⟨e', h2⟩
        · have h2 := (lkT_ok hτ t' (by rw [h]; simp)).d
          rw [h] at h2; exact .inr h2
      by_cases hc : n + m ≤ cap
      · obtain ⟨hf2, cur', rfl, hkk⟩ := hin hc
        obtain ⟨u, w', h1, h2, h3⟩ := run_append_msl_in hS (ty := ty) hD hT hi hp hx hx' hs hc hf2
        exact ROk.of_eq (run_v h1) ⟨K, _, _, Kle.refl K, h2, h3, hkk⟩
      · obtain ⟨old, rfl, hkk⟩ := hnew (by omega)
        obtain ⟨u, w', b', cap', rest, h1, h2, h3, h4, h5, h6⟩ := run_append_msl_new hS (ty := ty) hD hT hi hp hx hx' hs (by omega) hfit hroom
        exact ROk.of_eq (run_v h1) ⟨K, _, _, Kle.refl K, h2, h3.conT h6, hkk _ _ _ h4 h5⟩
    · have hT := (lkT_ok hτ t' (by rw [hq]; simp)).d
      rw [hq] at hT
      obtain ⟨u, w', b', cap', rest, h1, h2, h3, h4, h5⟩ := run_append_msl_make hS (ty := ty) hD hT hi hp hx hx' hgrow hfit hroom
      exact ROk.of_eq (run_v h1) ⟨K, _, _, Kle.refl K, h2, h3, hkk _ _ _ h4 h5⟩
  · -- append to nil
    rename_i t t' x
    obtain ⟨e, hd, hk, m, cs0, hroom, ht', hs, h0, h1⟩ := h
    have hD := (lkT_ok hτ _ (by rw [hd]; simp)).d
    rw [hd] at hD
    have hi := lkT_ok hτ e (TD.known_ne hk)
    obtain ⟨v, r, rfl, hx, hr⟩ := hvl.cons_inv
    obtain ⟨v', r', rfl, hx', hr'⟩ := hr.cons_inv
    have := hr'.nil_inv; subst this
    have hT : SrcT P t' := by
      rcases ht' with ⟨e', h⟩ | h
      · have h2 := (lkT_ok hτ t' (by rw [h]; simp)).d
        rw [h] at h2; exact .inl ⟨e', h2⟩
      · have h2 := (lkT_ok hτ t' (by rw [h]; simp)).d
        rw [h] at h2; exact .inr h2
    cases hx
    rcases run_append_nils hS (ty := ty) hD hT hi hx' hs hroom with ⟨hm, hrun⟩ | ⟨hm, u, w', b', cap', rest, g1, g2, g3, g4, g5, g6⟩
    · exact ROk.of_eq (run_v hrun) (ROk.val hS .nils (h0 hm))
    · exact ROk.of_eq (run_v g1) ⟨K, _, _, Kle.refl K, g2, g3.conT g6, h1 hm _ _ _ g4 g5⟩
  · -- unsafe.SliceData of nil
    obtain ⟨v, r, rfl, hx, hr⟩ := hvl.cons_inv
    have := hr.nil_inv; subst this
    cases hx
    exact ROk.of_eq (run_v (Lib.run_unsafeSliceData_nil w _ ty 0 0)) (ROk.val hS .nilp h)
  · rename_i b off n cap
    obtain ⟨hn, hk⟩ := h
    obtain ⟨v, r, rfl, hx, hr⟩ := hvl.cons_inv
    have := hr.nil_inv; subst this
    exact ROk.of_eq (run_v (run_sliceData hx hn)) (ROk.val hS (.ptr _ _) hk)
  · rename_i pt it q n
    obtain ⟨rfl, rfl, hk⟩ := h
    obtain ⟨v, r, rfl, hx, hr⟩ := hvl.cons_inv
    obtain ⟨v', r', rfl, hx', hr'⟩ := hr.cons_inv
    have := hr'.nil_inv; subst this
    cases hx; cases hx'
    exact ROk.of_eq (run_v (Lib.run_unsafeString_none w pt it ty none)) (ROk.val hS (.str [] (by simp)) hk)
  · rename_i pt it b off q n
    obtain ⟨e, hd, he, hsz, rfl, rfl, l, p, cur, hl, rfl, hp, hty, hcur, hk⟩ := h
    have hD := (lkT_ok hτ pt (by rw [hd]; simp)).d
    rw [hd] at hD
    have hi := lkT_ok hτ e (by rw [he]; simp)
    obtain ⟨v, r, rfl, hx, hr⟩ := hvl.cons_inv
    obtain ⟨v', r', rfl, hx', hr'⟩ := hr.cons_inv
    have := hr'.nil_inv; subst this
    obtain ⟨w', h1, h2, h3⟩ := run_unsafeString1 (it := it) (ty := ty) hS hD (hi.cellsOf.trans hsz) hl hp hty hcur hx hx'
    exact ROk.of_eq (run_v h1) ⟨K, _, _, Kle.refl K, .str _ h3, h2, hk⟩
  · -- copy
    rename_i t t' b off n cap x
    obtain ⟨e, hd, hk, m, cs0, p, cur, hs, hp, hfit, cur', rfl, hkk⟩ := h
    have hD := (lkT_ok hτ _ (by rw [hd]; simp)).d
    rw [hd] at hD
    have hi := lkT_ok hτ e (TD.known_ne hk)
    obtain ⟨v, r, rfl, hx, hr⟩ := hvl.cons_inv
    obtain ⟨v', r', rfl, hx', hr'⟩ := hr.cons_inv
    have := hr'.nil_inv; subst this
    obtain ⟨w', h1, h2⟩ := run_copy_src hS (ty := ty) (t' := t') hD hi hp hx hx' hs hfit
    have hmax : min m n ≤ maxLen := by
      obtain ⟨us, hus⟩ := src_ok (P := P) hS hx' hs
      exact Nat.le_trans (Nat.min_le_left _ _) hus.hmax
    exact ROk.of_eq (run_v h1) ⟨K, _, _, Kle.refl K, .int _ _ (has_nat hmax), h2, hkk⟩
  · rename_i t b off n c
    obtain ⟨e, hd, hk, hcase⟩ := h
    have hD := (lkT_ok hτ _ (by rw [hd]; simp)).d
    rw [hd] at hD
    have hi := lkT_ok hτ e (TD.known_ne hk)
    obtain ⟨v, r, rfl, hx, hr⟩ := hvl.cons_inv
    have := hr.nil_inv; subst this
    rcases hcase with ⟨rfl, hkk⟩ | ⟨p, cs', hp, hs, cs2, rfl, hkk⟩
    · refine ROk.of_eq (run_v (x := .tuple #[]) (w' := w) ?_) (ROk.val hS (.tup (vs := []) rfl (fun i c v hc _ => by simp at hc)) hkk)
      cases hx with
      | mslnil _ _ a0 => cases a0 <;> simp [Builtin.clear_, run_underlying hD]
      | msl => simp [Builtin.clear_, run_underlying hD]
    · obtain ⟨w', h1, h2⟩ := run_clear_msl hS (ty := ty) hD hi hp hx hs
      exact ROk.of_eq (run_v h1) ⟨K, _, _, Kle.refl K, .tup (vs := []) rfl (fun i c v hc _ => by simp at hc), h2, hkk⟩
  · exact h.elim

theorem run_bin_v {P : Program} {w : World} {op : BinOp} {t : TypeId} {x y : Value} {v : Value} (ox oy : Operand) (hg : eqGuard op t ox oy x y = pure ()) (h : (binOp op t x y).run P w = .ok v w) :
    ((do eqGuard op t ox oy x y; binOp op t x y : Sem Value)).run P w = .ok v w := by
  rw [hg]; rw [run_bind_ok (Sem.run_pure P w ())]; exact h

theorem astep_makeMap_ok {P : Program} {τ : List (TypeId × TI)} (hτ : AllOk P τ) {ρ : Operand → AV} {S : List En} {k : AV → List En → Prop} {w0 : World} {K : Kn} {a : Act} {w : World} {dst : Option Tmp} {type : TypeId} {pos : String} {after : Array Edge} {guard : Option (Nat × Bool)} {t : TypeId} {r : Option Operand} (h : astep P τ (.makeMap t r) ρ S k) (hE : ROp K ρ a (.makeMap t r)) (hS : RelS w0 K S w) :
    ROk P w0 K k ((execOp a.eval ⟨dst, .makeMap t r, type, pos, after, guard⟩).run P w) := by
  cases r with
  | some r => exact (show False from h).elim
  | none => exact ROk.of_eq (run_v (run_mapNew (P := P) hS t).1) ⟨K, _, _, Kle.refl K, .map _, (run_mapNew (P := P) hS t).2, h _⟩
theorem astep_lookup_ok {P : Program} {τ : List (TypeId × TI)} (hτ : AllOk P τ) {ρ : Operand → AV} {S : List En} {k : AV → List En → Prop} {w0 : World} {K : Kn} {a : Act} {w : World} {dst : Option Tmp} {type : TypeId} {pos : String} {after : Array Edge} {guard : Option (Nat × Bool)} {t : TypeId} {m x : Operand} {ok : Bool} (h : astep P τ (.lookup t m x ok) ρ S k) (hE : ROp K ρ a (.lookup t m x ok)) (hS : RelS w0 K S w) :
    ROk P w0 K k ((execOp a.eval ⟨dst, .lookup t m x ok, type, pos, after, guard⟩).run P w) := by
  simp only [astep] at h
  have hm := hE m (by simp [Op.operands])
  have hx := hE x (by simp [Op.operands])
  generalize hmx : a.eval m = vm at hm
  cases hvm : ρ m <;> cases hvx : ρ x <;> rw [hvm, hvx] at h <;> simp only [] at h
  case map.str b s =>
    rw [hvm] at hm; rw [hvx] at hx
    cases hm
    obtain ⟨kt, e, z, p, l, hd, hdk, hz, hp, r, rfl, hk⟩ := h
    have hD := (lkT_ok hτ t (by rw [hd]; simp)).d
    rw [hd] at hD
    have hDk := (lkT_ok hτ kt (by rw [hdk]; simp)).d
    rw [hdk] at hDk
    obtain ⟨v, h1, h2⟩ := run_mapGet hS hD hDk hz hp hx ok
    exact ROk.of_eq (run_v (by rw [hmx]; exact h1)) (ROk.val hS h2 hk)
theorem astep_mapUpdate_ok {P : Program} {τ : List (TypeId × TI)} (hτ : AllOk P τ) {ρ : Operand → AV} {S : List En} {k : AV → List En → Prop} {w0 : World} {K : Kn} {a : Act} {w : World} {dst : Option Tmp} {type : TypeId} {pos : String} {after : Array Edge} {guard : Option (Nat × Bool)} {t : TypeId} {m x y : Operand} (h : astep P τ (.mapUpdate t m x y) ρ S k) (hE : ROp K ρ a (.mapUpdate t m x y)) (hS : RelS w0 K S w) :
    ROk P w0 K k ((execOp a.eval ⟨dst, .mapUpdate t m x y, type, pos, after, guard⟩).run P w) := by
  simp only [astep] at h
  have hm := hE m (by simp [Op.operands])
  have hx := hE x (by simp [Op.operands])
  have hy := hE y (by simp [Op.operands])
  generalize hmx : a.eval m = vm at hm
  cases hvm : ρ m <;> cases hvx : ρ x <;> rw [hvm, hvx] at h <;> simp only [] at h
  case map.str b s =>
    rw [hvm] at hm; rw [hvx] at hx
    cases hm
    obtain ⟨kt, e, p, l, hd, hdk, hp, l', rfl, hk⟩ := h
    have hD := (lkT_ok hτ t (by rw [hd]; simp)).d
    rw [hd] at hD
    have hDk := (lkT_ok hτ kt (by rw [hdk]; simp)).d
    rw [hdk] at hDk
    obtain ⟨w', h1, h2⟩ := run_mapPut hS hD hDk hp hx hy
    exact ROk.of_eq (run_u (by rw [hmx]; exact h1)) ⟨K, _, Kle.refl K, h2, hk⟩
theorem astep_mapEntry_ok {P : Program} {τ : List (TypeId × TI)} (hτ : AllOk P τ) {ρ : Operand → AV} {S : List En} {k : AV → List En → Prop} {w0 : World} {K : Kn} {a : Act} {w : World} {dst : Option Tmp} {type : TypeId} {pos : String} {after : Array Edge} {guard : Option (Nat × Bool)} {t : TypeId} {m x : Operand} (h : astep P τ (.mapEntry t m x) ρ S k) (hE : ROp K ρ a (.mapEntry t m x)) (hS : RelS w0 K S w) :
    ROk P w0 K k ((execOp a.eval ⟨dst, .mapEntry t m x, type, pos, after, guard⟩).run P w) := by
  simp only [astep] at h
  have hm := hE m (by simp [Op.operands])
  have hx := hE x (by simp [Op.operands])
  generalize hmx : a.eval m = vm at hm
  cases hvm : ρ m <;> cases hvx : ρ x <;> rw [hvm, hvx] at h <;> simp only [] at h
  case map.str b s =>
    rw [hvm] at hm; rw [hvx] at hx
    cases hm
    obtain ⟨kt, e, z, p, l, hd, hdk, hz, hp, hn, hl, hk⟩ := h
    have hD := (lkT_ok hτ t (by rw [hd]; simp)).d
    rw [hd] at hD
    have hDk := (lkT_ok hτ kt (by rw [hdk]; simp)).d
    rw [hdk] at hDk
    obtain ⟨v, w', h1, h2, h3⟩ := run_mapEnt hS hD hDk hz hp hx hn hl
    exact ROk.of_eq (run_v (by rw [hmx]; exact h1)) ⟨K, _, _, Kle.refl K, h2, h3, hk⟩
theorem astep_entryStore_ok {P : Program} {τ : List (TypeId × TI)} (hτ : AllOk P τ) {ρ : Operand → AV} {S : List En} {k : AV → List En → Prop} {w0 : World} {K : Kn} {a : Act} {w : World} {dst : Option Tmp} {type : TypeId} {pos : String} {after : Array Edge} {guard : Option (Nat × Bool)} {t : TypeId} {m x y : Operand} (h : astep P τ (.entryStore t m x y) ρ S k) (hE : ROp K ρ a (.entryStore t m x y)) (hS : RelS w0 K S w) :
    ROk P w0 K k ((execOp a.eval ⟨dst, .entryStore t m x y, type, pos, after, guard⟩).run P w) := by
  simp only [astep] at h
  have hm := hE m (by simp [Op.operands])
  have hx := hE x (by simp [Op.operands])
  have hy := hE y (by simp [Op.operands])
  generalize hmx : a.eval m = vm at hm
  generalize hxx : a.eval x = vx at hx
  cases hvm : ρ m <;> cases hvx : ρ x <;> rw [hvm, hvx] at h <;> simp only [] at h
  case map.int b q0 n =>
    rw [hvm] at hm; rw [hvx] at hx
    cases hm; cases hx
    obtain ⟨p, l, j, q, rfl, hp, hj, l', rfl, hk⟩ := h
    obtain ⟨w', h1, h2⟩ := run_entSet (P := P) hS t hp (q0 := q0) hj hy
    exact ROk.of_eq (run_u (by rw [hmx, hxx]; exact h1)) ⟨K, _, Kle.refl K, h2, hk⟩
theorem astep_makeSlice_ok {P : Program} {τ : List (TypeId × TI)} (hτ : AllOk P τ) {ρ : Operand → AV} {S : List En} {k : AV → List En → Prop} {w0 : World} {K : Kn} {a : Act} {w : World} {dst : Option Tmp} {type : TypeId} {pos : String} {after : Array Edge} {guard : Option (Nat × Bool)} {t : TypeId} {x y : Operand} (h : astep P τ (.makeSlice t x y) ρ S k) (hE : ROp K ρ a (.makeSlice t x y)) (hS : RelS w0 K S w) :
    ROk P w0 K k ((execOp a.eval ⟨dst, .makeSlice t x y, type, pos, after, guard⟩).run P w) := by
  simp only [astep] at h
  have hx := hE x (by simp [Op.operands])
  have hy := hE y (by simp [Op.operands])
  generalize hax : a.eval x = vx at hx
  generalize hay : a.eval y = vy at hy
  cases hd : (lkT τ t).d <;> cases hvx : ρ x <;> cases hvy : ρ y <;> rw [hd, hvx, hvy] at h <;> (try simp only [] at h) <;> (try exact (show False from h).elim)
  case slice.int.int e q a k c =>
    rw [hvx] at hx; rw [hvy] at hy
    cases hx; cases hy
    obtain ⟨hk, n, m, rfl, rfl, hnm, hr, h⟩ := h
    have hD := (lkT_ok hτ t (by rw [hd]; simp)).d
    rw [hd] at hD
    have hi := lkT_ok hτ e (TD.known_ne hk)
    rcases h with ⟨rfl, h⟩ | h
    · obtain ⟨v, w', t', h1, h2, h3⟩ := run_makeOwn hS hD hi hr
      exact ROk.of_eq (run_v (by rw [hax, hay]; exact h1)) ⟨K, _, _, Kle.refl K, h2, h3, h t'⟩
    · obtain ⟨v, w', b, h1, h2, h3⟩ := run_makeMut hS hD hi hnm hr
      exact ROk.of_eq (run_v (by rw [hax, hay]; exact h1)) ⟨K, _, _, Kle.refl K, h2, h3, h b⟩

theorem astep_ok {P : Program} {τ : List (TypeId × TI)} (hτ : AllOk P τ) {o : Oper} {ρ : Operand → AV} {S : List En} {k : AV → List En → Prop} (h : astep P τ o.op ρ S k)
    {w0 : World} {K : Kn} {a : Act} {w : World} (hE : ROp K ρ a o.op) (hS : RelS w0 K S w) : ROk P w0 K k ((execOp a.eval o).run P w) := by
  obtain ⟨dst, op, type, pos, after, guard⟩ := o
  simp only at h hE
  cases op with
  | move x => exact ROk.val hS (hE x (by simp [Op.operands])) h
  | assign x => exact ROk.val hS (hE x (by simp [Op.operands])) h
  | pick c x y =>
    have hc := hE c (by simp [Op.operands])
    simp only [astep] at h
    cases hcv : ρ c <;> rw [hcv] at h hc <;> simp only [] at h
    case bool t =>
      generalize hcx : a.eval c = cv at hc
      cases hc
      refine ROk.of_eq (r' := .ok (.value (if t then a.eval x else a.eval y)) w) ?_ ?_
      · simp only [execOp, hcx, asBool]
        simp
      · cases t with
        | true => exact ROk.val hS (hE x (by simp [Op.operands])) h
        | false => exact ROk.val hS (hE y (by simp [Op.operands])) h
  | alloc t =>
    simp only [astep] at h
    obtain ⟨b, w', h1, h2⟩ := run_allocT (lkT_ok hτ t (TD.known_ne h.1)) hS
    exact ROk.of_eq (run_v h1) ⟨K, _, _, Kle.refl K, .ptr b 0, h2, h.2 b⟩
  | box t x =>
    simp only [astep] at h
    obtain ⟨b, w', h1, h2⟩ := run_box (t := t) hS (hE x (by simp [Op.operands])) h.1
    exact ROk.of_eq (run_v h1) ⟨K, _, _, Kle.refl K, .ptr b 0, h2, h.2 b⟩
  | build t parts =>
    have hp : RelP K (parts.toList.map fun p => (p.1, ρ p.2)) (parts.map fun (i, x) => (i, a.eval x)).toList := by
      have := relPof (K := K) (ρ := ρ) (a := a) parts.toList (fun p hp => hE p.2 (by
        simp only [Op.operands, List.mem_toArray, List.mem_map]; exact ⟨p, hp, rfl⟩))
      simpa using this
    simp only [astep] at h
    cases hd : (lkT τ t).d <;> rw [hd] at h <;> simp only [] at h
    case struct fs =>
      obtain ⟨hk, cs, hf, hkk⟩ := h
      obtain ⟨v, h1, h2⟩ := run_build_struct (w := w) hτ hd (List.all_eq_true.1 hk) hp hf
      exact ROk.of_eq (run_v h1) (ROk.val hS h2 hkk)
    case array n e =>
      obtain ⟨hk, cs, hf, hkk⟩ := h
      obtain ⟨v, h1, h2⟩ := run_build_arr (w := w) hτ hd hk hp hf
      exact ROk.of_eq (run_v h1) (ROk.val hS h2 hkk)
  | buildSlice t len parts =>
    simp only [astep] at h
    cases hd : (lkT τ t).d <;> rw [hd] at h <;> simp only [] at h
    case slice e =>
      obtain ⟨hk, hidx, hx0, hl1, hl2, hkk⟩ := h
      have hx : ∀ x ∈ parts.toList.map (fun p => ρ p.2), x.plain = true ∧ x.cells.length = (lkT τ e).sz := fun x hx => by
        have := List.all_eq_true.1 hx0 x hx
        simp only [Bool.and_eq_true] at this
        exact ⟨this.1, Nat.eq_of_beq_eq_true this.2⟩
      have hD := (lkT_ok hτ t (by rw [hd]; simp)).d
      rw [hd] at hD
      have hlen : (parts.toList.map fun p => ρ p.2).length = len := by
        have := congrArg List.length hidx
        simpa using this
      have hp : RelP K ((parts.toList.map fun p => ρ p.2).zipIdx.map fun p => (p.2, p.1)) (parts.map fun (i, x) => (i, a.eval x)).toList := by
        have := relPof (K := K) (ρ := ρ) (a := a) parts.toList (fun p hp => hE p.2 (by
          simp only [Op.operands, List.mem_toArray, List.mem_map]; exact ⟨p, hp, rfl⟩))
        have e1 : ((parts.toList.map fun p => ρ p.2).zipIdx.map fun p => (p.2, p.1)) = parts.toList.map fun p => (p.1, ρ p.2) := by
          apply List.ext_getElem?
          intro j
          simp only [List.getElem?_map, List.getElem?_zipIdx]
          cases hj : parts.toList[j]? with
          | none => simp
          | some p =>
            have h5 := congrArg (fun l => l[j]?) hidx
            simp only [List.getElem?_map, hj, Option.map_some] at h5
            have hjl : j < len := by
              by_cases hc : j < len
              · exact hc
              · rw [List.getElem?_eq_none (by simpa using hc)] at h5; cases h5
            rw [List.getElem?_eq_getElem (by simpa using hjl)] at h5
            simp at h5
            simp [h5]
        rw [e1]
        simpa using this
      obtain ⟨v, w', K', h1, h2, h3, h4⟩ := run_buildSlice hS hD (lkT_ok hτ e (TD.known_ne hk)) hp hx (by rw [hlen]; exact ⟨hl1, hl2⟩)
      rw [hlen] at h1
      exact ROk.of_eq (run_v h1) ⟨K', _, _, h2, h3, h4, hkk⟩
  | load t x =>
    simp only [astep] at h
    obtain ⟨hk, h⟩ := h
    have hi := lkT_ok hτ t (TD.known_ne hk)
    have hx := hE x (by simp [Op.operands])
    cases hv : ρ x <;> rw [hv] at h hx <;> simp only [] at h
    case ref cs =>
      obtain ⟨v, h1, h2⟩ := run_load_ref hi hk hS hx h.1
      obtain ⟨_, u, rfl, hkk⟩ := h
      exact ROk.of_eq (run_v h1) (ROk.val hS h2 hkk)
    case ptr b off =>
      obtain ⟨p, cs, hp, hs, u, rfl, hkk⟩ := h
      obtain ⟨v, h1, h2⟩ := run_load_ptr hi hk hS hp hx hs
      exact ROk.of_eq (run_v h1) (ROk.val hS h2 hkk)
    case gl g =>
      obtain ⟨cs, hm, hs, u, rfl, hkk⟩ := h
      obtain ⟨_, h1c, vs, _, _, _, hrel, hkn⟩ := hS.ents _ hm
      obtain ⟨v, h1, h2⟩ := run_load_ref hi hk hS (cs := cs) (v := a.eval x) (by
        generalize a.eval x = vx at hx
        cases hx
        exact .ref h1c hrel.1 hrel.2 (fun i v hv => by rw [Nat.zero_add]; exact hkn i v hv)) hs
      exact ROk.of_eq (run_v h1) (ROk.val hS h2 hkk)
  | makeInterface t x =>
    simp only [astep] at h
    obtain ⟨hc, hk⟩ := h
    have hx := hE x (by simp [Op.operands])
    have hn : (lkT τ t).d ≠ .other := by intro e; rw [e] at hc; cases hc
    have hn' : (lkT τ t).d ≠ .iface := by intro e; rw [e] at hc; cases hc
    exact ROk.of_eq (run_v (run_makeIface (lkT_ok hτ t hn) hn hn' _)) (ROk.val hS (.ifc t hx) hk)
  | makeMap t r => exact astep_makeMap_ok hτ h hE hS
  | lookup t m x ok => exact astep_lookup_ok hτ h hE hS
  | mapUpdate t m x y => exact astep_mapUpdate_ok hτ h hE hS
  | makeSlice t x y => exact astep_makeSlice_ok hτ h hE hS
  | mapEntry t m x => exact astep_mapEntry_ok hτ h hE hS
  | entryStore t m x y => exact astep_entryStore_ok hτ h hE hS
  | range t x =>
    simp only [astep] at h
    have hx := hE x (by simp [Op.operands])
    cases hd : (lkT τ t).d <;> rw [hd] at h <;> (try simp only [] at h) <;> (try exact (show False from h).elim)
    case str =>
      have hD := (lkT_ok hτ t (by rw [hd]; simp)).d
      rw [hd] at hD
      cases hv : ρ x <;> rw [hv] at h hx <;> simp only [] at h
      case str l =>
        obtain ⟨b, w', h1, h2⟩ := run_rangeStr hS hD hx
        exact ROk.of_eq (run_v h1) ⟨K, _, _, Kle.refl K, .ptr b 0, h2, h b⟩
  | next x isS =>
    simp only [astep] at h
    have hx := hE x (by simp [Op.operands])
    generalize hax : a.eval x = vx at hx
    cases hv : ρ x <;> rw [hv] at h hx <;> simp only [] at h
    case ptr b off =>
      cases hx
      obtain ⟨rfl, rfl, p, l, pos, hp, hle, hmax, h1, h2⟩ := h
      by_cases hlt : pos < l.length
      · obtain ⟨c, wd, w', e1, e2, e3, e4, e5, e6⟩ := run_nextStr (P := P) (ty := type) hS hp hlt hmax
        refine ROk.of_eq (run_v (by rw [hax]; exact e1)) ⟨K, _, _, Kle.refl K, ?_, e2, h1 hlt c wd e3 e4 e5 e6⟩
        have hc32 : IntKind.i32.has (c : Int) := by simp only [IntKind.has, IntKind.min, IntKind.max, IntKind.bits, IntKind.signed]; simp; omega
        have := RelL.cons (K := K) (Rel.bool true) (RelL.cons (.int .i64 (pos : Int) (has_nat (Nat.le_trans hle hmax))) (RelL.cons (.int .i32 (c : Int) hc32) RelL.nil))
        exact .tup this.1 this.2
      · refine ROk.of_eq (run_v (by rw [hax]; exact run_nextEnd hS hp hlt)) (ROk.val hS ?_ (h2 (by omega)))
        have := RelL.cons (K := K) (Rel.bool false) RelL.nil
        exact .tup this.1 this.2
  | store t x y =>
    simp only [astep] at h
    obtain ⟨hk, h⟩ := h
    have hi := lkT_ok hτ t (TD.known_ne hk)
    have hx := hE x (by simp [Op.operands])
    have hy := hE y (by simp [Op.operands])
    cases hv : ρ x <;> rw [hv] at h hx <;> simp only [] at h
    case ptr b off =>
      obtain ⟨p, cs, hp, hpl, hsz, hs, cs', rfl, hkk⟩ := h
      obtain ⟨w', h1, h2⟩ := run_store_ptr hi hS hp hx hy hpl hsz hs
      exact ROk.of_eq (run_u h1) ⟨K, _, Kle.refl K, h2, hkk⟩
  | binOp op t x y t' =>
    simp only [astep] at h
    have hx := hE x (by simp [Op.operands])
    have hy := hE y (by simp [Op.operands])
    cases hvx : ρ x <;> cases hvy : ρ y <;> rw [hvx, hvy] at h <;> simp only [] at h <;> rw [hvx] at hx <;> rw [hvy] at hy
    case bool.bool p q =>
      have hD := (lkT_ok hτ t (by rw [h.1]; simp)).d
      rw [h.1] at hD
      generalize hax : a.eval x = vx at hx
      generalize hay : a.eval y = vy at hy
      cases hx; cases hy
      obtain ⟨v, h1, h2, h3⟩ := run_binBool (w := w) hD h.2
      refine ROk.of_eq (run_v (x := v.1) (w' := w) ?_) (ROk.val hS (h2 K) h3)
      rw [hax, hay]; exact run_bin_v x y (eqGuard_bool _ _ _ _ _ _) h1
    case int.int k1 p k2 q =>
      generalize hax : a.eval x = vx at hx
      generalize hay : a.eval y = vy at hy
      cases hx; cases hy
      obtain ⟨v, h1, h2, h3⟩ := run_binInt (P := P) (w := w) (t := t) h
      refine ROk.of_eq (run_v (x := v.1) (w' := w) ?_) (ROk.val hS (h2 K) h3)
      rw [hax, hay]; exact run_bin_v x y (eqGuard_int _ _ _ _ _ _ _) h1
    case str.str p q =>
      generalize hax : a.eval x = vx at hx
      generalize hay : a.eval y = vy at hy
      cases hx; cases hy
      obtain ⟨v, h1, h2, h3⟩ := run_binStr (P := P) (w := w) (t := t) h
      refine ROk.of_eq (run_v (x := v.1) (w' := w) ?_) (ROk.val hS (h2 K) h3)
      rw [hax, hay]; exact run_bin_v x y (eqGuard_str _ _ _ _ _ _) h1
    case agg.agg cs ds =>
      obtain ⟨⟨ks, hq, hf⟩, r, hr, hm⟩ := h
      obtain ⟨h1, h2⟩ := run_eqStruct (w := w) hq.toEqOk hx hy (fitK_fit _ _ _ _ hq.hk hf) hr x y
      cases op <;> simp only [] at hm
      case eql => exact ROk.of_eq (run_v h1) (ROk.val hS (.bool _) hm)
      case neq => exact ROk.of_eq (run_v h2) (ROk.val hS (.bool _) hm)
    case sl.sl z1 es t1 z2 ds t2 =>
      obtain ⟨rfl, ⟨e, hd⟩, hm⟩ := h
      have hD := (lkT_ok hτ t (by rw [hd]; simp)).d
      rw [hd] at hD
      have key : ∃ b : Bool, (es ≠ [] → b = false) ∧ ∀ ox oy, ((do eqGuard .eql t ox oy (a.eval x) (.slice none 0 0); binOp .eql t (a.eval x) (.slice none 0 0) : Sem Value)).run P w = .ok (.bool b) w ∧
          ((do eqGuard .neq t ox oy (a.eval x) (.slice none 0 0); binOp .neq t (a.eval x) (.slice none 0 0) : Sem Value)).run P w = .ok (.bool (!b)) w := by
        rcases sl_cases hx with ⟨a0, e1, e2, _⟩ | ⟨bb, o, c, ws, ha, _⟩
        · exact ⟨a0.isNone, fun h => absurd e2 h, fun ox oy => by rw [e1]; exact run_nilEq hD a0 0 0 ox oy⟩
        · exact ⟨false, fun _ => rfl, fun ox oy => by rw [ha.eq]; exact run_nilEq hD (some ⟨bb, o, none⟩) _ _ ox oy⟩
      obtain ⟨b, hb, hk⟩ := key
      cases op <;> simp only [] at hm
      case eql => exact ROk.of_eq (run_v (hk x _).1) (ROk.val hS (.bool _) (hm b hb))
      case neq => exact ROk.of_eq (run_v (hk x _).2) (ROk.val hS (.bool _) (hm b hb))
    case ptr.nilp b o =>
      obtain ⟨⟨e, hd, hk⟩, hm⟩ := h
      have hD := (lkT_ok hτ t (by rw [hd]; simp)).d
      rw [hd] at hD
      generalize hax : a.eval x = vx at hx
      generalize hay : a.eval y = vy at hy
      cases hx; cases hy
      have hr := run_ptrEq (w := w) hD (lkT_ok hτ e (TD.known_ne hk)) ⟨b, o, none⟩ none (.inl rfl) x y
      cases op <;> simp only [] at hm
      case eql => exact ROk.of_eq (run_v (by rw [hax, hay]; exact hr.1)) (ROk.val hS (.bool _) (hm trivial))
      case neq => exact ROk.of_eq (run_v (by rw [hax, hay]; exact hr.2)) (ROk.val hS (.bool _) (hm trivial))
    case nilp.nilp =>
      obtain ⟨⟨e, hd⟩, hm⟩ := h
      have hD := (lkT_ok hτ t (by rw [hd]; simp)).d
      rw [hd] at hD
      generalize hax : a.eval x = vx at hx
      generalize hay : a.eval y = vy at hy
      cases hx; cases hy
      have hr := run_nilpEq (w := w) hD x y
      cases op <;> simp only [] at hm
      case eql => exact ROk.of_eq (run_v (by rw [hax, hay]; exact hr.1)) (ROk.val hS (.bool _) (hm trivial))
      case neq => exact ROk.of_eq (run_v (by rw [hax, hay]; exact hr.2)) (ROk.val hS (.bool _) (hm trivial))
    case ptr.ptr b o b' o' =>
      obtain ⟨⟨e, hd, hk⟩, ⟨rfl, rfl⟩, hm⟩ := h
      have hD := (lkT_ok hτ t (by rw [hd]; simp)).d
      rw [hd] at hD
      generalize hax : a.eval x = vx at hx
      generalize hay : a.eval y = vy at hy
      cases hx; cases hy
      have hr := run_ptrEq (w := w) hD (lkT_ok hτ e (TD.known_ne hk)) ⟨b, o, none⟩ (some ⟨b, o, none⟩) (.inr rfl) x y
      cases op <;> simp only [] at hm
      case eql => exact ROk.of_eq (run_v (by rw [hax, hay]; exact hr.1)) (ROk.val hS (.bool _) (hm trivial))
      case neq => exact ROk.of_eq (run_v (by rw [hax, hay]; exact hr.2)) (ROk.val hS (.bool _) (hm trivial))
    case ifc.nilif u v =>
      obtain ⟨hd, hm⟩ := h
      have hD := (lkT_ok hτ t (by rw [hd]; simp)).d
      rw [hd] at hD
      obtain ⟨ms, hD⟩ := hD
      generalize hax : a.eval x = vx at hx
      generalize hay : a.eval y = vy at hy
      cases hx; cases hy
      have hr := fun z => run_ifcNil (w := w) (isIface_of hD) u z x y
      cases op <;> simp only [] at hm
      case eql => exact ROk.of_eq (run_v (by rw [hax, hay]; exact (hr _).1)) (ROk.val hS (.bool _) (hm trivial))
      case neq => exact ROk.of_eq (run_v (by rw [hax, hay]; exact (hr _).2)) (ROk.val hS (.bool _) (hm trivial))
    case nilif.nilif =>
      obtain ⟨hd, ⟨cv, rfl⟩, hm⟩ := h
      have hD := (lkT_ok hτ t (by rw [hd]; simp)).d
      rw [hd] at hD
      obtain ⟨ms, hD⟩ := hD
      generalize hax : a.eval x = vx at hx
      have hay : a.eval (.const cv) = .nilIface := by
        generalize a.eval (.const cv) = vy at hy
        cases hy; rfl
      cases hx
      have hr := run_nilNil (w := w) (isIface_of hD) x cv
      cases op <;> simp only [] at hm
      case eql => exact ROk.of_eq (run_v (by rw [hax, hay]; exact hr.1)) (ROk.val hS (.bool _) (hm trivial))
      case neq => exact ROk.of_eq (run_v (by rw [hax, hay]; exact hr.2)) (ROk.val hS (.bool _) (hm trivial))
  | unOp op t x =>
    simp only [astep] at h
    have hx := hE x (by simp [Op.operands])
    generalize hax : a.eval x = vx at hx
    cases hvx : ρ x <;> rw [hvx] at h hx <;> cases op <;> simp only [] at h
    case bool.not b =>
      cases hx
      exact ROk.of_eq (run_v (x := .bool (!b)) (w' := w) (by rw [hax]; rfl)) (ROk.val hS (.bool _) h)
    case int.neg q n =>
      cases hx
      exact ROk.of_eq (run_v (x := .int q (q.wrap (0 - n))) (w' := w) (by rw [hax]; rfl)) (ROk.val hS (.int _ _ (wrap_has _ _)) h)
    case int.xor q n =>
      cases hx
      exact ROk.of_eq (run_v (x := .int q (q.wrap (BitVec.ofInt q.bits (if q.signed then -1 else q.max) ^^^ BitVec.ofInt q.bits n).toNat)) (w' := w) (by rw [hax]; rfl)) (ROk.val hS (.int _ _ (wrap_has _ _)) h)
  | convert src dst x =>
    simp only [astep] at h
    have hx := hE x (by simp [Op.operands])
    generalize hax : a.eval x = vx at hx
    have hds : ∀ {d}, (lkT τ src).d = d → d ≠ .other → DOk P src d := fun {d} hd hn => by have := (lkT_ok hτ src (by rw [hd]; exact hn)).d; rw [hd] at this; exact this
    have hdd : ∀ {d}, (lkT τ dst).d = d → d ≠ .other → DOk P dst d := fun {d} hd hn => by have := (lkT_ok hτ dst (by rw [hd]; exact hn)).d; rw [hd] at this; exact this
    cases h1 : (lkT τ src).d <;> rw [h1] at h <;> (try simp only [] at h) <;> (try exact (show False from h).elim)
    case int q1 =>
      cases h2 : (lkT τ dst).d <;> rw [h2] at h <;> (try simp only [] at h) <;> (try exact (show False from h).elim)
      case int q2 =>
        cases hvx : ρ x <;> rw [hvx] at h hx <;> simp only [] at h
        case int q n =>
          cases hx
          refine ROk.of_eq (run_v (x := .int q2 (q2.wrap n)) (w' := w) ?_) (ROk.val hS (.int _ _ (wrap_has _ _)) h)
          rw [hax]
          unfold convert
          rw [run_bind_ok (run_underlying (hds h1 (by simp)) w), run_bind_ok (run_underlying (hdd h2 (by simp)) w)]
          rfl
    case str =>
      cases h2 : (lkT τ dst).d <;> rw [h2] at h <;> (try simp only [] at h) <;> (try exact (show False from h).elim)
      case str =>
        cases hvx : ρ x <;> rw [hvx] at h hx <;> simp only [] at h
        case str s =>
          cases hx with
          | str _ hl =>
            refine ROk.of_eq (run_v (x := .string ⟨s.toArray⟩) (w' := w) ?_) (ROk.val hS (.str _ hl) h)
            rw [hax]
            unfold convert
            rw [run_bind_ok (run_underlying (hds h1 (by simp)) w), run_bind_ok (run_underlying (hdd h2 (by simp)) w)]
            rfl
    case slice e =>
      cases h2 : (lkT τ dst).d <;> rw [h2] at h <;> (try simp only [] at h) <;> (try exact (show False from h).elim)
      case str =>
        cases hvx : ρ x <;> rw [hvx] at h hx <;> simp only [] at h
        case sl sz es tk =>
          obtain ⟨he, l, rfl, hk⟩ := h
          have hE8 := (lkT_ok hτ e (by rw [he]; simp)).d
          rw [he] at hE8
          obtain ⟨e1, e2⟩ := run_sl_string hS (hds h1 (by simp)) hE8 (hdd h2 (by simp)) hx
          exact ROk.of_eq (run_v (by rw [hax]; exact e1)) (ROk.val hS (.str _ e2) hk)
        case msl b off n cap =>
          obtain ⟨he, l, hn, hc, hk⟩ := h
          have hE8 := (lkT_ok hτ e (by rw [he]; simp)).d
          rw [he] at hE8
          obtain ⟨e1, e2⟩ := run_msl_string hS (hds h1 (by simp)) hE8 (hdd h2 (by simp)) hx hn hc
          exact ROk.of_eq (run_v (by rw [hax]; exact e1)) (ROk.val hS (.str _ e2) hk)
    case ptr e =>
      cases h2 : (lkT τ dst).d <;> rw [h2] at h <;> (try simp only [] at h) <;> (try exact (show False from h).elim)
      case uptr =>
        cases hvx : ρ x <;> rw [hvx] at h hx <;> simp only [] at h
        case ptr b off =>
          obtain ⟨hkn, hsz, p, cs, hp, ho, hk⟩ := h
          cases hx
          exact ROk.of_eq (run_v (by rw [hax]; exact run_toUnsafe hS (hds h1 (by simp)) (hdd h2 (by simp)) (lkT_ok hτ e (TD.known_ne hkn)) hsz hp ho)) (ROk.val hS (.ptr _ _) hk)
    case uptr =>
      cases h2 : (lkT τ dst).d <;> rw [h2] at h <;> (try simp only [] at h) <;> (try exact (show False from h).elim)
      case ptr u =>
        cases hvx : ρ x <;> rw [hvx] at h hx <;> simp only [] at h
        case ptr b off =>
          obtain ⟨hkn, p, cs, T, hp, hty, hl, hk⟩ := h
          cases hx
          exact ROk.of_eq (run_v (by rw [hax]; exact run_fromUnsafe hS (hds h1 (by simp)) (hdd h2 (by simp)) (lkT_ok hτ u (TD.known_ne hkn)) hp hty hl)) (ROk.val hS (.ptr _ _) hk)
  | makeFunc fn first cap =>
    have h1 := evsL (K := K) (ρ := ρ) (a := a) first.toList (fun x hx => hE x (by simp [Op.operands]; exact .inl (by simpa using hx)))
    have h2 := evsL (K := K) (ρ := ρ) (a := a) cap.toList (fun x hx => hE x (by simp [Op.operands]; exact .inr (by simpa using hx)))
    refine ROk.of_eq (r' := .ok (.value (.func fn (first.toList.map a.eval).toArray (cap.toList.map a.eval).toArray)) w) ?_ (ROk.val hS (.fn fn h1.1 h1.2 h2.1 h2.2) h)
    rw [← map_toArray, ← map_toArray]; rfl
  | slice t x lo hi mx =>
    have hx := hE x (by simp [Op.operands])
    have hlo := relO (K := K) (ρ := ρ) (a := a) lo (fun y hy => hE y (by simp [Op.operands, hy]))
    have hhi := relO (K := K) (ρ := ρ) (a := a) hi (fun y hy => hE y (by simp [Op.operands, hy]))
    have hmx := relO (K := K) (ρ := ρ) (a := a) mx (fun y hy => hE y (by simp [Op.operands, hy]))
    simp only [astep] at h
    cases hd : (lkT τ t).d <;> rw [hd] at h <;> (try simp only [] at h) <;> (try exact (show False from h).elim)
    case str =>
      have hD := (lkT_ok hτ t (by rw [hd]; simp)).d
      rw [hd] at hD
      cases hv : ρ x <;> rw [hv] at h hx <;> simp only [] at h
      case str s =>
        obtain ⟨rfl, h0, h1, h2, r, rfl, hk⟩ := h
        obtain ⟨v, e1, e2⟩ := run_slice_str (w := w) hD hx hlo hhi h0 h1 h2
        exact ROk.of_eq (run_v e1) (ROk.val hS e2 hk)
    case slice e =>
      have hD := (lkT_ok hτ t (by rw [hd]; simp)).d
      rw [hd] at hD
      cases hv : ρ x <;> rw [hv] at h hx <;> simp only [] at h
      case sl sz es tk =>
        obtain ⟨hk, hsz, hmh, h0, h1, h2, h3, r, rfl, hkk⟩ := h
        have hos : ∀ o : Option Operand, (oev ρ o).isSome = o.isSome := by intro o; cases o <;> rfl
        obtain ⟨v, e1, e2⟩ := run_slice_sl (w := w) hD (lkT_ok hτ e (TD.known_ne hk)) hsz hx hlo hhi hmx (by rw [hos, hos]; exact hmh) h0 h1 h2 (by rw [hos]; exact h3)
        exact ROk.of_eq (run_v e1) (ROk.val hS e2 hkk)
      case msl b off n cap =>
        obtain ⟨hk, hmh, h0, h1, h2, h3, o, n', c', rfl, rfl, rfl, hkk⟩ := h
        have hos : ∀ o : Option Operand, (oev ρ o).isSome = o.isSome := by intro o; cases o <;> rfl
        obtain ⟨v, e1, e2⟩ := run_slice_msl (w := w) hD (lkT_ok hτ e (TD.known_ne hk)) hx hlo hhi hmx (by rw [hos, hos]; exact hmh) h0 h1 h2 h3
        exact ROk.of_eq (run_v e1) (ROk.val hS e2 hkk)
  | fieldAddr t x f =>
    simp only [astep] at h
    have hx := hE x (by simp [Op.operands])
    generalize hax : a.eval x = vx at hx
    cases hd : (lkT τ t).d <;> rw [hd] at h <;> simp only [] at h
    case struct fs =>
      have hD := (lkT_ok hτ t (by rw [hd]; simp)).d
      rw [hd] at hD
      obtain ⟨off, ft, hf, hk, hsz, h⟩ := h
      have hi := lkT_ok hτ ft (TD.known_ne hk)
      cases hv : ρ x <;> rw [hv] at h hx <;> simp only [] at h
      case ptr b o =>
        cases hx
        exact ROk.of_eq (run_v (by rw [hax]; exact run_fieldAt hD hf hi hsz b o)) (ROk.val hS (.ptr _ _) h)
      case ref cs =>
        cases hx with
        | @ref _ b o vs h1 hl hr hkn =>
          refine ROk.of_eq (run_v (by rw [hax]; exact run_fieldAt hD hf hi hsz b o)) (ROk.val hS (.ref (vs := vs.drop off) (fun c hc => h1 c (List.mem_of_mem_drop hc)) ?_ ?_ ?_) h.2)
          · simp [hl]
          · exact fun i c v hc hv => hr (off + i) c v (by simpa using hc) (by simpa using hv)
          · intro i v hv
            rw [Nat.add_assoc]; exact hkn _ v (by simpa using hv)
  | field t x f =>
    simp only [astep] at h
    have hx := hE x (by simp [Op.operands])
    cases hd : (lkT τ t).d <;> rw [hd] at h <;> (try simp only [] at h) <;> (try exact (show False from h).elim)
    case struct fs =>
      have hD := (lkT_ok hτ t (by rw [hd]; simp)).d
      rw [hd] at hD
      cases hv : ρ x <;> rw [hv] at h hx <;> simp only [] at h
      case agg cs =>
        obtain ⟨off, ft, hf, hk, hsz, h⟩ := h
        obtain ⟨v, e1, e2⟩ := run_field (w := w) hD hf (lkT_ok hτ ft (TD.known_ne hk)) hk hx hsz
        exact ROk.of_eq (run_v e1) (ROk.val hS e2 h)
  | indexAddr t x i =>
    simp only [astep] at h
    have hx := hE x (by simp [Op.operands])
    have hi := hE i (by simp [Op.operands])
    generalize hax : a.eval x = vx at hx
    generalize hai : a.eval i = vi at hi
    cases hd : (lkT τ t).d <;> rw [hd] at h <;> (try simp only [] at h) <;> (try exact (show False from h).elim)
    case slice e =>
      have hD := (lkT_ok hτ t (by rw [hd]; simp)).d
      rw [hd] at hD
      cases hv : ρ x <;> rw [hv] at h hx <;> (try simp only [] at h) <;> (try exact (show False from h).elim)
      case sl sz es tk =>
        cases hvi : ρ i <;> rw [hvi] at h hi <;> simp only [] at h
        case int q n =>
          cases hi
          obtain ⟨hk, hsz, h0, v, hvv, hkk⟩ := h
          obtain ⟨y, e1, e2⟩ := run_indexAt_sl (w := w) (q := q) hD (lkT_ok hτ e (TD.known_ne hk)) hsz hx h0 hvv
          exact ROk.of_eq (run_v (by rw [hax, hai]; exact e1)) (ROk.val hS e2 hkk)
      case msl b off len cap =>
        cases hvi : ρ i <;> rw [hvi] at h hi <;> simp only [] at h
        case int q n =>
          cases hi
          obtain ⟨hk, h0, h1, o, rfl, hkk⟩ := h
          exact ROk.of_eq (run_v (by rw [hax, hai]; exact run_indexAt_msl hD (lkT_ok hτ e (TD.known_ne hk)) hx ⟨h0, h1⟩)) (ROk.val hS (.ptr _ _) hkk)
    case array len e =>
      have hD := (lkT_ok hτ t (by rw [hd]; simp)).d
      rw [hd] at hD
      cases hv : ρ x <;> rw [hv] at h hx <;> (try simp only [] at h) <;> (try exact (show False from h).elim)
      case ptr b off =>
        cases hvi : ρ i <;> rw [hvi] at h hi <;> simp only [] at h
        case int q n =>
          cases hi; cases hx
          obtain ⟨hk, h0, h1, o, rfl, hkk⟩ := h
          exact ROk.of_eq (run_v (by rw [hax, hai]; exact run_indexAt_arr hD (lkT_ok hτ e (TD.known_ne hk)) ⟨h0, h1⟩)) (ROk.val hS (.ptr _ _) hkk)
      case gl g =>
        cases hvi : ρ i <;> rw [hvi] at h hi <;> simp only [] at h
        case int q n =>
          cases hi; cases hx
          obtain ⟨hk, h0, h1, cs, hm, r, rfl, hkk⟩ := h
          obtain ⟨_, h1c, vs, _, _, _, hrel, hkn⟩ := hS.ents _ hm
          refine ROk.of_eq (run_v (by rw [hax, hai]; exact run_indexAt_arr hD (lkT_ok hτ e (TD.known_ne hk)) ⟨h0, h1⟩)) (ROk.val hS (.ref (vs := (vs.toList.drop (n.toNat * (lkT τ e).sz)).take (lkT τ e).sz) (fun c hc => h1c c (List.mem_of_mem_drop (List.mem_of_mem_take hc))) (by rw [List.length_take, List.length_take, List.length_drop, List.length_drop, hrel.1]) ?_ ?_) hkk)
          · intro j c v hc hv
            rw [List.getElem?_take] at hc hv
            split at hc
            · rw [if_pos (by assumption)] at hv
              rw [List.getElem?_drop] at hc hv
              exact hrel.2 _ c v hc hv
            · cases hc
          · intro j v hv
            rw [List.getElem?_take] at hv
            split at hv
            · rw [List.getElem?_drop] at hv
              rw [Nat.zero_add]
              exact hkn _ v hv
            · cases hv
  | index t x i =>
    simp only [astep] at h
    have hx := hE x (by simp [Op.operands])
    have hi := hE i (by simp [Op.operands])
    generalize hax : a.eval x = vx at hx
    generalize hai : a.eval i = vi at hi
    cases hd : (lkT τ t).d <;> rw [hd] at h <;> (try simp only [] at h) <;> (try exact (show False from h).elim)
    case str =>
      have hD := (lkT_ok hτ t (by rw [hd]; simp)).d
      rw [hd] at hD
      cases hv : ρ x <;> rw [hv] at h hx <;> (try simp only [] at h) <;> (try exact (show False from h).elim)
      case str s =>
        cases hvi : ρ i <;> rw [hvi] at h hi <;> simp only [] at h
        case int q n =>
          cases hi
          obtain ⟨h0, c, hc, hkk⟩ := h
          cases hx with
          | str _ hl =>
            refine ROk.of_eq (run_v (x := .int .u8 c.toNat) (w' := w) ?_) (ROk.val hS (.int _ _ ?_) hkk)
            · rw [hax, hai]
              simp only [Instr.index, asIntOf]
              rw [run_bind_ok (Sem.run_pure P w _)]
              rw [run_bind_ok (run_underlying (show P.underlying t = some .string from hD) w)]
              have hb : (ByteArray.mk s.toArray)[n.toNat]? = some c := by
                have hlt : n.toNat < s.length := (List.getElem?_eq_some_iff.1 hc).1
                have hlt' : n.toNat < (ByteArray.mk s.toArray).size := by simpa [ByteArray.size] using hlt
                rw [ByteArray.getElem?_lt' _ _ hlt']
                have := (List.getElem?_eq_some_iff.1 hc).2
                congr 1
              simp [h0, hb]
            · have := c.toNat_lt
              simp only [IntKind.has, IntKind.min, IntKind.max, IntKind.bits, IntKind.signed]; simp; omega
    case array len e =>
      have hD := (lkT_ok hτ t (by rw [hd]; simp)).d
      rw [hd] at hD
      cases hv : ρ x <;> rw [hv] at h hx <;> (try simp only [] at h) <;> (try exact (show False from h).elim)
      case agg cs =>
        cases hvi : ρ i <;> rw [hvi] at h hi <;> simp only [] at h
        case int q n =>
          cases hi
          obtain ⟨hk, h0, h1, hsz, hkk⟩ := h
          cases hx with
          | @agg _ vs hone hl hr =>
            have hie := lkT_ok hτ e (TD.known_ne hk)
            obtain ⟨v, e1, e2⟩ := run_part (w := w) hie hk hone ⟨hl, hr⟩ hsz
            refine ROk.of_eq (run_v (x := v) (w' := w) ?_) (ROk.val hS e2 hkk)
            rw [hax, hai]
            simp only [Instr.index, asIntOf]
            rw [run_bind_ok (Sem.run_pure P w _)]
            rw [run_bind_ok (run_underlying (show P.underlying t = some (.array len e) from hD) w)]
            simp only []
            rw [if_pos ⟨h0, h1⟩, run_bind_ok (hie.sizeOf w)]
            exact e1
  | extract x i =>
    simp only [astep] at h
    have hx := hE x (by simp [Op.operands])
    generalize hax : a.eval x = vx at hx
    cases hv : ρ x <;> rw [hv] at h hx <;> simp only [] at h
    case tup vs =>
      obtain ⟨v, hvv, hkk⟩ := h
      cases hx with
      | @tup _ us hl hr =>
        obtain ⟨u, hu, hru⟩ := RelL.get ⟨hl, hr⟩ hvv
        exact ROk.of_eq (run_v (x := u) (w' := w) (by rw [hax]; simp [Instr.extract, hu])) (ROk.val hS hru hkk)
  | nilCheck x =>
    simp only [astep] at h
    have hx := hE x (by simp [Op.operands])
    generalize hax : a.eval x = vx at hx
    cases hv : ρ x <;> rw [hv] at h hx <;> simp only [] at h
    case ptr b o =>
      cases hx
      exact ROk.of_eq (r' := .ok (.value (.pointer (some ⟨b, o, none⟩))) w) (by simp only [execOp, hax]; rfl) (ROk.val hS (.ptr _ _) h)
    case ref cs =>
      have hx' := hx
      cases hx with
      | ref h1 hl hr hkn => exact ROk.of_eq (r' := .ok (.value _) w) (by simp only [execOp, hax]; rfl) (ROk.val hS hx' h)
  | call c =>
    simp only [astep] at h
    obtain ⟨callee, args, ats⟩ := c
    simp only [] at h
    cases callee with
    | value f =>
      simp only [] at h
      have hf := hE f (by simp [Op.operands, Call.operands])
      have hargs := evsA (K := K) (ρ := ρ) (a := a) args (fun x hx => hE x (by simp [Op.operands, Call.operands, hx]))
      exact callV_ok hS hf hargs h
    | invoke r m => exact h.elim
    | builtin b =>
      simp only [] at h
      have hargs := evsA (K := K) (ρ := ρ) (a := a) args (fun x hx => hE x (by simp [Op.operands, Call.operands, hx]))
      exact builtin_ok hτ hS hargs _ h
  | _ => exact h.elim
end Go.Aw
