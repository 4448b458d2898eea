/-
  What sorting, both and one alone have to do with each other, over rows that are clean. Own work.
-/
import Derived.Test.YtocbdcgbbdjhlaaR23
namespace Go.Proofs.Ytocbdcgbbdjhlaa
open Go.Aw

theorem cmpS_eq {a b : List UInt8} (h : cmpS a b = 0) : a = b := by
  unfold cmpS at h
  split at h
  · omega
  · split at h
    · rename_i h1 h2
      rcases h2 with h2 | h2
      · exact absurd h2 h1
      · exact h2
    · omega
theorem clean_eqV {u v : V} (hu : cleanV u = true) (hv : cleanV v = true) (h : cmpV u v = 0) : u = v := by
  obtain ⟨s, n, t⟩ := u
  obtain ⟨s', n', t'⟩ := v
  cases s <;> cases s' <;> simp [cmpV, cleanV] at h hu hv
  · subst hu; subst hv
    have : n = n' := by unfold cmpI at h; split at h <;> (try split at h) <;> omega
    rw [this]
  · subst hu; subst hv
    rw [cmpS_eq h]
theorem clean_eqR : ∀ {x y : List V}, cleanR x = true → cleanR y = true → cmpR x y = 0 → x = y
  | [], [], _, _, _ => rfl
  | [], _ :: _, _, _, h => by simp [cmpR, cmpF] at h
  | _ :: _, [], _, _, h => by simp [cmpR, cmpF] at h
  | a :: x, b :: y, hx, hy, h => by
    simp only [cleanR, List.all_cons, Bool.and_eq_true] at hx hy
    simp only [cmpR, cmpF] at h
    split at h
    · rename_i h0
      rw [clean_eqV hx.1 hy.1 h0, clean_eqR (x := x) (y := y) hx.2 hy.2 h]
    · rename_i h0; exact absurd h h0
def Cl (l : List (List V)) : Prop := ∀ r ∈ l, cleanR r = true
theorem cl_of {l : List (List V)} (h : cleanL l = true) : Cl l := fun r hr => List.all_eq_true.1 h r hr

theorem cptA_rise : ∀ (l : List (List V)) (p : List V), Srt cmpR (p :: l) → (∀ x ∈ cptA eqR p l, cmpR p x < 0) ∧ (cptA eqR p l).Pairwise fun x y => cmpR x y < 0
  | [], p, _ => ⟨fun x h => by simp [cptA] at h, List.Pairwise.nil⟩
  | x :: l, p, h => by
    have h' := List.pairwise_cons.1 h
    obtain ⟨i1, i2⟩ := cptA_rise l x h'.2
    have hpx := h'.1 x (by simp)
    simp only [cptA, eqR, decide_eq_true_eq]
    have an := lo_row.anti p x
    split
    · rename_i h0
      refine ⟨fun y hy => ?_, i2⟩
      exact lo_row.le_lt hpx (i1 y hy)
    · rename_i h0
      have hlt : cmpR p x < 0 := by omega
      refine ⟨fun y hy => ?_, List.pairwise_cons.2 ⟨i1, i2⟩⟩
      rcases List.mem_cons.1 hy with rfl | hy
      · exact hlt
      · exact lo_row.lt_le hlt (by have := i1 y hy; omega)
theorem cpt_rise {l : List (List V)} (h : Srt cmpR l) : riseB (cpt eqR l) = true := by
  cases l with
  | nil => rfl
  | cons a l =>
    obtain ⟨h1, h2⟩ := cptA_rise l a h
    exact pair_rise (List.pairwise_cons.2 ⟨h1, h2⟩)
theorem cptA_same : ∀ {l : List (List V)} {p : List V}, riseB (p :: l) = true → cptA eqR p l = l
  | [], _, _ => rfl
  | x :: l, p, h => by
    have hlt := rise_lt h x (by simp)
    have an := lo_row.anti p x
    simp only [cptA, eqR, decide_eq_true_eq]
    rw [if_neg (by omega)]
    rw [cptA_same (rise_tail h)]
theorem cpt_same {l : List (List V)} (h : riseB l = true) : cpt eqR l = l := by
  cases l with
  | nil => rfl
  | cons a l => rw [cpt, cptA_same h]

theorem perm_rise : ∀ {a C : List (List V)}, C.Perm a → Srt cmpR C → riseB a = true → C = a
  | [], C, hp, _, _ => hp.eq_nil
  | x :: a, [], hp, _, _ => by have := hp.length_eq; simp at this
  | x :: a, c :: C, hp, hs, hr => by
    have hs' := List.pairwise_cons.1 hs
    have hcx : c = x := by
      rcases List.mem_cons.1 (hp.mem_iff.1 (List.mem_cons_self (a := c) (l := C))) with h | h
      · exact h
      · exfalso
        have h1 := rise_lt hr c h
        have hx : x ∈ c :: C := hp.mem_iff.2 (by simp)
        have an := lo_row.anti x c
        rcases List.mem_cons.1 hx with h2 | h2
        · rw [h2, lo_row.refl] at h1; omega
        · have := hs'.1 x h2; omega
    subst hcx
    rw [perm_rise (List.Perm.cons_inv hp) hs'.2 (rise_tail hr)]
theorem rise_srt {l : List (List V)} (h : riseB l = true) : Srt cmpR l := (rise_pair h).imp (fun h => by omega)
theorem rise_nodup {l : List (List V)} (h : riseB l = true) : l.Nodup := (rise_pair h).imp (fun {a b} h e => by subst e; rw [lo_row.refl] at h; omega)
theorem rise_ext {a b : List (List V)} (ha : riseB a = true) (hb : riseB b = true) (h : ∀ x, x ∈ a ↔ x ∈ b) : a = b :=
  perm_rise ((List.perm_ext_iff_of_nodup (rise_nodup ha) (rise_nodup hb)).2 h) (rise_srt ha) hb

theorem putR_mem {t : List V} (ht : cleanR t = true) : ∀ {l : List (List V)}, Cl l → ∀ x, x ∈ (putR t l).1 ↔ x = t ∨ x ∈ l
  | [], _, x => by simp [putR]
  | y :: l, hl, x => by
    simp only [putR]
    split
    · rw [List.mem_cons, putR_mem ht (fun r hr => hl r (by simp [hr]))]
      simp only [List.mem_cons]
      grind
    · split
      · simp only [List.mem_cons]
      · rename_i h1 h2
        have : y = t := clean_eqR (hl y (by simp)) ht (by simpa using h2)
        subst this
        simp only [List.mem_cons]
        grind
theorem putR_rise {t : List V} : ∀ {l : List (List V)}, riseB l = true → riseB (putR t l).1 = true := by
  intro l h
  have key : ∀ l : List (List V), (l.Pairwise fun x y => cmpR x y < 0) → ((putR t l).1.Pairwise fun x y => cmpR x y < 0) ∧ ∀ x ∈ (putR t l).1, x = t ∨ x ∈ l := by
    intro l
    induction l with
    | nil => intro _; simp [putR]
    | cons y l ih =>
      intro h
      have h' := List.pairwise_cons.1 h
      obtain ⟨i1, i2⟩ := ih h'.2
      simp only [putR]
      split
      · rename_i hyt
        refine ⟨List.pairwise_cons.2 ⟨fun x hx => ?_, i1⟩, fun x hx => ?_⟩
        · rcases i2 x hx with rfl | hx
          · exact hyt
          · exact h'.1 x hx
        · rcases List.mem_cons.1 hx with rfl | hx
          · simp
          · rcases i2 x hx with rfl | hx
            · simp
            · simp [hx]
      · split
        · rename_i h1 h2
          have hty : cmpR t y < 0 := by have := lo_row.anti t y; omega
          refine ⟨List.pairwise_cons.2 ⟨fun x hx => ?_, h⟩, fun x hx => List.mem_cons.1 hx⟩
          rcases List.mem_cons.1 hx with rfl | hx
          · exact hty
          · exact lo_row.lt_le hty (by have := h'.1 x hx; omega)
        · exact ⟨h, fun x hx => .inr hx⟩
  exact pair_rise (key l (rise_pair h)).1
theorem putR_cl {t : List V} (ht : cleanR t = true) {l : List (List V)} (hl : Cl l) : Cl (putR t l).1 := fun r hr => by
  rcases (putR_mem ht hl r).1 hr with rfl | h
  · exact ht
  · exact hl r h
theorem foldPut_all : ∀ (b a : List (List V)), Cl a → Cl b → riseB a = true → Cl (foldPut a b) ∧ riseB (foldPut a b) = true ∧ ∀ x, x ∈ foldPut a b ↔ x ∈ a ∨ x ∈ b
  | [], a, ha, _, hr => ⟨ha, hr, fun x => by simp [foldPut]⟩
  | t :: b, a, ha, hb, hr => by
    have ht := hb t (by simp)
    obtain ⟨h1, h2, h3⟩ := foldPut_all b (putR t a).1 (putR_cl ht ha) (fun r h => hb r (by simp [h])) (putR_rise hr)
    refine ⟨h1, h2, fun x => ?_⟩
    show x ∈ foldPut (putR t a).1 b ↔ _
    rw [h3, putR_mem ht ha, List.mem_cons]
    grind
theorem inR_mem {l : List (List V)} {t : List V} (hl : Cl l) (ht : cleanR t = true) : inR l t = true ↔ t ∈ l := by
  simp only [inR, List.any_eq_true, decide_eq_true_eq]
  constructor
  · rintro ⟨x, hx, h⟩
    rw [← clean_eqR (hl x hx) ht h]; exact hx
  · exact fun h => ⟨t, h, lo_row.refl t⟩
theorem minusR_rise {a b : List (List V)} (h : riseB a = true) : riseB (minusR a b) = true := pair_rise ((rise_pair h).sublist List.filter_sublist)
theorem minusR_mem {a b : List (List V)} (ha : Cl a) (hb : Cl b) (x : List V) : x ∈ minusR a b ↔ x ∈ a ∧ ¬ x ∈ b := by
  simp only [minusR, List.mem_filter, Bool.not_eq_true']
  constructor
  · rintro ⟨h1, h2⟩
    exact ⟨h1, fun h => by rw [(inR_mem hb (ha x h1)).2 h] at h2; cases h2⟩
  · rintro ⟨h1, h2⟩
    refine ⟨h1, ?_⟩
    rw [Bool.eq_false_iff]
    exact fun h => h2 ((inR_mem hb (ha x h1)).1 h)
theorem minusR_cl {a b : List (List V)} (ha : Cl a) : Cl (minusR a b) := fun r hr => ha r (List.mem_filter.1 hr).1

theorem uni_len (a b : List (List V)) (ha : riseB a = true) (hb : riseB b = true) : (uniR a b).length = a.length + (minusR b a).length := by
  revert ha hb
  unfold uniR
  fun_induction bothL a b with
  | case1 => intros; rfl
  | case2 x a ih =>
    intro ha hb
    have := ih (rise_tail ha) hb
    simp only [List.map_cons, List.length_cons, this]
    simp [minusR]
  | case3 y b ih =>
    intro ha hb
    have := ih ha (rise_tail hb)
    simp only [List.map_cons, List.length_cons, this]
    simp [minusR, inR]
  | case4 x a y b h ih =>
    intro ha hb
    have := ih (rise_tail ha) hb
    simp only [List.map_cons, List.length_cons, this]
    rw [minusR_skip]
    · omega
    · intro t ht
      rcases List.mem_cons.1 ht with rfl | ht
      · omega
      · have := lo_row.lt_le h (by have := rise_lt hb t ht; omega : cmpR y t ≤ 0)
        omega
  | case5 x a y b h1 h2 ih =>
    intro ha hb
    have := ih ha (rise_tail hb)
    simp only [List.map_cons, List.length_cons, this]
    have hyx : cmpR y x < 0 := by have := lo_row.anti x y; omega
    have hy : inR (x :: a) y = false := inR_false (fun t ht => by
      have hyt : cmpR y t < 0 := by
        rcases List.mem_cons.1 ht with rfl | ht
        · exact hyx
        · exact lo_row.lt_le hyx (by have := rise_lt ha t ht; omega)
      have := lo_row.anti y t
      omega)
    have e : minusR (y :: b) (x :: a) = y :: minusR b (x :: a) := by simp [minusR, hy]
    rw [e]; simp; omega
  | case6 x a y b h1 h2 ih =>
    intro ha hb
    have h0 : cmpR x y = 0 := by omega
    have := ih (rise_tail ha) (rise_tail hb)
    simp only [List.map_cons, List.length_cons, this]
    have hy : inR (x :: a) y = true := by simp [inR, h0]
    have e : minusR (y :: b) (x :: a) = minusR b (x :: a) := by simp [minusR, hy]
    rw [e, minusR_skip]
    · omega
    · intro t ht
      have h3 := lo_row.eq_l t h0
      have h4 := rise_lt hb t ht
      omega
end Go.Proofs.Ytocbdcgbbdjhlaa

