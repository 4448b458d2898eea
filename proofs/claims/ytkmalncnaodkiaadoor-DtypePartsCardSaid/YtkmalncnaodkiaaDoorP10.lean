/-
  Types by the book: atoms, parts and rules, held against types. Own work.
-/
import Derived.Test.YtkmalncnaodkiaaDoorP9
set_option linter.all false
namespace Go.Proofs.YtkmalncnaodkiaaDoor
open Go.Aw Go.RowKit
set_option maxHeartbeats 4000000

theorem rightA_goodR {a : At} (h : rightA a = true) : ∀ t ∈ a.l, goodR t := fun t ht => by
  unfold rightA at h
  simp only [Bool.and_eq_true] at h
  exact ⟨20, List.all_eq_true.1 h.2.2.2 t ht⟩
/-- what is right in a part of a body -/
theorem rightL_parts {l : Li} (h : rightL l = true) : (isCmp l = true ∧ goodR l.x ∧ goodR l.y) ∨ (isCmp l = false ∧ (∀ t ∈ l.a.l, goodR t) ∧ ((l.op = 1 ∨ l.op = 2) ∨ ((7 : Int) ≤ l.op ∧ goodR l.x ∧ (l.op ≠ 7 → goodR l.y)))) := by
  have hc : isCmp l = true ↔ (3 ≤ l.op ∧ l.op ≤ 6) := by unfold isCmp; simp
  unfold rightL at h
  split at h
  · rename_i h1
    simp only [Bool.and_eq_true] at h
    exact .inr ⟨by rw [Bool.eq_false_iff, ne_eq, hc]; omega, rightA_goodR h.1, .inl h1⟩
  split at h
  · rename_i h1
    simp only [Bool.and_eq_true] at h
    exact .inl ⟨hc.2 h1, ⟨20, h.2.1⟩, ⟨20, h.2.2⟩⟩
  split at h
  · rename_i h1
    simp only [Bool.and_eq_true] at h
    exact .inr ⟨by rw [Bool.eq_false_iff, ne_eq, hc]; omega, rightA_goodR h.1, .inr ⟨by omega, ⟨20, h.2.2⟩, fun hn => absurd h1 hn⟩⟩
  split at h
  · rename_i h1
    simp only [Bool.and_eq_true] at h
    exact .inr ⟨by rw [Bool.eq_false_iff, ne_eq, hc]; omega, rightA_goodR h.1, .inr ⟨by omega, ⟨20, h.2.2.1⟩, fun _ => ⟨20, h.2.2.2⟩⟩⟩
  · cases h

theorem fitsAtom_ok (V : List Key) (hV : V.length ≤ 1000000) (ts : List Int) (ht : ts.length = V.length) (b : Nat) (d : List De) (a : At) (R : List En) (hd : d.length ≤ 1000) (hc : (termsTs a.l).length ≤ 2000) (hk : knownA d a = 0) (hg : ∀ t ∈ a.l, goodR t) (hv : ∀ t ∈ a.l, inV V t) :
    ACall Tryd.prog 64 [.sl 6 (d.map encD) .no, encA a, encV V, .msl b 0 V.length V.length] (MB b ts R) (fun v S => v = .bool (fitW (gB V ts) (hardA d a)) ∧ S = MB b ts R) := by
  have hll := termsTs_le a.l
  have kf := fun R => refFind_ok d a.rel R hd
  obtain ⟨i, hil, hN, hB, hle, hcol⟩ := known_at hk
  obtain ⟨x, hx⟩ : ∃ x, x = d[i] := ⟨_, rfl⟩
  rw [← hx] at hle hcol
  rw [hN, hB] at kf
  rw [hcol]
  refine ACall_body tab_ok Tryd.func64 rfl rfl rfl (by kernel_rfl) (Nat.le_of_ble_eq_true rfl) ?_
  repeat (first | refine go_ ?_ | intro _)
  rename_i p
  refine Or.inl ⟨⟨_, Tryd.func12, rfl, rfl⟩, ACall.mono ?_ (kf _)⟩
  rintro _ S1 ⟨rfl, hS1⟩
  subst S1
  repeat (first | refine go_ ?_ | intro _)
  refine AW_for (α := Nat) (fun z => ⟨[(0, .sl 6 (d.map encD) .no), (2, encV V), (3, .msl b 0 V.length V.length), (5, .ptr p 0), (9, .int .i64 (i : Nat)), (11, .int .i64 (z : Nat))], []⟩) (fun z => .cells p (cA a) :: MB b ts R) (fun z => a.l.length - z) (fun z => z ≤ a.l.length ∧ fitW (gB V ts) (zipW (a.l.take z) (x.types.take z)) = true) (0) ?_ (weak_of ?_ rfl ?_) (fun z hz => ?_)
  · exact ⟨Nat.zero_le _, rfl⟩
  · repeat (first | exact trivial | refine ⟨AVle.refl _, ?_⟩ | refine ⟨AVle.tk, ?_⟩ | refine ⟨AVle.nil, ?_⟩ | refine ⟨AVle.nilFull, ?_⟩ | refine ⟨AVle.eq (congrArg (AV.int .i64) (by first | (simp; done) | (simp; omega) | (rw [wrap_i64 (by first | omega | (simp; omega))]; first | rfl | omega | (simp; done) | (simp; omega)))), ?_⟩)
  · repeat (first | exact SLe.rfl | refine SLe.tail ?_ | refine SLe.full ?_)
  obtain ⟨i1, i2⟩ := hz
  repeat (first | refine go_ ?_ | intro _)
  refine AW_iff (z < a.l.length) rfl (by first | (simp; done) | (simp <;> omega) | decide) (fun h => ?_) (fun h => ?_)
  · have hlt := h
    have hlk : z < x.types.length := by omega
    obtain ⟨u, hu⟩ : ∃ u, u = a.l[z] := ⟨_, rfl⟩
    obtain ⟨k, hk'⟩ : ∃ k, k = x.types[z] := ⟨_, rfl⟩
    have hm : u ∈ a.l := hu ▸ List.getElem_mem hlt
    have h1 := termsTs_at hm
    have hs := zipW_take hlt hlk
    obtain ⟨rest, hw2⟩ := zipW_split hlt hlk
    rw [← hu, ← hk'] at hs hw2
    obtain ⟨f, hf⟩ : ∃ f, f = fitW (gB V ts) (wantsT u k) := ⟨_, rfl⟩
    have kw := fits_ok V hV ts ht b 2000 (.cells p (cA a) :: R) (by decide) u k (by omega) (hg u hm) (hv u hm)
    rw [← hf] at kw
    have kw2 : ACall Tryd.prog 84 [encU u, .int .i64 k, encV V, .msl b 0 V.length V.length] (.cells p (cA a) :: MB b ts R) (fun v S => v = .bool f ∧ S = .cells p (cA a) :: MB b ts R) :=
      ACall_at [.cells p (cA a)] (X := MB b ts []) (Y := MB b ts []) (R := R) kw
    repeat (first | refine go_ ?_ | intro _)
    refine AW_draw tab_ok mixed 15 (by first | rfl | kernel_rfl) ?_
    repeat (first | refine go_ ?_ | intro _)
    refine at_get (z) (encU u) (by first | rfl | omega | (rw [wrap_i64 (by omega)]; omega)) (by rw [hu]; exact encTs_get hlt) ?_
    repeat (first | refine go_ ?_ | intro _)
    refine at_map (i) (by first | rfl | omega | (rw [wrap_i64 (by omega)]; omega)) (by first | assumption | omega) ?_
    rw [← hx]
    repeat (first | refine go_ ?_ | intro _)
    refine at_map (z) (by first | rfl | omega | (rw [wrap_i64 (by omega)]; omega)) (by first | assumption | omega) ?_
    rw [← hk']
    repeat (first | refine go_ ?_ | intro _)
    cases f with
    | false =>
      refine Or.inl ⟨⟨_, Tryd.func84, rfl, rfl⟩, ACall.mono ?_ (kw2)⟩
      rintro _ S1 ⟨rfl, hS1⟩
      subst S1
      repeat (first | refine ga_ ?_ | intro _)
      refine AW_ret ?_
      repeat (first | refine ⟨0, rfl, ?_⟩ | refine ⟨1, rfl, ?_⟩ | refine ⟨2, rfl, ?_⟩ | refine ⟨3, rfl, ?_⟩ | refine ⟨4, rfl, ?_⟩ | refine ⟨5, rfl, ?_⟩ | refine ⟨6, rfl, ?_⟩)
      refine ⟨_, MB b ts R, AVle.eq ?_, (by repeat (first | exact SLe.rfl | refine SLe.tail ?_)), rfl, rfl⟩
      exact congrArg AV.bool (show false = _ by rw [hw2, fitW_app, fitW_app, ← hf]; simp)
    | true =>
      refine Or.inl ⟨⟨_, Tryd.func84, rfl, rfl⟩, ACall.mono ?_ (kw2)⟩
      rintro _ S1 ⟨rfl, hS1⟩
      subst S1
      repeat (first | refine ga_ ?_ | intro _)
      refine ⟨z + 1, ?_, ?_, weak_of ?_ rfl ?_⟩
      · omega
      · exact ⟨hlt, by rw [hs, fitW_app, i2, ← hf]; rfl⟩
      · repeat (first | exact trivial | refine ⟨AVle.refl _, ?_⟩ | refine ⟨AVle.tk, ?_⟩ | refine ⟨AVle.nil, ?_⟩ | refine ⟨AVle.nilFull, ?_⟩ | refine ⟨AVle.eq (congrArg (AV.int .i64) (by first | (simp; done) | (simp; omega) | (rw [wrap_i64 (by first | omega | (simp; omega))]; first | rfl | omega | (simp; done) | (simp; omega)))), ?_⟩)
      · repeat (first | exact SLe.rfl | refine SLe.tail ?_ | refine SLe.full ?_)
  · have hz' : z = a.l.length := by omega
    rw [hz', zipW_all hle] at i2
    rw [i2]
    repeat (first | refine go_ ?_ | intro _)
    refine AW_ret ?_
    repeat (first | refine ⟨0, rfl, ?_⟩ | refine ⟨1, rfl, ?_⟩ | refine ⟨2, rfl, ?_⟩ | refine ⟨3, rfl, ?_⟩ | refine ⟨4, rfl, ?_⟩ | refine ⟨5, rfl, ?_⟩ | refine ⟨6, rfl, ?_⟩)
    refine ⟨_, MB b ts R, AVle.eq ?_, (by repeat (first | exact SLe.rfl | refine SLe.tail ?_)), rfl, rfl⟩
    rfl

theorem fitsLit_ok (V : List Key) (hV : V.length ≤ 1000000) (ts : List Int) (ht : ts.length = V.length) (b : Nat) (d : List De) (l : Li) (R : List En) (hd : d.length ≤ 1000) (hc : (termsTs (topsL l)).length ≤ 2000) (hk : knownL d l = 0) (hr : rightL l = true) (hv : ∀ t ∈ topsL l, inV V t) :
    ACall Tryd.prog 65 [.sl 6 (d.map encD) .no, encL l, encV V, .msl b 0 V.length V.length] (MB b ts R) (fun v S => v = .bool (fitL d (gB V ts) l) ∧ S = MB b ts R) := by
  have hx : l.x ∈ topsL l := .head _
  have hy : l.y ∈ topsL l := .tail _ (.head _)
  have et : termsTs (topsL l) = termsT l.x ++ (termsT l.y ++ termsTs l.a.l) := by unfold topsL; rw [termsTs_cons, termsTs_cons]
  have hl := congrArg List.length et
  simp only [List.length_append] at hl
  refine ACall_body tab_ok Tryd.func65 rfl rfl rfl (by kernel_rfl) (Nat.le_of_ble_eq_true rfl) ?_
  repeat (first | refine go_ ?_ | intro _)
  rename_i p
  rcases rightL_parts hr with ⟨hcm, gx, gy⟩ | ⟨hcf, gA, ho⟩
  · have hop : (3 : Int) ≤ l.op ∧ l.op ≤ 6 := by
      unfold isCmp at hcm
      simpa only [Bool.and_eq_true, decide_eq_true_eq] using hcm
    have e : fitL d (gB V ts) l = ((fitW (gB V ts) (wantsT l.x 1) && fitW (gB V ts) (wantsT l.y 1)) || (fitW (gB V ts) (wantsT l.x 2) && fitW (gB V ts) (wantsT l.y 2))) := if_pos hcm
    rw [e]
    obtain ⟨f1, e1⟩ : ∃ f, f = fitW (gB V ts) (wantsT (l.x) 1) := ⟨_, rfl⟩
    have k1 : ACall Tryd.prog 84 [encU (l.x), .int .i64 1, encV V, .msl b 0 V.length V.length] (.cells p (cL l) :: MB b ts R) (fun v S => v = .bool f1 ∧ S = .cells p (cL l) :: MB b ts R) := by
      have := fits_ok V hV ts ht b 2000 (.cells p (cL l) :: R) (by decide) (l.x) 1 (by omega) gx (hv _ (hx))
      rw [← e1] at this
      exact ACall_at [.cells p (cL l)] (X := MB b ts []) (Y := MB b ts []) (R := R) this
    obtain ⟨f2, e2⟩ : ∃ f, f = fitW (gB V ts) (wantsT (l.y) 1) := ⟨_, rfl⟩
    have k2 : ACall Tryd.prog 84 [encU (l.y), .int .i64 1, encV V, .msl b 0 V.length V.length] (.cells p (cL l) :: MB b ts R) (fun v S => v = .bool f2 ∧ S = .cells p (cL l) :: MB b ts R) := by
      have := fits_ok V hV ts ht b 2000 (.cells p (cL l) :: R) (by decide) (l.y) 1 (by omega) gy (hv _ (hy))
      rw [← e2] at this
      exact ACall_at [.cells p (cL l)] (X := MB b ts []) (Y := MB b ts []) (R := R) this
    obtain ⟨f3, e3⟩ : ∃ f, f = fitW (gB V ts) (wantsT (l.x) 2) := ⟨_, rfl⟩
    have k3 : ACall Tryd.prog 84 [encU (l.x), .int .i64 2, encV V, .msl b 0 V.length V.length] (.cells p (cL l) :: MB b ts R) (fun v S => v = .bool f3 ∧ S = .cells p (cL l) :: MB b ts R) := by
      have := fits_ok V hV ts ht b 2000 (.cells p (cL l) :: R) (by decide) (l.x) 2 (by omega) gx (hv _ (hx))
      rw [← e3] at this
      exact ACall_at [.cells p (cL l)] (X := MB b ts []) (Y := MB b ts []) (R := R) this
    obtain ⟨f4, e4⟩ : ∃ f, f = fitW (gB V ts) (wantsT (l.y) 2) := ⟨_, rfl⟩
    have k4 : ACall Tryd.prog 84 [encU (l.y), .int .i64 2, encV V, .msl b 0 V.length V.length] (.cells p (cL l) :: MB b ts R) (fun v S => v = .bool f4 ∧ S = .cells p (cL l) :: MB b ts R) := by
      have := fits_ok V hV ts ht b 2000 (.cells p (cL l) :: R) (by decide) (l.y) 2 (by omega) gy (hv _ (hy))
      rw [← e4] at this
      exact ACall_at [.cells p (cL l)] (X := MB b ts []) (Y := MB b ts []) (R := R) this
    rw [← e1, ← e2, ← e3, ← e4]
    obtain ⟨n, hn⟩ : ∃ x, x = (f1 && f2) := ⟨_, rfl⟩
    rw [← hn]
    obtain ⟨s, hs⟩ : ∃ x, x = (f3 && f4) := ⟨_, rfl⟩
    rw [← hs]
    refine known_true (b := decide ((3 : Int) ≤ l.op)) (by exact decide_eq_true hop.1) ?_
    repeat (first | refine ga_ ?_ | intro _)
    refine AW_true (b := decide (l.op ≤ 6)) rfl (by exact decide_eq_true hop.2) ?_
    refine AW_weak (weak_of (l := [(2, encV V), (3, .msl b 0 V.length V.length), (5, .ptr p 0)]) (m := []) (S' := .cells p (cL l) :: MB b ts R) ?_ rfl ?_) ?_
    · repeat (first | exact trivial | refine ⟨AVle.refl _, ?_⟩ | refine ⟨AVle.tk, ?_⟩ | refine ⟨AVle.nil, ?_⟩ | refine ⟨AVle.nilFull, ?_⟩ | refine ⟨AVle.eq (congrArg (AV.int .i64) (by first | (simp; done) | (simp; omega) | (rw [wrap_i64 (by first | omega | (simp; omega))]; first | rfl | omega | (simp; done) | (simp; omega)))), ?_⟩)
    · refine SW.le ?_
      repeat (first | exact SW.nil | refine SW.cons ?_ | refine SW.cells (by repeat (first | exact trivial | refine ⟨AVle.refl _, ?_⟩ | refine ⟨AVle.nilFull, ?_⟩ | refine ⟨AVle.tk, ?_⟩ | refine ⟨AVle.nil, ?_⟩)) rfl ?_ | refine SW.full ?_ | refine SW.drop ?_)
    refine AW_cut1 (α := Unit) (fun z => ⟨[(2, encV V), (3, .msl b 0 V.length V.length), (5, .ptr p 0), (9, .bool n)], []⟩) (fun z => .cells p (cL l) :: MB b ts R) (fun z => True) ?_ (fun z hz => ?_)
    · repeat (first | refine ga_ ?_ | intro _)
      refine Or.inl ⟨⟨_, Tryd.func84, rfl, rfl⟩, ACall.mono ?_ (k1)⟩
      rintro _ S1 ⟨rfl, hS1⟩
      subst S1
      cases f1 with
      | false =>
        repeat (first | refine ga_ ?_ | intro _)
        refine ⟨(), ?_, weak_of ?_ rfl ?_⟩
        · trivial
        · repeat (first | exact trivial | refine ⟨(AVle.eq (congrArg AV.bool (show false = n by rw [hn]; rfl))), ?_⟩ | refine ⟨AVle.refl _, ?_⟩ | refine ⟨AVle.tk, ?_⟩ | refine ⟨AVle.nil, ?_⟩ | refine ⟨AVle.nilFull, ?_⟩ | refine ⟨AVle.eq (congrArg (AV.int .i64) (by first | (simp; done) | (simp; omega) | (rw [wrap_i64 (by first | omega | (simp; omega))]; first | rfl | omega | (simp; done) | (simp; omega)))), ?_⟩)
        · repeat (first | exact SLe.rfl | refine SLe.tail ?_ | refine SLe.full ?_)
      | true =>
        repeat (first | refine ga_ ?_ | intro _)
        refine Or.inl ⟨⟨_, Tryd.func84, rfl, rfl⟩, ACall.mono ?_ (k2)⟩
        rintro _ S1 ⟨rfl, hS1⟩
        subst S1
        repeat (first | refine ga_ ?_ | intro _)
        refine ⟨(), ?_, weak_of ?_ rfl ?_⟩
        · trivial
        · repeat (first | exact trivial | refine ⟨(AVle.eq (congrArg AV.bool (show f2 = n by rw [hn]; rfl))), ?_⟩ | refine ⟨AVle.refl _, ?_⟩ | refine ⟨AVle.tk, ?_⟩ | refine ⟨AVle.nil, ?_⟩ | refine ⟨AVle.nilFull, ?_⟩ | refine ⟨AVle.eq (congrArg (AV.int .i64) (by first | (simp; done) | (simp; omega) | (rw [wrap_i64 (by first | omega | (simp; omega))]; first | rfl | omega | (simp; done) | (simp; omega)))), ?_⟩)
        · repeat (first | exact SLe.rfl | refine SLe.tail ?_ | refine SLe.full ?_)
    refine AW_cut1 (α := Unit) (fun z => ⟨[(2, encV V), (3, .msl b 0 V.length V.length), (5, .ptr p 0), (9, .bool n), (10, .bool s)], []⟩) (fun z => .cells p (cL l) :: MB b ts R) (fun z => True) ?_ (fun z hz => ?_)
    · repeat (first | refine ga_ ?_ | intro _)
      refine Or.inl ⟨⟨_, Tryd.func84, rfl, rfl⟩, ACall.mono ?_ (k3)⟩
      rintro _ S1 ⟨rfl, hS1⟩
      subst S1
      cases f3 with
      | false =>
        repeat (first | refine ga_ ?_ | intro _)
        refine ⟨(), ?_, weak_of ?_ rfl ?_⟩
        · trivial
        · repeat (first | exact trivial | refine ⟨(AVle.eq (congrArg AV.bool (show false = s by rw [hs]; rfl))), ?_⟩ | refine ⟨AVle.refl _, ?_⟩ | refine ⟨AVle.tk, ?_⟩ | refine ⟨AVle.nil, ?_⟩ | refine ⟨AVle.nilFull, ?_⟩ | refine ⟨AVle.eq (congrArg (AV.int .i64) (by first | (simp; done) | (simp; omega) | (rw [wrap_i64 (by first | omega | (simp; omega))]; first | rfl | omega | (simp; done) | (simp; omega)))), ?_⟩)
        · repeat (first | exact SLe.rfl | refine SLe.tail ?_ | refine SLe.full ?_)
      | true =>
        repeat (first | refine ga_ ?_ | intro _)
        refine Or.inl ⟨⟨_, Tryd.func84, rfl, rfl⟩, ACall.mono ?_ (k4)⟩
        rintro _ S1 ⟨rfl, hS1⟩
        subst S1
        repeat (first | refine ga_ ?_ | intro _)
        refine ⟨(), ?_, weak_of ?_ rfl ?_⟩
        · trivial
        · repeat (first | exact trivial | refine ⟨(AVle.eq (congrArg AV.bool (show f4 = s by rw [hs]; rfl))), ?_⟩ | refine ⟨AVle.refl _, ?_⟩ | refine ⟨AVle.tk, ?_⟩ | refine ⟨AVle.nil, ?_⟩ | refine ⟨AVle.nilFull, ?_⟩ | refine ⟨AVle.eq (congrArg (AV.int .i64) (by first | (simp; done) | (simp; omega) | (rw [wrap_i64 (by first | omega | (simp; omega))]; first | rfl | omega | (simp; done) | (simp; omega)))), ?_⟩)
        · repeat (first | exact SLe.rfl | refine SLe.tail ?_ | refine SLe.full ?_)
    cases n with
    | true =>
      repeat (first | refine ga_ ?_ | intro _)
      refine AW_ret ?_
      repeat (first | refine ⟨0, rfl, ?_⟩ | refine ⟨1, rfl, ?_⟩ | refine ⟨2, rfl, ?_⟩ | refine ⟨3, rfl, ?_⟩ | refine ⟨4, rfl, ?_⟩ | refine ⟨5, rfl, ?_⟩ | refine ⟨6, rfl, ?_⟩)
      refine ⟨_, MB b ts R, AVle.eq ?_, (by repeat (first | exact SLe.rfl | refine SLe.tail ?_)), rfl, rfl⟩
      rfl
    | false =>
      repeat (first | refine ga_ ?_ | intro _)
      refine AW_ret ?_
      repeat (first | refine ⟨0, rfl, ?_⟩ | refine ⟨1, rfl, ?_⟩ | refine ⟨2, rfl, ?_⟩ | refine ⟨3, rfl, ?_⟩ | refine ⟨4, rfl, ?_⟩ | refine ⟨5, rfl, ?_⟩ | refine ⟨6, rfl, ?_⟩)
      refine ⟨_, MB b ts R, AVle.eq ?_, (by repeat (first | exact SLe.rfl | refine SLe.tail ?_)), rfl, rfl⟩
      rfl
  · have hkA : knownA d l.a = 0 := by unfold knownL at hk; rwa [if_neg (by rw [hcf]; decide)] at hk
    have e : fitL d (gB V ts) l = (fitW (gB V ts) (hardA d l.a) && fitW (gB V ts) (moreW l)) := if_neg (by rw [hcf]; decide)
    rw [e]
    obtain ⟨f0, e0⟩ : ∃ f, f = fitW (gB V ts) (hardA d l.a) := ⟨_, rfl⟩
    have k0 : ACall Tryd.prog 64 [.sl 6 (d.map encD) .no, encA l.a, encV V, .msl b 0 V.length V.length] (.cells p (cL l) :: MB b ts R) (fun v S => v = .bool f0 ∧ S = .cells p (cL l) :: MB b ts R) := by
      have := fitsAtom_ok V hV ts ht b d l.a (.cells p (cL l) :: R) hd (by omega) hkA gA (fun t h => hv t (.tail _ (.tail _ h)))
      rw [← e0] at this
      exact ACall_at [.cells p (cL l)] (X := MB b ts []) (Y := MB b ts []) (R := R) this
    rw [← e0]
    rcases ho with ho | ⟨ho, gx, gy⟩
    · have hm : moreW l = [] := if_pos ho
      rw [hm, show (f0 && fitW (gB V ts) []) = f0 by cases f0 <;> rfl]
      refine known_false (b := decide ((3 : Int) ≤ l.op)) (by exact decide_eq_false (by omega)) ?_
      repeat (first | refine ga_ ?_ | intro _)
      refine Or.inl ⟨⟨_, Tryd.func64, rfl, rfl⟩, ACall.mono ?_ (k0)⟩
      rintro _ S1 ⟨rfl, hS1⟩
      subst S1
      repeat (first | refine ga_ ?_ | intro _)
      refine gsplit (l.op = 1) (by first | (simp; done) | (simp <;> omega) | decide) (fun h => ?_) (fun h => ?_)
      · repeat (first | refine ga_ ?_ | intro _)
        refine AW_ret ?_
        repeat (first | refine ⟨0, rfl, ?_⟩ | refine ⟨1, rfl, ?_⟩ | refine ⟨2, rfl, ?_⟩ | refine ⟨3, rfl, ?_⟩ | refine ⟨4, rfl, ?_⟩ | refine ⟨5, rfl, ?_⟩ | refine ⟨6, rfl, ?_⟩)
        refine ⟨_, MB b ts R, AVle.eq ?_, (by repeat (first | exact SLe.rfl | refine SLe.tail ?_)), rfl, rfl⟩
        rfl
      · repeat (first | refine ga_ ?_ | intro _)
        refine AW_true (b := decide (l.op = 2)) rfl (by exact decide_eq_true (by omega)) ?_
        repeat (first | refine ga_ ?_ | intro _)
        refine AW_ret ?_
        repeat (first | refine ⟨0, rfl, ?_⟩ | refine ⟨1, rfl, ?_⟩ | refine ⟨2, rfl, ?_⟩ | refine ⟨3, rfl, ?_⟩ | refine ⟨4, rfl, ?_⟩ | refine ⟨5, rfl, ?_⟩ | refine ⟨6, rfl, ?_⟩)
        refine ⟨_, MB b ts R, AVle.eq ?_, (by repeat (first | exact SLe.rfl | refine SLe.tail ?_)), rfl, rfl⟩
        rfl
    · have hm : moreW l = wantsT l.x 1 ++ (if l.op = 7 then [] else wantsT l.y 1) := if_neg (by omega)
      obtain ⟨f1, e1⟩ : ∃ f, f = fitW (gB V ts) (wantsT (l.x) 1) := ⟨_, rfl⟩
      have k1 : ACall Tryd.prog 84 [encU (l.x), .int .i64 1, encV V, .msl b 0 V.length V.length] (.cells p (cL l) :: MB b ts R) (fun v S => v = .bool f1 ∧ S = .cells p (cL l) :: MB b ts R) := by
        have := fits_ok V hV ts ht b 2000 (.cells p (cL l) :: R) (by decide) (l.x) 1 (by omega) gx (hv _ (hx))
        rw [← e1] at this
        exact ACall_at [.cells p (cL l)] (X := MB b ts []) (Y := MB b ts []) (R := R) this
      rw [hm, fitW_app, ← e1]
      refine known_true (b := decide ((3 : Int) ≤ l.op)) (by exact decide_eq_true (by omega)) ?_
      repeat (first | refine ga_ ?_ | intro _)
      refine AW_false (b := decide (l.op ≤ 6)) rfl (by exact decide_eq_false (by omega)) ?_
      repeat (first | refine ga_ ?_ | intro _)
      refine Or.inl ⟨⟨_, Tryd.func64, rfl, rfl⟩, ACall.mono ?_ (k0)⟩
      rintro _ S1 ⟨rfl, hS1⟩
      subst S1
      repeat (first | refine ga_ ?_ | intro _)
      refine known_false (b := decide (l.op = 1)) (by exact decide_eq_false (by omega)) ?_
      repeat (first | refine ga_ ?_ | intro _)
      refine AW_false (b := decide (l.op = 2)) rfl (by exact decide_eq_false (by omega)) ?_
      repeat (first | refine ga_ ?_ | intro _)
      refine Or.inl ⟨⟨_, Tryd.func84, rfl, rfl⟩, ACall.mono ?_ (k1)⟩
      rintro _ S1 ⟨rfl, hS1⟩
      subst S1
      repeat (first | refine ga_ ?_ | intro _)
      refine gsplit (l.op = 7) (by first | (simp; done) | (simp <;> omega) | decide) (fun h => ?_) (fun h => ?_)
      · rw [if_pos h]
        repeat (first | refine ga_ ?_ | intro _)
        cases f0 with
        | false =>
          repeat (first | refine ga_ ?_ | intro _)
          refine AW_ret ?_
          repeat (first | refine ⟨0, rfl, ?_⟩ | refine ⟨1, rfl, ?_⟩ | refine ⟨2, rfl, ?_⟩ | refine ⟨3, rfl, ?_⟩ | refine ⟨4, rfl, ?_⟩ | refine ⟨5, rfl, ?_⟩ | refine ⟨6, rfl, ?_⟩)
          refine ⟨_, MB b ts R, AVle.eq ?_, (by repeat (first | exact SLe.rfl | refine SLe.tail ?_)), rfl, rfl⟩
          rfl
        | true =>
          cases f1 with
          | false =>
            repeat (first | refine ga_ ?_ | intro _)
            refine AW_ret ?_
            repeat (first | refine ⟨0, rfl, ?_⟩ | refine ⟨1, rfl, ?_⟩ | refine ⟨2, rfl, ?_⟩ | refine ⟨3, rfl, ?_⟩ | refine ⟨4, rfl, ?_⟩ | refine ⟨5, rfl, ?_⟩ | refine ⟨6, rfl, ?_⟩)
            refine ⟨_, MB b ts R, AVle.eq ?_, (by repeat (first | exact SLe.rfl | refine SLe.tail ?_)), rfl, rfl⟩
            rfl
          | true =>
            repeat (first | refine ga_ ?_ | intro _)
            refine AW_ret ?_
            repeat (first | refine ⟨0, rfl, ?_⟩ | refine ⟨1, rfl, ?_⟩ | refine ⟨2, rfl, ?_⟩ | refine ⟨3, rfl, ?_⟩ | refine ⟨4, rfl, ?_⟩ | refine ⟨5, rfl, ?_⟩ | refine ⟨6, rfl, ?_⟩)
            refine ⟨_, MB b ts R, AVle.eq ?_, (by repeat (first | exact SLe.rfl | refine SLe.tail ?_)), rfl, rfl⟩
            rfl
      · rw [if_neg h]
        obtain ⟨f2, e2⟩ : ∃ f, f = fitW (gB V ts) (wantsT (l.y) 1) := ⟨_, rfl⟩
        have k2 : ACall Tryd.prog 84 [encU (l.y), .int .i64 1, encV V, .msl b 0 V.length V.length] (.cells p (cL l) :: MB b ts R) (fun v S => v = .bool f2 ∧ S = .cells p (cL l) :: MB b ts R) := by
          have := fits_ok V hV ts ht b 2000 (.cells p (cL l) :: R) (by decide) (l.y) 1 (by omega) (gy h) (hv _ (hy))
          rw [← e2] at this
          exact ACall_at [.cells p (cL l)] (X := MB b ts []) (Y := MB b ts []) (R := R) this
        rw [← e2]
        repeat (first | refine ga_ ?_ | intro _)
        refine Or.inl ⟨⟨_, Tryd.func84, rfl, rfl⟩, ACall.mono ?_ (k2)⟩
        rintro _ S1 ⟨rfl, hS1⟩
        subst S1
        cases f0 with
        | false =>
          repeat (first | refine ga_ ?_ | intro _)
          refine AW_ret ?_
          repeat (first | refine ⟨0, rfl, ?_⟩ | refine ⟨1, rfl, ?_⟩ | refine ⟨2, rfl, ?_⟩ | refine ⟨3, rfl, ?_⟩ | refine ⟨4, rfl, ?_⟩ | refine ⟨5, rfl, ?_⟩ | refine ⟨6, rfl, ?_⟩)
          refine ⟨_, MB b ts R, AVle.eq ?_, (by repeat (first | exact SLe.rfl | refine SLe.tail ?_)), rfl, rfl⟩
          rfl
        | true =>
          cases f1 with
          | false =>
            repeat (first | refine ga_ ?_ | intro _)
            refine AW_ret ?_
            repeat (first | refine ⟨0, rfl, ?_⟩ | refine ⟨1, rfl, ?_⟩ | refine ⟨2, rfl, ?_⟩ | refine ⟨3, rfl, ?_⟩ | refine ⟨4, rfl, ?_⟩ | refine ⟨5, rfl, ?_⟩ | refine ⟨6, rfl, ?_⟩)
            refine ⟨_, MB b ts R, AVle.eq ?_, (by repeat (first | exact SLe.rfl | refine SLe.tail ?_)), rfl, rfl⟩
            rfl
          | true =>
            repeat (first | refine ga_ ?_ | intro _)
            refine AW_ret ?_
            repeat (first | refine ⟨0, rfl, ?_⟩ | refine ⟨1, rfl, ?_⟩ | refine ⟨2, rfl, ?_⟩ | refine ⟨3, rfl, ?_⟩ | refine ⟨4, rfl, ?_⟩ | refine ⟨5, rfl, ?_⟩ | refine ⟨6, rfl, ?_⟩)
            refine ⟨_, MB b ts R, AVle.eq ?_, (by repeat (first | exact SLe.rfl | refine SLe.tail ?_)), rfl, rfl⟩
            rfl
theorem fitsRule_ok (V : List Key) (hV : V.length ≤ 1000000) (ts : List Int) (ht : ts.length = V.length) (b : Nat) (d : List De) (r : Ru) (R : List En) (hd : d.length ≤ 1000) (hf : few r) (hk : firstK d r = 0) (hr : rightR r = true) (hv : ∀ t ∈ topsR r, inV V t) :
    ACall Tryd.prog 40 [.sl 6 (d.map encD) .no, encRu r, encV V, .msl b 0 V.length V.length] (MB b ts R) (fun v S => v = .bool (fitR d r (gB V ts)) ∧ S = MB b ts R) := by
  have hf2 : (termsTs (topsR r)).length + r.body.length ≤ 2000 := hf
  have hks := firstNz_0 hk
  have hkA : knownA d r.head = 0 := hks _ (.head _)
  obtain ⟨f0, e0⟩ : ∃ f, f = fitW (gB V ts) (hardA d r.head) := ⟨_, rfl⟩
  refine ACall_body tab_ok Tryd.func40 rfl rfl rfl (by kernel_rfl) (Nat.le_of_ble_eq_true rfl) ?_
  repeat (first | refine go_ ?_ | intro _)
  rename_i p
  have k0 : ACall Tryd.prog 64 [.sl 6 (d.map encD) .no, encA r.head, encV V, .msl b 0 V.length V.length] (.cells p (cRu r) :: MB b ts R) (fun v S => v = .bool f0 ∧ S = .cells p (cRu r) :: MB b ts R) := by
    have := fitsAtom_ok V hV ts ht b d r.head (.cells p (cRu r) :: R) hd hf.head hkA (rightA_goodR (rightR_top hr)) (fun t h => hv t (topsR_head h))
    rw [← e0] at this
    exact ACall_at [.cells p (cRu r)] (X := MB b ts []) (Y := MB b ts []) (R := R) this
  refine Or.inl ⟨⟨_, Tryd.func64, rfl, rfl⟩, ACall.mono ?_ (k0)⟩
  rintro _ S1 ⟨rfl, hS1⟩
  subst S1
  repeat (first | refine go_ ?_ | intro _)
  refine AW_for (α := Nat × Bool) (fun z => ⟨[(0, .sl 6 (d.map encD) .no), (2, encV V), (3, .msl b 0 V.length V.length), (5, .ptr p 0), (9, .bool z.2), (10, .int .i64 (z.1 : Nat))], []⟩) (fun z => .cells p (cRu r) :: MB b ts R) (fun z => r.body.length - z.1) (fun z => z.1 ≤ r.body.length ∧ z.2 = (f0 && (r.body.take z.1).all (fitL d (gB V ts)))) ((0, f0)) ?_ (weak_of ?_ rfl ?_) (fun z hz => ?_)
  · exact ⟨Nat.zero_le _, by simp⟩
  · repeat (first | exact trivial | refine ⟨AVle.refl _, ?_⟩ | refine ⟨AVle.tk, ?_⟩ | refine ⟨AVle.nil, ?_⟩ | refine ⟨AVle.nilFull, ?_⟩ | refine ⟨AVle.eq (congrArg (AV.int .i64) (by first | (simp; done) | (simp; omega) | (rw [wrap_i64 (by first | omega | (simp; omega))]; first | rfl | omega | (simp; done) | (simp; omega)))), ?_⟩)
  · repeat (first | exact SLe.rfl | refine SLe.tail ?_ | refine SLe.full ?_)
  obtain ⟨z, f⟩ := z
  obtain ⟨i1, i2⟩ : z ≤ r.body.length ∧ f = (f0 && (r.body.take z).all (fitL d (gB V ts))) := hz
  repeat (first | refine go_ ?_ | intro _)
  refine gsplit (z < r.body.length) (by first | (simp; done) | (simp <;> omega) | decide) (fun h => ?_) (fun h => ?_)
  · have hlt := h
    cases f with
    | false =>
      have e : fitR d r (gB V ts) = false := by
        unfold fitR
        rw [← e0]
        have es : r.body = r.body.take z ++ r.body.drop z := (List.take_append_drop _ _).symm
        conv => lhs; rw [es]
        rw [List.all_append, ← Bool.and_assoc, ← i2]; rfl
      rw [e]
      repeat (first | refine ga_ ?_ | intro _)
      refine AW_ret ?_
      repeat (first | refine ⟨0, rfl, ?_⟩ | refine ⟨1, rfl, ?_⟩ | refine ⟨2, rfl, ?_⟩ | refine ⟨3, rfl, ?_⟩ | refine ⟨4, rfl, ?_⟩ | refine ⟨5, rfl, ?_⟩ | refine ⟨6, rfl, ?_⟩)
      refine ⟨_, MB b ts R, AVle.eq ?_, (by repeat (first | exact SLe.rfl | refine SLe.tail ?_)), rfl, rfl⟩
      rfl
    | true =>
      obtain ⟨x, hx⟩ : ∃ x, x = r.body[z] := ⟨_, rfl⟩
      have hm : x ∈ r.body := hx ▸ List.getElem_mem hlt
      have hxl : (termsTs (topsL x)).length ≤ 2000 := by
        have hb : (termsTs (topsZ r (z + 1))).length ≤ (termsTs (topsR r)).length := by
          have e : r.body = r.body.take (z + 1) ++ r.body.drop (z + 1) := (List.take_append_drop _ r.body).symm
          have : topsR r = topsZ r (z + 1) ++ (r.body.drop (z + 1)).flatMap topsL := by
            unfold topsR topsZ
            conv => lhs; rw [e]
            rw [List.flatMap_append, List.append_assoc]
          rw [this, termsTs_app, List.length_append]; omega
        rw [topsZ_succ hlt, ← hx, termsTs_app, List.length_append] at hb
        omega
      obtain ⟨f1, e1⟩ : ∃ f, f = fitL d (gB V ts) x := ⟨_, rfl⟩
      have k1 := fitsLit_ok V hV ts ht b d x (.cells p (cRu r) :: R) hd hxl (hks _ (.tail _ (List.mem_map.2 ⟨x, hm, rfl⟩))) (rightR_lits hr x hm) (fun t h => hv t (topsR_body hm h))
      rw [← e1] at k1
      have k2 : ACall Tryd.prog 65 [.sl 6 (d.map encD) .no, encL x, encV V, .msl b 0 V.length V.length] (.cells p (cRu r) :: MB b ts R) (fun v S => v = .bool f1 ∧ S = .cells p (cRu r) :: MB b ts R) :=
        ACall_at [.cells p (cRu r)] (X := MB b ts []) (Y := MB b ts []) (R := R) k1
      repeat (first | refine ga_ ?_ | intro _)
      refine at_map (z) (by first | rfl | omega | (rw [wrap_i64 (by omega)]; omega)) (by first | assumption | omega) ?_
      rw [← hx]
      repeat (first | refine ga_ ?_ | intro _)
      refine Or.inl ⟨⟨_, Tryd.func65, rfl, rfl⟩, ACall.mono ?_ (k2)⟩
      rintro _ S1 ⟨rfl, hS1⟩
      subst S1
      repeat (first | refine ga_ ?_ | intro _)
      refine ⟨(z + 1, f1), ?_, ?_, weak_of ?_ rfl ?_⟩
      · exact Nat.sub_lt_sub_left hlt (Nat.lt_succ_self z)
      · refine ⟨hlt, ?_⟩
        show f1 = _
        rw [List.take_add_one, List.getElem?_eq_getElem hlt, ← hx, Option.toList_some, List.all_append, ← Bool.and_assoc, ← i2, e1]
        simp
      · repeat (first | exact trivial | refine ⟨AVle.refl _, ?_⟩ | refine ⟨AVle.tk, ?_⟩ | refine ⟨AVle.nil, ?_⟩ | refine ⟨AVle.nilFull, ?_⟩ | refine ⟨AVle.eq (congrArg (AV.int .i64) (by first | (simp; done) | (simp; omega) | (rw [wrap_i64 (by first | omega | (simp; omega))]; first | rfl | omega | (simp; done) | (simp; omega)))), ?_⟩)
      · repeat (first | exact SLe.rfl | refine SLe.tail ?_ | refine SLe.full ?_)
  · have hz' : z = r.body.length := by omega
    rw [hz', List.take_length, e0] at i2
    have e : fitR d r (gB V ts) = f := by rw [i2]; rfl
    rw [e]
    repeat (first | refine ga_ ?_ | intro _)
    refine AW_ret ?_
    repeat (first | refine ⟨0, rfl, ?_⟩ | refine ⟨1, rfl, ?_⟩ | refine ⟨2, rfl, ?_⟩ | refine ⟨3, rfl, ?_⟩ | refine ⟨4, rfl, ?_⟩ | refine ⟨5, rfl, ?_⟩ | refine ⟨6, rfl, ?_⟩)
    refine ⟨_, MB b ts R, AVle.eq ?_, (by repeat (first | exact SLe.rfl | refine SLe.tail ?_)), rfl, rfl⟩
    rfl
end Go.Proofs.YtkmalncnaodkiaaDoor
/-
  The types of a rule's variables, by the book. Own work.
-/
namespace Go.Proofs.YtkmalncnaodkiaaDoor
open Go.Aw Go.RowKit
set_option maxHeartbeats 4000000

theorem learnL_snoc (d : List De) (V : List Key) (x : Li) : ∀ (a : List Li) (ts : List Int), learnL d V (a ++ [x]) ts = ((learnL d V a ts).1 || (teach V (wantsL d x (gB V (learnL d V a ts).2)) (learnL d V a ts).2).1, (teach V (wantsL d x (gB V (learnL d V a ts).2)) (learnL d V a ts).2).2)
  | [], ts => by rw [List.nil_append, learnL, learnL, learnL]; simp
  | y :: a, ts => by
    rw [List.cons_append, learnL, learnL_snoc d V x a, learnL]
    simp only [Bool.or_assoc]
theorem learnL_len (d : List De) (V : List Key) : ∀ (a : List Li) (ts : List Int), (learnL d V a ts).2.length = ts.length
  | [], ts => rfl
  | y :: a, ts => by rw [learnL]; exact (learnL_len d V a _).trans (teach_len V _ ts)
theorem zeros_enc (n : Nat) : zerosAV [AV.int .i64 0] n = (List.replicate n (0 : Int)).map encI := by
  apply List.ext_getElem
  · simp [zerosAV]
  · intro i h1 h2
    simp [zerosAV, Nat.mod_one, encI]
theorem gB_zero (V : List Key) (n : Nat) (s : Key) : gB V (List.replicate n 0) s = 0 := by
  unfold gB; split
  · simp [List.getD_eq_getElem?_getD, List.getElem?_replicate]; split <;> rfl
  · rfl
theorem flat_encI : ∀ ts : List Int, Aw.flat (ts.map encI) = ts.map encI
  | [] => rfl
  | x :: ts => by
    have : Aw.flat ((x :: ts).map encI) = (encI x).cells ++ Aw.flat (ts.map encI) := by simp [Aw.flat]
    rw [this, flat_encI ts]; rfl
theorem hold_of (n b : Nat) (cs : List AV) (R : List En) : SLe (.cells b cs :: R) (hold n b cs R) := by
  unfold hold; split
  · exact SLe.tail SLe.rfl
  · exact SLe.rfl
theorem tops_inV {r : Ru} (hr : rightR r = true) : ∀ t ∈ topsR r, inV (varsR r) t := fun t ht u hu h1 => by
  have hv : varsR r = once (keysR r) := if_pos hr
  rw [hv]; exact mem_addVs.2 (.inr (keysR_of ht hu h1))
theorem lit_few {r : Ru} {x : Li} (hf : few r) (hm : x ∈ r.body) : (termsTs (topsL x)).length ≤ 2000 := by
  have hf2 : (termsTs (topsR r)).length + r.body.length ≤ 2000 := hf
  have : ∀ {l : List Li} {y : Li}, y ∈ l → (termsTs (topsL y)).length ≤ (termsTs (l.flatMap topsL)).length := by
    intro l
    induction l with
    | nil => exact fun h => nomatch h
    | cons a l ih =>
      intro y hy
      rw [List.flatMap_cons, termsTs_app, List.length_append]
      rcases List.mem_cons.1 hy with rfl | hy
      · omega
      · have := ih hy; omega
  have h1 := this hm
  have h2 : (termsTs (topsR r)).length = (termsTs r.head.l).length + (termsTs (r.body.flatMap topsL)).length := by unfold topsR; rw [termsTs_app, List.length_append]
  omega

theorem refTypes_ok (d : List De) (r : Ru) (R : List En) (hd : d.length ≤ 100) (hf : few r) :
    ACall Tryd.prog 17 [.sl 6 (d.map encD) .no, encRu r] R (fun v S => v = typesA (typesV (varsR r) d r) ∧ S = R) := by
  have hVl := varsR_len hf
  have hf2 : (termsTs (topsR r)).length + r.body.length ≤ 2000 := hf
  refine ACall_body tab_ok Tryd.func17 rfl rfl rfl (by kernel_rfl) (Nat.le_of_ble_eq_true rfl) ?_
  repeat (first | refine go_ ?_ | intro _)
  rename_i p
  refine Or.inl ⟨⟨_, Tryd.func36, rfl, rfl⟩, ACall_args (ACall.mono ?_ (refRight_ok ⟨d, [r]⟩ _)) ⟨AVle.agg (bs := [.sl 6 (d.map encD) .no, .sl 4 ([r].map encRu) .no]) ⟨AVle.refl _, AVle.tk, trivial⟩ (by simp [AV.one]), trivial⟩⟩
  rintro _ S1 ⟨rfl, hS1⟩
  subst S1
  repeat (first | refine go_ ?_ | intro _)
  refine AW_cond (b := !rightP ⟨d, [r]⟩) rfl (fun h => ?_) (fun h => ?_)
  · have e1 := typesV_tree (V := varsR r) (d := d) (r := r) (by simpa using h)
    repeat (first | refine go_ ?_ | intro _)
    refine AW_ret ?_
    repeat (first | refine ⟨0, rfl, ?_⟩ | refine ⟨1, rfl, ?_⟩ | refine ⟨2, rfl, ?_⟩ | refine ⟨3, rfl, ?_⟩ | refine ⟨4, rfl, ?_⟩ | refine ⟨5, rfl, ?_⟩ | refine ⟨6, rfl, ?_⟩)
    refine ⟨_, R, ?_, (by repeat (first | exact SLe.rfl | refine SLe.tail ?_)), rfl, rfl⟩
    rw [e1]
    exact AVle.tup ⟨AVle.nil, AVle.refl _, trivial⟩
  have hr : rightP ⟨d, [r]⟩ = true := by simpa using h
  obtain ⟨hd1, hr1⟩ := rightP_1 hr
  have hF := fits_of hd1 hr1
  repeat (first | refine go_ ?_ | intro _)
  refine Or.inl ⟨⟨_, Tryd.func37, rfl, rfl⟩, ACall.mono ?_ (known_ok d r.head _ (by omega) hf.head)⟩
  rintro _ S1 ⟨rfl, hS1⟩
  subst S1
  refine AW_cut1 (α := Unit) (fun z => ⟨[(0, .sl 6 (d.map encD) .no), (3, .ptr p 0), (7, .int .i64 (firstK d r))], []⟩) (fun z => .cells p (cRu r) :: R) (fun z => True) ?_ (fun z hz => ?_)
  · repeat (first | refine go_ ?_ | intro _)
    refine AW_for (α := Nat × Int) (fun z => ⟨[(0, .sl 6 (d.map encD) .no), (3, .ptr p 0), (7, .int .i64 z.2), (8, .int .i64 (z.1 : Nat))], []⟩) (fun z => .cells p (cRu r) :: R) (fun z => r.body.length - z.1) (fun z => z.1 ≤ r.body.length ∧ firstK d r = firstNz (z.2 :: (r.body.drop z.1).map (knownL d))) ((0, knownA d r.head)) ?_ (weak_of ?_ rfl ?_) (fun z hz => ?_)
    · exact ⟨Nat.zero_le _, rfl⟩
    · repeat (first | exact trivial | refine ⟨AVle.refl _, ?_⟩ | refine ⟨AVle.tk, ?_⟩ | refine ⟨AVle.nil, ?_⟩ | refine ⟨AVle.nilFull, ?_⟩ | refine ⟨AVle.eq (congrArg (AV.int .i64) (by first | (simp; done) | (simp; omega) | (rw [wrap_i64 (by first | omega | (simp; omega))]; first | rfl | omega | (simp; done) | (simp; omega)))), ?_⟩)
    · repeat (first | exact SLe.rfl | refine SLe.tail ?_ | refine SLe.full ?_)
    obtain ⟨j, c⟩ := z
    obtain ⟨i1, i2⟩ : j ≤ r.body.length ∧ firstK d r = firstNz (c :: (r.body.drop j).map (knownL d)) := hz
    repeat (first | refine go_ ?_ | intro _)
    refine gsplit (j < r.body.length) (by first | (simp; done) | (simp <;> omega) | decide) (fun h => ?_) (fun h => ?_)
    · have hlt := h
      obtain ⟨x, hx⟩ : ∃ x, x = r.body[j] := ⟨_, rfl⟩
      have hm : x ∈ r.body := hx ▸ List.getElem_mem hlt
      have hdr : r.body.drop j = x :: r.body.drop (j + 1) := by rw [hx]; exact (List.getElem_cons_drop hlt).symm
      repeat (first | refine ga_ ?_ | intro _)
      refine AW_iff (c = 0) rfl (by first | (simp; done) | (simp <;> omega) | decide) (fun h => ?_) (fun h => ?_)
      · subst h
        rw [hdr, List.map_cons] at i2
        have i3 : firstK d r = firstNz (knownL d x :: (r.body.drop (j + 1)).map (knownL d)) := i2
        repeat (first | refine ga_ ?_ | intro _)
        refine at_map (j) (by first | rfl | omega | (rw [wrap_i64 (by omega)]; omega)) (by first | assumption | omega) ?_
        rw [← hx]
        repeat (first | refine ga_ ?_ | intro _)
        by_cases hcm : isCmp x = true
        · have hop : (3 : Int) ≤ x.op ∧ x.op ≤ 6 := by
            unfold isCmp at hcm
            simpa only [Bool.and_eq_true, decide_eq_true_eq] using hcm
          have hk : knownL d x = 0 := if_pos hcm
          rw [hk] at i3
          refine known_false (b := decide (x.op < 3)) (by exact decide_eq_false (by omega)) ?_
          repeat (first | refine ga_ ?_ | intro _)
          refine at_map (j) (by first | rfl | omega | (rw [wrap_i64 (by omega)]; omega)) (by first | assumption | omega) ?_
          rw [← hx]
          repeat (first | refine ga_ ?_ | intro _)
          refine AW_false (b := decide ((6 : Int) < x.op)) rfl (by exact decide_eq_false (by omega)) ?_
          repeat (first | refine ga_ ?_ | intro _)
          refine ⟨(j + 1, 0), ?_, ?_, weak_of ?_ rfl ?_⟩
          · exact Nat.sub_lt_sub_left hlt (Nat.lt_succ_self j)
          · exact ⟨hlt, i3⟩
          · repeat (first | exact trivial | refine ⟨AVle.refl _, ?_⟩ | refine ⟨AVle.tk, ?_⟩ | refine ⟨AVle.nil, ?_⟩ | refine ⟨AVle.nilFull, ?_⟩ | refine ⟨AVle.eq (congrArg (AV.int .i64) (by first | (simp; done) | (simp; omega) | (rw [wrap_i64 (by first | omega | (simp; omega))]; first | rfl | omega | (simp; done) | (simp; omega)))), ?_⟩)
          · repeat (first | exact SLe.rfl | refine SLe.tail ?_ | refine SLe.full ?_)
        · have hcf : isCmp x = false := by simpa using hcm
          have hk : knownL d x = knownA d x.a := if_neg hcm
          rw [hk] at i3
          have hop : x.op < 3 ∨ 6 < x.op := by
            unfold isCmp at hcf
            simp only [Bool.and_eq_false_iff, decide_eq_false_iff_not] at hcf
            omega
          have kk := fun R => known_ok d x.a R (by omega) (by
            have h1 := lit_few hf hm
            have et : termsTs (topsL x) = termsT x.x ++ (termsT x.y ++ termsTs x.a.l) := by unfold topsL; rw [termsTs_cons, termsTs_cons]
            have hl := congrArg List.length et
            simp only [List.length_append] at hl
            omega)
          refine gsplit (x.op < 3) (by first | (simp; done) | (simp <;> omega) | decide) (fun h => ?_) (fun h => ?_)
          · repeat (first | refine ga_ ?_ | intro _)
            refine at_map (j) (by first | rfl | omega | (rw [wrap_i64 (by omega)]; omega)) (by first | assumption | omega) ?_
            rw [← hx]
            repeat (first | refine ga_ ?_ | intro _)
            refine Or.inl ⟨⟨_, Tryd.func37, rfl, rfl⟩, ACall.mono ?_ (kk _)⟩
            rintro _ S1 ⟨rfl, hS1⟩
            subst S1
            repeat (first | refine ga_ ?_ | intro _)
            refine ⟨(j + 1, knownA d x.a), ?_, ?_, weak_of ?_ rfl ?_⟩
            · exact Nat.sub_lt_sub_left hlt (Nat.lt_succ_self j)
            · exact ⟨hlt, i3⟩
            · repeat (first | exact trivial | refine ⟨AVle.refl _, ?_⟩ | refine ⟨AVle.tk, ?_⟩ | refine ⟨AVle.nil, ?_⟩ | refine ⟨AVle.nilFull, ?_⟩ | refine ⟨AVle.eq (congrArg (AV.int .i64) (by first | (simp; done) | (simp; omega) | (rw [wrap_i64 (by first | omega | (simp; omega))]; first | rfl | omega | (simp; done) | (simp; omega)))), ?_⟩)
            · repeat (first | exact SLe.rfl | refine SLe.tail ?_ | refine SLe.full ?_)
          · repeat (first | refine ga_ ?_ | intro _)
            refine at_map (j) (by first | rfl | omega | (rw [wrap_i64 (by omega)]; omega)) (by first | assumption | omega) ?_
            rw [← hx]
            repeat (first | refine ga_ ?_ | intro _)
            refine AW_true (b := decide ((6 : Int) < x.op)) rfl (by exact decide_eq_true (by omega)) ?_
            repeat (first | refine ga_ ?_ | intro _)
            refine at_map (j) (by first | rfl | omega | (rw [wrap_i64 (by omega)]; omega)) (by first | assumption | omega) ?_
            rw [← hx]
            repeat (first | refine ga_ ?_ | intro _)
            refine Or.inl ⟨⟨_, Tryd.func37, rfl, rfl⟩, ACall.mono ?_ (kk _)⟩
            rintro _ S1 ⟨rfl, hS1⟩
            subst S1
            repeat (first | refine ga_ ?_ | intro _)
            refine ⟨(j + 1, knownA d x.a), ?_, ?_, weak_of ?_ rfl ?_⟩
            · exact Nat.sub_lt_sub_left hlt (Nat.lt_succ_self j)
            · exact ⟨hlt, i3⟩
            · repeat (first | exact trivial | refine ⟨AVle.refl _, ?_⟩ | refine ⟨AVle.tk, ?_⟩ | refine ⟨AVle.nil, ?_⟩ | refine ⟨AVle.nilFull, ?_⟩ | refine ⟨AVle.eq (congrArg (AV.int .i64) (by first | (simp; done) | (simp; omega) | (rw [wrap_i64 (by first | omega | (simp; omega))]; first | rfl | omega | (simp; done) | (simp; omega)))), ?_⟩)
            · repeat (first | exact SLe.rfl | refine SLe.tail ?_ | refine SLe.full ?_)
      · have e : firstK d r = c := by rw [i2, firstNz, if_neg h]
        repeat (first | refine ga_ ?_ | intro _)
        refine ⟨(), ?_, weak_of ?_ rfl ?_⟩
        · trivial
        · repeat (first | exact trivial | refine ⟨(AVle.eq (congrArg (AV.int .i64) e.symm)), ?_⟩ | refine ⟨AVle.refl _, ?_⟩ | refine ⟨AVle.tk, ?_⟩ | refine ⟨AVle.nil, ?_⟩ | refine ⟨AVle.nilFull, ?_⟩ | refine ⟨AVle.eq (congrArg (AV.int .i64) (by first | (simp; done) | (simp; omega) | (rw [wrap_i64 (by first | omega | (simp; omega))]; first | rfl | omega | (simp; done) | (simp; omega)))), ?_⟩)
        · repeat (first | exact SLe.rfl | refine SLe.tail ?_ | refine SLe.full ?_)
    · have e : firstK d r = c := by
        rw [i2, show r.body.drop j = [] from List.drop_of_length_le (by omega)]
        show (if c = 0 then firstNz [] else c) = c
        split
        · rename_i h0; rw [h0]; rfl
        · rfl
      repeat (first | refine ga_ ?_ | intro _)
      refine ⟨(), ?_, weak_of ?_ rfl ?_⟩
      · trivial
      · repeat (first | exact trivial | refine ⟨(AVle.eq (congrArg (AV.int .i64) e.symm)), ?_⟩ | refine ⟨AVle.refl _, ?_⟩ | refine ⟨AVle.tk, ?_⟩ | refine ⟨AVle.nil, ?_⟩ | refine ⟨AVle.nilFull, ?_⟩ | refine ⟨AVle.eq (congrArg (AV.int .i64) (by first | (simp; done) | (simp; omega) | (rw [wrap_i64 (by first | omega | (simp; omega))]; first | rfl | omega | (simp; done) | (simp; omega)))), ?_⟩)
      · repeat (first | exact SLe.rfl | refine SLe.tail ?_ | refine SLe.full ?_)
  repeat (first | refine go_ ?_ | intro _)
  refine AW_iff (¬ firstK d r = 0) rfl (by first | (simp; done) | (simp <;> omega) | decide) (fun h => ?_) (fun h => ?_)
  · have e1 := typesV_known (V := varsR r) hr h
    repeat (first | refine go_ ?_ | intro _)
    refine AW_ret ?_
    repeat (first | refine ⟨0, rfl, ?_⟩ | refine ⟨1, rfl, ?_⟩ | refine ⟨2, rfl, ?_⟩ | refine ⟨3, rfl, ?_⟩ | refine ⟨4, rfl, ?_⟩ | refine ⟨5, rfl, ?_⟩ | refine ⟨6, rfl, ?_⟩)
    refine ⟨_, R, ?_, (by repeat (first | exact SLe.rfl | refine SLe.tail ?_)), rfl, rfl⟩
    rw [e1]
    exact AVle.tup ⟨AVle.nil, AVle.refl _, trivial⟩
  have hk : firstK d r = 0 := Decidable.not_not.1 h
  have hkA : knownA d r.head = 0 := firstNz_0 hk _ (.head _)
  have hinV := tops_inV hr1
  have hN := varsR_nodup r
  obtain ⟨V, hV⟩ : ∃ V, V = varsR r := ⟨_, rfl⟩
  rw [← hV] at hF hVl hinV hN ⊢
  have kv := fun R => refVars_ok r R hf
  rw [← hV] at kv
  repeat (first | refine go_ ?_ | intro _)
  refine Or.inl ⟨⟨_, Tryd.func15, rfl, rfl⟩, ACall.mono ?_ (kv _)⟩
  rintro _ S1 ⟨rfl, hS1⟩
  subst S1
  repeat (first | refine go_ ?_ | intro _)
  refine ⟨V.length, V.length, (by simp), (by simp), Nat.le_refl _, room (by first | omega | (simp; omega)) rfl, .inr fun b1 => ?_⟩
  repeat (first | refine go_ ?_ | intro _)
  refine AW_for (α := List Int × Bool) (fun z => ⟨[(0, .sl 6 (d.map encD) .no), (3, .ptr p 0), (9, encV V), (10, .msl b1 0 V.length V.length), (11, .bool z.2)], []⟩) (fun z => MB b1 z.1 (.cells p (cRu r) :: R)) (fun z => 2 * zeros z.1 + (if z.2 = true then 1 else 0)) (fun z => z.1.length = V.length ∧ Under (sysOf d r) (gB V z.1) ∧ (z.2 = false → ∀ s k, Dv (sysOf d r) s k → gB V z.1 s ≠ 0)) ((List.replicate V.length 0, true)) ?_ (weak_of ?_ rfl ?_) (fun z hz => ?_)
  · exact ⟨List.length_replicate .., fun s hs => absurd (gB_zero V _ s) hs, fun h => (nomatch h)⟩
  · repeat (first | exact trivial | refine ⟨AVle.refl _, ?_⟩ | refine ⟨AVle.tk, ?_⟩ | refine ⟨AVle.nil, ?_⟩ | refine ⟨AVle.nilFull, ?_⟩ | refine ⟨AVle.eq (congrArg (AV.int .i64) (by first | (simp; done) | (simp; omega) | (rw [wrap_i64 (by first | omega | (simp; omega))]; first | rfl | omega | (simp; done) | (simp; omega)))), ?_⟩)
  · show SLe (.cells b1 (zerosAV [AV.int .i64 0] V.length) :: _) _
    rw [zeros_enc]
    exact SLe.rfl
  obtain ⟨ts, mo⟩ := z
  obtain ⟨hl, hU, hD⟩ : ts.length = V.length ∧ Under (sysOf d r) (gB V ts) ∧ (mo = false → ∀ s k, Dv (sysOf d r) s k → gB V ts s ≠ 0) := hz
  have hks := firstNz_0 hk
  cases mo with
  | true =>
    obtain ⟨m0, t0, r0⟩ : ∃ b s, teach V (hardA d r.head) ts = (b, s) := ⟨_, _, rfl⟩
    have ht0 : t0.length = V.length := by have := teach_len V (hardA d r.head) ts; rw [r0] at this; exact this.trans hl
    have k0 := learnAtom_ok V (by omega) b1 d r.head ts (.cells p (cRu r) :: R) (by omega) hf.head hkA (rightA_good (rightR_top hr1)) (fun t h => hinV t (topsR_head h)) hl
    rw [r0] at k0
    repeat (first | refine ga_ ?_ | intro _)
    refine Or.inl ⟨⟨_, Tryd.func38, rfl, rfl⟩, ACall.mono ?_ (k0)⟩
    rintro _ S1 ⟨rfl, hS1⟩
    subst S1
    repeat (first | refine go_ ?_ | intro _)
    refine AW_for (α := Nat × List Int × Bool) (fun z => ⟨[(0, .sl 6 (d.map encD) .no), (3, .ptr p 0), (9, encV V), (10, .msl b1 0 V.length V.length), (11, .bool z.2.2), (12, .int .i64 (z.1 : Nat))], []⟩) (fun z => MB b1 z.2.1 (.cells p (cRu r) :: R)) (fun z => r.body.length - z.1) (fun z => z.1 ≤ r.body.length ∧ ∃ m', learnL d V (r.body.take z.1) t0 = (m', z.2.1) ∧ z.2.2 = Bool.or m0 m') ((0, t0, m0)) ?_ (weak_of ?_ rfl ?_) (fun z hz => ?_)
    · exact (show (0 : Nat) ≤ r.body.length ∧ ∃ m', learnL d V (r.body.take 0) t0 = (m', t0) ∧ m0 = Bool.or m0 m' from ⟨Nat.zero_le _, false, rfl, (Bool.or_false m0).symm⟩)
    · repeat (first | exact trivial | refine ⟨AVle.refl _, ?_⟩ | refine ⟨AVle.tk, ?_⟩ | refine ⟨AVle.nil, ?_⟩ | refine ⟨AVle.nilFull, ?_⟩ | refine ⟨AVle.eq (congrArg (AV.int .i64) (by first | (simp; done) | (simp; omega) | (rw [wrap_i64 (by first | omega | (simp; omega))]; first | rfl | omega | (simp; done) | (simp; omega)))), ?_⟩)
    · repeat (first | exact SLe.rfl | refine SLe.tail ?_ | refine SLe.full ?_)
    obtain ⟨j, t1, m1⟩ := z
    obtain ⟨i1, m', i2, i3⟩ : j ≤ r.body.length ∧ ∃ m', learnL d V (r.body.take j) t0 = (m', t1) ∧ m1 = (m0 || m') := hz
    have ht1 : t1.length = V.length := by have := learnL_len d V (r.body.take j) t0; rw [i2] at this; exact this.trans ht0
    repeat (first | refine go_ ?_ | intro _)
    refine AW_iff (j < r.body.length) rfl (by first | (simp; done) | (simp <;> omega) | decide) (fun h => ?_) (fun h => ?_)
    · have hlt := h
      obtain ⟨x, hx⟩ : ∃ x, x = r.body[j] := ⟨_, rfl⟩
      have hm : x ∈ r.body := hx ▸ List.getElem_mem hlt
      have kl := learnLit_ok V (by omega) b1 d x t1 (.cells p (cRu r) :: R) (by omega) (lit_few hf hm) (hks _ (.tail _ (List.mem_map.2 ⟨x, hm, rfl⟩))) (rightR_lits hr1 x hm) (fun t h => hinV t (topsR_body hm h)) ht1
      obtain ⟨m2, t2, r2⟩ : ∃ b s, teach V (wantsL d x (gB V t1)) t1 = (b, s) := ⟨_, _, rfl⟩
      rw [r2] at kl
      have e2 : learnL d V (r.body.take (j + 1)) t0 = (m' || m2, t2) := by
        rw [List.take_add_one, List.getElem?_eq_getElem hlt, ← hx, Option.toList_some, learnL_snoc, i2]
        simp only [r2]
      repeat (first | refine go_ ?_ | intro _)
      refine at_map (j) (by first | rfl | omega | (rw [wrap_i64 (by omega)]; omega)) (by first | assumption | omega) ?_
      rw [← hx]
      repeat (first | refine go_ ?_ | intro _)
      refine Or.inl ⟨⟨_, Tryd.func39, rfl, rfl⟩, ACall.mono ?_ (kl)⟩
      rintro _ S1 ⟨rfl, hS1⟩
      subst S1
      cases m1 with
      | true =>
        repeat (first | refine ga_ ?_ | intro _)
        refine ⟨(j + 1, t2, true), ?_, ?_, weak_of ?_ rfl ?_⟩
        · exact Nat.sub_lt_sub_left hlt (Nat.lt_succ_self j)
        · exact ⟨hlt, _, e2, by rw [← Bool.or_assoc, ← i3]; rfl⟩
        · repeat (first | exact trivial | refine ⟨AVle.refl _, ?_⟩ | refine ⟨AVle.tk, ?_⟩ | refine ⟨AVle.nil, ?_⟩ | refine ⟨AVle.nilFull, ?_⟩ | refine ⟨AVle.eq (congrArg (AV.int .i64) (by first | (simp; done) | (simp; omega) | (rw [wrap_i64 (by first | omega | (simp; omega))]; first | rfl | omega | (simp; done) | (simp; omega)))), ?_⟩)
        · repeat (first | exact SLe.rfl | refine SLe.tail ?_ | refine SLe.full ?_)
      | false =>
        repeat (first | refine ga_ ?_ | intro _)
        refine ⟨(j + 1, t2, m2), ?_, ?_, weak_of ?_ rfl ?_⟩
        · exact Nat.sub_lt_sub_left hlt (Nat.lt_succ_self j)
        · exact ⟨hlt, _, e2, by rw [← Bool.or_assoc, ← i3]; rfl⟩
        · repeat (first | exact trivial | refine ⟨AVle.refl _, ?_⟩ | refine ⟨AVle.tk, ?_⟩ | refine ⟨AVle.nil, ?_⟩ | refine ⟨AVle.nilFull, ?_⟩ | refine ⟨AVle.eq (congrArg (AV.int .i64) (by first | (simp; done) | (simp; omega) | (rw [wrap_i64 (by first | omega | (simp; omega))]; first | rfl | omega | (simp; done) | (simp; omega)))), ?_⟩)
        · repeat (first | exact SLe.rfl | refine SLe.tail ?_ | refine SLe.full ?_)
    · have hz' : j = r.body.length := by omega
      rw [hz', List.take_length] at i2
      have em : learnM d V r ts = (m1, t1) := by
        unfold learnM
        rw [r0]
        simp only [i2, i3]
      obtain ⟨l1, l2, l3, l4⟩ := learnM_ok hF hl hU
      rw [em] at l1 l2 l3 l4
      repeat (first | refine go_ ?_ | intro _)
      refine ⟨(t1, m1), ?_, ?_, weak_of ?_ rfl ?_⟩
      · cases m1 with
        | true =>
          have := l3 rfl
          show 2 * zeros t1 + 1 < 2 * zeros ts + 1
          simp only [] at this; omega
        | false =>
          have := (l4 rfl).1
          simp only [] at this
          show 2 * zeros t1 + 0 < 2 * zeros ts + 1
          rw [this]; omega
      · refine ⟨l1, l2, fun h => ?_⟩
        obtain ⟨q1, q2⟩ := l4 h
        simp only [] at q1
        show ∀ s k, Dv (sysOf d r) s k → gB V t1 s ≠ 0
        rw [q1]; exact q2
      · repeat (first | exact trivial | refine ⟨AVle.refl _, ?_⟩ | refine ⟨AVle.tk, ?_⟩ | refine ⟨AVle.nil, ?_⟩ | refine ⟨AVle.nilFull, ?_⟩ | refine ⟨AVle.eq (congrArg (AV.int .i64) (by first | (simp; done) | (simp; omega) | (rw [wrap_i64 (by first | omega | (simp; omega))]; first | rfl | omega | (simp; done) | (simp; omega)))), ?_⟩)
      · repeat (first | exact SLe.rfl | refine SLe.tail ?_ | refine SLe.full ?_)
  | false =>
    have hD := hD rfl
    obtain ⟨z1, z2⟩ := book_end hN hF hr hk hl hU hD
    repeat (first | refine ga_ ?_ | intro _)
    refine AW_for (α := Nat) (fun z => ⟨[(0, .sl 6 (d.map encD) .no), (3, .ptr p 0), (9, encV V), (10, .msl b1 0 V.length V.length), (14, .int .i64 (z : Nat))], []⟩) (fun z => MB b1 ts (.cells p (cRu r) :: R)) (fun z => V.length - z) (fun z => z ≤ V.length ∧ ∀ (i : Nat) (hi : i < ts.length), i < z → ts[i] ≠ 0) (0) ?_ (weak_of ?_ rfl ?_) (fun z hz => ?_)
    · exact ⟨Nat.zero_le _, fun i _ h => by omega⟩
    · repeat (first | exact trivial | refine ⟨AVle.refl _, ?_⟩ | refine ⟨AVle.tk, ?_⟩ | refine ⟨AVle.nil, ?_⟩ | refine ⟨AVle.nilFull, ?_⟩ | refine ⟨AVle.eq (congrArg (AV.int .i64) (by first | (simp; done) | (simp; omega) | (rw [wrap_i64 (by first | omega | (simp; omega))]; first | rfl | omega | (simp; done) | (simp; omega)))), ?_⟩)
    · repeat (first | exact SLe.rfl | refine SLe.tail ?_ | refine SLe.full ?_)
    obtain ⟨i1, i2⟩ := hz
    repeat (first | refine go_ ?_ | intro _)
    refine AW_iff (z < V.length) rfl (by first | (simp; done) | (simp <;> omega) | decide) (fun h => ?_) (fun h => ?_)
    · have hlt : z < ts.length := by omega
      repeat (first | refine go_ ?_ | intro _)
      refine at_msl (z) (z) (by first | rfl | omega | (rw [wrap_i64 (by first | omega | (simp; omega))]; first | rfl | omega | (simp; omega))) (by first | assumption | omega) (by show _ + _ * 1 = _; omega) ?_
      repeat (first | refine go_ ?_ | intro _)
      refine load_one (encI ts[z]) rfl rfl (encI_get hlt) ?_
      repeat (first | refine go_ ?_ | intro _)
      refine AW_iff (ts[z] = 0) rfl (by first | (simp; done) | (simp <;> omega) | decide) (fun h => ?_) (fun h => ?_)
      · have e := z1 ⟨_, List.getElem_mem hlt, h⟩
        repeat (first | refine go_ ?_ | intro _)
        refine AW_ret ?_
        repeat (first | refine ⟨0, rfl, ?_⟩ | refine ⟨1, rfl, ?_⟩ | refine ⟨2, rfl, ?_⟩ | refine ⟨3, rfl, ?_⟩ | refine ⟨4, rfl, ?_⟩ | refine ⟨5, rfl, ?_⟩ | refine ⟨6, rfl, ?_⟩)
        refine ⟨_, R, ?_, (by repeat (first | exact SLe.rfl | refine SLe.tail ?_)), rfl, rfl⟩
        rw [e]
        exact AVle.tup ⟨AVle.nil, AVle.refl _, trivial⟩
      · have hq := h
        repeat (first | refine go_ ?_ | intro _)
        refine ⟨z + 1, ?_, ?_, weak_of ?_ rfl ?_⟩
        · omega
        · refine ⟨by omega, fun i hi hiz => ?_⟩
          by_cases hc : i < z
          · exact i2 i hi hc
          · obtain rfl : i = z := by omega
            exact hq
        · repeat (first | exact trivial | refine ⟨AVle.refl _, ?_⟩ | refine ⟨AVle.tk, ?_⟩ | refine ⟨AVle.nil, ?_⟩ | refine ⟨AVle.nilFull, ?_⟩ | refine ⟨AVle.eq (congrArg (AV.int .i64) (by first | (simp; done) | (simp; omega) | (rw [wrap_i64 (by first | omega | (simp; omega))]; first | rfl | omega | (simp; done) | (simp; omega)))), ?_⟩)
        · repeat (first | exact SLe.rfl | refine SLe.tail ?_ | refine SLe.full ?_)
    · have hnz : ∀ x ∈ ts, x ≠ 0 := fun x hx => by
        obtain ⟨i, hi, rfl⟩ := List.mem_iff_getElem.1 hx
        exact i2 i hi (by omega)
      obtain ⟨z3, z4⟩ := z2 hnz
      have kf := fitsRule_ok V (by omega) ts hl b1 d r (.cells p (cRu r) :: R) (by omega) hf hk hr1 hinV
      cases hfr : fitR d r (gB V ts) with
      | false =>
        have e := z3 hfr
        rw [hfr] at kf
        repeat (first | refine go_ ?_ | intro _)
        refine Or.inl ⟨⟨_, Tryd.func40, rfl, rfl⟩, ACall.mono ?_ (kf)⟩
        rintro _ S1 ⟨rfl, hS1⟩
        subst S1
        repeat (first | refine ga_ ?_ | intro _)
        refine AW_ret ?_
        repeat (first | refine ⟨0, rfl, ?_⟩ | refine ⟨1, rfl, ?_⟩ | refine ⟨2, rfl, ?_⟩ | refine ⟨3, rfl, ?_⟩ | refine ⟨4, rfl, ?_⟩ | refine ⟨5, rfl, ?_⟩ | refine ⟨6, rfl, ?_⟩)
        refine ⟨_, R, ?_, (by repeat (first | exact SLe.rfl | refine SLe.tail ?_)), rfl, rfl⟩
        rw [e]
        exact AVle.tup ⟨AVle.nil, AVle.refl _, trivial⟩
      | true =>
        have e := z4 hfr
        rw [hfr] at kf
        rw [e]
        repeat (first | refine go_ ?_ | intro _)
        refine Or.inl ⟨⟨_, Tryd.func40, rfl, rfl⟩, ACall.mono ?_ (kf)⟩
        rintro _ S1 ⟨rfl, hS1⟩
        subst S1
        refine AW_seq ?_
        refine AW_weak (weak_of (l := [(10, .msl b1 0 V.length V.length), (15, .bool true)]) (m := []) (S' := MB b1 ts (.cells p (cRu r) :: R)) ?_ rfl ?_) ?_
        · repeat (first | exact trivial | refine ⟨AVle.refl _, ?_⟩ | refine ⟨AVle.tk, ?_⟩ | refine ⟨AVle.nil, ?_⟩ | refine ⟨AVle.nilFull, ?_⟩ | refine ⟨AVle.eq (congrArg (AV.int .i64) (by first | (simp; done) | (simp; omega) | (rw [wrap_i64 (by first | omega | (simp; omega))]; first | rfl | omega | (simp; done) | (simp; omega)))), ?_⟩)
        · refine SW.le ?_
          repeat (first | exact SW.nil | refine SW.cons ?_ | refine SW.cells (by repeat (first | exact trivial | refine ⟨AVle.refl _, ?_⟩ | refine ⟨AVle.nilFull, ?_⟩ | refine ⟨AVle.tk, ?_⟩ | refine ⟨AVle.nil, ?_⟩)) rfl ?_ | refine SW.full ?_ | refine SW.drop ?_)
        refine AW_drop (hold_of V.length b1 _ _) ?_
        refine AW_freeze 10 (sz := 1) (es := ts.map encI) (fun h => h) rfl (by simp [hl]) (by simp [encI, AV.cells]) (by rw [List.drop_zero, Nat.mul_one, List.take_of_length_le (by simp [hl]), flat_encI]) ?_
        repeat (first | refine ga_ ?_ | intro _)
        refine AW_ret ?_
        repeat (first | refine ⟨0, rfl, ?_⟩ | refine ⟨1, rfl, ?_⟩ | refine ⟨2, rfl, ?_⟩ | refine ⟨3, rfl, ?_⟩ | refine ⟨4, rfl, ?_⟩ | refine ⟨5, rfl, ?_⟩ | refine ⟨6, rfl, ?_⟩)
        refine ⟨_, R, ?_, (by repeat (first | exact SLe.rfl | refine SLe.tail ?_)), rfl, rfl⟩
        exact AVle.refl _
end Go.Proofs.YtkmalncnaodkiaaDoor
