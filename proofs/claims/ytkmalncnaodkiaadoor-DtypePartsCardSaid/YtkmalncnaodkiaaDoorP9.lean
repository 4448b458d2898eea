/-
  The types of a rule's variables, as the program finds them. Own work.
-/
import Derived.Test.YtkmalncnaodkiaaDoorP8
set_option linter.all false
namespace Go.Proofs.YtkmalncnaodkiaaDoor
open Go.Aw Go.RowKit
set_option maxHeartbeats 4000000

theorem AVle.agg {es bs : List AV} (h : AVleL es bs) (h1 : ∀ c ∈ bs, c.one = true) : AVle (.agg es) (.agg bs) := by
  intro K v hv
  cases hv with
  | agg _ hl h' =>
    have := h.rel (K := K) ⟨hl, h'⟩
    exact .agg h1 this.1 this.2
theorem rightP_1 {d : List De} {r : Ru} (h : rightP ⟨d, [r]⟩ = true) : d.all rightD = true ∧ rightR r = true := by
  rw [rightP_one, Bool.and_eq_true, Bool.and_eq_true] at h
  exact h.2
theorem wants_head {V : List Key} {d : List De} {r : Ru} (hF : Fits V (sysOf d r)) : wantOk V (hardA d r.head) :=
  ⟨fun q hq => by have := hF.two q (List.mem_append_left _ hq); omega, fun q hq => hF.inH q (List.mem_append_left _ hq)⟩
theorem wants_body {V : List Key} {d : List De} {r : Ru} (hF : Fits V (sysOf d r)) : ∀ l ∈ r.body, ∀ s, Good V s → knownL d l = 0 → wantOk V (wantsL d l s.g) :=
  fun _ hl _ hg _ => wantsL_in hF (part_of hl) hg.g
theorem good_nil (V : List Key) (b : Bool) : Good V ⟨[], b⟩ := ⟨fun p hp => (nomatch hp), by simp, fun p hp => (nomatch hp)⟩
theorem under_nil (Y : Sys) (b : Bool) : Under Y (St.g ⟨[], b⟩) := fun s hs => absurd rfl hs
theorem sol_dv {Y : Sys} {σ : Key → Int} (h : Sol Y σ) : ∀ s k, Dv Y s k → σ s ≠ 0 := fun s k hk => by rw [hk.sol h]; exact hk.ne
def typesA (x : List Int × Int) : AV := .tup [.sl 1 (x.1.map encI) .no, .int .i64 x.2]

theorem types_ok (b o : Nat) (e : Es) (d : List De) (r : Ru) (R : List En) (hE0 : En.glob 0 [errE b o] ∈ R) (hEs : EsIn e R) (hd : d.length ≤ 100) (hf : few r) :
    ACall Tryd.prog 16 [.sl 6 (d.map encD) .no, encRu r] R (fun v S => v = typesA (typesV (varsR r) d r) ∧ S = R) := by
  have hVl := varsR_len hf
  refine ACall_body tab_ok Tryd.func16 rfl rfl rfl (by kernel_rfl) (Nat.le_of_ble_eq_true rfl) ?_
  repeat (first | refine go_ ?_ | intro _)
  rename_i p
  refine Or.inl ⟨⟨_, Tryd.func33, rfl, rfl⟩, ACall_args (ACall.mono ?_ (right_ok b o ⟨d, [r]⟩ _ (.tail _ hE0) (fun x hx => by rw [List.mem_singleton.1 hx]; exact hf.okR))) ⟨AVle.agg (bs := [.sl 6 (d.map encD) .no, .sl 4 ([r].map encRu) .no]) ⟨AVle.refl _, AVle.tk, trivial⟩ (by simp [AV.one]), trivial⟩⟩
  rintro _ S1 ⟨rfl, hS1⟩
  subst S1
  repeat (first | refine go_ ?_ | intro _)
  refine AW_cond (b := !rightP ⟨d, [r]⟩) rfl (fun h => ?_) (fun h => ?_)
  · have e1 := typesV_tree (V := varsR r) (d := d) (r := r) (by simpa using h)
    repeat (first | refine go_ ?_ | intro _)
    refine AW_ret ?_
    repeat (first | refine ⟨0, rfl, ?_⟩ | refine ⟨1, rfl, ?_⟩ | refine ⟨2, rfl, ?_⟩ | refine ⟨3, rfl, ?_⟩ | refine ⟨4, rfl, ?_⟩ | refine ⟨5, rfl, ?_⟩ | refine ⟨6, rfl, ?_⟩)
    refine ⟨_, R, ?_, (by repeat (first | exact SLe.rfl | refine SLe.tail ?_)), rfl, rfl⟩
    rw [e1]
    exact AVle.tup ⟨AVle.nil, AVle.refl _, trivial⟩
  · have hr : rightP ⟨d, [r]⟩ = true := by simpa using h
    obtain ⟨hd1, hr1⟩ := rightP_1 hr
    have hF := fits_of hd1 hr1
    repeat (first | refine go_ ?_ | intro _)
    rename_i mb q
    refine AW_for (α := St) (fun z => ⟨[(3, .ptr p 0), (6, .ptr q 0)], []⟩) (fun z => TY q mb d z (.cells p (cRu r) :: R)) (fun z => 2 * ((varsR r).length - z.m.length) + (if z.more = true then 1 else 0)) (fun z => Ok (varsR r) (sysOf d r) z ∧ (z.more = false → firstK d r = 0 ∧ Sol (sysOf d r) z.g)) (⟨[], true⟩) ?_ (weak_of ?_ rfl ?_) (fun z hz => ?_)
    · exact ⟨⟨good_nil _ _, under_nil _ _⟩, fun h => (nomatch h)⟩
    · repeat (first | exact trivial | refine ⟨AVle.refl _, ?_⟩ | refine ⟨AVle.tk, ?_⟩ | refine ⟨AVle.nil, ?_⟩ | refine ⟨AVle.nilFull, ?_⟩ | refine ⟨AVle.eq (congrArg (AV.int .i64) (by first | (simp; done) | (simp; omega) | (rw [wrap_i64 (by first | omega | (simp; omega))]; first | rfl | omega | (simp; done) | (simp; omega)))), ?_⟩)
    · repeat (first | exact SLe.rfl | refine SLe.tail ?_ | refine SLe.full ?_)
    rename St => st
    obtain ⟨hok, hsol⟩ := hz
    repeat (first | refine go_ ?_ | intro _)
    refine AW_cond (b := st.more) rfl (fun h => ?_) (fun h => ?_)
    · obtain ⟨s0, hs0⟩ : ∃ s : St, s = ⟨st.m, false⟩ := ⟨_, rfl⟩
      have hok0 : Ok (varsR r) (sysOf d r) s0 := by rw [hs0]; exact ⟨hok.good, hok.under⟩
      have kp := pass_ok e (varsR r) (by omega) q mb d r s0 (.cells p (cRu r) :: R) hEs.cons (by omega) hf hok0.good (fun _ => wants_head hF) (wants_body hF)
      obtain ⟨c, s1, hp⟩ : ∃ c s, passM d r s0 = (c, s) := ⟨_, _, rfl⟩
      have key : (firstK d r = 0 ∧ c = 0 ∧ After (varsR r) (sysOf d r) s0 s1 ∧ (s1.more = true ∨ s1 = s0 ∧ Sol (sysOf d r) s0.g)) ∨ (isE c ∧ c ≠ 0 ∧ typesV (varsR r) d r = ([], c)) := by
        by_cases hk : firstK d r = 0
        · have := passM_ok hF hk hok0
          rw [hp] at this
          rcases this with ⟨h1, h2, h3⟩ | ⟨h1, h2⟩
          · exact .inl ⟨hk, h1, h2, h3⟩
          · refine .inr ?_
            have h1 : c = 53 := h1
            subst h1
            exact ⟨.inr (.inr (.inr rfl)), by decide, types_none hr hk h2⟩
        · have := passM_known (st := s0) hk
          rw [hp] at this
          have this : c = firstK d r := this
          have hin := firstK_in d r
          refine .inr ⟨?_, by omega, by rw [this]; exact typesV_known hr hk⟩
          unfold isE; omega
      rw [hp, hs0] at kp
      rcases key with ⟨hk, rfl, ha, hm⟩ | ⟨hc, hn, ht⟩
      · repeat (first | refine go_ ?_ | intro _)
        refine Or.inl ⟨⟨_, Tryd.func34, rfl, rfl⟩, ACall.mono ?_ (kp)⟩
        rintro _ S1 ⟨rfl, hS1⟩
        subst S1
        repeat (first | refine ga_ ?_ | intro _)
        refine ⟨s1, ?_, ?_, weak_of ?_ rfl ?_⟩
        · have h1 := ha.ok.good.len
          have h2 := ha.le
          have e2 : s0.m = st.m := by rw [hs0]
          have e3 : s0.more = false := by rw [hs0]
          rw [e2] at h2
          rw [h]
          simp only [if_true]
          by_cases h3 : s1.more = true
          · have h4 := ha.lt h3
            rw [e3, e2] at h4
            rcases h4 with h4 | h4
            · cases h4
            · rw [if_pos h3]; omega
          · rw [if_neg h3]; omega
        · refine ⟨ha.ok, fun hf => ?_⟩
          rcases hm with hm | ⟨e1, hm⟩
          · rw [hm] at hf; cases hf
          · rw [e1]; exact ⟨hk, hm⟩
        · repeat (first | exact trivial | refine ⟨AVle.refl _, ?_⟩ | refine ⟨AVle.tk, ?_⟩ | refine ⟨AVle.nil, ?_⟩ | refine ⟨AVle.nilFull, ?_⟩ | refine ⟨AVle.eq (congrArg (AV.int .i64) (by first | (simp; done) | (simp; omega) | (rw [wrap_i64 (by first | omega | (simp; omega))]; first | rfl | omega | (simp; done) | (simp; omega)))), ?_⟩)
        · repeat (first | exact SLe.rfl | refine SLe.tail ?_ | refine SLe.full ?_)
      · rw [ht]
        have hc2 : c = 51 ∨ c = 52 ∨ c = 53 := by unfold isE at hc; omega
        have kc := code_ok e (TY q mb d s1 (.cells p (cRu r) :: R)) hEs.cons.cons.cons hc
        rcases hc2 with rfl | rfl | rfl
        · repeat (first | refine go_ ?_ | intro _)
          refine Or.inl ⟨⟨_, Tryd.func34, rfl, rfl⟩, ACall.mono ?_ (kp)⟩
          rintro _ S1 ⟨rfl, hS1⟩
          subst S1
          repeat (first | refine ga_ ?_ | intro _)
          refine Or.inl ⟨⟨_, Tryd.func35, rfl, rfl⟩, ACall.mono ?_ (kc)⟩
          rintro _ S1 ⟨rfl, hS1⟩
          subst S1
          repeat (first | refine ga_ ?_ | intro _)
          refine AW_ret ?_
          repeat (first | refine ⟨0, rfl, ?_⟩ | refine ⟨1, rfl, ?_⟩ | refine ⟨2, rfl, ?_⟩ | refine ⟨3, rfl, ?_⟩ | refine ⟨4, rfl, ?_⟩ | refine ⟨5, rfl, ?_⟩ | refine ⟨6, rfl, ?_⟩)
          refine ⟨_, R, ?_, (by repeat (first | exact SLe.rfl | refine SLe.tail ?_)), rfl, rfl⟩
          exact AVle.tup ⟨AVle.nil, AVle.refl _, trivial⟩
        · repeat (first | refine go_ ?_ | intro _)
          refine Or.inl ⟨⟨_, Tryd.func34, rfl, rfl⟩, ACall.mono ?_ (kp)⟩
          rintro _ S1 ⟨rfl, hS1⟩
          subst S1
          repeat (first | refine ga_ ?_ | intro _)
          refine Or.inl ⟨⟨_, Tryd.func35, rfl, rfl⟩, ACall.mono ?_ (kc)⟩
          rintro _ S1 ⟨rfl, hS1⟩
          subst S1
          repeat (first | refine ga_ ?_ | intro _)
          refine AW_ret ?_
          repeat (first | refine ⟨0, rfl, ?_⟩ | refine ⟨1, rfl, ?_⟩ | refine ⟨2, rfl, ?_⟩ | refine ⟨3, rfl, ?_⟩ | refine ⟨4, rfl, ?_⟩ | refine ⟨5, rfl, ?_⟩ | refine ⟨6, rfl, ?_⟩)
          refine ⟨_, R, ?_, (by repeat (first | exact SLe.rfl | refine SLe.tail ?_)), rfl, rfl⟩
          exact AVle.tup ⟨AVle.nil, AVle.refl _, trivial⟩
        · repeat (first | refine go_ ?_ | intro _)
          refine Or.inl ⟨⟨_, Tryd.func34, rfl, rfl⟩, ACall.mono ?_ (kp)⟩
          rintro _ S1 ⟨rfl, hS1⟩
          subst S1
          repeat (first | refine ga_ ?_ | intro _)
          refine Or.inl ⟨⟨_, Tryd.func35, rfl, rfl⟩, ACall.mono ?_ (kc)⟩
          rintro _ S1 ⟨rfl, hS1⟩
          subst S1
          repeat (first | refine ga_ ?_ | intro _)
          refine AW_ret ?_
          repeat (first | refine ⟨0, rfl, ?_⟩ | refine ⟨1, rfl, ?_⟩ | refine ⟨2, rfl, ?_⟩ | refine ⟨3, rfl, ?_⟩ | refine ⟨4, rfl, ?_⟩ | refine ⟨5, rfl, ?_⟩ | refine ⟨6, rfl, ?_⟩)
          refine ⟨_, R, ?_, (by repeat (first | exact SLe.rfl | refine SLe.tail ?_)), rfl, rfl⟩
          exact AVle.tup ⟨AVle.nil, AVle.refl _, trivial⟩
    · obtain ⟨hk, hS⟩ := hsol h
      have hU := hok.under
      have kv := vars_ok b o r (TY q mb d st (.cells p (cRu r) :: R)) (.tail _ (.tail _ (.tail _ hE0))) hf
      obtain ⟨V, hV⟩ : ∃ V, V = varsR r := ⟨_, rfl⟩
      rw [← hV] at kv hVl ⊢
      repeat (first | refine go_ ?_ | intro _)
      refine Or.inl ⟨⟨_, Tryd.func14, rfl, rfl⟩, ACall.mono ?_ (kv)⟩
      rintro _ S1 ⟨rfl, hS1⟩
      subst S1
      repeat (first | refine go_ ?_ | intro _)
      refine AW_for (α := Nat × Tk) (fun z => ⟨[(3, .ptr p 0), (6, .ptr q 0), (8, .sl 1 ((V.take z.1).map fun s => encI (st.g s)) z.2), (36, .sl 1 (V.map AV.str) .no), (37, .int .i64 (V.length : Nat)), (38, .int .i64 (z.1 : Nat))], []⟩) (fun z => .grow z.2 :: TY q mb d st (.cells p (cRu r) :: R)) (fun z => V.length - z.1) (fun z => z.1 ≤ V.length ∧ ∀ (i : Nat) (hi : i < V.length), i < z.1 → st.g V[i] ≠ 0) ((0, .full)) ?_ (weak_of ?_ rfl ?_) (fun z hz => ?_)
      · exact ⟨Nat.zero_le _, fun i _ h => by omega⟩
      · repeat (first | exact trivial | refine ⟨(AVle.eq (congrArg (AV.int .i64) (by simp))), ?_⟩ | refine ⟨AVle.refl _, ?_⟩ | refine ⟨AVle.tk, ?_⟩ | refine ⟨AVle.nil, ?_⟩ | refine ⟨AVle.nilFull, ?_⟩ | refine ⟨AVle.eq (congrArg (AV.int .i64) (by first | (simp; done) | (simp; omega) | (rw [wrap_i64 (by first | omega | (simp; omega))]; first | rfl | omega | (simp; done) | (simp; omega)))), ?_⟩)
      · exact SLe.full SLe.rfl
      obtain ⟨z, tk⟩ := z
      obtain ⟨i1, i2⟩ : z ≤ V.length ∧ ∀ (i : Nat) (hi : i < V.length), i < z → st.g V[i] ≠ 0 := hz
      repeat (first | refine go_ ?_ | intro _)
      refine AW_iff (z < V.length) rfl (by first | (simp; done) | (simp <;> omega) | decide) (fun h => ?_) (fun h => ?_)
      · have hlt := h
        obtain ⟨s, hs⟩ : ∃ s, s = V[z] := ⟨_, rfl⟩
        have hm : s ∈ V := hs ▸ List.getElem_mem hlt
        repeat (first | refine go_ ?_ | intro _)
        refine at_map (z) (by first | rfl | omega | (rw [wrap_i64 (by omega)]; omega)) (by first | assumption | omega) ?_
        rw [← hs]
        repeat (first | refine go_ ?_ | intro _)
        refine ⟨_, _, _, 2, _, rfl, rfl, zero_int, rfl, _, mget_encM s st.m, ?_⟩
        repeat (first | refine go_ ?_ | intro _)
        refine AW_iff (getM s st.m = 0) rfl (by first | (simp; done) | (simp <;> omega) | decide) (fun h => ?_) (fun h => ?_)
        · have ht : typesV V d r = ([], 53) := types_zero hr hk (sol_dv hS) hm h
          repeat (first | refine go_ ?_ | intro _)
          refine AW_ret ?_
          repeat (first | refine ⟨0, rfl, ?_⟩ | refine ⟨1, rfl, ?_⟩ | refine ⟨2, rfl, ?_⟩ | refine ⟨3, rfl, ?_⟩ | refine ⟨4, rfl, ?_⟩ | refine ⟨5, rfl, ?_⟩ | refine ⟨6, rfl, ?_⟩)
          refine ⟨_, R, ?_, (by repeat (first | exact SLe.rfl | refine SLe.tail ?_)), rfl, rfl⟩
          rw [ht]
          exact AVle.tup ⟨AVle.nil, AVle.refl _, trivial⟩
        · have hn := h
          repeat (first | refine go_ ?_ | intro _)
          refine ⟨_, _, _, 2, _, rfl, rfl, zero_int, rfl, _, mget_encM s st.m, ?_⟩
          repeat (first | refine go_ ?_ | intro _)
          refine ⟨room (by first | omega | (simp; done) | (simp; omega) | (simp at *; done) | (simp at *; omega)) rfl, .inl rfl, .inr (.inl ⟨rfl, 0, rfl, (V.take (z + 1)).map fun s => encI (st.g s), (by rw [List.take_add_one, List.getElem?_eq_getElem hlt, ← hs, Option.toList_some, List.map_append]; rfl), fun t1 => ?_⟩)⟩
          repeat (first | refine go_ ?_ | intro _)
          refine ⟨(z + 1, t1), ?_, ?_, weak_of ?_ rfl ?_⟩
          · exact Nat.sub_lt_sub_left hlt (Nat.lt_succ_self z)
          · refine ⟨hlt, fun i hi hiz => ?_⟩
            by_cases hc : i < z
            · exact i2 i hi hc
            · have : i = z := by have := hiz; simp only [] at this; omega
              subst this
              rw [← hs]; exact hn
          · repeat (first | exact trivial | refine ⟨AVle.refl _, ?_⟩ | refine ⟨AVle.tk, ?_⟩ | refine ⟨AVle.nil, ?_⟩ | refine ⟨AVle.nilFull, ?_⟩ | refine ⟨AVle.eq (congrArg (AV.int .i64) (by first | (simp; done) | (simp; omega) | (rw [wrap_i64 (by first | omega | (simp; omega))]; first | rfl | omega | (simp; done) | (simp; omega)))), ?_⟩)
          · repeat (first | exact SLe.rfl | refine SLe.tail ?_ | refine SLe.full ?_)
      · have hz' : z = V.length := by omega
        have hn : ∀ s ∈ V, st.g s ≠ 0 := fun s hs => by
          obtain ⟨i, hi, rfl⟩ := List.mem_iff_getElem.1 hs
          exact i2 i hi (by omega)
        have ht := types_sol (V := V) hr hk hU hS hn
        repeat (first | refine go_ ?_ | intro _)
        refine AW_ret ?_
        repeat (first | refine ⟨0, rfl, ?_⟩ | refine ⟨1, rfl, ?_⟩ | refine ⟨2, rfl, ?_⟩ | refine ⟨3, rfl, ?_⟩ | refine ⟨4, rfl, ?_⟩ | refine ⟨5, rfl, ?_⟩ | refine ⟨6, rfl, ?_⟩)
        refine ⟨_, R, ?_, (by repeat (first | exact SLe.rfl | refine SLe.tail ?_)), rfl, rfl⟩
        rw [ht]
        refine AVle.tup ⟨AVle.slEq ?_, AVle.refl _, trivial⟩
        show ((V.take z).map fun s => encI (st.g s)) = (V.map st.g).map encI
        rw [hz', List.take_length, List.map_map]; rfl
end Go.Proofs.YtkmalncnaodkiaaDoor
/-
  Types by the book: what is learned of a term, an atom, a part. Own work.
-/
namespace Go.Proofs.YtkmalncnaodkiaaDoor
open Go.Aw Go.RowKit
set_option maxHeartbeats 4000000

theorem place_at {V : List Key} {s : Key} (h : s ∈ V) : ∃ i : Nat, placeI V s = (i : Int) ∧ i < V.length ∧ ∀ ts : List Int, ts.length = V.length → ∃ hi : i < ts.length, gB V ts s = ts[i] ∧ ∀ k, putB V s k ts = ts.set i k := by
  obtain ⟨i, h1, h2, _⟩ := idx_mem h
  refine ⟨i, by unfold placeI idxB; rw [h1], h2, fun ts ht => ⟨by omega, ?_, fun k => by unfold putB; rw [h1]⟩⟩
  unfold gB; rw [h1]
  simp [List.getD_eq_getElem?_getD, ht, h2]
theorem encI_get {ts : List Int} {i : Nat} (h : i < ts.length) : (ts.map encI)[i]? = some (encI ts[i]) := by simp [h]
theorem encI_set (ts : List Int) (i : Nat) (k : Int) : (ts.map encI).set i (encI k) = (ts.set i k).map encI := by rw [List.map_set]

/-- variables of a term are of V -/
def inV (V : List Key) (t : T) : Prop := ∀ u ∈ termsT t, u.op = 1 → u.s ∈ V
theorem inV.self {V : List Key} {t : T} (h : inV V t) (h1 : t.op = 1) : t.s ∈ V := h t (termsT_self t) h1
theorem inV.sub {V : List Key} {t x : T} (h : inV V t) (hx : x ∈ t.l) : inV V x := fun u hu h1 => h u (by rw [termsT_eq, termsTs_flat]; exact .tail _ (List.mem_flatMap.2 ⟨x, hx, hu⟩)) h1

abbrev MB (b : Nat) (ts : List Int) (R : List En) : List En := .cells b (ts.map encI) :: R
def encV (V : List Key) : AV := .sl 1 (V.map AV.str) .no

theorem typeOf_ok (V : List Key) (hV : V.length ≤ 1000000) (ts : List Int) (ht : ts.length = V.length) (b : Nat) (t : T) (R : List En) (hv : inV V t) :
    ACall Tryd.prog 63 [encU t, encV V, .msl b 0 V.length V.length] (MB b ts R) (fun v S => v = .int .i64 (tyOf (gB V ts) t) ∧ S = MB b ts R) := by
  refine ACall_body tab_ok Tryd.func63 rfl rfl rfl (by kernel_rfl) (Nat.le_of_ble_eq_true rfl) ?_
  repeat (first | refine go_ ?_ | intro _)
  rename_i p
  refine AW_iff (t.op = 1) rfl (by first | (simp; done) | (simp <;> omega) | decide) (fun h => ?_) (fun h => ?_)
  · obtain ⟨i, e1, e2, e3⟩ := place_at (hv.self h)
    obtain ⟨hi, e4, _⟩ := e3 ts ht
    have kp := fun R => place_ok V t.s R hV
    rw [e1] at kp
    repeat (first | refine go_ ?_ | intro _)
    refine Or.inl ⟨⟨_, Tryd.func53, rfl, rfl⟩, ACall.mono ?_ (kp _)⟩
    rintro _ S1 ⟨rfl, hS1⟩
    subst S1
    repeat (first | refine go_ ?_ | intro _)
    refine at_msl (i) (i) (by first | rfl | omega | (rw [wrap_i64 (by first | omega | (simp; omega))]; first | rfl | omega | (simp; omega))) (by first | assumption | omega) (by show _ + _ * 1 = _; omega) ?_
    repeat (first | refine go_ ?_ | intro _)
    refine load_one (encI ts[i]) rfl rfl (encI_get hi) ?_
    repeat (first | refine go_ ?_ | intro _)
    refine AW_ret ?_
    repeat (first | refine ⟨0, rfl, ?_⟩ | refine ⟨1, rfl, ?_⟩ | refine ⟨2, rfl, ?_⟩ | refine ⟨3, rfl, ?_⟩ | refine ⟨4, rfl, ?_⟩ | refine ⟨5, rfl, ?_⟩ | refine ⟨6, rfl, ?_⟩)
    refine ⟨_, MB b ts R, AVle.eq ?_, (by repeat (first | exact SLe.rfl | refine SLe.tail ?_)), rfl, rfl⟩
    exact congrArg (AV.int .i64) (show ts[i] = tyOf (gB V ts) t by rw [tyOf_var h, e4])
  have h1 := h
  repeat (first | refine go_ ?_ | intro _)
  refine AW_iff (t.op = 3) rfl (by first | (simp; done) | (simp <;> omega) | decide) (fun h => ?_) (fun h => ?_)
  · repeat (first | refine go_ ?_ | intro _)
    refine AW_ret ?_
    repeat (first | refine ⟨0, rfl, ?_⟩ | refine ⟨1, rfl, ?_⟩ | refine ⟨2, rfl, ?_⟩ | refine ⟨3, rfl, ?_⟩ | refine ⟨4, rfl, ?_⟩ | refine ⟨5, rfl, ?_⟩ | refine ⟨6, rfl, ?_⟩)
    refine ⟨_, MB b ts R, AVle.eq ?_, (by repeat (first | exact SLe.rfl | refine SLe.tail ?_)), rfl, rfl⟩
    exact congrArg (AV.int .i64) (show (2 : Int) = tyOf (gB V ts) t by rw [tyOf, if_neg h1, if_pos h])
  have h3 := h
  repeat (first | refine go_ ?_ | intro _)
  refine AW_iff (t.op = 4) rfl (by first | (simp; done) | (simp <;> omega) | decide) (fun h => ?_) (fun h => ?_)
  · repeat (first | refine go_ ?_ | intro _)
    refine AW_ret ?_
    repeat (first | refine ⟨0, rfl, ?_⟩ | refine ⟨1, rfl, ?_⟩ | refine ⟨2, rfl, ?_⟩ | refine ⟨3, rfl, ?_⟩ | refine ⟨4, rfl, ?_⟩ | refine ⟨5, rfl, ?_⟩ | refine ⟨6, rfl, ?_⟩)
    refine ⟨_, MB b ts R, AVle.eq ?_, (by repeat (first | exact SLe.rfl | refine SLe.tail ?_)), rfl, rfl⟩
    exact congrArg (AV.int .i64) (show (0 : Int) = tyOf (gB V ts) t by rw [tyOf, if_neg h1, if_neg h3, if_pos h])
  have h4 := h
  repeat (first | refine go_ ?_ | intro _)
  refine AW_ret ?_
  repeat (first | refine ⟨0, rfl, ?_⟩ | refine ⟨1, rfl, ?_⟩ | refine ⟨2, rfl, ?_⟩ | refine ⟨3, rfl, ?_⟩ | refine ⟨4, rfl, ?_⟩ | refine ⟨5, rfl, ?_⟩ | refine ⟨6, rfl, ?_⟩)
  refine ⟨_, MB b ts R, AVle.eq ?_, (by repeat (first | exact SLe.rfl | refine SLe.tail ?_)), rfl, rfl⟩
  exact congrArg (AV.int .i64) (show (1 : Int) = tyOf (gB V ts) t by rw [tyOf, if_neg h1, if_neg h3, if_neg h4])

theorem teach1_len (V : List Key) (q : T × Int) (ts : List Int) : (teach1 V q ts).2.length = ts.length := by
  unfold teach1; split
  · unfold putB; split
    · simp
    · rfl
  · rfl
theorem teach_len (V : List Key) : ∀ (L : List (T × Int)) (ts : List Int), (teach V L ts).2.length = ts.length
  | [], ts => rfl
  | q :: r, ts => by rw [teach]; exact (teach_len V r _).trans (teach1_len V q ts)
theorem teach_one (V : List Key) (q : T × Int) (ts : List Int) : teach V [q] ts = teach1 V q ts := by
  rw [teach, teach]; simp
theorem teach_snoc {V : List Key} {a b : List (T × Int)} {ts ts1 ts2 : List Int} {m1 m2 : Bool} (h1 : teach V a ts = (m1, ts1)) (h2 : teach V b ts1 = (m2, ts2)) : teach V (a ++ b) ts = (m1 || m2, ts2) := by
  rw [teach_append, h1, h2]
theorem learn_ok (V : List Key) (hV : V.length ≤ 1000000) (b : Nat) : ∀ (n : Nat) (R : List En), n ≤ 2000 → ∀ (t : T) (k : Int) (ts : List Int), (termsT t).length ≤ n → goodT t → inV V t → ts.length = V.length →
    ACall Tryd.prog 62 [encU t, .int .i64 k, encV V, .msl b 0 V.length V.length] (MB b ts R) (fun v S => v = .bool (teach V (wantsT t k) ts).1 ∧ S = MB b (teach V (wantsT t k) ts).2 R) := by
  intro n
  induction n with
  | zero => intro R _ t k ts h; have := termsT_pos t; omega
  | succ n ih =>
  intro R hn t k ts hc hgt hv ht
  have hc2 : (termsTs t.l).length ≤ n := by rw [termsT_eq, List.length_cons] at hc; omega
  have hll := termsTs_le t.l
  refine ACall_body tab_ok Tryd.func62 rfl rfl rfl (by kernel_rfl) (Nat.le_of_ble_eq_true rfl) ?_
  repeat (first | refine go_ ?_ | intro _)
  rename_i p
  refine AW_iff (t.op = 1) rfl (by first | (simp; done) | (simp <;> omega) | decide) (fun h => ?_) (fun h => ?_)
  · have h1 := h
    obtain ⟨i, e1, e2, e3⟩ := place_at (hv.self h)
    obtain ⟨hi, e4, e5⟩ := e3 ts ht
    have kp := fun R => place_ok V t.s R hV
    rw [e1] at kp
    have ew : teach V (wantsT t k) ts = teach1 V (t, k) ts := by
      rw [wantsT_eq, hgt.var h1]
      exact teach_one V (t, k) ts
    rw [ew]
    unfold teach1
    simp only []
    repeat (first | refine go_ ?_ | intro _)
    refine Or.inl ⟨⟨_, Tryd.func53, rfl, rfl⟩, ACall.mono ?_ (kp _)⟩
    rintro _ S1 ⟨rfl, hS1⟩
    subst S1
    repeat (first | refine go_ ?_ | intro _)
    refine gsplit (k = 0) (by first | (simp; done) | (simp <;> omega) | decide) (fun h => ?_) (fun h => ?_)
    · rw [if_neg (fun h' => h'.2.1 h)]
      repeat (first | refine ga_ ?_ | intro _)
      refine AW_ret ?_
      repeat (first | refine ⟨0, rfl, ?_⟩ | refine ⟨1, rfl, ?_⟩ | refine ⟨2, rfl, ?_⟩ | refine ⟨3, rfl, ?_⟩ | refine ⟨4, rfl, ?_⟩ | refine ⟨5, rfl, ?_⟩ | refine ⟨6, rfl, ?_⟩)
      refine ⟨_, MB b ts R, AVle.eq ?_, (by repeat (first | exact SLe.rfl | refine SLe.tail ?_)), rfl, rfl⟩
      rfl
    have hk := h
    repeat (first | refine ga_ ?_ | intro _)
    refine at_msl (i) (i) (by first | rfl | omega | (rw [wrap_i64 (by first | omega | (simp; omega))]; first | rfl | omega | (simp; omega))) (by first | assumption | omega) (by show _ + _ * 1 = _; omega) ?_
    repeat (first | refine ga_ ?_ | intro _)
    refine load_one (encI ts[i]) rfl rfl (encI_get hi) ?_
    repeat (first | refine ga_ ?_ | intro _)
    refine AW_iff (¬ ts[i] = 0) rfl (by first | (simp; done) | (simp <;> omega) | decide) (fun h => ?_) (fun h => ?_)
    · rw [if_neg (fun h' => h (by rw [← e4]; exact h'.2.2))]
      repeat (first | refine ga_ ?_ | intro _)
      refine AW_ret ?_
      repeat (first | refine ⟨0, rfl, ?_⟩ | refine ⟨1, rfl, ?_⟩ | refine ⟨2, rfl, ?_⟩ | refine ⟨3, rfl, ?_⟩ | refine ⟨4, rfl, ?_⟩ | refine ⟨5, rfl, ?_⟩ | refine ⟨6, rfl, ?_⟩)
      refine ⟨_, MB b ts R, AVle.eq ?_, (by repeat (first | exact SLe.rfl | refine SLe.tail ?_)), rfl, rfl⟩
      rfl
    · rw [if_pos ⟨h1, hk, by rw [e4]; exact Decidable.not_not.1 h⟩, e5]
      repeat (first | refine ga_ ?_ | intro _)
      refine at_msl (i) (i) (by first | rfl | omega | (rw [wrap_i64 (by first | omega | (simp; omega))]; first | rfl | omega | (simp; omega))) (by first | assumption | omega) (by show _ + _ * 1 = _; omega) ?_
      repeat (first | refine ga_ ?_ | intro _)
      refine store_one (encI k) ((ts.set i k).map encI) rfl rfl (by simp; omega) (encI_set ts i k) ?_
      repeat (first | refine ga_ ?_ | intro _)
      refine AW_ret ?_
      repeat (first | refine ⟨0, rfl, ?_⟩ | refine ⟨1, rfl, ?_⟩ | refine ⟨2, rfl, ?_⟩ | refine ⟨3, rfl, ?_⟩ | refine ⟨4, rfl, ?_⟩ | refine ⟨5, rfl, ?_⟩ | refine ⟨6, rfl, ?_⟩)
      refine ⟨_, MB b (ts.set i k) R, AVle.eq ?_, (by repeat (first | exact SLe.rfl | refine SLe.tail ?_)), rfl, rfl⟩
      rfl
  · have h1 := h
    repeat (first | refine go_ ?_ | intro _)
    refine AW_for (α := Nat × List Int × Bool) (fun z => ⟨[(1, .int .i64 k), (2, encV V), (3, .msl b 0 V.length V.length), (4, .ptr p 0), (10, .bool z.2.2), (11, .int .i64 (z.1 : Nat))], []⟩) (fun z => .cells p (cT t) :: MB b z.2.1 R) (fun z => t.l.length - z.1) (fun z => z.1 ≤ t.l.length ∧ teach V (wantsTs (t.l.take z.1)) ts = (z.2.2, z.2.1)) ((0, ts, false)) ?_ (weak_of ?_ rfl ?_) (fun z hz => ?_)
    · exact ⟨Nat.zero_le _, rfl⟩
    · repeat (first | exact trivial | refine ⟨AVle.refl _, ?_⟩ | refine ⟨AVle.tk, ?_⟩ | refine ⟨AVle.nil, ?_⟩ | refine ⟨AVle.nilFull, ?_⟩ | refine ⟨AVle.eq (congrArg (AV.int .i64) (by first | (simp; done) | (simp; omega) | (rw [wrap_i64 (by first | omega | (simp; omega))]; first | rfl | omega | (simp; done) | (simp; omega)))), ?_⟩)
    · repeat (first | exact SLe.rfl | refine SLe.tail ?_ | refine SLe.full ?_)
    obtain ⟨z, t1, m1⟩ := z
    obtain ⟨i1, i2⟩ : z ≤ t.l.length ∧ teach V (wantsTs (t.l.take z)) ts = (m1, t1) := hz
    have ht1 : t1.length = V.length := by have := teach_len V (wantsTs (t.l.take z)) ts; rw [i2] at this; exact this.trans ht
    repeat (first | refine go_ ?_ | intro _)
    refine AW_iff (z < t.l.length) rfl (by first | (simp; done) | (simp <;> omega) | decide) (fun h => ?_) (fun h => ?_)
    · have hlt := h
      obtain ⟨x, hx⟩ : ∃ x, x = t.l[z] := ⟨_, rfl⟩
      have hm : x ∈ t.l := hx ▸ List.getElem_mem hlt
      have h2 := termsTs_at hm
      have hs := wantsTs_take hlt
      rw [← hx] at hs
      have kw := ih (.cells p (cT t) :: R) (by omega) x 1 t1 (by omega) (hgt.sub hm) (hv.sub hm) ht1
      obtain ⟨m2, t2, hr⟩ : ∃ b s, teach V (wantsT x 1) t1 = (b, s) := ⟨_, _, rfl⟩
      rw [hr] at kw
      have kw2 : ACall Tryd.prog 62 [encU x, .int .i64 1, encV V, .msl b 0 V.length V.length] (.cells p (cT t) :: MB b t1 R) (fun v S => v = .bool m2 ∧ S = .cells p (cT t) :: MB b t2 R) :=
        ACall_at [.cells p (cT t)] (X := MB b t1 []) (Y := MB b t2 []) (R := R) kw
      have e2 : teach V (wantsTs (t.l.take (z + 1))) ts = (m1 || m2, t2) := by rw [hs, teach_snoc i2 hr]
      repeat (first | refine go_ ?_ | intro _)
      refine at_get (z) (encU x) (by first | rfl | omega | (rw [wrap_i64 (by omega)]; omega)) (by rw [hx]; exact encTs_get hlt) ?_
      repeat (first | refine go_ ?_ | intro _)
      refine Or.inl ⟨⟨_, Tryd.func62, rfl, rfl⟩, ACall.mono ?_ (kw2)⟩
      rintro _ S1 ⟨rfl, hS1⟩
      subst S1
      cases m1 with
      | true =>
        repeat (first | refine ga_ ?_ | intro _)
        refine ⟨(z + 1, t2, true), ?_, ?_, weak_of ?_ rfl ?_⟩
        · exact Nat.sub_lt_sub_left hlt (Nat.lt_succ_self z)
        · exact ⟨hlt, e2⟩
        · repeat (first | exact trivial | refine ⟨AVle.refl _, ?_⟩ | refine ⟨AVle.tk, ?_⟩ | refine ⟨AVle.nil, ?_⟩ | refine ⟨AVle.nilFull, ?_⟩ | refine ⟨AVle.eq (congrArg (AV.int .i64) (by first | (simp; done) | (simp; omega) | (rw [wrap_i64 (by first | omega | (simp; omega))]; first | rfl | omega | (simp; done) | (simp; omega)))), ?_⟩)
        · repeat (first | exact SLe.rfl | refine SLe.tail ?_ | refine SLe.full ?_)
      | false =>
        repeat (first | refine ga_ ?_ | intro _)
        refine ⟨(z + 1, t2, m2), ?_, ?_, weak_of ?_ rfl ?_⟩
        · exact Nat.sub_lt_sub_left hlt (Nat.lt_succ_self z)
        · exact ⟨hlt, by rw [e2]; rfl⟩
        · repeat (first | exact trivial | refine ⟨AVle.refl _, ?_⟩ | refine ⟨AVle.tk, ?_⟩ | refine ⟨AVle.nil, ?_⟩ | refine ⟨AVle.nilFull, ?_⟩ | refine ⟨AVle.eq (congrArg (AV.int .i64) (by first | (simp; done) | (simp; omega) | (rw [wrap_i64 (by first | omega | (simp; omega))]; first | rfl | omega | (simp; done) | (simp; omega)))), ?_⟩)
        · repeat (first | exact SLe.rfl | refine SLe.tail ?_ | refine SLe.full ?_)
    · have hz' : z = t.l.length := by omega
      rw [hz', List.take_length] at i2
      have e2 : teach V (wantsT t k) ts = (m1, t1) := by
        have : teach V [(t, k)] t1 = (false, t1) := by
          rw [teach_one]; unfold teach1; exact if_neg (fun h => h1 h.1)
        rw [wantsT_eq, teach_snoc i2 this, Bool.or_false]
      rw [e2]
      repeat (first | refine go_ ?_ | intro _)
      refine AW_ret ?_
      repeat (first | refine ⟨0, rfl, ?_⟩ | refine ⟨1, rfl, ?_⟩ | refine ⟨2, rfl, ?_⟩ | refine ⟨3, rfl, ?_⟩ | refine ⟨4, rfl, ?_⟩ | refine ⟨5, rfl, ?_⟩ | refine ⟨6, rfl, ?_⟩)
      refine ⟨_, MB b t1 R, AVle.eq ?_, (by repeat (first | exact SLe.rfl | refine SLe.tail ?_)), rfl, rfl⟩
      rfl
end Go.Proofs.YtkmalncnaodkiaaDoor
/-
  Types by the book: atoms and parts, learned of and held against types. Own work.
-/
namespace Go.Proofs.YtkmalncnaodkiaaDoor
open Go.Aw Go.RowKit
set_option maxHeartbeats 4000000

theorem known_ok (d : List De) (a : At) (R : List En) (hd : d.length ≤ 1000) (hc : (termsTs a.l).length ≤ 2000) : ACall Tryd.prog 37 [.sl 6 (d.map encD) .no, encA a] R (fun v S => v = .int .i64 (knownA d a) ∧ S = R) := by
  have hll := termsTs_le a.l
  have kf := fun R => refFind_ok d a.rel R hd
  cases hi : findI d a.rel with
  | none =>
    have hN : findN d a.rel = 0 := by unfold findN; rw [hi]; rfl
    have hB : findB d a.rel = false := by unfold findB; rw [hi]; rfl
    have hk : knownA d a = 51 := by unfold knownA; rw [hi]
    rw [hN, hB] at kf
    rw [hk]
    refine ACall_body tab_ok Tryd.func37 rfl rfl rfl (by kernel_rfl) (Nat.le_of_ble_eq_true rfl) ?_
    repeat (first | refine go_ ?_ | intro _)
    refine Or.inl ⟨⟨_, Tryd.func12, rfl, rfl⟩, ACall.mono ?_ (kf _)⟩
    rintro _ S1 ⟨rfl, hS1⟩
    subst S1
    repeat (first | refine ga_ ?_ | intro _)
    refine AW_ret ?_
    repeat (first | refine ⟨0, rfl, ?_⟩ | refine ⟨1, rfl, ?_⟩ | refine ⟨2, rfl, ?_⟩ | refine ⟨3, rfl, ?_⟩ | refine ⟨4, rfl, ?_⟩ | refine ⟨5, rfl, ?_⟩ | refine ⟨6, rfl, ?_⟩)
    refine ⟨_, R, AVle.eq ?_, (by repeat (first | exact SLe.rfl | refine SLe.tail ?_)), rfl, rfl⟩
    rfl
  | some i =>
    have hN : findN d a.rel = i := by unfold findN; rw [hi]; rfl
    have hB : findB d a.rel = true := by unfold findB; rw [hi]; rfl
    have hil := findI_lt hi
    obtain ⟨x, hx⟩ : ∃ x, x = d[i] := ⟨_, rfl⟩
    have hty : typesAt d i = x.types := by rw [typesAt_get hil, hx]
    have hk : knownA d a = if x.types.length = a.l.length then 0 else 52 := by unfold knownA; rw [hi]; simp only []; rw [hty]
    rw [hN, hB] at kf
    rw [hk]
    refine ACall_body tab_ok Tryd.func37 rfl rfl rfl (by kernel_rfl) (Nat.le_of_ble_eq_true rfl) ?_
    repeat (first | refine go_ ?_ | intro _)
    refine Or.inl ⟨⟨_, Tryd.func12, rfl, rfl⟩, ACall.mono ?_ (kf _)⟩
    rintro _ S1 ⟨rfl, hS1⟩
    subst S1
    repeat (first | refine ga_ ?_ | intro _)
    refine AW_draw tab_ok mixed 10 (by first | rfl | kernel_rfl) ?_
    repeat (first | refine ga_ ?_ | intro _)
    refine at_map (i) (by first | rfl | omega | (rw [wrap_i64 (by omega)]; omega)) (by first | assumption | omega) ?_
    rw [← hx]
    repeat (first | refine ga_ ?_ | intro _)
    refine AW_iff (¬ x.types.length = a.l.length) rfl (by first | (simp; done) | (simp <;> omega) | decide) (fun h => ?_) (fun h => ?_)
    · rw [if_neg h]
      repeat (first | refine ga_ ?_ | intro _)
      refine AW_ret ?_
      repeat (first | refine ⟨0, rfl, ?_⟩ | refine ⟨1, rfl, ?_⟩ | refine ⟨2, rfl, ?_⟩ | refine ⟨3, rfl, ?_⟩ | refine ⟨4, rfl, ?_⟩ | refine ⟨5, rfl, ?_⟩ | refine ⟨6, rfl, ?_⟩)
      refine ⟨_, R, AVle.eq ?_, (by repeat (first | exact SLe.rfl | refine SLe.tail ?_)), rfl, rfl⟩
      rfl
    · rw [if_pos (Decidable.not_not.1 h)]
      repeat (first | refine ga_ ?_ | intro _)
      refine AW_ret ?_
      repeat (first | refine ⟨0, rfl, ?_⟩ | refine ⟨1, rfl, ?_⟩ | refine ⟨2, rfl, ?_⟩ | refine ⟨3, rfl, ?_⟩ | refine ⟨4, rfl, ?_⟩ | refine ⟨5, rfl, ?_⟩ | refine ⟨6, rfl, ?_⟩)
      refine ⟨_, R, AVle.eq ?_, (by repeat (first | exact SLe.rfl | refine SLe.tail ?_)), rfl, rfl⟩
      rfl

/-- an atom whose relation is there, with as many columns -/
theorem known_at {d : List De} {a : At} (h : knownA d a = 0) : ∃ i : Nat, ∃ hi : i < d.length, findN d a.rel = i ∧ findB d a.rel = true ∧ d[i].types.length = a.l.length ∧ hardA d a = zipW a.l d[i].types := by
  unfold knownA at h
  cases hi : findI d a.rel with
  | none => rw [hi] at h; cases h
  | some i =>
    rw [hi] at h
    simp only [] at h
    have hil := findI_lt hi
    have hty := typesAt_get hil
    rw [hty] at h
    refine ⟨i, hil, by unfold findN; rw [hi]; rfl, by unfold findB; rw [hi]; rfl, ?_, ?_⟩
    · split at h
      · assumption
      · cases h
    · unfold hardA colsOf; rw [hi]; simp only []; rw [hty]

theorem learnAtom_ok (V : List Key) (hV : V.length ≤ 1000000) (b : Nat) (d : List De) (a : At) (ts : List Int) (R : List En) (hd : d.length ≤ 1000) (hc : (termsTs a.l).length ≤ 2000) (hk : knownA d a = 0) (hg : ∀ t ∈ a.l, goodT t) (hv : ∀ t ∈ a.l, inV V t) (ht : ts.length = V.length) :
    ACall Tryd.prog 38 [.sl 6 (d.map encD) .no, encA a, encV V, .msl b 0 V.length V.length] (MB b ts R) (fun v S => v = .bool (teach V (hardA d a) ts).1 ∧ S = MB b (teach V (hardA d a) ts).2 R) := by
  have hll := termsTs_le a.l
  have kf := fun R => refFind_ok d a.rel R hd
  obtain ⟨i, hil, hN, hB, hle, hcol⟩ := known_at hk
  obtain ⟨x, hx⟩ : ∃ x, x = d[i] := ⟨_, rfl⟩
  rw [← hx] at hle hcol
  rw [hN, hB] at kf
  rw [hcol]
  refine ACall_body tab_ok Tryd.func38 rfl rfl rfl (by kernel_rfl) (Nat.le_of_ble_eq_true rfl) ?_
  repeat (first | refine go_ ?_ | intro _)
  rename_i p
  refine Or.inl ⟨⟨_, Tryd.func12, rfl, rfl⟩, ACall.mono ?_ (kf _)⟩
  rintro _ S1 ⟨rfl, hS1⟩
  subst S1
  repeat (first | refine go_ ?_ | intro _)
  refine AW_for (α := Nat × List Int × Bool) (fun z => ⟨[(0, .sl 6 (d.map encD) .no), (2, encV V), (3, .msl b 0 V.length V.length), (5, .ptr p 0), (9, .int .i64 (i : Nat)), (11, .bool z.2.2), (12, .int .i64 (z.1 : Nat))], []⟩) (fun z => .cells p (cA a) :: MB b z.2.1 R) (fun z => a.l.length - z.1) (fun z => z.1 ≤ a.l.length ∧ teach V (zipW (a.l.take z.1) (x.types.take z.1)) ts = (z.2.2, z.2.1)) ((0, ts, false)) ?_ (weak_of ?_ rfl ?_) (fun z hz => ?_)
  · exact ⟨Nat.zero_le _, rfl⟩
  · repeat (first | exact trivial | refine ⟨AVle.refl _, ?_⟩ | refine ⟨AVle.tk, ?_⟩ | refine ⟨AVle.nil, ?_⟩ | refine ⟨AVle.nilFull, ?_⟩ | refine ⟨AVle.eq (congrArg (AV.int .i64) (by first | (simp; done) | (simp; omega) | (rw [wrap_i64 (by first | omega | (simp; omega))]; first | rfl | omega | (simp; done) | (simp; omega)))), ?_⟩)
  · repeat (first | exact SLe.rfl | refine SLe.tail ?_ | refine SLe.full ?_)
  obtain ⟨z, t1, m1⟩ := z
  obtain ⟨i1, i2⟩ : z ≤ a.l.length ∧ teach V (zipW (a.l.take z) (x.types.take z)) ts = (m1, t1) := hz
  have ht1 : t1.length = V.length := by have := teach_len V (zipW (a.l.take z) (x.types.take z)) ts; rw [i2] at this; exact this.trans ht
  repeat (first | refine go_ ?_ | intro _)
  refine AW_iff (z < a.l.length) rfl (by first | (simp; done) | (simp <;> omega) | decide) (fun h => ?_) (fun h => ?_)
  · have hlt := h
    have hlk : z < x.types.length := by omega
    obtain ⟨u, hu⟩ : ∃ u, u = a.l[z] := ⟨_, rfl⟩
    obtain ⟨k, hk'⟩ : ∃ k, k = x.types[z] := ⟨_, rfl⟩
    have hm : u ∈ a.l := hu ▸ List.getElem_mem hlt
    have h1 := termsTs_at hm
    have hs := zipW_take hlt hlk
    rw [← hu, ← hk'] at hs
    have kw := learn_ok V hV b 2000 (.cells p (cA a) :: R) (by decide) u k t1 (by omega) (hg u hm) (hv u hm) ht1
    obtain ⟨m2, t2, hr⟩ : ∃ b s, teach V (wantsT u k) t1 = (b, s) := ⟨_, _, rfl⟩
    rw [hr] at kw
    have kw2 : ACall Tryd.prog 62 [encU u, .int .i64 k, encV V, .msl b 0 V.length V.length] (.cells p (cA a) :: MB b t1 R) (fun v S => v = .bool m2 ∧ S = .cells p (cA a) :: MB b t2 R) :=
      ACall_at [.cells p (cA a)] (X := MB b t1 []) (Y := MB b t2 []) (R := R) kw
    have e2 : teach V (zipW (a.l.take (z + 1)) (x.types.take (z + 1))) ts = (m1 || m2, t2) := by rw [hs, teach_snoc i2 hr]
    repeat (first | refine go_ ?_ | intro _)
    refine AW_draw tab_ok mixed 15 (by first | rfl | kernel_rfl) ?_
    repeat (first | refine go_ ?_ | intro _)
    refine at_get (z) (encU u) (by first | rfl | omega | (rw [wrap_i64 (by omega)]; omega)) (by rw [hu]; exact encTs_get hlt) ?_
    repeat (first | refine go_ ?_ | intro _)
    refine at_map (i) (by first | rfl | omega | (rw [wrap_i64 (by omega)]; omega)) (by first | assumption | omega) ?_
    rw [← hx]
    repeat (first | refine go_ ?_ | intro _)
    refine at_map (z) (by first | rfl | omega | (rw [wrap_i64 (by omega)]; omega)) (by first | assumption | omega) ?_
    rw [← hk']
    repeat (first | refine go_ ?_ | intro _)
    refine Or.inl ⟨⟨_, Tryd.func62, rfl, rfl⟩, ACall.mono ?_ (kw2)⟩
    rintro _ S1 ⟨rfl, hS1⟩
    subst S1
    cases m1 with
    | true =>
      repeat (first | refine ga_ ?_ | intro _)
      refine ⟨(z + 1, t2, true), ?_, ?_, weak_of ?_ rfl ?_⟩
      · exact Nat.sub_lt_sub_left hlt (Nat.lt_succ_self z)
      · exact ⟨hlt, e2⟩
      · repeat (first | exact trivial | refine ⟨AVle.refl _, ?_⟩ | refine ⟨AVle.tk, ?_⟩ | refine ⟨AVle.nil, ?_⟩ | refine ⟨AVle.nilFull, ?_⟩ | refine ⟨AVle.eq (congrArg (AV.int .i64) (by first | (simp; done) | (simp; omega) | (rw [wrap_i64 (by first | omega | (simp; omega))]; first | rfl | omega | (simp; done) | (simp; omega)))), ?_⟩)
      · repeat (first | exact SLe.rfl | refine SLe.tail ?_ | refine SLe.full ?_)
    | false =>
      repeat (first | refine ga_ ?_ | intro _)
      refine ⟨(z + 1, t2, m2), ?_, ?_, weak_of ?_ rfl ?_⟩
      · exact Nat.sub_lt_sub_left hlt (Nat.lt_succ_self z)
      · exact ⟨hlt, by rw [e2]; rfl⟩
      · repeat (first | exact trivial | refine ⟨AVle.refl _, ?_⟩ | refine ⟨AVle.tk, ?_⟩ | refine ⟨AVle.nil, ?_⟩ | refine ⟨AVle.nilFull, ?_⟩ | refine ⟨AVle.eq (congrArg (AV.int .i64) (by first | (simp; done) | (simp; omega) | (rw [wrap_i64 (by first | omega | (simp; omega))]; first | rfl | omega | (simp; done) | (simp; omega)))), ?_⟩)
      · repeat (first | exact SLe.rfl | refine SLe.tail ?_ | refine SLe.full ?_)
  · have hz' : z = a.l.length := by omega
    rw [hz', zipW_all hle] at i2
    rw [i2]
    repeat (first | refine go_ ?_ | intro _)
    refine AW_ret ?_
    repeat (first | refine ⟨0, rfl, ?_⟩ | refine ⟨1, rfl, ?_⟩ | refine ⟨2, rfl, ?_⟩ | refine ⟨3, rfl, ?_⟩ | refine ⟨4, rfl, ?_⟩ | refine ⟨5, rfl, ?_⟩ | refine ⟨6, rfl, ?_⟩)
    refine ⟨_, MB b t1 R, AVle.eq ?_, (by repeat (first | exact SLe.rfl | refine SLe.tail ?_)), rfl, rfl⟩
    rfl

theorem teach_none {V : List Key} {t : T} (h : noT t = true) (k : Int) (ts : List Int) : teach V (wantsT t k) ts = (false, ts) := by
  unfold noT at h
  simp only [Bool.and_eq_true, decide_eq_true_eq] at h
  rw [wantsT_eq, List.length_eq_zero_iff.1 h.2.2]
  show teach V [(t, k)] ts = _
  rw [teach_one]
  exact if_neg (fun h' => by have := h'.1; simp only [] at this; omega)
theorem learnLit_ok (V : List Key) (hV : V.length ≤ 1000000) (b : Nat) (d : List De) (l : Li) (ts : List Int) (R : List En) (hd : d.length ≤ 1000) (hc : (termsTs (topsL l)).length ≤ 2000) (hk : knownL d l = 0) (hr : rightL l = true) (hv : ∀ t ∈ topsL l, inV V t) (ht : ts.length = V.length) :
    ACall Tryd.prog 39 [.sl 6 (d.map encD) .no, encL l, encV V, .msl b 0 V.length V.length] (MB b ts R) (fun v S => v = .bool (teach V (wantsL d l (gB V ts)) ts).1 ∧ S = MB b (teach V (wantsL d l (gB V ts)) ts).2 R) := by
  have hg := rightL_good hr
  have hx : l.x ∈ topsL l := .head _
  have hy : l.y ∈ topsL l := .tail _ (.head _)
  have et : termsTs (topsL l) = termsT l.x ++ (termsT l.y ++ termsTs l.a.l) := by unfold topsL; rw [termsTs_cons, termsTs_cons]
  have hl := congrArg List.length et
  simp only [List.length_append] at hl
  refine ACall_body tab_ok Tryd.func39 rfl rfl rfl (by kernel_rfl) (Nat.le_of_ble_eq_true rfl) ?_
  repeat (first | refine go_ ?_ | intro _)
  rename_i p
  by_cases hcm : isCmp l = true
  · have hop : (3 : Int) ≤ l.op ∧ l.op ≤ 6 := by
      unfold isCmp at hcm
      simpa only [Bool.and_eq_true, decide_eq_true_eq] using hcm
    have ew : wantsL d l (gB V ts) = wantsT l.x (kindL l (gB V ts)) ++ wantsT l.y (kindL l (gB V ts)) := if_pos hcm
    rw [ew]
    have kx : ACall Tryd.prog 63 [encU l.x, encV V, .msl b 0 V.length V.length] (.cells p (cL l) :: MB b ts R) (fun v S => v = .int .i64 (tyOf (gB V ts) l.x) ∧ S = .cells p (cL l) :: MB b ts R) :=
      ACall_at [.cells p (cL l)] (X := MB b ts []) (Y := MB b ts []) (R := R) (typeOf_ok V hV ts ht b l.x _ (hv _ hx))
    have ky : ACall Tryd.prog 63 [encU l.y, encV V, .msl b 0 V.length V.length] (.cells p (cL l) :: MB b ts R) (fun v S => v = .int .i64 (tyOf (gB V ts) l.y) ∧ S = .cells p (cL l) :: MB b ts R) :=
      ACall_at [.cells p (cL l)] (X := MB b ts []) (Y := MB b ts []) (R := R) (typeOf_ok V hV ts ht b l.y _ (hv _ hy))
    obtain ⟨m1, t1, r1⟩ : ∃ b s, teach V (wantsT (l.x) (kindL l (gB V ts))) ts = (b, s) := ⟨_, _, rfl⟩
    have k1 : ACall Tryd.prog 62 [encU (l.x), .int .i64 (kindL l (gB V ts)), encV V, .msl b 0 V.length V.length] (.cells p (cL l) :: MB b ts R) (fun v S => v = .bool m1 ∧ S = .cells p (cL l) :: MB b t1 R) := by
      have := learn_ok V hV b 2000 (.cells p (cL l) :: R) (by decide) (l.x) (kindL l (gB V ts)) ts (by omega) (hg _ (hx)) (hv _ (hx)) (by have := ht; omega)
      rw [r1] at this
      exact ACall_at [.cells p (cL l)] (X := MB b ts []) (Y := MB b t1 []) (R := R) this
    have ht1 : t1.length = V.length := by have := teach_len V (wantsT l.x (kindL l (gB V ts))) ts; rw [r1] at this; exact this.trans ht
    obtain ⟨m2, t2, r2⟩ : ∃ b s, teach V (wantsT (l.y) (kindL l (gB V ts))) t1 = (b, s) := ⟨_, _, rfl⟩
    have k2 : ACall Tryd.prog 62 [encU (l.y), .int .i64 (kindL l (gB V ts)), encV V, .msl b 0 V.length V.length] (.cells p (cL l) :: MB b t1 R) (fun v S => v = .bool m2 ∧ S = .cells p (cL l) :: MB b t2 R) := by
      have := learn_ok V hV b 2000 (.cells p (cL l) :: R) (by decide) (l.y) (kindL l (gB V ts)) t1 (by omega) (hg _ (hy)) (hv _ (hy)) (by have := ht1; omega)
      rw [r2] at this
      exact ACall_at [.cells p (cL l)] (X := MB b t1 []) (Y := MB b t2 []) (R := R) this
    rw [teach_snoc r1 r2]
    refine known_true (b := decide ((3 : Int) ≤ l.op)) (by exact decide_eq_true hop.1) ?_
    repeat (first | refine ga_ ?_ | intro _)
    refine AW_true (b := decide (l.op ≤ 6)) rfl (by exact decide_eq_true hop.2) ?_
    repeat (first | refine ga_ ?_ | intro _)
    refine Or.inl ⟨⟨_, Tryd.func63, rfl, rfl⟩, ACall.mono ?_ (kx)⟩
    rintro _ S1 ⟨rfl, hS1⟩
    subst S1
    repeat (first | refine ga_ ?_ | intro _)
    refine Or.inl ⟨⟨_, Tryd.func63, rfl, rfl⟩, ACall.mono ?_ (ky)⟩
    rintro _ S1 ⟨rfl, hS1⟩
    subst S1
    repeat (first | refine ga_ ?_ | intro _)
    refine Or.inl ⟨⟨_, Tryd.func62, rfl, rfl⟩, ACall.mono ?_ (k1)⟩
    rintro _ S1 ⟨rfl, hS1⟩
    subst S1
    repeat (first | refine ga_ ?_ | intro _)
    refine Or.inl ⟨⟨_, Tryd.func62, rfl, rfl⟩, ACall.mono ?_ (k2)⟩
    rintro _ S1 ⟨rfl, hS1⟩
    subst S1
    cases m1 with
    | true =>
      repeat (first | refine ga_ ?_ | intro _)
      refine AW_ret ?_
      repeat (first | refine ⟨0, rfl, ?_⟩ | refine ⟨1, rfl, ?_⟩ | refine ⟨2, rfl, ?_⟩ | refine ⟨3, rfl, ?_⟩ | refine ⟨4, rfl, ?_⟩ | refine ⟨5, rfl, ?_⟩ | refine ⟨6, rfl, ?_⟩)
      refine ⟨_, MB b t2 R, AVle.eq ?_, (by repeat (first | exact SLe.rfl | refine SLe.tail ?_)), rfl, rfl⟩
      rfl
    | false =>
      repeat (first | refine ga_ ?_ | intro _)
      refine AW_ret ?_
      repeat (first | refine ⟨0, rfl, ?_⟩ | refine ⟨1, rfl, ?_⟩ | refine ⟨2, rfl, ?_⟩ | refine ⟨3, rfl, ?_⟩ | refine ⟨4, rfl, ?_⟩ | refine ⟨5, rfl, ?_⟩ | refine ⟨6, rfl, ?_⟩)
      refine ⟨_, MB b t2 R, AVle.eq ?_, (by repeat (first | exact SLe.rfl | refine SLe.tail ?_)), rfl, rfl⟩
      rfl
  · have hcf : isCmp l = false := by simpa using hcm
    have hkA : knownA d l.a = 0 := by unfold knownL at hk; rwa [if_neg hcm] at hk
    have ew : wantsL d l (gB V ts) = hardA d l.a ++ moreW l := if_neg hcm
    rw [ew]
    obtain ⟨m0, t0, r0⟩ : ∃ b s, teach V (hardA d l.a) ts = (b, s) := ⟨_, _, rfl⟩
    have k0 : ACall Tryd.prog 38 [.sl 6 (d.map encD) .no, encA l.a, encV V, .msl b 0 V.length V.length] (.cells p (cL l) :: MB b ts R) (fun v S => v = .bool m0 ∧ S = .cells p (cL l) :: MB b t0 R) := by
      have := learnAtom_ok V hV b d l.a ts (.cells p (cL l) :: R) hd (by omega) hkA (fun t h => hg t (.tail _ (.tail _ h))) (fun t h => hv t (.tail _ (.tail _ h))) ht
      rw [r0] at this
      exact ACall_at [.cells p (cL l)] (X := MB b ts []) (Y := MB b t0 []) (R := R) this
    have ht0 : t0.length = V.length := by have := teach_len V (hardA d l.a) ts; rw [r0] at this; exact this.trans ht
    have hop : (l.op = 1 ∨ l.op = 2) ∨ ((7 : Int) ≤ l.op ∧ (l.op = 7 → noT l.y = true)) := by
      unfold isCmp at hcf
      simp only [Bool.and_eq_false_iff, decide_eq_false_iff_not] at hcf
      unfold rightL at hr
      split at hr
      · left; assumption
      split at hr
      · omega
      split at hr
      · rename_i h7
        simp only [Bool.and_eq_true] at hr
        exact .inr ⟨by omega, fun _ => hr.2.1.2⟩
      split at hr
      · exact .inr ⟨by omega, fun h => by omega⟩
      · cases hr
    rcases hop with ho | ⟨ho, hn⟩
    · have hm : moreW l = [] := if_pos ho
      rw [hm, List.append_nil, r0]
      refine known_false (b := decide ((3 : Int) ≤ l.op)) (by exact decide_eq_false (by omega)) ?_
      repeat (first | refine ga_ ?_ | intro _)
      refine Or.inl ⟨⟨_, Tryd.func38, rfl, rfl⟩, ACall.mono ?_ (k0)⟩
      rintro _ S1 ⟨rfl, hS1⟩
      subst S1
      repeat (first | refine ga_ ?_ | intro _)
      refine gsplit (l.op = 1) (by first | (simp; done) | (simp <;> omega) | decide) (fun h => ?_) (fun h => ?_)
      · repeat (first | refine ga_ ?_ | intro _)
        refine AW_ret ?_
        repeat (first | refine ⟨0, rfl, ?_⟩ | refine ⟨1, rfl, ?_⟩ | refine ⟨2, rfl, ?_⟩ | refine ⟨3, rfl, ?_⟩ | refine ⟨4, rfl, ?_⟩ | refine ⟨5, rfl, ?_⟩ | refine ⟨6, rfl, ?_⟩)
        refine ⟨_, MB b t0 R, AVle.eq ?_, (by repeat (first | exact SLe.rfl | refine SLe.tail ?_)), rfl, rfl⟩
        rfl
      · repeat (first | refine ga_ ?_ | intro _)
        refine AW_true (b := decide (l.op = 2)) rfl (by exact decide_eq_true (by omega)) ?_
        repeat (first | refine ga_ ?_ | intro _)
        refine AW_ret ?_
        repeat (first | refine ⟨0, rfl, ?_⟩ | refine ⟨1, rfl, ?_⟩ | refine ⟨2, rfl, ?_⟩ | refine ⟨3, rfl, ?_⟩ | refine ⟨4, rfl, ?_⟩ | refine ⟨5, rfl, ?_⟩ | refine ⟨6, rfl, ?_⟩)
        refine ⟨_, MB b t0 R, AVle.eq ?_, (by repeat (first | exact SLe.rfl | refine SLe.tail ?_)), rfl, rfl⟩
        rfl
    · have hm : moreW l = wantsT l.x 1 ++ (if l.op = 7 then [] else wantsT l.y 1) := if_neg (by omega)
      obtain ⟨m1, t1, r1⟩ : ∃ b s, teach V (wantsT (l.x) (1)) t0 = (b, s) := ⟨_, _, rfl⟩
      have k1 : ACall Tryd.prog 62 [encU (l.x), .int .i64 (1), encV V, .msl b 0 V.length V.length] (.cells p (cL l) :: MB b t0 R) (fun v S => v = .bool m1 ∧ S = .cells p (cL l) :: MB b t1 R) := by
        have := learn_ok V hV b 2000 (.cells p (cL l) :: R) (by decide) (l.x) (1) t0 (by omega) (hg _ (hx)) (hv _ (hx)) (by have := ht0; omega)
        rw [r1] at this
        exact ACall_at [.cells p (cL l)] (X := MB b t0 []) (Y := MB b t1 []) (R := R) this
      have ht1 : t1.length = V.length := by have := teach_len V (wantsT l.x 1) t0; rw [r1] at this; exact this.trans ht0
      obtain ⟨m2, t2, r2⟩ : ∃ b s, teach V (wantsT (l.y) (1)) t1 = (b, s) := ⟨_, _, rfl⟩
      have k2 : ACall Tryd.prog 62 [encU (l.y), .int .i64 (1), encV V, .msl b 0 V.length V.length] (.cells p (cL l) :: MB b t1 R) (fun v S => v = .bool m2 ∧ S = .cells p (cL l) :: MB b t2 R) := by
        have := learn_ok V hV b 2000 (.cells p (cL l) :: R) (by decide) (l.y) (1) t1 (by omega) (hg _ (hy)) (hv _ (hy)) (by have := ht1; omega)
        rw [r2] at this
        exact ACall_at [.cells p (cL l)] (X := MB b t1 []) (Y := MB b t2 []) (R := R) this
      have eall : teach V (hardA d l.a ++ moreW l) ts = (m0 || (m1 || m2), t2) := by
        rw [hm]
        by_cases h7 : l.op = 7
        · rw [teach_none (hn h7)] at r2
          cases r2
          rw [if_pos h7, List.append_nil, teach_snoc r0 r1, Bool.or_false]
        · rw [if_neg h7]
          exact teach_snoc r0 (teach_snoc r1 r2)
      rw [eall]
      refine known_true (b := decide ((3 : Int) ≤ l.op)) (by exact decide_eq_true (by omega)) ?_
      repeat (first | refine ga_ ?_ | intro _)
      refine AW_false (b := decide (l.op ≤ 6)) rfl (by exact decide_eq_false (by omega)) ?_
      repeat (first | refine ga_ ?_ | intro _)
      refine Or.inl ⟨⟨_, Tryd.func38, rfl, rfl⟩, ACall.mono ?_ (k0)⟩
      rintro _ S1 ⟨rfl, hS1⟩
      subst S1
      repeat (first | refine ga_ ?_ | intro _)
      refine known_false (b := decide (l.op = 1)) (by exact decide_eq_false (by omega)) ?_
      repeat (first | refine ga_ ?_ | intro _)
      refine AW_false (b := decide (l.op = 2)) rfl (by exact decide_eq_false (by omega)) ?_
      repeat (first | refine ga_ ?_ | intro _)
      refine Or.inl ⟨⟨_, Tryd.func62, rfl, rfl⟩, ACall.mono ?_ (k1)⟩
      rintro _ S1 ⟨rfl, hS1⟩
      subst S1
      repeat (first | refine ga_ ?_ | intro _)
      refine Or.inl ⟨⟨_, Tryd.func62, rfl, rfl⟩, ACall.mono ?_ (k2)⟩
      rintro _ S1 ⟨rfl, hS1⟩
      subst S1
      cases m0 with
      | true =>
        repeat (first | refine ga_ ?_ | intro _)
        refine AW_ret ?_
        repeat (first | refine ⟨0, rfl, ?_⟩ | refine ⟨1, rfl, ?_⟩ | refine ⟨2, rfl, ?_⟩ | refine ⟨3, rfl, ?_⟩ | refine ⟨4, rfl, ?_⟩ | refine ⟨5, rfl, ?_⟩ | refine ⟨6, rfl, ?_⟩)
        refine ⟨_, MB b t2 R, AVle.eq ?_, (by repeat (first | exact SLe.rfl | refine SLe.tail ?_)), rfl, rfl⟩
        rfl
      | false =>
        cases m1 with
        | true =>
          repeat (first | refine ga_ ?_ | intro _)
          refine AW_ret ?_
          repeat (first | refine ⟨0, rfl, ?_⟩ | refine ⟨1, rfl, ?_⟩ | refine ⟨2, rfl, ?_⟩ | refine ⟨3, rfl, ?_⟩ | refine ⟨4, rfl, ?_⟩ | refine ⟨5, rfl, ?_⟩ | refine ⟨6, rfl, ?_⟩)
          refine ⟨_, MB b t2 R, AVle.eq ?_, (by repeat (first | exact SLe.rfl | refine SLe.tail ?_)), rfl, rfl⟩
          rfl
        | false =>
          repeat (first | refine ga_ ?_ | intro _)
          refine AW_ret ?_
          repeat (first | refine ⟨0, rfl, ?_⟩ | refine ⟨1, rfl, ?_⟩ | refine ⟨2, rfl, ?_⟩ | refine ⟨3, rfl, ?_⟩ | refine ⟨4, rfl, ?_⟩ | refine ⟨5, rfl, ?_⟩ | refine ⟨6, rfl, ?_⟩)
          refine ⟨_, MB b t2 R, AVle.eq ?_, (by repeat (first | exact SLe.rfl | refine SLe.tail ?_)), rfl, rfl⟩
          rfl

/-! ### held against types -/
theorem fitW_app (σ : Key → Int) (a b : List (T × Int)) : fitW σ (a ++ b) = (fitW σ a && fitW σ b) := by unfold fitW; rw [List.all_append]
theorem fitW_one (σ : Key → Int) (t : T) (k : Int) : fitW σ [(t, k)] = (decide (t.op = 4) || decide (tyOf σ t = k)) := by simp [fitW]
def goodR (t : T) : Prop := ∃ h, rightT t h = true
theorem goodR.good {t : T} (h : goodR t) : goodT t := .inr h
theorem goodR.leaf {t : T} (h : goodR t) (h2 : twoB t.op = false) : t.op = 1 ∨ t.op = 2 ∨ t.op = 3 ∨ t.op = 4 := by
  obtain ⟨n, h⟩ := h
  cases n with
  | zero => cases h
  | succ n =>
    rw [rightT, if_pos h2] at h
    unfold leafB bareB at h
    simp only [Bool.and_eq_true, Bool.not_eq_true', decide_eq_false_iff_not] at h
    have h1 := h.2.1
    split at h1
    · simp [*]
    split at h1
    · simp [*]
    split at h1
    · simp [*]
    split at h1
    · omega
    · cases h1
theorem goodR.two {t : T} (h : goodR t) (h2 : twoB t.op = true) : ∃ a b, t.l = [a, b] ∧ goodR a ∧ goodR b := by
  obtain ⟨n, h⟩ := h
  cases n with
  | zero => cases h
  | succ n =>
    rw [rightT, if_neg (by rw [h2]; decide)] at h
    simp only [Bool.and_eq_true, decide_eq_true_eq] at h
    obtain ⟨_, _, hl, ha⟩ := h
    match hL : t.l, hl with
    | [a, b], _ =>
      rw [hL] at ha
      simp only [List.all_cons, List.all_nil, Bool.and_eq_true] at ha
      exact ⟨a, b, rfl, ⟨n, ha.1.2.2⟩, ⟨n, ha.2.1.2.2⟩⟩
theorem fits_ok (V : List Key) (hV : V.length ≤ 1000000) (ts : List Int) (ht : ts.length = V.length) (b : Nat) : ∀ (n : Nat) (R : List En), n ≤ 2000 → ∀ (t : T) (k : Int), (termsT t).length ≤ n → goodR t → inV V t →
    ACall Tryd.prog 84 [encU t, .int .i64 k, encV V, .msl b 0 V.length V.length] (MB b ts R) (fun v S => v = .bool (fitW (gB V ts) (wantsT t k)) ∧ S = MB b ts R) := by
  intro n
  induction n with
  | zero => intro R _ t k h; have := termsT_pos t; omega
  | succ n ih =>
  intro R hn t k hc hgr hv
  have hgt := hgr.good
  have hc2 : (termsTs t.l).length ≤ n := by rw [termsT_eq, List.length_cons] at hc; omega
  have hll := termsTs_le t.l
  cases h2 : twoB t.op with
  | false =>
    have hlf := hgt.leaf h2
    have ew : wantsT t k = [(t, k)] := by rw [wantsT_eq, hlf]; rfl
    rw [ew, fitW_one]
    have hop := hgr.leaf h2
    refine ACall_body tab_ok Tryd.func84 rfl rfl rfl (by kernel_rfl) (Nat.le_of_ble_eq_true rfl) ?_
    repeat (first | refine go_ ?_ | intro _)
    rename_i p
    refine AW_iff (t.op = 1) rfl (by first | (simp; done) | (simp <;> omega) | decide) (fun h => ?_) (fun h => ?_)
    · obtain ⟨i, e1, e2, e3⟩ := place_at (hv.self h)
      obtain ⟨hi, e4, _⟩ := e3 ts ht
      have kp := fun R => place_ok V t.s R hV
      rw [e1] at kp
      repeat (first | refine ga_ ?_ | intro _)
      refine Or.inl ⟨⟨_, Tryd.func53, rfl, rfl⟩, ACall.mono ?_ (kp _)⟩
      rintro _ S1 ⟨rfl, hS1⟩
      subst S1
      repeat (first | refine ga_ ?_ | intro _)
      refine at_msl (i) (i) (by first | rfl | omega | (rw [wrap_i64 (by first | omega | (simp; omega))]; first | rfl | omega | (simp; omega))) (by first | assumption | omega) (by show _ + _ * 1 = _; omega) ?_
      repeat (first | refine ga_ ?_ | intro _)
      refine load_one (encI ts[i]) rfl rfl (encI_get hi) ?_
      repeat (first | refine ga_ ?_ | intro _)
      refine AW_ret ?_
      repeat (first | refine ⟨0, rfl, ?_⟩ | refine ⟨1, rfl, ?_⟩ | refine ⟨2, rfl, ?_⟩ | refine ⟨3, rfl, ?_⟩ | refine ⟨4, rfl, ?_⟩ | refine ⟨5, rfl, ?_⟩ | refine ⟨6, rfl, ?_⟩)
      refine ⟨_, MB b ts R, AVle.eq ?_, (by repeat (first | exact SLe.rfl | refine SLe.tail ?_)), rfl, rfl⟩
      exact congrArg AV.bool (show decide (ts[i] = k) = _ by rw [tyOf_var h, e4, h]; simp)
    have h1 := h
    repeat (first | refine ga_ ?_ | intro _)
    refine AW_iff (t.op = 2) rfl (by first | (simp; done) | (simp <;> omega) | decide) (fun h => ?_) (fun h => ?_)
    · repeat (first | refine ga_ ?_ | intro _)
      refine AW_ret ?_
      repeat (first | refine ⟨0, rfl, ?_⟩ | refine ⟨1, rfl, ?_⟩ | refine ⟨2, rfl, ?_⟩ | refine ⟨3, rfl, ?_⟩ | refine ⟨4, rfl, ?_⟩ | refine ⟨5, rfl, ?_⟩ | refine ⟨6, rfl, ?_⟩)
      refine ⟨_, MB b ts R, AVle.eq ?_, (by repeat (first | exact SLe.rfl | refine SLe.tail ?_)), rfl, rfl⟩
      exact congrArg AV.bool (show decide (k = 1) = _ by rw [tyOf, if_neg h1, h]; simp [eq_comm])
    have h2' := h
    repeat (first | refine ga_ ?_ | intro _)
    refine AW_iff (t.op = 3) rfl (by first | (simp; done) | (simp <;> omega) | decide) (fun h => ?_) (fun h => ?_)
    · repeat (first | refine ga_ ?_ | intro _)
      refine AW_ret ?_
      repeat (first | refine ⟨0, rfl, ?_⟩ | refine ⟨1, rfl, ?_⟩ | refine ⟨2, rfl, ?_⟩ | refine ⟨3, rfl, ?_⟩ | refine ⟨4, rfl, ?_⟩ | refine ⟨5, rfl, ?_⟩ | refine ⟨6, rfl, ?_⟩)
      refine ⟨_, MB b ts R, AVle.eq ?_, (by repeat (first | exact SLe.rfl | refine SLe.tail ?_)), rfl, rfl⟩
      exact congrArg AV.bool (show decide (k = 2) = _ by rw [tyOf, if_neg h1, h]; simp [eq_comm])
    have h3 := h
    repeat (first | refine ga_ ?_ | intro _)
    refine AW_true (b := decide (t.op = 4)) rfl (by exact decide_eq_true (by omega)) ?_
    repeat (first | refine ga_ ?_ | intro _)
    refine AW_ret ?_
    repeat (first | refine ⟨0, rfl, ?_⟩ | refine ⟨1, rfl, ?_⟩ | refine ⟨2, rfl, ?_⟩ | refine ⟨3, rfl, ?_⟩ | refine ⟨4, rfl, ?_⟩ | refine ⟨5, rfl, ?_⟩ | refine ⟨6, rfl, ?_⟩)
    refine ⟨_, MB b ts R, AVle.eq ?_, (by repeat (first | exact SLe.rfl | refine SLe.tail ?_)), rfl, rfl⟩
    exact congrArg AV.bool (show true = _ by rw [show t.op = 4 by omega]; simp)
  | true =>
    obtain ⟨x, y, hxy, gx, gy⟩ := hgr.two h2
    have hop : t.op = 5 ∨ t.op = 6 ∨ t.op = 7 := by
      unfold twoB at h2
      simp only [Bool.or_eq_true, decide_eq_true_eq] at h2
      omega
    have hmx : x ∈ t.l := by rw [hxy]; simp
    have hmy : y ∈ t.l := by rw [hxy]; simp
    have b1 := termsTs_at hmx
    have b2 := termsTs_at hmy
    have ew : fitW (gB V ts) (wantsT t k) = (decide (k = 1) && (fitW (gB V ts) (wantsT x 1) && fitW (gB V ts) (wantsT y 1))) := by
      rw [wantsT_eq, hxy]
      show fitW _ ((wantsT x 1 ++ (wantsT y 1 ++ [])) ++ [(t, k)]) = _
      rw [List.append_nil, fitW_app, fitW_app, fitW_one, decide_eq_false (by omega), Bool.false_or, tyOf, if_neg (by omega), if_neg (by omega), if_neg (by omega), Bool.and_comm]
      congr 1
      rw [decide_eq_decide]; exact eq_comm
    rw [ew]
    obtain ⟨fx, hfx⟩ : ∃ f, f = fitW (gB V ts) (wantsT x 1) := ⟨_, rfl⟩
    obtain ⟨fy, hfy⟩ : ∃ f, f = fitW (gB V ts) (wantsT y 1) := ⟨_, rfl⟩
    have kx := fun R => ih R (by omega) x 1 (by omega) gx (hv.sub hmx)
    have ky := fun R => ih R (by omega) y 1 (by omega) gy (hv.sub hmy)
    rw [← hfx] at kx ⊢
    rw [← hfy] at ky ⊢
    refine ACall_body tab_ok Tryd.func84 rfl rfl rfl (by kernel_rfl) (Nat.le_of_ble_eq_true rfl) ?_
    repeat (first | refine go_ ?_ | intro _)
    rename_i p
    have kx2 : ACall Tryd.prog 84 [encU x, .int .i64 1, encV V, .msl b 0 V.length V.length] (.cells p (cT t) :: MB b ts R) (fun v S => v = .bool fx ∧ S = .cells p (cT t) :: MB b ts R) :=
      ACall_at [.cells p (cT t)] (X := MB b ts []) (Y := MB b ts []) (R := R) (kx _)
    have ky2 : ACall Tryd.prog 84 [encU y, .int .i64 1, encV V, .msl b 0 V.length V.length] (.cells p (cT t) :: MB b ts R) (fun v S => v = .bool fy ∧ S = .cells p (cT t) :: MB b ts R) :=
      ACall_at [.cells p (cT t)] (X := MB b ts []) (Y := MB b ts []) (R := R) (ky _)
    refine AW_false (b := decide (t.op = 1)) rfl (by exact decide_eq_false (by omega)) ?_
    repeat (first | refine ga_ ?_ | intro _)
    refine AW_false (b := decide (t.op = 2)) rfl (by exact decide_eq_false (by omega)) ?_
    repeat (first | refine ga_ ?_ | intro _)
    refine AW_false (b := decide (t.op = 3)) rfl (by exact decide_eq_false (by omega)) ?_
    repeat (first | refine ga_ ?_ | intro _)
    refine AW_false (b := decide (t.op = 4)) rfl (by exact decide_eq_false (by omega)) ?_
    repeat (first | refine ga_ ?_ | intro _)
    refine gsplit (k = 1) (by first | (simp; done) | (simp <;> omega) | decide) (fun h => ?_) (fun h => ?_)
    · rw [decide_eq_true h]
      repeat (first | refine ga_ ?_ | intro _)
      refine at_get (0) (encU x) (by first | rfl | omega | (rw [wrap_i64 (by omega)]; omega)) (by rw [hxy, encTs_map]; rfl) ?_
      repeat (first | refine ga_ ?_ | intro _)
      refine Or.inl ⟨⟨_, Tryd.func84, rfl, rfl⟩, ACall.mono ?_ (kx2)⟩
      rintro _ S1 ⟨rfl, hS1⟩
      subst S1
      cases fx with
      | false =>
        repeat (first | refine ga_ ?_ | intro _)
        refine AW_ret ?_
        repeat (first | refine ⟨0, rfl, ?_⟩ | refine ⟨1, rfl, ?_⟩ | refine ⟨2, rfl, ?_⟩ | refine ⟨3, rfl, ?_⟩ | refine ⟨4, rfl, ?_⟩ | refine ⟨5, rfl, ?_⟩ | refine ⟨6, rfl, ?_⟩)
        refine ⟨_, MB b ts R, AVle.eq ?_, (by repeat (first | exact SLe.rfl | refine SLe.tail ?_)), rfl, rfl⟩
        rfl
      | true =>
        repeat (first | refine ga_ ?_ | intro _)
        refine at_get (1) (encU y) (by first | rfl | omega | (rw [wrap_i64 (by omega)]; omega)) (by rw [hxy, encTs_map]; rfl) ?_
        repeat (first | refine ga_ ?_ | intro _)
        refine Or.inl ⟨⟨_, Tryd.func84, rfl, rfl⟩, ACall.mono ?_ (ky2)⟩
        rintro _ S1 ⟨rfl, hS1⟩
        subst S1
        repeat (first | refine ga_ ?_ | intro _)
        refine AW_ret ?_
        repeat (first | refine ⟨0, rfl, ?_⟩ | refine ⟨1, rfl, ?_⟩ | refine ⟨2, rfl, ?_⟩ | refine ⟨3, rfl, ?_⟩ | refine ⟨4, rfl, ?_⟩ | refine ⟨5, rfl, ?_⟩ | refine ⟨6, rfl, ?_⟩)
        refine ⟨_, MB b ts R, AVle.eq ?_, (by repeat (first | exact SLe.rfl | refine SLe.tail ?_)), rfl, rfl⟩
        rfl
    · rw [decide_eq_false h]
      repeat (first | refine ga_ ?_ | intro _)
      refine AW_ret ?_
      repeat (first | refine ⟨0, rfl, ?_⟩ | refine ⟨1, rfl, ?_⟩ | refine ⟨2, rfl, ?_⟩ | refine ⟨3, rfl, ?_⟩ | refine ⟨4, rfl, ?_⟩ | refine ⟨5, rfl, ?_⟩ | refine ⟨6, rfl, ?_⟩)
      refine ⟨_, MB b ts R, AVle.eq ?_, (by repeat (first | exact SLe.rfl | refine SLe.tail ?_)), rfl, rfl⟩
      rfl
end Go.Proofs.YtkmalncnaodkiaaDoor
