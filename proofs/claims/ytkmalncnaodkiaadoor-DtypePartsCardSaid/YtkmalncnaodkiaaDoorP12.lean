/-
  Regions that draw, in another order, with slices among what may come late; a mutable slice that lies in a block, from where on it is only read. Own work.
-/
import Derived.Test.YtkmalncnaodkiaaDoorBld
import Derived.Test.YtkmalncnaodkiaaDoorP11
set_option linter.all false
namespace Go.Proofs.YtkmalncnaodkiaaDoor
open Go.Aw Go.RowKit

def pureAt2 (op : Op) (ρ : Operand → AV) : Bool := match op with
  | .slice .. | .indexAddr .. | .extract .. => true
  | op => pureAt op ρ
theorem pureAt2_any {P : Program} {τ : List (TypeId × TI)} {op : Op} {ρ : Operand → AV} {S S2 : List En} {v : AV} (hp : pureAt2 op ρ = true) (h : astep P τ op ρ S (fun v' S' => AVle v' v ∧ S.Sublist S')) :
    astep P τ op ρ S2 (fun v' S' => AVle v' v ∧ S2.Sublist S') := by
  cases op <;> first | exact pureAt_any hp h | skip
  case slice t x lo hi mx =>
    simp only [astep] at h ⊢
    split at h
    · obtain ⟨a, b, c, d, r, e, f⟩ := h
      exact ⟨a, b, c, d, r, e, f.1, List.Sublist.refl _⟩
    · obtain ⟨a, b, c, d, e, f, g, r, i, j⟩ := h
      exact ⟨a, b, c, d, e, f, g, r, i, j.1, List.Sublist.refl _⟩
    · obtain ⟨a, b, c, d, e, f, o, n, cc, i, j, l, m⟩ := h
      exact ⟨a, b, c, d, e, f, o, n, cc, i, j, l, m.1, List.Sublist.refl _⟩
    · exact h.elim
  case indexAddr t x i =>
    simp only [astep] at h ⊢
    split at h
    · obtain ⟨a, b, c, v, d, e⟩ := h
      exact ⟨a, b, c, v, d, e.1, List.Sublist.refl _⟩
    · obtain ⟨a, b, c, o, d, e⟩ := h
      exact ⟨a, b, c, o, d, e.1, List.Sublist.refl _⟩
    · obtain ⟨a, b, c, o, d, e⟩ := h
      exact ⟨a, b, c, o, d, e.1, List.Sublist.refl _⟩
    · exact h.elim
  case extract x i =>
    simp only [astep] at h ⊢
    split at h
    · obtain ⟨v, a, b⟩ := h
      exact ⟨v, a, b.1, List.Sublist.refl _⟩
    · exact h.elim
def aheadsL2 (P : Program) (τ : List (TypeId × TI)) (late : List Nat) : Nat → List Oper → Env → List En → (Env → Prop) → Prop
  | _, [], E, _, k => k E
  | n, o :: r, E, S, k => (bif memB late n then pureAt2 o.op (ev E) else true) = true ∧ ∃ v, astep P τ o.op (ev E) S (fun v' S' => AVle v' v ∧ S.Sublist S') ∧ aheadsL2 P τ late (n + 1) r (E.put o.dst v) S k
theorem headsL2_of {P : Program} {τ : List (TypeId × TI)} {late : List Nat} {ops : List Oper} {S : List En} {k : Env → Prop} : ∀ (r : List Oper) (n : Nat) (E : Env), (∀ o ∈ r, o.guard = none) → aheadsL2 P τ late n r E S k →
    ∃ V, heads P τ ops S r V E ∧ (∀ (j : Nat) (o : Oper), r[j]? = some o → (n + j) ∈ late → pureAt2 o.op (ev (putAll E (r.take j) (V.take j))) = true) ∧ k (putAll E r V) := by
  intro r
  induction r with
  | nil => exact fun n E _ h => ⟨[], trivial, (fun j o h => by simp at h), h⟩
  | cons o r ih =>
    intro n E hg h
    obtain ⟨hl, v, hv, hr⟩ := h
    obtain ⟨V, h1, h2, h3⟩ := ih (n + 1) (E.put o.dst v) (fun x hx => hg x (.tail _ hx)) hr
    refine ⟨v :: V, ⟨.inl ⟨.inl (hg o (.head _)), hv⟩, h1⟩, fun j oj hj hm => ?_, h3⟩
    cases j with
    | zero =>
      simp only [List.getElem?_cons_zero, Option.some.injEq] at hj
      subst hj
      rw [Nat.add_zero] at hm
      rw [memB_iff.2 hm] at hl
      exact hl
    | succ j => exact h2 j oj (by simpa using hj) (by rw [show n + 1 + j = n + (j + 1) by omega]; exact hm)
theorem AW_drawp2 {P : Program} {N : Nat} {rd : Option Nat} {E : Env} {S : List En} {k : Kt} {τ : List (TypeId × TI)} (hτ : AllOk P τ) (hm : P.follows .mixedOrders = true) (ord inv : List Nat) (n : Nat) (late : List Nat) {id : Nat} {ops : Array Oper}
    (hp : permOk ops ord inv = true) (hd : lateOk0 (permOps ops ord inv) n late = true)
    (h : aheadsL2 P τ late 0 ((permOps ops ord inv).toList.take n) E S (fun E' => aops P τ (permOps ops ord inv).toList n ((permOps ops ord inv).toList.drop n) E' S (fun E' S' => k .normal E' S'))) : AW P N rd (.region id ops true) E S k := by
  unfold AW
  intro hc w0 K a w hE hS
  have hpf := pfacts_of hp
  have hf := lfacts_of hd
  have hsz := permOps_size hpf
  obtain ⟨V, hV, hl, hk⟩ := headsL2_of (ops := (permOps ops ord inv).toList) _ _ _ (fun o ho => by
    obtain ⟨j, hj, rfl⟩ := List.mem_iff_getElem.1 (List.mem_of_mem_take ho)
    exact hf.ng j _ (by rw [← Array.getElem?_toList, List.getElem?_eq_getElem hj])) h
  refine wpIn_region_any hm ?_
  refine wpAny_perm hpf _ _ (Array.replicate ops.size false) a w.drew ⟨by simp, by simp, fun j hj => by rw [getD_replicate_false, getD_replicate_false]⟩ ?_
  have := late_all hτ n late hd hV (fun j o v hjl hj ho hv Sm => ?_) hk (permOps_ok hpf hc) (rd := rd) ⟨hE.size, hE.slot, hE.defers⟩ hS.drew
  · rw [hsz] at this; exact this
  · have hot : ((permOps ops ord inv).toList.take n)[j]? = some o := by rw [List.getElem?_take, if_pos hj]; simpa using ho
    have hhead := heads_at _ _ _ hV j o v hot hv
    have hpa := hl j o hot (by rw [Nat.zero_add]; exact hjl)
    rw [List.take_take, Nat.min_eq_left (Nat.le_of_lt hj)] at hhead hpa
    rcases hhead with ⟨_, hst⟩ | ⟨⟨g, want, hg, _⟩, _⟩
    · exact pureAt2_any hpa hst
    · rw [hf.ng j o ho] at hg; cases hg

/-- a slice's part, its bounds by equations -/
theorem at_slice {lo hi : Int} {n : Nat} {C : Prop} {es : List AV} {F : List AV → Prop} (l h : Nat) (hl : lo = (l : Int)) (hh : hi = (h : Int)) (h1 : l ≤ h) (h2 : h ≤ n) (hC : C) (r : List AV) (hr : (es.take h).drop l = r) (hk : F r) :
    0 ≤ lo ∧ lo ≤ hi ∧ hi ≤ (n : Int) ∧ C ∧ ∃ r, (es.take hi.toNat).drop lo.toNat = r ∧ F r := by
  subst hl; subst hh
  exact ⟨by omega, by omega, by omega, hC, r, hr, hk⟩
/-- the same, or the mutable slice as the slice that it is -/
def AVleM (b off n cap sz : Nat) (es : List AV) : List AV → List AV → Prop
  | [], [] => True
  | x :: xs, y :: ys => (x = y ∨ (x = .msl b off n cap ∧ y = .sl sz es .no)) ∧ AVleM b off n cap sz es xs ys
  | _, _ => False
theorem AVleM.rel {b off n cap sz : Nat} {es : List AV} {K : Kn} (hK : ∀ v, Rel K (.msl b off n cap) v → Rel K (.sl sz es .no) v) : ∀ {xs ys : List AV} {vs : List Value}, AVleM b off n cap sz es xs ys → RelL K xs vs → RelL K ys vs
  | [], [], vs, _, h => h
  | x :: xs, y :: ys, vs, h, hr => by
    obtain ⟨v, r, rfl, h1, h2⟩ := hr.cons_inv
    refine RelL.cons ?_ (AVleM.rel hK h.2 h2)
    rcases h.1 with rfl | ⟨rfl, rfl⟩
    · exact h1
    · exact hK _ h1
  | [], _ :: _, _, h, _ => h.elim
  | _ :: _, [], _, h, _ => h.elim
theorem AW_freezeC {P : Program} {N : Nat} {rd : Option Nat} {E : Env} {R : List En} {k : Kt} {c : Code} {b q off n cap sz : Nat} {cs es qs qs' : List AV} (hn : es.length = n) (hsz : ∀ e ∈ es, e.cells.length = sz) (hf : flat es = (cs.drop off).take (n * sz))
    (hq : AVleM b off n cap sz es qs qs') (ho : ∀ c ∈ qs', c.one = true) (h : AW P N rd c E (.cells q qs' :: R) k) : AW P N rd c E (.cells b cs :: .cells q qs :: R) k := by
  refine AW_weak ?_ h
  intro w0 N K a w hE hS
  obtain ⟨K', hK, hS', vs, e1, hr, h1⟩ := hS.freeze (p := 0) rfl
  refine ⟨K', hK, ⟨hE.size, fun i => (hE.slot i).mono hK, hE.defers⟩, ?_⟩
  replace hS' : RelS w0 K' (.cells q qs :: R) w := hS'
  obtain ⟨hB, hKq, _, us, T, hh, hrel⟩ := hS'.ents _ (.head _)
  refine ⟨hS'.below, hS'.kcell, fun e he => ?_, hS'.apart⟩
  rcases List.mem_cons.1 he with rfl | he
  · exact ⟨hB, hKq, ho, us, T, hh, hq.rel (fun v hv => AVle_frozen e1 hr h1 hn hsz hf hv) hrel⟩
  · exact hS'.ents e (.tail _ he)
/-- one element of a flat list is set -/
theorem flat_append (a b : List AV) : Aw.flat (a ++ b) = Aw.flat a ++ Aw.flat b := by simp [Aw.flat]
theorem flat_cons' (a : AV) (l : List AV) : Aw.flat (a :: l) = a.cells ++ Aw.flat l := by simp [Aw.flat]
theorem flat_size {sz : Nat} : ∀ {es : List AV}, (∀ e ∈ es, e.cells.length = sz) → (Aw.flat es).length = es.length * sz
  | [], _ => by simp [Aw.flat]
  | e :: es, h => by
    have ih := flat_size (es := es) fun x hx => h x (.tail _ hx)
    have h0 := h e (.head _)
    have : Aw.flat (e :: es) = e.cells ++ Aw.flat es := by simp [Aw.flat]
    rw [this, List.length_append, ih, h0, List.length_cons, Nat.succ_mul]; omega
theorem flat_set {sz : Nat} {es : List AV} (h : ∀ e ∈ es, e.cells.length = sz) {i : Nat} (hi : i < es.length) {v : AV} (hv : v.cells.length = sz) : setCells (Aw.flat es) (i * sz) v.cells = Aw.flat (es.set i v) := by
  have e1 : es = es.take i ++ es[i] :: es.drop (i + 1) := by rw [List.getElem_cons_drop, List.take_append_drop]
  have hl : (Aw.flat (es.take i)).length = i * sz := by
    rw [flat_size fun e he => h e (List.mem_of_mem_take he), List.length_take, Nat.min_eq_left (Nat.le_of_lt hi)]
  have hx : (es[i].cells).length = sz := h _ (List.getElem_mem hi)
  have e2 : es.set i v = es.take i ++ v :: es.drop (i + 1) := by
    rw [List.set_eq_take_append_cons_drop, if_pos hi]
  have f1 : Aw.flat es = Aw.flat (es.take i) ++ (es[i].cells ++ Aw.flat (es.drop (i + 1))) := by
    conv => lhs; rw [e1]
    rw [flat_append, flat_cons']
  have f2 : Aw.flat (es.set i v) = Aw.flat (es.take i) ++ (v.cells ++ Aw.flat (es.drop (i + 1))) := by
    rw [e2, flat_append, flat_cons']
  rw [f1, f2, put_all hl, List.drop_left' (by omega)]
end Go.Proofs.YtkmalncnaodkiaaDoor
/-
  DtypeLess, DtypeMoves: the walks. Own work.
-/
namespace Go.Proofs.YtkmalncnaodkiaaDoor
open Go.Aw Go.RowKit
set_option maxHeartbeats 30000000

theorem lit_cells (l : Li) : (encL l).cells.length = 11 := rfl
theorem typesV_len {V : List Key} {d : List De} {r : Ru} (h : (typesV V d r).2 = 0) : (typesV V d r).1.length = V.length := by
  obtain ⟨_, _, _, e⟩ := typesV_0 h
  rw [e]; simp
theorem typesV_le (V : List Key) (d : List De) (r : Ru) : (typesV V d r).1.length ≤ V.length := by
  rcases typesV_cases V d r with ⟨_, h⟩ | ⟨_, _, h⟩ | ⟨_, _, h⟩ | h
  · rw [h]; exact Nat.zero_le _
  · rw [h]; exact Nat.zero_le _
  · rw [h]; exact Nat.zero_le _
  · rw [typesV_len h]; exact Nat.le_refl _
/-- fewer, or other, parts: few as well -/
theorem few_less {r : Ru} {b : List Li} (h : few r) (hb : ∃ c, (b ++ c).Perm r.body) : few ⟨r.head, b, r.line⟩ := by
  obtain ⟨c, hp⟩ := hb
  have key : ∀ {a b : List Li}, a.Perm b → (termsTs (a.flatMap topsL)).length = (termsTs (b.flatMap topsL)).length := by
    intro a b hp
    induction hp with
    | nil => rfl
    | cons x _ ih => rw [List.flatMap_cons, List.flatMap_cons, termsTs_app, termsTs_app, List.length_append, List.length_append, ih]
    | swap x y l => simp only [List.flatMap_cons, termsTs_app, List.length_append]; omega
    | trans _ _ h1 h2 => rw [h1, h2]
  have h1 := key hp
  have h2 := hp.length_eq
  rw [List.flatMap_append, termsTs_app, List.length_append] at h1
  rw [List.length_append] at h2
  unfold few topsR at h ⊢
  rw [termsTs_app, List.length_append] at h ⊢
  simp only []
  omega
def lessR (r : Ru) (i : Nat) : Ru := ⟨r.head, r.body.take i ++ r.body.drop (i + 1), r.line⟩
theorem less_few {r : Ru} {i : Nat} (h : few r) (hi : i < r.body.length) : few (lessR r i) := by
  refine few_less h ⟨[r.body[i]], ?_⟩
  have e : r.body = r.body.take i ++ r.body[i] :: r.body.drop (i + 1) := by rw [List.getElem_cons_drop, List.take_append_drop]
  conv => rhs; rw [e]
  rw [List.append_assoc]
  exact (List.perm_append_comm (l₁ := r.body.drop (i + 1)) (l₂ := [r.body[i]])).append_left _
theorem less_less {r : Ru} {i : Nat} : Less r (lessR r i) := ⟨rfl, fun l hl => by
  rcases List.mem_append.1 hl with hl | hl
  · exact List.mem_of_mem_take hl
  · exact List.mem_of_mem_drop hl⟩
theorem dtypeLess_ok (d : List De) (r : Ru) (i : Int) (R : List En) (b o : Nat) (e : Es) (hE0 : En.glob 0 [errE b o] ∈ R) (hEs : EsIn e R) : ACall Tryd.prog 6 [.sl 6 (d.map encD) .no, encRu r, .int .i64 i] R (fun v S => v = .bool true ∧ S = R) := by
  refine ACall_sat fun hs => ?_
  have hP := okDs_of (hs _ (.head _)) [r]
  have ks := fun R => small_d_ok d r R hP
  have kh := fun R h0 hE => shown_ok b o e R h0 hE
  by_cases hb : smallB ⟨d, [r]⟩ = true
  rotate_left
  · have hb' : smallB ⟨d, [r]⟩ = false := by simpa using hb
    rw [hb'] at ks
    refine ACall_body tab_ok Tryd.func6 rfl rfl rfl (by kernel_rfl) (Nat.le_of_ble_eq_true rfl) ?_
    repeat (first | refine go_ ?_ | intro _)
    refine Or.inl ⟨⟨_, Tryd.func9, rfl, rfl⟩, ACall.mono ?_ (kh _ (.tail _ hE0) hEs.cons)⟩
    rintro _ S1 ⟨rfl, hS1⟩
    subst S1
    repeat (first | refine go_ ?_ | intro _)
    refine Or.inl ⟨⟨_, Tryd.func10, rfl, rfl⟩, ACall.mono ?_ (ks _)⟩
    rintro _ S1 ⟨rfl, hS1⟩
    subst S1
    repeat (first | refine ga_ ?_ | intro _)
    refine AW_ret ?_
    repeat (first | refine ⟨0, rfl, ?_⟩ | refine ⟨1, rfl, ?_⟩ | refine ⟨2, rfl, ?_⟩ | refine ⟨3, rfl, ?_⟩ | refine ⟨4, rfl, ?_⟩ | refine ⟨5, rfl, ?_⟩ | refine ⟨6, rfl, ?_⟩)
    refine ⟨_, R, AVle.eq ?_, (by repeat (first | exact SLe.rfl | refine SLe.tail ?_)), rfl, rfl⟩
    rfl
  rw [hb] at ks
  obtain ⟨hf, hd⟩ := small_1 hb
  have hf2 : (termsTs (topsR r)).length + r.body.length ≤ 2000 := hf
  by_cases h0 : i < 0
  · refine ACall_body tab_ok Tryd.func6 rfl rfl rfl (by kernel_rfl) (Nat.le_of_ble_eq_true rfl) ?_
    repeat (first | refine go_ ?_ | intro _)
    refine Or.inl ⟨⟨_, Tryd.func9, rfl, rfl⟩, ACall.mono ?_ (kh _ (.tail _ hE0) hEs.cons)⟩
    rintro _ S1 ⟨rfl, hS1⟩
    subst S1
    repeat (first | refine go_ ?_ | intro _)
    refine Or.inl ⟨⟨_, Tryd.func10, rfl, rfl⟩, ACall.mono ?_ (ks _)⟩
    rintro _ S1 ⟨rfl, hS1⟩
    subst S1
    repeat (first | refine ga_ ?_ | intro _)
    refine known_true (b := decide (i < 0)) (by exact decide_eq_true h0) ?_
    repeat (first | refine ga_ ?_ | intro _)
    refine AW_ret ?_
    repeat (first | refine ⟨0, rfl, ?_⟩ | refine ⟨1, rfl, ?_⟩ | refine ⟨2, rfl, ?_⟩ | refine ⟨3, rfl, ?_⟩ | refine ⟨4, rfl, ?_⟩ | refine ⟨5, rfl, ?_⟩ | refine ⟨6, rfl, ?_⟩)
    refine ⟨_, R, AVle.eq ?_, (by repeat (first | exact SLe.rfl | refine SLe.tail ?_)), rfl, rfl⟩
    rfl
  obtain ⟨j, rfl⟩ : ∃ j : Nat, i = (j : Int) := ⟨i.toNat, by omega⟩
  by_cases h1 : r.body.length ≤ j
  · refine ACall_body tab_ok Tryd.func6 rfl rfl rfl (by kernel_rfl) (Nat.le_of_ble_eq_true rfl) ?_
    repeat (first | refine go_ ?_ | intro _)
    refine Or.inl ⟨⟨_, Tryd.func9, rfl, rfl⟩, ACall.mono ?_ (kh _ (.tail _ hE0) hEs.cons)⟩
    rintro _ S1 ⟨rfl, hS1⟩
    subst S1
    repeat (first | refine go_ ?_ | intro _)
    refine Or.inl ⟨⟨_, Tryd.func10, rfl, rfl⟩, ACall.mono ?_ (ks _)⟩
    rintro _ S1 ⟨rfl, hS1⟩
    subst S1
    repeat (first | refine ga_ ?_ | intro _)
    refine known_true (b := decide (((r.body.map encL).length : Int) ≤ (j : Int))) (by exact decide_eq_true (by simp; omega)) ?_
    repeat (first | refine ga_ ?_ | intro _)
    refine AW_ret ?_
    repeat (first | refine ⟨0, rfl, ?_⟩ | refine ⟨1, rfl, ?_⟩ | refine ⟨2, rfl, ?_⟩ | refine ⟨3, rfl, ?_⟩ | refine ⟨4, rfl, ?_⟩ | refine ⟨5, rfl, ?_⟩ | refine ⟨6, rfl, ?_⟩)
    refine ⟨_, R, AVle.eq ?_, (by repeat (first | exact SLe.rfl | refine SLe.tail ?_)), rfl, rfl⟩
    rfl
  have hlt : j < r.body.length := by omega
  by_cases h2 : r.body.length < 2
  · refine ACall_body tab_ok Tryd.func6 rfl rfl rfl (by kernel_rfl) (Nat.le_of_ble_eq_true rfl) ?_
    repeat (first | refine go_ ?_ | intro _)
    refine Or.inl ⟨⟨_, Tryd.func9, rfl, rfl⟩, ACall.mono ?_ (kh _ (.tail _ hE0) hEs.cons)⟩
    rintro _ S1 ⟨rfl, hS1⟩
    subst S1
    repeat (first | refine go_ ?_ | intro _)
    refine Or.inl ⟨⟨_, Tryd.func10, rfl, rfl⟩, ACall.mono ?_ (ks _)⟩
    rintro _ S1 ⟨rfl, hS1⟩
    subst S1
    repeat (first | refine ga_ ?_ | intro _)
    refine known_false (b := decide (((r.body.map encL).length : Int) ≤ (j : Int))) (by exact decide_eq_false (by simp; omega)) ?_
    repeat (first | refine ga_ ?_ | intro _)
    refine AW_true (b := decide (((r.body.map encL).length : Int) < 2)) rfl (by exact decide_eq_true (by simp; omega)) ?_
    repeat (first | refine ga_ ?_ | intro _)
    refine AW_ret ?_
    repeat (first | refine ⟨0, rfl, ?_⟩ | refine ⟨1, rfl, ?_⟩ | refine ⟨2, rfl, ?_⟩ | refine ⟨3, rfl, ?_⟩ | refine ⟨4, rfl, ?_⟩ | refine ⟨5, rfl, ?_⟩ | refine ⟨6, rfl, ?_⟩)
    refine ⟨_, R, AVle.eq ?_, (by repeat (first | exact SLe.rfl | refine SLe.tail ?_)), rfl, rfl⟩
    rfl
  have kt := fun R h0 hE => types_ok b o e d r R h0 hE hd hf
  obtain ⟨a, c, hac⟩ : ∃ l c, typesV (varsR r) d r = (l, c) := ⟨_, _, rfl⟩
  have hal : a.length ≤ 2000 := by
    have h1 := typesV_le (varsR r) d r
    have h2 := varsR_len hf
    rw [hac] at h1
    simp only [] at h1; omega
  rw [hac] at kt
  unfold typesA at kt
  by_cases hc0 : c = 0
  rotate_left
  · refine ACall_body tab_ok Tryd.func6 rfl rfl rfl (by kernel_rfl) (Nat.le_of_ble_eq_true rfl) ?_
    repeat (first | refine go_ ?_ | intro _)
    refine Or.inl ⟨⟨_, Tryd.func9, rfl, rfl⟩, ACall.mono ?_ (kh _ (.tail _ hE0) hEs.cons)⟩
    rintro _ S1 ⟨rfl, hS1⟩
    subst S1
    repeat (first | refine go_ ?_ | intro _)
    refine Or.inl ⟨⟨_, Tryd.func10, rfl, rfl⟩, ACall.mono ?_ (ks _)⟩
    rintro _ S1 ⟨rfl, hS1⟩
    subst S1
    repeat (first | refine ga_ ?_ | intro _)
    refine known_false (b := decide (((r.body.map encL).length : Int) ≤ (j : Int))) (by exact decide_eq_false (by simp; omega)) ?_
    repeat (first | refine ga_ ?_ | intro _)
    refine AW_false (b := decide (((r.body.map encL).length : Int) < 2)) rfl (by exact decide_eq_false (by simp; omega)) ?_
    repeat (first | refine ga_ ?_ | intro _)
    refine Or.inl ⟨⟨_, Tryd.func16, rfl, rfl⟩, ACall.mono ?_ (kt _ (.tail _ hE0) hEs.cons)⟩
    rintro _ S1 ⟨rfl, hS1⟩
    subst S1
    repeat (first | refine ga_ ?_ | intro _)
    refine AW_iff (¬ c = 0) rfl (by first | (simp; done) | (simp <;> omega) | decide) (fun h => ?_) (fun h => ?_)
    · repeat (first | refine ga_ ?_ | intro _)
      refine AW_ret ?_
      repeat (first | refine ⟨0, rfl, ?_⟩ | refine ⟨1, rfl, ?_⟩ | refine ⟨2, rfl, ?_⟩ | refine ⟨3, rfl, ?_⟩ | refine ⟨4, rfl, ?_⟩ | refine ⟨5, rfl, ?_⟩ | refine ⟨6, rfl, ?_⟩)
      refine ⟨_, R, AVle.eq ?_, (by repeat (first | exact SLe.rfl | refine SLe.tail ?_)), rfl, rfl⟩
      rfl
    · exact absurd hc0 h
  subst hc0
  have hty : (typesV (varsR r) d r).2 = 0 := by rw [hac]
  have hal2 : a.length = (varsR r).length := by have := typesV_len hty; rwa [hac] at this
  have hfl := less_few hf hlt
  have hllen : (lessR r j).body.length = r.body.length - 1 := by simp [lessR]; omega
  have ht := types_less (d := d) (less_less (r := r) (i := j)) (by omega) (by omega) hty
  obtain ⟨s, hs'⟩ : ∃ s, s = lessR r j := ⟨_, rfl⟩
  have kt2 := fun R h0 hE => types_ok b o e d (lessR r j) R h0 hE hd hfl
  rw [← hs'] at ht kt2 hfl
  obtain ⟨a2, c2, hac2⟩ : ∃ l c, typesV (varsR s) d s = (l, c) := ⟨_, _, rfl⟩
  have hal3 : a2.length ≤ 2000 := by
    have h1 := typesV_le (varsR s) d s
    have h2 := varsR_len hfl
    rw [hac2] at h1
    simp only [] at h1; omega
  rw [hac, hac2] at ht
  rw [hac2] at kt2
  simp only [] at ht
  have hVl := varsR_len hf
  have hVl2 := varsR_len hfl
  have kv := fun R h0 => vars_ok b o r R h0 hf
  have kv2 := fun R h0 => vars_ok b o s R h0 hfl
  have hen : encRu s = .agg [.str r.head.rel, .sl 4 (encTs r.head.l) .no, .sl 11 (s.body.map encL) .no, .int .i64 r.line] := by rw [hs']; rfl
  have hbody : (r.body.map encL).take j ++ (r.body.map encL).drop (j + 1) = s.body.map encL := by rw [hs']; simp [lessR, List.map_take, List.map_drop]
  have kt3 : ∀ R, En.glob 0 [errE b o] ∈ R → EsIn e R → ACall Tryd.prog 16 [.sl 6 (d.map encD) .no, .agg [.str r.head.rel, .sl 4 (encTs r.head.l) .no, .sl 11 (s.body.map encL) .no, .int .i64 r.line]] R (fun v S => v = .tup [.sl 1 (a2.map encI) .no, .int .i64 c2] ∧ S = R) := by rw [← hen]; exact kt2
  have kv3 : ∀ R, En.glob 0 [errE b o] ∈ R → ACall Tryd.prog 14 [.agg [.str r.head.rel, .sl 4 (encTs r.head.l) .no, .sl 11 (s.body.map encL) .no, .int .i64 r.line]] R (fun v S => v = .sl 1 ((varsR s).map AV.str) .no ∧ S = R) := by rw [← hen]; exact kv2
  refine ACall_body tab_ok Tryd.func6 rfl rfl rfl (by kernel_rfl) (Nat.le_of_ble_eq_true rfl) ?_
  repeat (first | refine go_ ?_ | intro _)
  refine Or.inl ⟨⟨_, Tryd.func9, rfl, rfl⟩, ACall.mono ?_ (kh _ (.tail _ hE0) hEs.cons)⟩
  rintro _ S1 ⟨rfl, hS1⟩
  subst S1
  repeat (first | refine go_ ?_ | intro _)
  refine Or.inl ⟨⟨_, Tryd.func10, rfl, rfl⟩, ACall.mono ?_ (ks _)⟩
  rintro _ S1 ⟨rfl, hS1⟩
  subst S1
  repeat (first | refine ga_ ?_ | intro _)
  refine known_false (b := decide (((r.body.map encL).length : Int) ≤ (j : Int))) (by exact decide_eq_false (by simp; omega)) ?_
  repeat (first | refine ga_ ?_ | intro _)
  refine AW_false (b := decide (((r.body.map encL).length : Int) < 2)) rfl (by exact decide_eq_false (by simp; omega)) ?_
  repeat (first | refine ga_ ?_ | intro _)
  refine Or.inl ⟨⟨_, Tryd.func16, rfl, rfl⟩, ACall.mono ?_ (kt _ (.tail _ hE0) hEs.cons)⟩
  rintro _ S1 ⟨rfl, hS1⟩
  subst S1
  repeat (first | refine ga_ ?_ | intro _)
  rename_i p p2
  refine AW_weak (weak_of (l := [(0, .sl 6 (d.map encD) .no), (2, .int .i64 (j : Int)), (4, .ptr p 0), (7, .bool true), (8, .sl 1 (a.map encI) .no), (10, .ptr p2 0)]) (m := []) (S' := .cells p2 (cRu r) :: .cells p (cRu r) :: R) ?_ rfl ?_) ?_
  · repeat (first | exact trivial | refine ⟨AVle.refl _, ?_⟩ | refine ⟨AVle.tk, ?_⟩ | refine ⟨AVle.nil, ?_⟩ | refine ⟨AVle.nilFull, ?_⟩ | refine ⟨AVle.eq (congrArg (AV.int .i64) (by first | (simp; done) | (simp; omega) | (rw [wrap_i64 (by first | omega | (simp; omega))]; first | rfl | omega | (simp; done) | (simp; omega)))), ?_⟩)
  · refine SW.le ?_
    repeat (first | exact SW.nil | refine SW.cons ?_ | refine SW.cells (by repeat (first | exact trivial | refine ⟨AVle.refl _, ?_⟩ | refine ⟨AVle.nilFull, ?_⟩ | refine ⟨AVle.tk, ?_⟩ | refine ⟨AVle.nil, ?_⟩)) rfl ?_ | refine SW.full ?_ | refine SW.drop ?_)
  refine AW_freezeP 4 (p := 1) rfl rfl ?_
  refine AW_drawp2 tab_ok mixed [0, 1, 2, 4, 5, 6, 7, 9, 10, 11, 12, 13, 3, 8, 14, 15, 16] [0, 1, 2, 12, 3, 4, 5, 6, 13, 7, 8, 9, 10, 11, 14, 15, 16] 12 [3, 4, 5, 6, 7, 8, 9, 10, 11] (by first | rfl | kernel_rfl) (by first | rfl | kernel_rfl) ?_
  repeat (first | refine ga_ ?_ | intro _)
  refine ⟨.inl rfl, (by simp), at_slice (0) (j) (by first | rfl | (rw [wrap_i64 (by first | omega | (simp; omega))]; first | rfl | omega | (simp; done) | (simp; omega)) | (show IntKind.i64.wrap _ = _; rw [wrap_i64 (by first | omega | (simp; omega))]; first | rfl | omega | (simp; done) | (simp; omega)) | (show ((List.length _ : Nat) : Int) = _; simp; done) | (simp; omega)) (by first | rfl | (rw [wrap_i64 (by first | omega | (simp; omega))]; first | rfl | omega | (simp; done) | (simp; omega)) | (show IntKind.i64.wrap _ = _; rw [wrap_i64 (by first | omega | (simp; omega))]; first | rfl | omega | (simp; done) | (simp; omega)) | (show ((List.length _ : Nat) : Int) = _; simp; done) | (simp; omega)) (by omega) (by first | omega | (simp; done) | (simp; omega)) (by simp) ((r.body.map encL).take j) (rfl) ?_⟩
  repeat (first | refine ga_ ?_ | intro _)
  refine ⟨.inl rfl, (by simp), at_slice (j + 1) (r.body.length) (by first | rfl | (rw [wrap_i64 (by first | omega | (simp; omega))]; first | rfl | omega | (simp; done) | (simp; omega)) | (show IntKind.i64.wrap _ = _; rw [wrap_i64 (by first | omega | (simp; omega))]; first | rfl | omega | (simp; done) | (simp; omega)) | (show ((List.length _ : Nat) : Int) = _; simp; done) | (simp; omega)) (by first | rfl | (rw [wrap_i64 (by first | omega | (simp; omega))]; first | rfl | omega | (simp; done) | (simp; omega)) | (show IntKind.i64.wrap _ = _; rw [wrap_i64 (by first | omega | (simp; omega))]; first | rfl | omega | (simp; done) | (simp; omega)) | (show ((List.length _ : Nat) : Int) = _; simp; done) | (simp; omega)) (by omega) (by first | omega | (simp; done) | (simp; omega)) (by simp) ((r.body.map encL).drop (j + 1)) ((congrArg (List.drop (j + 1)) (List.take_of_length_le (Nat.le_of_eq (List.length_map _))))) ?_⟩
  repeat (first | refine ga_ ?_ | intro _)
  refine ⟨0, r.body.length, rfl, (by simp), Nat.zero_le _, room (by first | omega | (simp; omega)) rfl, .inl ⟨rfl, fun t1 => ?_⟩⟩
  repeat (first | refine ga_ ?_ | intro _)
  refine ⟨room (by first | omega | (simp; done) | (simp; omega) | (simp at *; done) | (simp at *; omega)) rfl, .inl rfl, .inr (.inl ⟨rfl, 0, rfl, (r.body.map encL).take j, rfl, fun t1 => ?_⟩)⟩
  repeat (first | refine ga_ ?_ | intro _)
  refine ⟨room (by first | omega | (simp; done) | (simp; omega) | (simp at *; done) | (simp at *; omega)) rfl, .inl rfl, .inr (.inl ⟨rfl, 0, rfl, s.body.map encL, hbody, fun t1 => ?_⟩)⟩
  repeat (first | refine det_step rfl ?_ | refine ⟨rfl, ?_⟩ | refine ⟨⟨_, rfl⟩, ?_⟩ | refine ⟨⟨_, rfl, rfl⟩, ?_⟩ | refine ⟨⟨rfl, rfl⟩, ?_⟩ | refine ⟨⟨Nat.le_of_ble_eq_true rfl, Nat.le_of_ble_eq_true rfl⟩, ?_⟩ | refine ⟨Nat.le_of_ble_eq_true rfl, ?_⟩ | refine ⟨_, _, rfl, ?_⟩ | refine ⟨0, _, rfl, ?_⟩ | refine ⟨1, _, rfl, ?_⟩ | refine ⟨2, _, rfl, ?_⟩ | refine ⟨3, _, rfl, ?_⟩ | refine ⟨4, _, rfl, ?_⟩ | refine ⟨5, _, rfl, ?_⟩ | refine ⟨_, rfl, ?_⟩ | intro _)
  refine AW_seq ?_
  refine AW_weak (weak_of (l := [(0, .sl 6 (d.map encD) .no), (4, .ref (cRu r)), (7, .bool true), (8, .sl 1 (a.map encI) .no), (10, .ptr p2 0)]) (m := []) (S' := .cells p2 [.str r.head.rel, .sl 4 (encTs r.head.l) .no, .sl 11 (s.body.map encL) .no, .int .i64 r.line] :: R) ?_ rfl ?_) ?_
  · repeat (first | exact trivial | refine ⟨AVle.refl _, ?_⟩ | refine ⟨AVle.tk, ?_⟩ | refine ⟨AVle.nil, ?_⟩ | refine ⟨AVle.nilFull, ?_⟩ | refine ⟨AVle.eq (congrArg (AV.int .i64) (by first | (simp; done) | (simp; omega) | (rw [wrap_i64 (by first | omega | (simp; omega))]; first | rfl | omega | (simp; done) | (simp; omega)))), ?_⟩)
  · refine SW.le ?_
    repeat (first | exact SW.nil | refine SW.cons ?_ | refine SW.cells (by repeat (first | exact trivial | refine ⟨AVle.refl _, ?_⟩ | refine ⟨AVle.nilFull, ?_⟩ | refine ⟨AVle.tk, ?_⟩ | refine ⟨AVle.nil, ?_⟩)) rfl ?_ | refine SW.full ?_ | refine SW.drop ?_)
  repeat (first | refine ga_ ?_ | intro _)
  refine Or.inl ⟨⟨_, Tryd.func16, rfl, rfl⟩, ACall_args (ACall.mono ?_ (kt3 _ (.tail _ hE0) hEs.cons)) ⟨AVle.refl _, AVle.agg (bs := [.str r.head.rel, .sl 4 (encTs r.head.l) .no, .sl 11 (s.body.map encL) .no, .int .i64 r.line]) ⟨AVle.refl _, AVle.refl _, AVle.tk, AVle.refl _, trivial⟩ (by simp [AV.one]), trivial⟩⟩
  rintro _ S1 ⟨rfl, hS1⟩
  subst S1
  repeat (first | refine ga_ ?_ | intro _)
  refine AW_iff (¬ c2 = 0) rfl (by first | (simp; done) | (simp <;> omega) | decide) (fun h => ?_) (fun h => ?_)
  · rcases ht with rfl | ⟨h', _⟩
    · repeat (first | refine ga_ ?_ | intro _)
      refine AW_ret ?_
      repeat (first | refine ⟨0, rfl, ?_⟩ | refine ⟨1, rfl, ?_⟩ | refine ⟨2, rfl, ?_⟩ | refine ⟨3, rfl, ?_⟩ | refine ⟨4, rfl, ?_⟩ | refine ⟨5, rfl, ?_⟩ | refine ⟨6, rfl, ?_⟩)
      refine ⟨_, R, AVle.eq ?_, (by repeat (first | exact SLe.rfl | refine SLe.tail ?_)), rfl, rfl⟩
      rfl
    · exact absurd h' h
  obtain ⟨_, hgB⟩ : c2 = 0 ∧ ∀ (x : Key), x ∈ varsR s → gB (varsR r) a x = gB (varsR s) a2 x := by
    rcases ht with h' | h'
    · exact absurd (Decidable.not_not.1 h) (by omega)
    · exact h'
  have hc2 : c2 = 0 := Decidable.not_not.1 h
  have hal4 : a2.length = (varsR s).length := by have := typesV_len (V := varsR s) (d := d) (r := s) (by rw [hac2]; exact hc2); rwa [hac2] at this
  repeat (first | refine ga_ ?_ | intro _)
  refine Or.inl ⟨⟨_, Tryd.func14, rfl, rfl⟩, ACall.mono ?_ (kv _ (.tail _ hE0))⟩
  rintro _ S1 ⟨rfl, hS1⟩
  subst S1
  repeat (first | refine ga_ ?_ | intro _)
  refine Or.inl ⟨⟨_, Tryd.func14, rfl, rfl⟩, ACall_args (ACall.mono ?_ (kv3 _ (.tail _ hE0))) ⟨AVle.agg (bs := [.str r.head.rel, .sl 4 (encTs r.head.l) .no, .sl 11 (s.body.map encL) .no, .int .i64 r.line]) ⟨AVle.refl _, AVle.refl _, AVle.tk, AVle.refl _, trivial⟩ (by simp [AV.one]), trivial⟩⟩
  rintro _ S1 ⟨rfl, hS1⟩
  subst S1
  obtain ⟨X, hX⟩ : ∃ x, x = varsR r := ⟨_, rfl⟩
  obtain ⟨Y, hY⟩ : ∃ x, x = varsR s := ⟨_, rfl⟩
  rw [← hX] at hVl hal2 hgB
  rw [← hY] at hVl2 hal4 hgB
  repeat (first | refine ga_ ?_ | intro _)
  refine AW_for (α := Nat) (fun z => ⟨[(7, .bool true), (8, .sl 1 (a.map encI) .no), (11, .sl 1 (a2.map encI) .no), (13, .sl 1 (X.map AV.str) .no), (14, .sl 1 (Y.map AV.str) .no), (15, .int .i64 (z : Nat))], []⟩) (fun z => R) (fun z => Y.length - z) (fun z => z ≤ Y.length) (0) ?_ (weak_of ?_ rfl ?_) (fun z hz => ?_)
  · exact Nat.zero_le _
  · repeat (first | exact trivial | refine ⟨(AVle.slM hX.symm), ?_⟩ | refine ⟨(AVle.slM hY.symm), ?_⟩ | refine ⟨AVle.refl _, ?_⟩ | refine ⟨AVle.tk, ?_⟩ | refine ⟨AVle.nil, ?_⟩ | refine ⟨AVle.nilFull, ?_⟩ | refine ⟨AVle.eq (congrArg (AV.int .i64) (by first | (simp; done) | (simp; omega) | (rw [wrap_i64 (by first | omega | (simp; omega))]; first | rfl | omega | (simp; done) | (simp; omega)))), ?_⟩)
  · repeat (first | exact SLe.rfl | refine SLe.tail ?_ | refine SLe.full ?_)
  replace hz : z ≤ Y.length := hz
  repeat (first | refine ga_ ?_ | intro _)
  refine AW_iff (z < Y.length) rfl (by first | (simp; done) | (simp <;> omega) | decide) (fun h => ?_) (fun h => ?_)
  · have hlt := h
    obtain ⟨y, hy⟩ : ∃ y, y = Y[z] := ⟨_, rfl⟩
    have hm : y ∈ Y := hy ▸ List.getElem_mem hlt
    obtain ⟨v, hv⟩ : ∃ v, v = gB X a y := ⟨_, rfl⟩
    have k1 := fun R => typed_ok X a y R (by omega) (by omega)
    have k2 := fun R => typed_ok Y a2 y R (by omega) (by omega)
    rw [← hgB y hm, ← hv] at k2
    rw [← hv] at k1
    repeat (first | refine ga_ ?_ | intro _)
    refine AW_draw tab_ok mixed 15 (by first | rfl | kernel_rfl) ?_
    repeat (first | refine ga_ ?_ | intro _)
    refine at_map (z) (by first | rfl | omega | (rw [wrap_i64 (by omega)]; omega)) (by first | assumption | omega) ?_
    rw [← hy]
    repeat (first | refine ga_ ?_ | intro _)
    apply call_step
    · rfl
    · exact Or.inl ⟨⟨_, Tryd.func19, rfl, rfl⟩, k1 _⟩
    repeat (first | refine ga_ ?_ | intro _)
    refine at_map (z) (by first | rfl | omega | (rw [wrap_i64 (by omega)]; omega)) (by first | assumption | omega) ?_
    rw [← hy]
    repeat (first | refine ga_ ?_ | intro _)
    apply call_step
    · rfl
    · exact Or.inl ⟨⟨_, Tryd.func19, rfl, rfl⟩, k2 _⟩
    repeat (first | refine ga_ ?_ | intro _)
    refine AW_iff (¬ v = v) rfl (by first | (simp; done) | (simp <;> omega) | decide) (fun h => ?_) (fun h => ?_)
    · exact absurd rfl h
    repeat (first | refine ga_ ?_ | intro _)
    refine ⟨z + 1, ?_, ?_, weak_of ?_ rfl ?_⟩
    · omega
    · exact hlt
    · repeat (first | exact trivial | refine ⟨AVle.refl _, ?_⟩ | refine ⟨AVle.tk, ?_⟩ | refine ⟨AVle.nil, ?_⟩ | refine ⟨AVle.nilFull, ?_⟩ | refine ⟨AVle.eq (congrArg (AV.int .i64) (by first | (simp; done) | (simp; omega) | (rw [wrap_i64 (by first | omega | (simp; omega))]; first | rfl | omega | (simp; done) | (simp; omega)))), ?_⟩)
    · repeat (first | exact SLe.rfl | refine SLe.tail ?_ | refine SLe.full ?_)
  · repeat (first | refine ga_ ?_ | intro _)
    refine known_true (b := decide (((a.map encI).length : Int) = ((X.map AV.str).length : Int))) (by exact decide_eq_true (by simp [hal2])) ?_
    repeat (first | refine ga_ ?_ | intro _)
    refine AW_ret ?_
    repeat (first | refine ⟨0, rfl, ?_⟩ | refine ⟨1, rfl, ?_⟩ | refine ⟨2, rfl, ?_⟩ | refine ⟨3, rfl, ?_⟩ | refine ⟨4, rfl, ?_⟩ | refine ⟨5, rfl, ?_⟩ | refine ⟨6, rfl, ?_⟩)
    refine ⟨_, R, AVle.eq ?_, (by repeat (first | exact SLe.rfl | refine SLe.tail ?_)), rfl, rfl⟩
    exact congrArg AV.bool (decide_eq_true (by simp [hal4]))
end Go.Proofs.YtkmalncnaodkiaaDoor
/-
  DtypeMoves: the walk. Own work.
-/
namespace Go.Proofs.YtkmalncnaodkiaaDoor
open Go.Aw Go.RowKit
set_option maxHeartbeats 30000000

def moveR (r : Ru) (i k : Nat) (hi : i < r.body.length) (hk : k < r.body.length) : Ru := ⟨r.head, (r.body.set i r.body[k]).set k r.body[i], r.line⟩
theorem move_like {r : Ru} {i k : Nat} (hi : i < r.body.length) (hk : k < r.body.length) : Like r (moveR r i k hi hk) := by
  have hp : (moveR r i k hi hk).body.Perm r.body := List.set_set_perm hi hk
  exact ⟨⟨rfl, fun l hl => hp.mem_iff.1 hl⟩, ⟨rfl, fun l hl => hp.mem_iff.2 hl⟩, hp.length_eq⟩
theorem move_few {r : Ru} {i k : Nat} (hi : i < r.body.length) (hk : k < r.body.length) (h : few r) : few (moveR r i k hi hk) :=
  few_less (b := (r.body.set i r.body[k]).set k r.body[i]) h ⟨[], by rw [List.append_nil]; exact List.set_set_perm hi hk⟩
theorem nq {x y : Int} (h : x = y) : (!decide (x = y)) = false := by rw [decide_eq_true h]; rfl
def cB (l : List Li) : List AV := Aw.flat (l.map encL)
theorem cB_len (l : List Li) : (cB l).length = l.length * 11 := by
  unfold cB
  rw [flat_size (sz := 11) (fun e he => by obtain ⟨x, _, rfl⟩ := List.mem_map.1 he; rfl), List.length_map]
theorem cB_set {l : List Li} {i : Nat} (hi : i < l.length) (x : Li) : setCells (cB l) (i * 11) (encL x).cells = cB (l.set i x) := by
  unfold cB
  rw [flat_set (sz := 11) (fun e he => by obtain ⟨y, _, rfl⟩ := List.mem_map.1 he; rfl) (by simpa using hi) rfl, List.map_set]
theorem cB_new {z : List AV} {l : List Li} (hz : z.length = 11) : setCells (zerosAV z l.length) (0 + 0 * 11) (cB l) = cB l := by
  have h1 : (zerosAV z l.length).length = l.length * 11 := by rw [zerosAV_len, hz]
  have h2 := cB_len l
  unfold setCells
  rw [List.drop_eq_nil_of_le (by omega)]
  simp
theorem dtypeMoves_ok (d : List De) (r : Ru) (i k : Int) (R : List En) (b o : Nat) (e : Es) (hE0 : En.glob 0 [errE b o] ∈ R) (hEs : EsIn e R) : ACall Tryd.prog 5 [.sl 6 (d.map encD) .no, encRu r, .int .i64 i, .int .i64 k] R (fun v S => v = .bool true ∧ S = R) := by
  refine ACall_sat fun hs => ?_
  have hP := okDs_of (hs _ (.head _)) [r]
  have ks := fun R => small_d_ok d r R hP
  have kh := fun R h0 hE => shown_ok b o e R h0 hE
  by_cases hb : smallB ⟨d, [r]⟩ = true
  rotate_left
  · have hb' : smallB ⟨d, [r]⟩ = false := by simpa using hb
    rw [hb'] at ks
    refine ACall_body tab_ok Tryd.func5 rfl rfl rfl (by kernel_rfl) (Nat.le_of_ble_eq_true rfl) ?_
    repeat (first | refine go_ ?_ | intro _)
    refine Or.inl ⟨⟨_, Tryd.func9, rfl, rfl⟩, ACall.mono ?_ (kh _ (.tail _ hE0) hEs.cons)⟩
    rintro _ S1 ⟨rfl, hS1⟩
    subst S1
    repeat (first | refine go_ ?_ | intro _)
    refine Or.inl ⟨⟨_, Tryd.func10, rfl, rfl⟩, ACall.mono ?_ (ks _)⟩
    rintro _ S1 ⟨rfl, hS1⟩
    subst S1
    repeat (first | refine ga_ ?_ | intro _)
    refine AW_ret ?_
    repeat (first | refine ⟨0, rfl, ?_⟩ | refine ⟨1, rfl, ?_⟩ | refine ⟨2, rfl, ?_⟩ | refine ⟨3, rfl, ?_⟩ | refine ⟨4, rfl, ?_⟩ | refine ⟨5, rfl, ?_⟩ | refine ⟨6, rfl, ?_⟩)
    refine ⟨_, R, AVle.eq ?_, (by repeat (first | exact SLe.rfl | refine SLe.tail ?_)), rfl, rfl⟩
    rfl
  rw [hb] at ks
  obtain ⟨hf, hd⟩ := small_1 hb
  have hf2 : (termsTs (topsR r)).length + r.body.length ≤ 2000 := hf
  by_cases h0 : i < 0
  · refine ACall_body tab_ok Tryd.func5 rfl rfl rfl (by kernel_rfl) (Nat.le_of_ble_eq_true rfl) ?_
    repeat (first | refine go_ ?_ | intro _)
    refine Or.inl ⟨⟨_, Tryd.func9, rfl, rfl⟩, ACall.mono ?_ (kh _ (.tail _ hE0) hEs.cons)⟩
    rintro _ S1 ⟨rfl, hS1⟩
    subst S1
    repeat (first | refine go_ ?_ | intro _)
    refine Or.inl ⟨⟨_, Tryd.func10, rfl, rfl⟩, ACall.mono ?_ (ks _)⟩
    rintro _ S1 ⟨rfl, hS1⟩
    subst S1
    repeat (first | refine ga_ ?_ | intro _)
    refine known_true (b := decide (i < 0)) (by exact decide_eq_true h0) ?_
    repeat (first | refine ga_ ?_ | intro _)
    refine AW_ret ?_
    repeat (first | refine ⟨0, rfl, ?_⟩ | refine ⟨1, rfl, ?_⟩ | refine ⟨2, rfl, ?_⟩ | refine ⟨3, rfl, ?_⟩ | refine ⟨4, rfl, ?_⟩ | refine ⟨5, rfl, ?_⟩ | refine ⟨6, rfl, ?_⟩)
    refine ⟨_, R, AVle.eq ?_, (by repeat (first | exact SLe.rfl | refine SLe.tail ?_)), rfl, rfl⟩
    rfl
  obtain ⟨i, rfl⟩ : ∃ j : Nat, i = (j : Int) := ⟨i.toNat, by omega⟩
  by_cases h1 : k < 0
  · refine ACall_body tab_ok Tryd.func5 rfl rfl rfl (by kernel_rfl) (Nat.le_of_ble_eq_true rfl) ?_
    repeat (first | refine go_ ?_ | intro _)
    refine Or.inl ⟨⟨_, Tryd.func9, rfl, rfl⟩, ACall.mono ?_ (kh _ (.tail _ hE0) hEs.cons)⟩
    rintro _ S1 ⟨rfl, hS1⟩
    subst S1
    repeat (first | refine go_ ?_ | intro _)
    refine Or.inl ⟨⟨_, Tryd.func10, rfl, rfl⟩, ACall.mono ?_ (ks _)⟩
    rintro _ S1 ⟨rfl, hS1⟩
    subst S1
    repeat (first | refine ga_ ?_ | intro _)
    refine known_true (b := decide (k < 0)) (by exact decide_eq_true h1) ?_
    repeat (first | refine ga_ ?_ | intro _)
    refine AW_ret ?_
    repeat (first | refine ⟨0, rfl, ?_⟩ | refine ⟨1, rfl, ?_⟩ | refine ⟨2, rfl, ?_⟩ | refine ⟨3, rfl, ?_⟩ | refine ⟨4, rfl, ?_⟩ | refine ⟨5, rfl, ?_⟩ | refine ⟨6, rfl, ?_⟩)
    refine ⟨_, R, AVle.eq ?_, (by repeat (first | exact SLe.rfl | refine SLe.tail ?_)), rfl, rfl⟩
    rfl
  obtain ⟨k, rfl⟩ : ∃ j : Nat, k = (j : Int) := ⟨k.toNat, by omega⟩
  by_cases h2 : r.body.length ≤ i
  · refine ACall_body tab_ok Tryd.func5 rfl rfl rfl (by kernel_rfl) (Nat.le_of_ble_eq_true rfl) ?_
    repeat (first | refine go_ ?_ | intro _)
    refine Or.inl ⟨⟨_, Tryd.func9, rfl, rfl⟩, ACall.mono ?_ (kh _ (.tail _ hE0) hEs.cons)⟩
    rintro _ S1 ⟨rfl, hS1⟩
    subst S1
    repeat (first | refine go_ ?_ | intro _)
    refine Or.inl ⟨⟨_, Tryd.func10, rfl, rfl⟩, ACall.mono ?_ (ks _)⟩
    rintro _ S1 ⟨rfl, hS1⟩
    subst S1
    repeat (first | refine ga_ ?_ | intro _)
    refine known_true (b := decide (((r.body.map encL).length : Int) ≤ (i : Int))) (by exact decide_eq_true (by simp; omega)) ?_
    repeat (first | refine ga_ ?_ | intro _)
    refine AW_ret ?_
    repeat (first | refine ⟨0, rfl, ?_⟩ | refine ⟨1, rfl, ?_⟩ | refine ⟨2, rfl, ?_⟩ | refine ⟨3, rfl, ?_⟩ | refine ⟨4, rfl, ?_⟩ | refine ⟨5, rfl, ?_⟩ | refine ⟨6, rfl, ?_⟩)
    refine ⟨_, R, AVle.eq ?_, (by repeat (first | exact SLe.rfl | refine SLe.tail ?_)), rfl, rfl⟩
    rfl
  by_cases h3 : r.body.length ≤ k
  · refine ACall_body tab_ok Tryd.func5 rfl rfl rfl (by kernel_rfl) (Nat.le_of_ble_eq_true rfl) ?_
    repeat (first | refine go_ ?_ | intro _)
    refine Or.inl ⟨⟨_, Tryd.func9, rfl, rfl⟩, ACall.mono ?_ (kh _ (.tail _ hE0) hEs.cons)⟩
    rintro _ S1 ⟨rfl, hS1⟩
    subst S1
    repeat (first | refine go_ ?_ | intro _)
    refine Or.inl ⟨⟨_, Tryd.func10, rfl, rfl⟩, ACall.mono ?_ (ks _)⟩
    rintro _ S1 ⟨rfl, hS1⟩
    subst S1
    repeat (first | refine ga_ ?_ | intro _)
    refine known_false (b := decide (((r.body.map encL).length : Int) ≤ (i : Int))) (by exact decide_eq_false (by simp; omega)) ?_
    repeat (first | refine ga_ ?_ | intro _)
    refine AW_true (b := decide (((r.body.map encL).length : Int) ≤ (k : Int))) rfl (by exact decide_eq_true (by simp; omega)) ?_
    repeat (first | refine ga_ ?_ | intro _)
    refine AW_ret ?_
    repeat (first | refine ⟨0, rfl, ?_⟩ | refine ⟨1, rfl, ?_⟩ | refine ⟨2, rfl, ?_⟩ | refine ⟨3, rfl, ?_⟩ | refine ⟨4, rfl, ?_⟩ | refine ⟨5, rfl, ?_⟩ | refine ⟨6, rfl, ?_⟩)
    refine ⟨_, R, AVle.eq ?_, (by repeat (first | exact SLe.rfl | refine SLe.tail ?_)), rfl, rfl⟩
    rfl
  have hi : i < r.body.length := by omega
  have hk : k < r.body.length := by omega
  obtain ⟨x, hx⟩ : ∃ x, x = r.body[i] := ⟨_, rfl⟩
  obtain ⟨y, hy⟩ : ∃ x, x = r.body[k] := ⟨_, rfl⟩
  have hlike := move_like hi hk
  have hfm := move_few hi hk hf
  obtain ⟨s, hs'⟩ : ∃ s, s = moveR r i k hi hk := ⟨_, rfl⟩
  rw [← hs'] at hlike hfm
  have hsb : s.body = (r.body.set i y).set k x := by rw [hs', hx, hy]; rfl
  have hen : encRu s = .agg [.str r.head.rel, .sl 4 (encTs r.head.l) .no, .sl 11 (s.body.map encL) .no, .int .i64 r.line] := by rw [hs']; rfl
  have hsl : s.body.length = r.body.length := hlike.len
  refine ACall_body tab_ok Tryd.func5 rfl rfl rfl (by kernel_rfl) (Nat.le_of_ble_eq_true rfl) ?_
  repeat (first | refine go_ ?_ | intro _)
  refine Or.inl ⟨⟨_, Tryd.func9, rfl, rfl⟩, ACall.mono ?_ (kh _ (.tail _ hE0) hEs.cons)⟩
  rintro _ S1 ⟨rfl, hS1⟩
  subst S1
  repeat (first | refine go_ ?_ | intro _)
  refine Or.inl ⟨⟨_, Tryd.func10, rfl, rfl⟩, ACall.mono ?_ (ks _)⟩
  rintro _ S1 ⟨rfl, hS1⟩
  subst S1
  repeat (first | refine ga_ ?_ | intro _)
  refine known_false (b := decide (((r.body.map encL).length : Int) ≤ (i : Int))) (by exact decide_eq_false (by simp; omega)) ?_
  repeat (first | refine ga_ ?_ | intro _)
  refine AW_false (b := decide (((r.body.map encL).length : Int) ≤ (k : Int))) rfl (by exact decide_eq_false (by simp; omega)) ?_
  repeat (first | refine ga_ ?_ | intro _)
  rename_i p p2
  refine AW_weak (weak_of (l := [(0, .sl 6 (d.map encD) .no), (2, .int .i64 (i : Int)), (3, .int .i64 (k : Int)), (5, .ptr p 0), (9, .bool true), (10, .ptr p2 0)]) (m := []) (S' := .cells p2 (cRu r) :: .cells p (cRu r) :: R) ?_ rfl ?_) ?_
  · repeat (first | exact trivial | refine ⟨AVle.refl _, ?_⟩ | refine ⟨AVle.tk, ?_⟩ | refine ⟨AVle.nil, ?_⟩ | refine ⟨AVle.nilFull, ?_⟩ | refine ⟨AVle.eq (congrArg (AV.int .i64) (by first | (simp; done) | (simp; omega) | (rw [wrap_i64 (by first | omega | (simp; omega))]; first | rfl | omega | (simp; done) | (simp; omega)))), ?_⟩)
  · refine SW.le ?_
    repeat (first | exact SW.nil | refine SW.cons ?_ | refine SW.cells (by repeat (first | exact trivial | refine ⟨AVle.refl _, ?_⟩ | refine ⟨AVle.nilFull, ?_⟩ | refine ⟨AVle.tk, ?_⟩ | refine ⟨AVle.nil, ?_⟩)) rfl ?_ | refine SW.full ?_ | refine SW.drop ?_)
  refine AW_freezeP 5 (p := 1) rfl rfl ?_
  refine AW_drawp2 tab_ok mixed [0, 1, 2, 4, 5, 3, 6, 7, 8] [0, 1, 2, 5, 3, 4, 6, 7, 8] 5 [3, 4] (by first | rfl | kernel_rfl) (by first | rfl | kernel_rfl) ?_
  repeat (first | refine ga_ ?_ | intro _)
  refine ⟨0, r.body.length, rfl, (by simp), Nat.zero_le _, room (by first | omega | (simp; omega)) rfl, .inr fun b1 => ?_⟩
  repeat (first | refine ga_ ?_ | intro _)
  refine ⟨r.body.length, 0, _, room (by omega) rfl, rfl, (by show 0 + 0 * 11 ≤ _; omega), .inl ⟨.inl ⟨_, rfl⟩, cB r.body, ⟨.inl rfl, (by simp), rfl⟩, fun hc => ⟨(by show 0 + (0 + r.body.length) * 11 ≤ (zerosAV _ r.body.length).length; rw [zerosAV_len]; show _ ≤ r.body.length * 11; omega), cB r.body, cB_new rfl, ?_⟩, fun hc => absurd hc (by omega)⟩⟩
  repeat (first | refine ga_ ?_ | intro _)
  refine AW_drop (SLe.of_eq (congrArg (fun n => (En.cells b1 (cB r.body) :: En.cells p2 [.str r.head.rel, .sl 4 (encTs r.head.l) .no, .msl b1 0 n r.body.length, .int .i64 r.line] :: R)) (Nat.zero_add r.body.length))) ?_
  refine AW_weak (weak_of (l := [(0, .sl 6 (d.map encD) .no), (2, .int .i64 (i : Int)), (3, .int .i64 (k : Int)), (5, .ref (cRu r)), (9, .bool true), (10, .ptr p2 0)]) (m := []) (S' := .cells b1 (cB r.body) :: .cells p2 [.str r.head.rel, .sl 4 (encTs r.head.l) .no, .msl b1 0 r.body.length r.body.length, .int .i64 r.line] :: R) ?_ rfl ?_) ?_
  · repeat (first | exact trivial | refine ⟨AVle.refl _, ?_⟩ | refine ⟨AVle.tk, ?_⟩ | refine ⟨AVle.nil, ?_⟩ | refine ⟨AVle.nilFull, ?_⟩ | refine ⟨AVle.eq (congrArg (AV.int .i64) (by first | (simp; done) | (simp; omega) | (rw [wrap_i64 (by first | omega | (simp; omega))]; first | rfl | omega | (simp; done) | (simp; omega)))), ?_⟩)
  · refine SW.le ?_
    repeat (first | exact SW.nil | refine SW.cons ?_ | refine SW.cells (by repeat (first | exact trivial | refine ⟨AVle.refl _, ?_⟩ | refine ⟨AVle.nilFull, ?_⟩ | refine ⟨AVle.tk, ?_⟩ | refine ⟨AVle.nil, ?_⟩)) rfl ?_ | refine SW.full ?_ | refine SW.drop ?_)
  refine AW_draw tab_ok mixed 9 (by first | rfl | kernel_rfl) ?_
  repeat (first | refine ga_ ?_ | intro _)
  refine at_map (k) (by first | rfl | omega | (rw [wrap_i64 (by omega)]; omega)) (by first | assumption | omega) ?_
  rw [← hy]
  repeat (first | refine ga_ ?_ | intro _)
  refine at_msl i (i * 11) rfl hi (by show 0 + i * 11 = _; omega) ?_
  repeat (first | refine ga_ ?_ | intro _)
  refine ⟨(by show i * 11 + 11 ≤ (cB r.body).length; rw [cB_len]; omega), cB (r.body.set i y), cB_set hi y, ?_⟩
  repeat (first | refine ga_ ?_ | intro _)
  refine AW_weak (weak_of (l := [(0, .sl 6 (d.map encD) .no), (2, .int .i64 (i : Int)), (3, .int .i64 (k : Int)), (5, .ref (cRu r)), (9, .bool true), (10, .ptr p2 0)]) (m := []) (S' := .cells b1 (cB (r.body.set i y)) :: .cells p2 [.str r.head.rel, .sl 4 (encTs r.head.l) .no, .msl b1 0 r.body.length r.body.length, .int .i64 r.line] :: R) ?_ rfl ?_) ?_
  · repeat (first | exact trivial | refine ⟨AVle.refl _, ?_⟩ | refine ⟨AVle.tk, ?_⟩ | refine ⟨AVle.nil, ?_⟩ | refine ⟨AVle.nilFull, ?_⟩ | refine ⟨AVle.eq (congrArg (AV.int .i64) (by first | (simp; done) | (simp; omega) | (rw [wrap_i64 (by first | omega | (simp; omega))]; first | rfl | omega | (simp; done) | (simp; omega)))), ?_⟩)
  · refine SW.le ?_
    repeat (first | exact SW.nil | refine SW.cons ?_ | refine SW.cells (by repeat (first | exact trivial | refine ⟨AVle.refl _, ?_⟩ | refine ⟨AVle.nilFull, ?_⟩ | refine ⟨AVle.tk, ?_⟩ | refine ⟨AVle.nil, ?_⟩)) rfl ?_ | refine SW.full ?_ | refine SW.drop ?_)
  refine AW_draw tab_ok mixed 9 (by first | rfl | kernel_rfl) ?_
  repeat (first | refine ga_ ?_ | intro _)
  refine at_map (i) (by first | rfl | omega | (rw [wrap_i64 (by omega)]; omega)) (by first | assumption | omega) ?_
  rw [← hx]
  repeat (first | refine ga_ ?_ | intro _)
  refine at_msl k (k * 11) rfl hk (by show 0 + k * 11 = _; omega) ?_
  repeat (first | refine ga_ ?_ | intro _)
  refine ⟨(by show k * 11 + 11 ≤ (cB (r.body.set i y)).length; rw [cB_len, List.length_set]; omega), cB s.body, (by rw [hsb]; exact cB_set (by rw [List.length_set]; exact hk) x), ?_⟩
  refine AW_seq ?_
  refine AW_weak (weak_of (l := [(0, .sl 6 (d.map encD) .no), (5, .ref (cRu r)), (9, .bool true), (10, .ptr p2 0)]) (m := []) (S' := .cells b1 (cB s.body) :: .cells p2 [.str r.head.rel, .sl 4 (encTs r.head.l) .no, .msl b1 0 r.body.length r.body.length, .int .i64 r.line] :: R) ?_ rfl ?_) ?_
  · repeat (first | exact trivial | refine ⟨AVle.refl _, ?_⟩ | refine ⟨AVle.tk, ?_⟩ | refine ⟨AVle.nil, ?_⟩ | refine ⟨AVle.nilFull, ?_⟩ | refine ⟨AVle.eq (congrArg (AV.int .i64) (by first | (simp; done) | (simp; omega) | (rw [wrap_i64 (by first | omega | (simp; omega))]; first | rfl | omega | (simp; done) | (simp; omega)))), ?_⟩)
  · refine SW.le ?_
    repeat (first | exact SW.nil | refine SW.cons ?_ | refine SW.cells (by repeat (first | exact trivial | refine ⟨AVle.refl _, ?_⟩ | refine ⟨AVle.nilFull, ?_⟩ | refine ⟨AVle.tk, ?_⟩ | refine ⟨AVle.nil, ?_⟩)) rfl ?_ | refine SW.full ?_ | refine SW.drop ?_)
  refine AW_freezeC (sz := 11) (es := s.body.map encL) (off := 0) (n := r.body.length) (cap := r.body.length) (qs' := [.str r.head.rel, .sl 4 (encTs r.head.l) .no, .sl 11 (s.body.map encL) .no, .int .i64 r.line]) (by simp [hsl]) (fun e he => by obtain ⟨x, _, rfl⟩ := List.mem_map.1 he; rfl) (by rw [List.drop_zero, List.take_of_length_le (by rw [cB_len, hsl]; exact Nat.le_refl _)]; rfl) ⟨.inl rfl, .inl rfl, .inr ⟨rfl, rfl⟩, .inl rfl, trivial⟩ (by simp [AV.one]) ?_
  have kt := fun R h0 hE => types_ok b o e d r R h0 hE hd hf
  have kt2 := fun R h0 hE => types_ok b o e d s R h0 hE hd hfm
  have kv := fun R h0 => vars_ok b o r R h0 hf
  have kv2 := fun R h0 => vars_ok b o s R h0 hfm
  have ht := types_like (d := d) hlike (by omega)
  have hvs := hlike.vars (by omega)
  have hal1 := typesV_le (varsR r) d r
  have hal2 := typesV_le (varsR s) d s
  have hVl := varsR_len hf
  have hVl2 := varsR_len hfm
  obtain ⟨a, c, hac⟩ : ∃ l c, typesV (varsR r) d r = (l, c) := ⟨_, _, rfl⟩
  obtain ⟨a2, c2, hac2⟩ : ∃ l c, typesV (varsR s) d s = (l, c) := ⟨_, _, rfl⟩
  rw [hac, hac2] at ht
  rw [hac] at kt hal1
  rw [hac2] at kt2 hal2
  rw [hen] at kt2 kv2
  unfold typesA at kt kt2
  simp only [] at ht hal1 hal2
  obtain ⟨X, hX⟩ : ∃ x, x = varsR r := ⟨_, rfl⟩
  obtain ⟨Y, hY⟩ : ∃ x, x = varsR s := ⟨_, rfl⟩
  rw [← hX] at hVl hal1 ht hvs kv
  rw [← hY] at hVl2 hal2 ht hvs kv2
  repeat (first | refine ga_ ?_ | intro _)
  refine Or.inl ⟨⟨_, Tryd.func16, rfl, rfl⟩, ACall.mono ?_ (kt _ (.tail _ hE0) hEs.cons)⟩
  rintro _ S1 ⟨rfl, hS1⟩
  subst S1
  repeat (first | refine ga_ ?_ | intro _)
  refine Or.inl ⟨⟨_, Tryd.func16, rfl, rfl⟩, ACall.mono ?_ (kt2 _ (.tail _ hE0) hEs.cons)⟩
  rintro _ S1 ⟨rfl, hS1⟩
  subst S1
  repeat (first | refine ga_ ?_ | intro _)
  rcases ht with ⟨hc, hc2⟩ | ⟨hn, hcc, ht⟩
  · rcases hc with rfl | rfl
    · rcases hc2 with rfl | rfl
      · repeat (first | refine ga_ ?_ | intro _)
        refine AW_ret ?_
        repeat (first | refine ⟨0, rfl, ?_⟩ | refine ⟨1, rfl, ?_⟩ | refine ⟨2, rfl, ?_⟩ | refine ⟨3, rfl, ?_⟩ | refine ⟨4, rfl, ?_⟩ | refine ⟨5, rfl, ?_⟩ | refine ⟨6, rfl, ?_⟩)
        refine ⟨_, R, AVle.eq ?_, (by repeat (first | exact SLe.rfl | refine SLe.tail ?_)), rfl, rfl⟩
        rfl
      · repeat (first | refine ga_ ?_ | intro _)
        refine AW_ret ?_
        repeat (first | refine ⟨0, rfl, ?_⟩ | refine ⟨1, rfl, ?_⟩ | refine ⟨2, rfl, ?_⟩ | refine ⟨3, rfl, ?_⟩ | refine ⟨4, rfl, ?_⟩ | refine ⟨5, rfl, ?_⟩ | refine ⟨6, rfl, ?_⟩)
        refine ⟨_, R, AVle.eq ?_, (by repeat (first | exact SLe.rfl | refine SLe.tail ?_)), rfl, rfl⟩
        rfl
    · rcases hc2 with rfl | rfl
      · repeat (first | refine ga_ ?_ | intro _)
        refine AW_ret ?_
        repeat (first | refine ⟨0, rfl, ?_⟩ | refine ⟨1, rfl, ?_⟩ | refine ⟨2, rfl, ?_⟩ | refine ⟨3, rfl, ?_⟩ | refine ⟨4, rfl, ?_⟩ | refine ⟨5, rfl, ?_⟩ | refine ⟨6, rfl, ?_⟩)
        refine ⟨_, R, AVle.eq ?_, (by repeat (first | exact SLe.rfl | refine SLe.tail ?_)), rfl, rfl⟩
        rfl
      · repeat (first | refine ga_ ?_ | intro _)
        refine AW_ret ?_
        repeat (first | refine ⟨0, rfl, ?_⟩ | refine ⟨1, rfl, ?_⟩ | refine ⟨2, rfl, ?_⟩ | refine ⟨3, rfl, ?_⟩ | refine ⟨4, rfl, ?_⟩ | refine ⟨5, rfl, ?_⟩ | refine ⟨6, rfl, ?_⟩)
        refine ⟨_, R, AVle.eq ?_, (by repeat (first | exact SLe.rfl | refine SLe.tail ?_)), rfl, rfl⟩
        rfl
  subst hcc
  refine known_false (b := decide (c = 51)) (by exact decide_eq_false (fun h => hn (.inl h))) ?_
  repeat (first | refine ga_ ?_ | intro _)
  refine AW_false (b := decide (c = 52)) rfl (by exact decide_eq_false (fun h => hn (.inr h))) ?_
  repeat (first | refine ga_ ?_ | intro _)
  refine Or.inl ⟨⟨_, Tryd.func14, rfl, rfl⟩, ACall.mono ?_ (kv _ (.tail _ hE0))⟩
  rintro _ S1 ⟨rfl, hS1⟩
  subst S1
  repeat (first | refine ga_ ?_ | intro _)
  refine Or.inl ⟨⟨_, Tryd.func14, rfl, rfl⟩, ACall.mono ?_ (kv2 _ (.tail _ hE0))⟩
  rintro _ S1 ⟨rfl, hS1⟩
  subst S1
  repeat (first | refine ga_ ?_ | intro _)
  by_cases hc0 : c = 0
  · subst hc0
    obtain ⟨l1, l2, hgB, h12⟩ := ht rfl
    refine known_false (b := !decide ((0 : Int) = 0)) (by exact nq (by simp [hvs.1])) ?_
    repeat (first | refine ga_ ?_ | intro _)
    refine known_false (b := !decide (((X.map AV.str).length : Int) = ((Y.map AV.str).length : Int))) (by exact nq (by simp [hvs.1])) ?_
    repeat (first | refine ga_ ?_ | intro _)
    refine known_false (b := !decide (((a.map encI).length : Int) = ((X.map AV.str).length : Int))) (by exact nq (by simp [l1])) ?_
    repeat (first | refine ga_ ?_ | intro _)
    refine AW_false (b := !decide (((a2.map encI).length : Int) = ((Y.map AV.str).length : Int))) rfl (by exact nq (by simp [l2])) ?_
    repeat (first | refine ga_ ?_ | intro _)
    refine AW_for (α := Nat) (fun z => ⟨[(9, .bool true), (11, .sl 1 (a.map encI) .no), (12, .int .i64 0), (13, .sl 1 (a2.map encI) .no), (15, .sl 1 (X.map AV.str) .no), (16, .sl 1 (Y.map AV.str) .no), (17, .int .i64 (z : Nat))], []⟩) (fun z => R) (fun z => X.length - z) (fun z => z ≤ X.length) (0) ?_ (weak_of ?_ rfl ?_) (fun z hz => ?_)
    · exact Nat.zero_le _
    · repeat (first | exact trivial | refine ⟨AVle.refl _, ?_⟩ | refine ⟨AVle.tk, ?_⟩ | refine ⟨AVle.nil, ?_⟩ | refine ⟨AVle.nilFull, ?_⟩ | refine ⟨AVle.eq (congrArg (AV.int .i64) (by first | (simp; done) | (simp; omega) | (rw [wrap_i64 (by first | omega | (simp; omega))]; first | rfl | omega | (simp; done) | (simp; omega)))), ?_⟩)
    · repeat (first | exact SLe.rfl | refine SLe.tail ?_ | refine SLe.full ?_)
    replace hz : z ≤ X.length := hz
    repeat (first | refine ga_ ?_ | intro _)
    refine gsplit (z < X.length) (by first | (simp; done) | (simp <;> omega) | decide) (fun h => ?_) (fun h => ?_)
    · have hlt := h
      have hla : z < a.length := by omega
      obtain ⟨u, hu⟩ : ∃ u, u = X[z] := ⟨_, rfl⟩
      have hm : u ∈ X := hu ▸ List.getElem_mem hlt
      obtain ⟨w, hw⟩ : ∃ w, w = a[z] := ⟨_, rfl⟩
      have hw2 := h12 w (hw ▸ List.getElem_mem hla)
      obtain ⟨v, hv⟩ : ∃ v, v = gB X a u := ⟨_, rfl⟩
      have k1 := fun R => typed_ok X a u R (by omega) (by omega)
      have k2 := fun R => typed_ok Y a2 u R (by omega) (by omega)
      rw [← hgB u hm, ← hv] at k2
      rw [← hv] at k1
      repeat (first | refine ga_ ?_ | intro _)
      refine AW_draw tab_ok mixed 29 (by first | rfl | kernel_rfl) ?_
      repeat (first | refine ga_ ?_ | intro _)
      refine at_map (z) (by first | rfl | omega | (rw [wrap_i64 (by omega)]; omega)) (by first | assumption | omega) ?_
      rw [← hu]
      repeat (first | refine ga_ ?_ | intro _)
      apply call_step
      · rfl
      · exact Or.inl ⟨⟨_, Tryd.func19, rfl, rfl⟩, k1 _⟩
      repeat (first | refine ga_ ?_ | intro _)
      refine at_map (z) (by first | rfl | omega | (rw [wrap_i64 (by omega)]; omega)) (by first | assumption | omega) ?_
      rw [← hu]
      repeat (first | refine ga_ ?_ | intro _)
      apply call_step
      · rfl
      · exact Or.inl ⟨⟨_, Tryd.func19, rfl, rfl⟩, k2 _⟩
      repeat (first | refine ga_ ?_ | intro _)
      refine known_false (b := !decide (v = v)) (by exact nq (by simp [hvs.1])) ?_
      repeat (first | refine ga_ ?_ | intro _)
      refine at_map (z) (by first | rfl | omega | (rw [wrap_i64 (by omega)]; omega)) (by first | assumption | omega) ?_
      rw [← hw]
      repeat (first | refine ga_ ?_ | intro _)
      refine gsplit (¬ w = 1) (by first | (simp; done) | (simp <;> omega) | decide) (fun h => ?_) (fun h => ?_)
      · repeat (first | refine ga_ ?_ | intro _)
        refine at_map (z) (by first | rfl | omega | (rw [wrap_i64 (by omega)]; omega)) (by first | assumption | omega) ?_
        rw [← hw]
        repeat (first | refine ga_ ?_ | intro _)
        refine AW_false (b := !decide (w = 2)) rfl (by exact nq (by omega)) ?_
        repeat (first | refine ga_ ?_ | intro _)
        refine ⟨z + 1, ?_, ?_, weak_of ?_ rfl ?_⟩
        · omega
        · exact hlt
        · repeat (first | exact trivial | refine ⟨AVle.refl _, ?_⟩ | refine ⟨AVle.tk, ?_⟩ | refine ⟨AVle.nil, ?_⟩ | refine ⟨AVle.nilFull, ?_⟩ | refine ⟨AVle.eq (congrArg (AV.int .i64) (by first | (simp; done) | (simp; omega) | (rw [wrap_i64 (by first | omega | (simp; omega))]; first | rfl | omega | (simp; done) | (simp; omega)))), ?_⟩)
        · repeat (first | exact SLe.rfl | refine SLe.tail ?_ | refine SLe.full ?_)
      · repeat (first | refine ga_ ?_ | intro _)
        refine ⟨z + 1, ?_, ?_, weak_of ?_ rfl ?_⟩
        · omega
        · exact hlt
        · repeat (first | exact trivial | refine ⟨AVle.refl _, ?_⟩ | refine ⟨AVle.tk, ?_⟩ | refine ⟨AVle.nil, ?_⟩ | refine ⟨AVle.nilFull, ?_⟩ | refine ⟨AVle.eq (congrArg (AV.int .i64) (by first | (simp; done) | (simp; omega) | (rw [wrap_i64 (by first | omega | (simp; omega))]; first | rfl | omega | (simp; done) | (simp; omega)))), ?_⟩)
        · repeat (first | exact SLe.rfl | refine SLe.tail ?_ | refine SLe.full ?_)
    · repeat (first | refine ga_ ?_ | intro _)
      refine AW_ret ?_
      repeat (first | refine ⟨0, rfl, ?_⟩ | refine ⟨1, rfl, ?_⟩ | refine ⟨2, rfl, ?_⟩ | refine ⟨3, rfl, ?_⟩ | refine ⟨4, rfl, ?_⟩ | refine ⟨5, rfl, ?_⟩ | refine ⟨6, rfl, ?_⟩)
      refine ⟨_, R, AVle.eq ?_, (by repeat (first | exact SLe.rfl | refine SLe.tail ?_)), rfl, rfl⟩
      rfl
  · refine known_false (b := !decide (c = c)) (by exact nq (by simp [hvs.1])) ?_
    repeat (first | refine ga_ ?_ | intro _)
    refine known_false (b := !decide (((X.map AV.str).length : Int) = ((Y.map AV.str).length : Int))) (by exact nq (by simp [hvs.1])) ?_
    repeat (first | refine ga_ ?_ | intro _)
    refine known_false (b := decide (c = 0)) (by exact decide_eq_false hc0) ?_
    repeat (first | refine ga_ ?_ | intro _)
    refine AW_for (α := Unit) (fun z => ⟨[(9, .bool true), (12, .int .i64 c), (15, .sl 1 (X.map AV.str) .no), (17, .int .i64 0)], []⟩) (fun z => R) (fun z => 0) (fun z => True) (()) ?_ (weak_of ?_ rfl ?_) (fun z hz => ?_)
    · trivial
    · repeat (first | exact trivial | refine ⟨AVle.refl _, ?_⟩ | refine ⟨AVle.tk, ?_⟩ | refine ⟨AVle.nil, ?_⟩ | refine ⟨AVle.nilFull, ?_⟩ | refine ⟨AVle.eq (congrArg (AV.int .i64) (by first | (simp; done) | (simp; omega) | (rw [wrap_i64 (by first | omega | (simp; omega))]; first | rfl | omega | (simp; done) | (simp; omega)))), ?_⟩)
    · repeat (first | exact SLe.rfl | refine SLe.tail ?_ | refine SLe.full ?_)
    repeat (first | refine ga_ ?_ | intro _)
    refine gsplit (0 < X.length) (by first | (simp; done) | (simp <;> omega) | decide) (fun h => ?_) (fun h => ?_)
    · repeat (first | refine ga_ ?_ | intro _)
      refine AW_false (b := decide (c = 0)) rfl (by exact decide_eq_false hc0) ?_
      repeat (first | refine ga_ ?_ | intro _)
      refine AW_ret ?_
      repeat (first | refine ⟨0, rfl, ?_⟩ | refine ⟨1, rfl, ?_⟩ | refine ⟨2, rfl, ?_⟩ | refine ⟨3, rfl, ?_⟩ | refine ⟨4, rfl, ?_⟩ | refine ⟨5, rfl, ?_⟩ | refine ⟨6, rfl, ?_⟩)
      refine ⟨_, R, AVle.eq ?_, (by repeat (first | exact SLe.rfl | refine SLe.tail ?_)), rfl, rfl⟩
      rfl
    · repeat (first | refine ga_ ?_ | intro _)
      refine AW_ret ?_
      repeat (first | refine ⟨0, rfl, ?_⟩ | refine ⟨1, rfl, ?_⟩ | refine ⟨2, rfl, ?_⟩ | refine ⟨3, rfl, ?_⟩ | refine ⟨4, rfl, ?_⟩ | refine ⟨5, rfl, ?_⟩ | refine ⟨6, rfl, ?_⟩)
      refine ⟨_, R, AVle.eq ?_, (by repeat (first | exact SLe.rfl | refine SLe.tail ?_)), rfl, rfl⟩
      rfl
end Go.Proofs.YtkmalncnaodkiaaDoor
