/-
  Regions that draw, in another order, with slices among what may come late; a mutable slice that lies in a block, from where on it is only read. Own work.
-/
import Derived.Test.YtgcoomicgdbmbaaGreatDoorBld
set_option linter.all false
namespace Go.Proofs.YtgcoomicgdbmbaaGreatDoor
open Go.Aw Go.RowKit

def pureAt2 (op : Op) (ρ : Operand → AV) : Bool := match op with
  | .slice .. | .extract .. => true
  | .indexAddr _ x _ => match ρ x with
    | .gl _ => false
    | _ => true
  | op => pureAt op ρ
theorem pureAt2_any {P : Program} {τ : List (TypeId × TI)} {op : Op} {ρ : Operand → AV} {S S2 : List En} {v : AV} (hp : pureAt2 op ρ = true) (h : astep P τ op ρ S (fun v' S' => AVle v' v ∧ S.Sublist S')) :
    astep P τ op ρ S2 (fun v' S' => AVle v' v ∧ S2.Sublist S') := by
  cases op <;> first | exact pureAt_any hp h | skip
  case slice t x lo hi mx =>
    simp only [astep] at h ⊢
    split at h
    · obtain ⟨a, b, c, d, r, e, f⟩ := h
      exact ⟨a, b, c, d, r, e, f.1, List.Sublist.refl _⟩
    · obtain ⟨a, b, c, d, e, f, g, r, i, j⟩ := h
      exact ⟨a, b, c, d, e, f, g, r, i, j.1, List.Sublist.refl _⟩
    · obtain ⟨a, b, c, d, e, f, o, n, cc, i, j, l, m⟩ := h
      exact ⟨a, b, c, d, e, f, o, n, cc, i, j, l, m.1, List.Sublist.refl _⟩
    · exact h.elim
  case indexAddr t x i =>
    simp only [astep] at h ⊢
    split at h
    · obtain ⟨a, b, c, v, d, e⟩ := h
      exact ⟨a, b, c, v, d, e.1, List.Sublist.refl _⟩
    · obtain ⟨a, b, c, o, d, e⟩ := h
      exact ⟨a, b, c, o, d, e.1, List.Sublist.refl _⟩
    · obtain ⟨a, b, c, o, d, e⟩ := h
      exact ⟨a, b, c, o, d, e.1, List.Sublist.refl _⟩
    all_goals (first | exact h.elim | (simp_all [pureAt2]; done))
  case extract x i =>
    simp only [astep] at h ⊢
    split at h
    · obtain ⟨v, a, b⟩ := h
      exact ⟨v, a, b.1, List.Sublist.refl _⟩
    · exact h.elim
def aheadsL2 (P : Program) (τ : List (TypeId × TI)) (late : List Nat) : Nat → List Oper → Env → List En → (Env → Prop) → Prop
  | _, [], E, _, k => k E
  | n, o :: r, E, S, k => (bif memB late n then pureAt2 o.op (ev E) else true) = true ∧ ∃ v, astep P τ o.op (ev E) S (fun v' S' => AVle v' v ∧ S.Sublist S') ∧ aheadsL2 P τ late (n + 1) r (E.put o.dst v) S k
theorem headsL2_of {P : Program} {τ : List (TypeId × TI)} {late : List Nat} {ops : List Oper} {S : List En} {k : Env → Prop} : ∀ (r : List Oper) (n : Nat) (E : Env), (∀ o ∈ r, o.guard = none) → aheadsL2 P τ late n r E S k →
    ∃ V, heads P τ ops S r V E ∧ (∀ (j : Nat) (o : Oper), r[j]? = some o → (n + j) ∈ late → pureAt2 o.op (ev (putAll E (r.take j) (V.take j))) = true) ∧ k (putAll E r V) := by
  intro r
  induction r with
  | nil => exact fun n E _ h => ⟨[], trivial, (fun j o h => by simp at h), h⟩
  | cons o r ih =>
    intro n E hg h
    obtain ⟨hl, v, hv, hr⟩ := h
    obtain ⟨V, h1, h2, h3⟩ := ih (n + 1) (E.put o.dst v) (fun x hx => hg x (.tail _ hx)) hr
    refine ⟨v :: V, ⟨.inl ⟨.inl (hg o (.head _)), hv⟩, h1⟩, fun j oj hj hm => ?_, h3⟩
    cases j with
    | zero =>
      simp only [List.getElem?_cons_zero, Option.some.injEq] at hj
      subst hj
      rw [Nat.add_zero] at hm
      rw [memB_iff.2 hm] at hl
      exact hl
    | succ j => exact h2 j oj (by simpa using hj) (by rw [show n + 1 + j = n + (j + 1) by omega]; exact hm)
theorem AW_drawp2 {P : Program} {N : Nat} {rd : Option Nat} {E : Env} {S : List En} {k : Kt} {τ : List (TypeId × TI)} (hτ : AllOk P τ) (hm : P.follows .mixedOrders = true) (ord inv : List Nat) (n : Nat) (late : List Nat) {id : Nat} {ops : Array Oper}
    (hp : permOk ops ord inv = true) (hd : lateOk0 (permOps ops ord inv) n late = true)
    (h : aheadsL2 P τ late 0 ((permOps ops ord inv).toList.take n) E S (fun E' => aops P τ (permOps ops ord inv).toList n ((permOps ops ord inv).toList.drop n) E' S (fun E' S' => k .normal E' S'))) : AW P N rd (.region id ops true) E S k := by
  unfold AW
  intro hc w0 K a w hE hS
  have hpf := pfacts_of hp
  have hf := lfacts_of hd
  have hsz := permOps_size hpf
  obtain ⟨V, hV, hl, hk⟩ := headsL2_of (ops := (permOps ops ord inv).toList) _ _ _ (fun o ho => by
    obtain ⟨j, hj, rfl⟩ := List.mem_iff_getElem.1 (List.mem_of_mem_take ho)
    exact hf.ng j _ (by rw [← Array.getElem?_toList, List.getElem?_eq_getElem hj])) h
  refine wpIn_region_any hm ?_
  refine wpAny_perm hpf _ _ (Array.replicate ops.size false) a w.drew ⟨by simp, by simp, fun j hj => by rw [getD_replicate_false, getD_replicate_false]⟩ ?_
  have := late_all hτ n late hd hV (fun j o v hjl hj ho hv Sm => ?_) hk (permOps_ok hpf hc) (rd := rd) ⟨hE.size, hE.slot, hE.defers⟩ hS.drew
  · rw [hsz] at this; exact this
  · have hot : ((permOps ops ord inv).toList.take n)[j]? = some o := by rw [List.getElem?_take, if_pos hj]; simpa using ho
    have hhead := heads_at _ _ _ hV j o v hot hv
    have hpa := hl j o hot (by rw [Nat.zero_add]; exact hjl)
    rw [List.take_take, Nat.min_eq_left (Nat.le_of_lt hj)] at hhead hpa
    rcases hhead with ⟨_, hst⟩ | ⟨⟨g, want, hg, _⟩, _⟩
    · exact pureAt2_any hpa hst
    · rw [hf.ng j o ho] at hg; cases hg

/-- a slice's part, its bounds by equations -/
theorem at_slice {lo hi : Int} {n : Nat} {C : Prop} {es : List AV} {F : List AV → Prop} (l h : Nat) (hl : lo = (l : Int)) (hh : hi = (h : Int)) (h1 : l ≤ h) (h2 : h ≤ n) (hC : C) (r : List AV) (hr : (es.take h).drop l = r) (hk : F r) :
    0 ≤ lo ∧ lo ≤ hi ∧ hi ≤ (n : Int) ∧ C ∧ ∃ r, (es.take hi.toNat).drop lo.toNat = r ∧ F r := by
  subst hl; subst hh
  exact ⟨by omega, by omega, by omega, hC, r, hr, hk⟩
/-- the same, or the mutable slice as the slice that it is -/
def AVleM (b off n cap sz : Nat) (es : List AV) : List AV → List AV → Prop
  | [], [] => True
  | x :: xs, y :: ys => (x = y ∨ (x = .msl b off n cap ∧ y = .sl sz es .no)) ∧ AVleM b off n cap sz es xs ys
  | _, _ => False
theorem AVleM.rel {b off n cap sz : Nat} {es : List AV} {K : Kn} (hK : ∀ v, Rel K (.msl b off n cap) v → Rel K (.sl sz es .no) v) : ∀ {xs ys : List AV} {vs : List Value}, AVleM b off n cap sz es xs ys → RelL K xs vs → RelL K ys vs
  | [], [], vs, _, h => h
  | x :: xs, y :: ys, vs, h, hr => by
    obtain ⟨v, r, rfl, h1, h2⟩ := hr.cons_inv
    refine RelL.cons ?_ (AVleM.rel hK h.2 h2)
    rcases h.1 with rfl | ⟨rfl, rfl⟩
    · exact h1
    · exact hK _ h1
  | [], _ :: _, _, h, _ => h.elim
  | _ :: _, [], _, h, _ => h.elim
theorem AW_freezeC {P : Program} {N : Nat} {rd : Option Nat} {E : Env} {R : List En} {k : Kt} {c : Code} {b q off n cap sz : Nat} {cs es qs qs' : List AV} (hn : es.length = n) (hsz : ∀ e ∈ es, e.cells.length = sz) (hf : flat es = (cs.drop off).take (n * sz))
    (hq : AVleM b off n cap sz es qs qs') (ho : ∀ c ∈ qs', c.one = true) (h : AW P N rd c E (.cells q qs' :: R) k) : AW P N rd c E (.cells b cs :: .cells q qs :: R) k := by
  refine AW_weak ?_ h
  intro w0 N K a w hE hS
  obtain ⟨K', hK, hS', vs, e1, hr, h1⟩ := hS.freeze (p := 0) rfl
  refine ⟨K', hK, ⟨hE.size, fun i => (hE.slot i).mono hK, hE.defers⟩, ?_⟩
  replace hS' : RelS w0 K' (.cells q qs :: R) w := hS'
  obtain ⟨hB, hKq, _, us, T, hh, hrel⟩ := hS'.ents _ (.head _)
  refine ⟨hS'.below, hS'.kcell, fun e he => ?_, hS'.apart⟩
  rcases List.mem_cons.1 he with rfl | he
  · exact ⟨hB, hKq, ho, us, T, hh, hq.rel (fun v hv => AVle_frozen e1 hr h1 hn hsz hf hv) hrel⟩
  · exact hS'.ents e (.tail _ he)
/-- one element of a flat list is set -/
theorem flat_append (a b : List AV) : Aw.flat (a ++ b) = Aw.flat a ++ Aw.flat b := by simp [Aw.flat]
theorem flat_cons' (a : AV) (l : List AV) : Aw.flat (a :: l) = a.cells ++ Aw.flat l := by simp [Aw.flat]
theorem flat_size {sz : Nat} : ∀ {es : List AV}, (∀ e ∈ es, e.cells.length = sz) → (Aw.flat es).length = es.length * sz
  | [], _ => by simp [Aw.flat]
  | e :: es, h => by
    have ih := flat_size (es := es) fun x hx => h x (.tail _ hx)
    have h0 := h e (.head _)
    have : Aw.flat (e :: es) = e.cells ++ Aw.flat es := by simp [Aw.flat]
    rw [this, List.length_append, ih, h0, List.length_cons, Nat.succ_mul]; omega
theorem flat_set {sz : Nat} {es : List AV} (h : ∀ e ∈ es, e.cells.length = sz) {i : Nat} (hi : i < es.length) {v : AV} (hv : v.cells.length = sz) : setCells (Aw.flat es) (i * sz) v.cells = Aw.flat (es.set i v) := by
  have e1 : es = es.take i ++ es[i] :: es.drop (i + 1) := by rw [List.getElem_cons_drop, List.take_append_drop]
  have hl : (Aw.flat (es.take i)).length = i * sz := by
    rw [flat_size fun e he => h e (List.mem_of_mem_take he), List.length_take, Nat.min_eq_left (Nat.le_of_lt hi)]
  have hx : (es[i].cells).length = sz := h _ (List.getElem_mem hi)
  have e2 : es.set i v = es.take i ++ v :: es.drop (i + 1) := by
    rw [List.set_eq_take_append_cons_drop, if_pos hi]
  have f1 : Aw.flat es = Aw.flat (es.take i) ++ (es[i].cells ++ Aw.flat (es.drop (i + 1))) := by
    conv => lhs; rw [e1]
    rw [flat_append, flat_cons']
  have f2 : Aw.flat (es.set i v) = Aw.flat (es.take i) ++ (v.cells ++ Aw.flat (es.drop (i + 1))) := by
    rw [e2, flat_append, flat_cons']
  rw [f1, f2, put_all hl, List.drop_left' (by omega)]
end Go.Proofs.YtgcoomicgdbmbaaGreatDoor

