/-
  Helps for proofs of functions: loops over data, numbers in range. Own work.
-/
import Derived.Test.YtgkjbpnmeeibbaaGreatDoorAw11
set_option linter.all false
namespace Go.Aw
open Go.RowKit

theorem AVle.eq {a b : AV} (h : a = b) : AVle a b := h ▸ AVle.refl a
theorem wrap_has_eq {k : IntKind} {n : Int} (h : k.has n) : k.wrap n = n := by
  revert h
  cases k <;> simp only [IntKind.has, IntKind.wrap, IntKind.min, IntKind.max, IntKind.bits, IntKind.signed] <;> (simp; try split) <;> omega
theorem has_i64 {n : Int} (h : -9223372036854775808 ≤ n ∧ n ≤ 9223372036854775807) : IntKind.i64.has n := by
  simp only [IntKind.has, IntKind.min, IntKind.max, IntKind.bits, IntKind.signed]; simp; omega
theorem i64_of {n : Int} (h : IntKind.i64.has n) : -9223372036854775808 ≤ n ∧ n ≤ 9223372036854775807 := by
  simp only [IntKind.has, IntKind.min, IntKind.max, IntKind.bits, IntKind.signed] at h; simp at h; omega
theorem wrap_i64 {n : Int} (h : -9223372036854775808 ≤ n ∧ n ≤ 9223372036854775807) : IntKind.i64.wrap n = n := wrap_has_eq (has_i64 h)
theorem half_val (lo hi : Nat) (h : lo + hi ≤ 4611686018427387904) : IntKind.i64.wrap (Int.fdiv (IntKind.u64.wrap (IntKind.i64.wrap ((lo : Int) + (hi : Int)))) (2 ^ (min (Int.toNat 1) IntKind.u64.bits))) = (((lo + hi) / 2 : Nat) : Int) := by
  have e1 : IntKind.i64.wrap ((lo : Int) + (hi : Int)) = ((lo + hi : Nat) : Int) := by rw [wrap_i64 (by omega)]; simp
  have e2 : IntKind.u64.wrap ((lo + hi : Nat) : Int) = ((lo + hi : Nat) : Int) := by
    apply wrap_has_eq
    simp only [IntKind.has, IntKind.min, IntKind.max, IntKind.bits, IntKind.signed]; simp; omega
  have e3 : (2 : Int) ^ (min (Int.toNat 1) IntKind.u64.bits) = 2 := by simp [IntKind.bits]
  rw [e1, e2, e3, Int.fdiv_eq_ediv_of_nonneg _ (by omega), wrap_i64 (by omega)]
  omega
theorem half_has (lo hi : Nat) (h : lo + hi ≤ 4611686018427387904) : IntKind.u64.has (Int.fdiv (IntKind.u64.wrap (IntKind.i64.wrap ((lo : Int) + (hi : Int)))) (2 ^ (min (Int.toNat 1) IntKind.u64.bits))) := by
  have e1 : IntKind.i64.wrap ((lo : Int) + (hi : Int)) = ((lo + hi : Nat) : Int) := by rw [wrap_i64 (by omega)]; simp
  have e2 : IntKind.u64.wrap ((lo + hi : Nat) : Int) = ((lo + hi : Nat) : Int) := by
    apply wrap_has_eq
    simp only [IntKind.has, IntKind.min, IntKind.max, IntKind.bits, IntKind.signed]; simp; omega
  have e3 : (2 : Int) ^ (min (Int.toNat 1) IntKind.u64.bits) = 2 := by simp [IntKind.bits]
  rw [e1, e2, e3, Int.fdiv_eq_ediv_of_nonneg _ (by omega)]
  simp only [IntKind.has, IntKind.min, IntKind.max, IntKind.bits, IntKind.signed]; simp; omega
theorem le_maxLen {n : Nat} : n ≤ maxLen ↔ n ≤ 9223372036854775807 := Iff.rfl
/-- operations that give one value, and leave all as it is -/
def det : Op → Bool
  | .lookup .. | .makeInterface .. | .move _ | .assign _ | .pick .. | .unOp .. | .convert .. | .fieldAddr .. | .field .. | .indexAddr .. | .index .. | .extract .. | .nilCheck _ | .slice .. | .makeFunc .. | .load .. | .build .. | .buildSlice .. => true
  | .binOp _ _ _ (.const (.slice ..)) _ => false
  | .binOp .. => true
  | .call c => match c.callee with
    | .builtin .len | .builtin .cap | .builtin .min | .builtin .max | .builtin .unsafeSliceData => true
    | _ => false
  | _ => false

theorem aBin_det {op : BinOp} {x y : AV} {k : AV → Prop} (h : aBin op x y k) : ∃ v, (∀ k' : AV → Prop, k' v → aBin op x y k') ∧ k v := by
  unfold aBin at h
  split at h <;> first
    | exact h.elim
    | (obtain ⟨h1, h2, h3, h4⟩ := h; exact ⟨_, fun k' hk => ⟨h1, h2, h3, hk⟩, h4⟩)
    | (obtain ⟨h1, h2, h3⟩ := h; exact ⟨_, fun k' hk => ⟨h1, h2, hk⟩, h3⟩)
    | (obtain ⟨h1, h2⟩ := h; exact ⟨_, fun k' hk => ⟨h1, hk⟩, h2⟩)
    | exact ⟨_, fun k' hk => hk, h⟩

theorem astep_det {P : Program} {τ : List (TypeId × TI)} {op : Op} {ρ : Operand → AV} {S : List En} {k : AV → List En → Prop} (hd : det op = true) (h : astep P τ op ρ S k) :
    ∃ v, (∀ k' : AV → List En → Prop, k' v S → astep P τ op ρ S k') ∧ k v S := by
  cases op <;> first | (exfalso; simp [det] at hd; done) | skip
  case move x => exact ⟨_, fun k' h' => h', h⟩
  case assign x => exact ⟨_, fun k' h' => h', h⟩
  case makeFunc f a b => exact ⟨_, fun k' h' => h', h⟩
  case makeInterface t x => simp only [astep] at h ⊢; exact ⟨_, fun k' h' => ⟨h.1, h'⟩, h.2⟩
  case lookup t m x ok =>
    simp only [astep] at h ⊢
    split at h
    · obtain ⟨kt, e, z, p, l, a, b, c, d, r, g, f⟩ := h; exact ⟨_, fun k' h' => ⟨kt, e, z, p, l, a, b, c, d, r, g, h'⟩, f⟩
    · exact h.elim
  case pick c a b =>
    simp only [astep] at h ⊢
    cases hc : ρ c <;> rw [hc] at h <;> simp only [] at h ⊢
    exact ⟨_, fun k' h' => h', h⟩
  case build t ps =>
    simp only [astep] at h ⊢
    cases hd : (lkT τ t).d <;> rw [hd] at h <;> simp only [] at h ⊢
    · obtain ⟨a, cs, b, c⟩ := h; exact ⟨_, fun k' h' => ⟨a, cs, b, h'⟩, c⟩
    · obtain ⟨a, cs, b, c⟩ := h; exact ⟨_, fun k' h' => ⟨a, cs, b, h'⟩, c⟩
  case buildSlice t len ps =>
    simp only [astep] at h ⊢
    cases hd : (lkT τ t).d <;> rw [hd] at h <;> simp only [] at h ⊢
    obtain ⟨a, b, c, d, e, f⟩ := h; exact ⟨_, fun k' h' => ⟨a, b, c, d, e, h'⟩, f⟩
  case load t x =>
    simp only [astep] at h ⊢
    obtain ⟨h0, h⟩ := h
    cases hc : ρ x <;> rw [hc] at h <;> simp only [] at h ⊢
    · obtain ⟨a, v, e, b⟩ := h; exact ⟨_, fun k' h' => ⟨h0, a, v, e, h'⟩, b⟩
    · obtain ⟨p, cs, a, b, v, e, c⟩ := h; exact ⟨_, fun k' h' => ⟨h0, p, cs, a, b, v, e, h'⟩, c⟩
    · obtain ⟨cs, a, b, v, e, c⟩ := h; exact ⟨_, fun k' h' => ⟨h0, cs, a, b, v, e, h'⟩, c⟩
  case unOp op t x =>
    simp only [astep] at h ⊢
    split at h
    · exact ⟨_, fun k' h' => h', h⟩
    · exact ⟨_, fun k' h' => h', h⟩
    · exact ⟨_, fun k' h' => h', h⟩
    · exact h.elim
  case convert s d x =>
    simp only [astep] at h ⊢
    split at h
    · exact ⟨_, fun k' h' => h', h⟩
    · exact ⟨_, fun k' h' => h', h⟩
    · obtain ⟨a, l, b, c⟩ := h; exact ⟨_, fun k' h' => ⟨a, l, b, h'⟩, c⟩
    · obtain ⟨a, l, b, c, d⟩ := h; exact ⟨_, fun k' h' => ⟨a, l, b, c, h'⟩, d⟩
    · obtain ⟨a, b, p, cs, c, d, e⟩ := h; exact ⟨_, fun k' h' => ⟨a, b, p, cs, c, d, h'⟩, e⟩
    · obtain ⟨a, p, cs, T, c, d, e, f⟩ := h; exact ⟨_, fun k' h' => ⟨a, p, cs, T, c, d, e, h'⟩, f⟩
    · exact h.elim
  case extract x i =>
    simp only [astep] at h ⊢
    cases hc : ρ x <;> rw [hc] at h <;> simp only [] at h ⊢
    obtain ⟨v, a, b⟩ := h; exact ⟨_, fun k' h' => ⟨v, a, h'⟩, b⟩
  case nilCheck x =>
    simp only [astep] at h ⊢
    cases hc : ρ x <;> rw [hc] at h <;> simp only [] at h ⊢
    · exact ⟨_, fun k' h' => h', h⟩
    · exact ⟨_, fun k' h' => h', h⟩
  case fieldAddr t x f =>
    simp only [astep] at h ⊢
    cases hd : (lkT τ t).d <;> rw [hd] at h <;> simp only [] at h ⊢
    obtain ⟨o, ft, a, b, c, h⟩ := h
    cases hc : ρ x <;> rw [hc] at h <;> simp only [] at h ⊢
    · obtain ⟨d, e⟩ := h; exact ⟨_, fun k' h' => ⟨o, ft, a, b, c, d, h'⟩, e⟩
    · exact ⟨_, fun k' h' => ⟨o, ft, a, b, c, h'⟩, h⟩
  case field t x f =>
    simp only [astep] at h ⊢
    split at h
    · obtain ⟨o, ft, a, b, c, e⟩ := h; exact ⟨_, fun k' h' => ⟨o, ft, a, b, c, h'⟩, e⟩
    · exact h.elim
  case indexAddr t x i =>
    simp only [astep] at h ⊢
    split at h
    · obtain ⟨a, b, c, v, e, g⟩ := h; exact ⟨_, fun k' h' => ⟨a, b, c, v, e, h'⟩, g⟩
    · obtain ⟨a, b, c, o, e, g⟩ := h; exact ⟨_, fun k' h' => ⟨a, b, c, o, e, h'⟩, g⟩
    · obtain ⟨a, b, c, o, e, g⟩ := h; exact ⟨_, fun k' h' => ⟨a, b, c, o, e, h'⟩, g⟩
    · obtain ⟨a, b, c, cs, m, r, e, g⟩ := h; exact ⟨_, fun k' h' => ⟨a, b, c, cs, m, r, e, h'⟩, g⟩
    · exact h.elim
  case index t x i =>
    simp only [astep] at h ⊢
    split at h
    · obtain ⟨a, c, b, g⟩ := h; exact ⟨_, fun k' h' => ⟨a, c, b, h'⟩, g⟩
    · obtain ⟨a, b, c, e, g⟩ := h; exact ⟨_, fun k' h' => ⟨a, b, c, e, h'⟩, g⟩
    · exact h.elim
  case slice t x lo hi mx =>
    simp only [astep] at h ⊢
    split at h
    · obtain ⟨a, b, c, e, r, hr, g⟩ := h; exact ⟨_, fun k' h' => ⟨a, b, c, e, r, hr, h'⟩, g⟩
    · obtain ⟨a, b, c, e, f, g, i, r, hr, j⟩ := h; exact ⟨_, fun k' h' => ⟨a, b, c, e, f, g, i, r, hr, h'⟩, j⟩
    · obtain ⟨a, b, c, e, f, g, o, n', c', e1, e2, e3, j⟩ := h; exact ⟨_, fun k' h' => ⟨a, b, c, e, f, g, o, n', c', e1, e2, e3, h'⟩, j⟩
    · exact h.elim
  case binOp op t x y t' =>
    simp only [astep] at h ⊢
    split at h
    · obtain ⟨a, r, c, h⟩ := h
      cases op <;> simp only [] at h ⊢
      · exact ⟨_, fun k' h' => ⟨a, r, c, h'⟩, h⟩
      · exact ⟨_, fun k' h' => ⟨a, r, c, h'⟩, h⟩
    · obtain ⟨v, e1, e2⟩ := aBin_det h.2; exact ⟨v, fun k' h' => ⟨h.1, e1 _ h'⟩, e2⟩
    · obtain ⟨v, e1, e2⟩ := aBin_det h; exact ⟨v, fun k' h' => e1 _ h', e2⟩
    · obtain ⟨v, e1, e2⟩ := aBin_det h; exact ⟨v, fun k' h' => e1 _ h', e2⟩
    · obtain ⟨rfl, _⟩ := h; simp [det] at hd
    · obtain ⟨a, h⟩ := h
      cases op <;> simp only [] at h ⊢
      · exact ⟨_, fun k' h' => ⟨a, fun _ => h'⟩, h trivial⟩
      · exact ⟨_, fun k' h' => ⟨a, fun _ => h'⟩, h trivial⟩
    · obtain ⟨a, h⟩ := h
      cases op <;> simp only [] at h ⊢
      · exact ⟨_, fun k' h' => ⟨a, fun _ => h'⟩, h trivial⟩
      · exact ⟨_, fun k' h' => ⟨a, fun _ => h'⟩, h trivial⟩
    · obtain ⟨a, b, h⟩ := h
      cases op <;> simp only [] at h ⊢
      · exact ⟨_, fun k' h' => ⟨a, b, fun _ => h'⟩, h trivial⟩
      · exact ⟨_, fun k' h' => ⟨a, b, fun _ => h'⟩, h trivial⟩
    · obtain ⟨a, h⟩ := h
      cases op <;> simp only [] at h ⊢
      · exact ⟨_, fun k' h' => ⟨a, fun _ => h'⟩, h trivial⟩
      · exact ⟨_, fun k' h' => ⟨a, fun _ => h'⟩, h trivial⟩
    · obtain ⟨a, b, h⟩ := h
      cases op <;> simp only [] at h ⊢
      · exact ⟨_, fun k' h' => ⟨a, b, fun _ => h'⟩, h trivial⟩
      · exact ⟨_, fun k' h' => ⟨a, b, fun _ => h'⟩, h trivial⟩
    · exact h.elim
  case call c =>
    simp only [astep] at h ⊢
    cases hc : c.callee <;> simp only [det, hc] at hd <;> rw [hc] at h <;> simp only [] at h ⊢
    case builtin b =>
      unfold aBuiltin at h ⊢
      split at h <;> first
        | exact h.elim
        | (exfalso; simp at hd; done)
        | (obtain ⟨a, b⟩ := h; exact ⟨_, fun k' h' => ⟨a, h'⟩, b⟩)
        | exact ⟨_, fun k' h' => h', h⟩
    all_goals cases hd

theorem det_step {P : Program} {τ : List (TypeId × TI)} {op : Op} {ρ : Operand → AV} {S : List En} {F : AV → Prop} (hd : det op = true) (h : astep P τ op ρ S (fun v _ => F v)) :
    ∃ v, astep P τ op ρ S (fun v' S' => AVle v' v ∧ S.Sublist S') ∧ F v := by
  obtain ⟨v, h1, h2⟩ := astep_det hd h
  exact ⟨v, h1 _ ⟨AVle.refl _, List.Sublist.refl _⟩, h2⟩
theorem aCallV_mono {P : Program} {f : AV} {args : List AV} {S : List En} {k k' : AV → List En → Prop} (hk : ∀ v S, k v S → k' v S) (h : aCallV P f args S k) : aCallV P f args S k' := by
  unfold aCallV at h ⊢
  split at h
  · rcases h with h | ⟨fn, ex, h1, h2, h3, h4, h5, hE⟩
    · exact .inl ⟨h.1, h.2.mono hk⟩
    · exact .inr ⟨fn, ex, h1, h2, h3, h4, h5, fun w0 K w vs a b => by
        obtain ⟨v, w', K', av, S', x1, x2, x3, x4, x5⟩ := hE w0 K w vs a b
        exact ⟨v, w', K', av, S', x1, x2, x3, x4, hk _ _ x5⟩⟩
  · exact h.mono hk
  · exact h.elim
def isVal (c : Call) : Bool := match c.callee with
  | .value _ => true
  | _ => false
theorem call_step {P : Program} {τ : List (TypeId × TI)} {c : Call} {ρ : Operand → AV} {S : List En} {F : AV → Prop} (v : AV) (hc : isVal c = true) (h : astep P τ (.call c) ρ S (fun v' S' => v' = v ∧ S' = S)) (hF : F v) :
    ∃ v, astep P τ (.call c) ρ S (fun v' S' => AVle v' v ∧ S.Sublist S') ∧ F v := by
  refine ⟨v, ?_, hF⟩
  simp only [astep] at h ⊢
  cases hcc : c.callee <;> simp only [isVal, hcc] at hc <;> rw [hcc] at h <;> simp only [] at h ⊢
  all_goals first
    | (exact aCallV_mono (fun _ _ h => by obtain ⟨rfl, rfl⟩ := h; exact ⟨AVle.refl _, List.Sublist.refl _⟩) h)
    | cases hc

section
variable {P : Program} {N : Nat} {rd : Option Nat} {E : Env} {S : List En} {k : Kt}
theorem AW_ifn {c : Operand} {x y : Code} (p : Prop) [Decidable p] (hb : ev E c = .bool (!decide p)) (ht : ¬p → AW P N rd x E S k) (hf : p → AW P N rd y E S k) : AW P N rd (.cond c x y) E S k :=
  AW_cond hb (fun h => ht (by simpa using h)) (fun h => hf (by simpa using h))
theorem AW_iff {c : Operand} {x y : Code} {b : Bool} (p : Prop) (hb : ev E c = .bool b) (hp : b = true ↔ p) (ht : p → AW P N rd x E S k) (hf : ¬p → AW P N rd y E S k) : AW P N rd (.cond c x y) E S k :=
  AW_cond hb (fun h => ht (hp.1 h)) (fun h => hf (fun e => by rw [hp.2 e] at h; cases h))
theorem AW_for {c : Code} {α : Type} (env : α → Env) (st : α → List En) (μ : α → Nat) (inv : α → Prop) (x0 : α) (h0 : inv x0) (hE : Weak E S (env x0) (st x0))
    (hr : ∀ x, inv x → AW P N rd c (env x) (st x) (kThen (fun E1 S1 => ∃ y, μ y < μ x ∧ inv y ∧ Weak E1 S1 (env y) (st y)) k)) : AW P N rd (.loop c) E S k := by
  refine AW_loop (fun n E S => ∃ x, n = μ x ∧ inv x ∧ E = env x ∧ S = st x) ⟨_, _, _, hE, x0, rfl, h0, rfl, rfl⟩ ?_
  rintro n E S ⟨x, rfl, hx, rfl, rfl⟩
  refine (hr x hx).mono ?_
  intro e E1 S1 h
  cases e with
  | normal =>
    obtain ⟨y, h1, h2, h3⟩ := h
    exact ⟨_, _, _, h1, h3, y, rfl, h2, rfl, rfl⟩
  | _ => exact h
end
theorem room {n b : Nat} (h : n ≤ 1073741824) (hb : Nat.ble b 32768 = true) : roomFor n b := by
  have hb := Nat.le_of_ble_eq_true hb
  refine ⟨?_, by omega, by omega⟩
  have := Nat.mul_le_mul h hb
  omega
theorem toNat_min (n : Nat) (m : Nat) : (min (n : Int) (m : Int)).toNat = min n m := by omega
theorem take_min {α : Type} (f : α → AV) (a : List α) (m : Nat) : List.drop 0 (List.take (min ((a.map f).length : Int) (m : Nat)).toNat (a.map f)) = (a.take m).map f := by
  rw [toNat_min, List.drop_zero, ← List.map_take, List.length_map]
  congr 1
  rw [Nat.min_comm, List.take_eq_take_iff.2]; omega
def AVleL : List AV → List AV → Prop
  | [], [] => True
  | a :: as, b :: bs => AVle a b ∧ AVleL as bs
  | _, _ => False
theorem AVleL.rel {K : Kn} : ∀ {as bs : List AV} {vs : List Value}, AVleL as bs → RelL K as vs → RelL K bs vs
  | [], [], vs, _, h => h
  | a :: as, b :: bs, vs, hl, h => by
    obtain ⟨v, r, rfl, h1, h2⟩ := h.cons_inv
    exact RelL.cons (hl.1 K v h1) (AVleL.rel hl.2 h2)
  | [], _ :: _, _, hl, _ => hl.elim
  | _ :: _, [], _, hl, _ => hl.elim
theorem AVleL.get : ∀ {as bs : List AV}, AVleL as bs → as.length = bs.length ∧ ∀ (i : Nat) (a b : AV), as[i]? = some a → bs[i]? = some b → AVle a b
  | [], [], _ => ⟨rfl, fun i a b h _ => by simp at h⟩
  | a :: as, b :: bs, h => by
    obtain ⟨h1, h2⟩ := AVleL.get h.2
    refine ⟨by simp [h1], fun i x y hx hy => ?_⟩
    cases i with
    | zero => simp at hx hy; subst hx; subst hy; exact h.1
    | succ i => exact h2 i x y (by simpa using hx) (by simpa using hy)
  | [], _ :: _, h => h.elim
  | _ :: _, [], h => h.elim
theorem AVle.tup {as bs : List AV} (h : AVleL as bs) : AVle (.tup as) (.tup bs) := by
  intro K v hv
  cases hv with
  | tup hl h' =>
    have := h.rel (K := K) ⟨hl, h'⟩
    exact .tup this.1 this.2
theorem ACall_args {P : Program} {f : FuncId} {args args' : List AV} {S : List En} {k : AV → List En → Prop} (hc : ACall P f args' S k) (h : AVleL args args') : ACall P f args S k := by
  unfold ACall at hc ⊢
  exact fun w0 K w vs hv hS => hc w0 K w vs (h.rel hv) hS
theorem AVle.slParts {sz : Nat} {es es' : List AV} {t : Tk} (h : AVleL es es') (h1 : es.all AV.one = true) (h2 : es'.all AV.one = true) : AVle (.sl sz es t) (.sl sz es' .no) := by
  obtain ⟨hl, hg⟩ := h.get
  intro K v hv
  exact AVle.slMap hl (fun i a b ha hb => ⟨hg i a b ha hb, List.all_eq_true.1 h1 a (List.mem_of_getElem? ha), List.all_eq_true.1 h2 b (List.mem_of_getElem? hb)⟩) K v (AVle.tk K v hv)
theorem gsplit {b : Bool} {A B : Prop} (p : Prop) (hb : b = true ↔ p) (h1 : p → A) (h2 : ¬p → B) : (b = true → A) ∧ (b = false → B) :=
  ⟨fun h => h1 (hb.1 h), fun h => h2 (fun hp => by rw [hb.2 hp] at h; cases h)⟩
/-- ways that meet again: what is known behind them -/
theorem AW_cut {P : Program} {N : Nat} {rd : Option Nat} {E : Env} {S : List En} {k k2 : Kt} {x y : Code} {α : Type} (env : α → Env) (st : α → List En) (inv : α → Prop)
    (h1 : AW P N rd x E S (kThen (fun E1 S1 => ∃ z, inv z ∧ Weak E1 S1 (env z) (st z)) k2)) (h2 : ∀ z, inv z → AW P N rd y (env z) (st z) k) : AW P N rd x E S (kThen (fun E S => AW P N rd y E S k) k2) := by
  refine h1.mono ?_
  intro e E1 S1 h
  cases e with
  | normal =>
    obtain ⟨z, hz, hw⟩ := h
    exact AW_weak hw (h2 z hz)
  | _ => exact h
theorem AW_cut1 {P : Program} {N : Nat} {rd : Option Nat} {E : Env} {S : List En} {k : Kt} {x w : Code} {α : Type} (env : α → Env) (st : α → List En) (inv : α → Prop)
    (h1 : AW P N rd x E S (kThen (fun E1 S1 => ∃ z, inv z ∧ Weak E1 S1 (env z) (st z)) k)) (h2 : ∀ z, inv z → AW P N rd w (env z) (st z) k) : AW P N rd (.seq x w) E S k :=
  AW_seq (AW_cut env st inv h1 h2)
theorem AW_cut2 {P : Program} {N : Nat} {rd : Option Nat} {E : Env} {S : List En} {k : Kt} {x y w : Code} {α : Type} (env : α → Env) (st : α → List En) (inv : α → Prop)
    (h1 : AW P N rd x E S (kThen (fun E S => AW P N rd y E S (kThen (fun E1 S1 => ∃ z, inv z ∧ Weak E1 S1 (env z) (st z)) k)) k)) (h2 : ∀ z, inv z → AW P N rd w (env z) (st z) k) : AW P N rd (.seq x (.seq y w)) E S k := by
  refine AW_seq (h1.mono ?_)
  intro e E1 S1 h
  cases e with
  | normal => exact AW_seq (AW_cut env st inv h h2)
  | _ => exact h
theorem known_true {b : Bool} {A B : Prop} (hb : b = true) (hA : A) : (b = true → A) ∧ (b = false → B) := ⟨fun _ => hA, fun h => by rw [hb] at h; cases h⟩
theorem known_false {b : Bool} {A B : Prop} (hb : b = false) (hB : B) : (b = true → A) ∧ (b = false → B) := ⟨(fun h => by rw [hb] at h; cases h), fun _ => hB⟩
theorem AW_true {P : Program} {N : Nat} {rd : Option Nat} {E : Env} {S : List En} {k : Kt} {c : Operand} {x y : Code} {b : Bool} (hb : ev E c = .bool b) (h : b = true) (ht : AW P N rd x E S k) : AW P N rd (.cond c x y) E S k :=
  AW_cond hb (fun _ => ht) (fun e => by rw [h] at e; cases e)
theorem AW_false {P : Program} {N : Nat} {rd : Option Nat} {E : Env} {S : List En} {k : Kt} {c : Operand} {x y : Code} {b : Bool} (hb : ev E c = .bool b) (h : b = false) (hf : AW P N rd y E S k) : AW P N rd (.cond c x y) E S k :=
  AW_cond hb (fun e => by rw [h] at e; cases e) (fun _ => hf)
theorem hold_pos {n b : Nat} {cs : List AV} {R : List En} (h : 0 < n) : hold n b cs R = .cells b cs :: R := if_neg (by omega)
theorem hold_zero {b : Nat} {cs : List AV} {R : List En} : hold 0 b cs R = R := if_pos rfl
theorem setCells_one {cs : List AV} {o : Nat} {v : AV} (h : o < cs.length) : setCells cs o [v] = cs.set o v := by
  simp only [setCells, List.length_singleton]
  rw [List.set_eq_take_append_cons_drop, if_pos h]; simp
/-- a word's load at a place of a list -/
theorem load_one {i : TI} {cs : List AV} {o : Nat} {F : AV → Prop} (v : AV) (hi : i.d.agg = false) (hs : i.sz = 1) (h : cs[o]? = some v) (hk : F v) :
    (1 ≤ i.sz ∧ i.sz ≤ (cs.drop o).length) ∧ ∃ u, aLoad i (cs.drop o) = u ∧ F u := by
  have ho := (List.getElem?_eq_some_iff.1 h).1
  refine ⟨⟨by omega, by rw [hs, List.length_drop]; omega⟩, v, ?_, hk⟩
  rw [aLoad, hi]
  simp only [cond_false]
  have : cs.drop o = v :: cs.drop (o + 1) := by
    rw [← List.getElem_cons_drop ho, (List.getElem?_eq_some_iff.1 h).2]
  rw [this]; rfl
/-- a word's store -/
theorem store_one {cs cells : List AV} {o sz : Nat} {F : List AV → Prop} (v : AV) (cs2 : List AV) (hc : cells = [v]) (hs : sz = 1) (h : o < cs.length) (h2 : cs.set o v = cs2) (hk : F cs2) :
    o + sz ≤ cs.length ∧ ∃ cs', setCells cs o cells = cs' ∧ F cs' := by
  subst hc; subst h2
  exact ⟨by omega, _, setCells_one h, hk⟩
theorem at_msl {J : Int} {len off sz : Nat} {F : Nat → Prop} (j o : Nat) (hj : J = (j : Int)) (h : j < len) (ho : off + j * sz = o) (hF : F o) : 0 ≤ J ∧ J < (len : Int) ∧ ∃ o, off + J.toNat * sz = o ∧ F o := by
  subst hj
  exact ⟨by omega, by omega, o, ho, hF⟩
theorem mid_get {α : Type} (A B : List α) (x : α) : (A ++ x :: B)[A.length]? = some x := by simp
theorem mid_get1 {α : Type} (A B : List α) (x y : α) : (A ++ y :: x :: B)[A.length + 1]? = some x := by
  rw [List.getElem?_append_right (by omega)]; simp
theorem mid_set {α : Type} (A B : List α) (x z : α) : (A ++ x :: B).set A.length z = A ++ z :: B := by simp
theorem mid_set1 {α : Type} (A B : List α) (x y z : α) : (A ++ y :: x :: B).set (A.length + 1) z = A ++ y :: z :: B := by
  rw [List.set_append_right _ _ (by omega)]; simp
theorem SLe.of_eq {S S' : List En} (h : S = S') : SLe S S' := h ▸ SLe.rfl
theorem map_get {α : Type} {f : α → AV} {x : List α} {i : Nat} (h : i < x.length) : (x.map f)[((i : Nat) : Int).toNat]? = some (f x[i]) := by
  simp [h]
theorem at_map {α : Type} {f : α → AV} {x : List α} {j : Int} {G : AV → Prop} (i : Nat) (hj : j = (i : Int)) (h : i < x.length) (hG : G (f x[i])) : 0 ≤ j ∧ ∃ v, (x.map f)[j.toNat]? = some v ∧ G v := by
  subst hj
  exact ⟨by omega, _, map_get h, hG⟩
theorem at_list {α : Type} {x : List α} {j : Int} {G : α → Prop} (i : Nat) (hj : j = (i : Int)) (h : i < x.length) (hG : G x[i]) : 0 ≤ j ∧ ∃ v, x[j.toNat]? = some v ∧ G v := by
  subst hj
  exact ⟨by omega, _, by simp, hG⟩
theorem at_get {x : List AV} {j : Int} {G : AV → Prop} (i : Nat) (v : AV) (hj : j = (i : Int)) (h : x[i]? = some v) (hG : G v) : 0 ≤ j ∧ ∃ v, x[j.toNat]? = some v ∧ G v := by
  subst hj
  exact ⟨by omega, v, by simpa using h, hG⟩
theorem map_take_succ {α β : Type} {f : α → β} {l : List α} {i : Nat} (h : i < l.length) : (l.take i).map f ++ [f l[i]] = (l.take (i + 1)).map f := by
  rw [List.take_add_one, List.getElem?_eq_getElem h, Option.toList_some, List.map_append]; rfl
theorem one_flat : ∀ {l : List AV}, (∀ a ∈ l, a.one = true) → flat l = l := by
  intro l
  induction l with
  | nil => intro _; rfl
  | cons a l ih =>
    intro h
    have h1 : a.cells = [a] := by have := h a (by simp); cases a <;> simp_all [AV.one, AV.cells]
    rw [Aw.flat, List.flatMap_cons, h1]
    exact congrArg (a :: ·) (ih fun x hx => h x (by simp [hx]))
end Go.Aw
