/-
  A stream's rows, as they are read. Own work.
-/
import Derived.Test.YtgkjbpnmeeibbaaGreatDoorQ12
import Derived.Test.YtgkjbpnmeeibbaaGreatDoorQ14
set_option linter.all false
namespace Go.Proofs.YtgkjbpnmeeibbaaGreatDoor
open Go.Aw Go.RowKit Tree
set_option maxHeartbeats 4000000
set_option maxRecDepth 4000
open Rel (V encV encR)

theorem SLe.dups : ∀ {G S : List En}, (∀ g ∈ G, g ∈ S ∧ g.blk = none) → SLe S (G ++ S)
  | [], _, _ => SLe.rfl
  | g :: G, S, h => (SLe.dups (G := G) fun x hx => h x (.tail _ hx)).trans (SLe.dup (List.mem_append_right _ (h g (.head _)).1) (h g (.head _)).2)
theorem globs {R : List En} (hG : NumG R) (hE : ErrG R) : ∃ G, NumG G ∧ ErrG G ∧ ∀ g ∈ G, g ∈ R ∧ g.blk = none := by
  obtain ⟨h1, ⟨t, v, h2⟩, t', v', h3⟩ := hG
  obtain ⟨b, o, h4⟩ := hE
  refine ⟨[_, _, _, _], ⟨.head _, ⟨t, v, .tail _ (.head _)⟩, t', v', .tail _ (.tail _ (.head _))⟩, ⟨b, o, .tail _ (.tail _ (.tail _ (.head _)))⟩, ?_⟩
  intro g hg
  simp only [List.mem_cons, List.not_mem_nil, or_false] at hg
  rcases hg with rfl | rfl | rfl | rfl
  · exact ⟨h1, rfl⟩
  · exact ⟨h2, rfl⟩
  · exact ⟨h3, rfl⟩
  · exact ⟨h4, rfl⟩
def wrongE (line code : Int) : AV := .ifc 67 (.agg [.int .i64 line, .int .i64 code])
/-- a stream's first line that is none -/
def badX (p : Pr) (s : List UInt8) : Option Nat := (linesL s).findIdx? (fun x => !decide (codeX p x = 0))
def ReadQ (p : Pr) (s : List UInt8) (R : List En) (r : AV) (S : List En) : Prop := match badX p s with
  | none => ∃ b ts, ts.length = p.decls.length ∧ r = .tup [.msl b 0 p.decls.length p.decls.length, .nilif] ∧ S = .cells b (rowsAV (outX p (linesL s)) ts) :: R
  | some i => ∃ b tk, r = .tup [.msl b 0 p.decls.length p.decls.length, .ifc 142 (.ref [.sl 1 [wrongE ((i + 1 : Nat) : Int) (codeX p ((linesL s)[i]?.getD ([], false)))] tk])] ∧ S = R
theorem SLe.mid (A B R : List En) (h : SLe (A ++ R) (B ++ (A ++ R))) : SLe (A ++ R) (A ++ (B ++ R)) :=
  h.trans fun _ _ _ hs => hs.perm (List.perm_append_comm_assoc _ _ _)
def stR (p : Pr) (s : List UInt8) (c b1 b6 b7 b8 : Nat) (G : List En) (i : Nat) (z : List Tk) : List En :=
  .cells b8 [.nilif] :: .cells b7 [.int .i64 (i : Nat)] :: .cells b6 [.msl b1 0 p.decls.length p.decls.length] :: .cells b1 (rowsAV (outX p ((linesL s).take i)) z) :: .cells c [.sl 6 (p.decls.map encD) .no, .sl 4 (p.rules.map encRu) .no] :: (z.map .grow ++ G)
theorem lineAV_len {L : List (List UInt8 × Bool)} {i : Nat} {args : List AV} (h : (L.map lineAV)[i]? = some args) : ∃ x, L[i]? = some x ∧ args = lineAV x := by
  rw [List.getElem?_map] at h
  cases hx : L[i]? with
  | none => rw [hx] at h; cases h
  | some x => rw [hx] at h; exact ⟨x, rfl, (Option.some.inj h).symm⟩
theorem NumG.appL {A R : List En} (h : NumG R) : NumG (A ++ R) := by
  obtain ⟨h1, ⟨t, v, h2⟩, t', v', h3⟩ := h
  exact ⟨List.mem_append_right _ h1, ⟨t, v, List.mem_append_right _ h2⟩, t', v', List.mem_append_right _ h3⟩
theorem NumG.left {A R : List En} (h : NumG A) : NumG (A ++ R) := by
  obtain ⟨h1, ⟨t, v, h2⟩, t', v', h3⟩ := h
  exact ⟨List.mem_append_left _ h1, ⟨t, v, List.mem_append_left _ h2⟩, t', v', List.mem_append_left _ h3⟩
theorem lastL_len : ∀ W : List (List UInt8), (lastL W).length ≤ W.length
  | [] => Nat.le_refl _
  | [l] => by rw [lastL]; split <;> simp
  | l :: m :: r => by rw [lastL]; simp only [List.length_cons]; have := lastL_len (m :: r); simp only [List.length_cons] at this; omega
theorem linesL_len (s : List UInt8) : (linesL s).length ≤ s.length + 1 := by
  have h1 := lastL_len (splitC 10 s)
  have h2 := splitC_len 10 s
  have h3 := cntC_len 10 s
  unfold linesL; omega
theorem lastL_mem : ∀ {W : List (List UInt8)} {x : List UInt8 × Bool}, x ∈ lastL W → x.1 ∈ W
  | [l], x, h => by
    rw [lastL] at h
    split at h
    · cases h
    · rw [List.mem_singleton.1 h]; exact .head _
  | l :: m :: r, x, h => by
    rw [lastL] at h
    rcases List.mem_cons.1 h with rfl | h
    · exact .head _
    · exact .tail _ (lastL_mem h)
theorem linesL_mem {s : List UInt8} {x : List UInt8 × Bool} (h : x ∈ linesL s) : x.1.length ≤ s.length := splitC_part (lastL_mem h)
theorem bad_at {p : Pr} {s : List UInt8} {i : Nat} {x : List UInt8 × Bool} (h : ∀ (j : Nat) (x : List UInt8 × Bool), j < i → (linesL s)[j]? = some x → codeX p x = 0) (hx : (linesL s)[i]? = some x) (hc : codeX p x ≠ 0) : badX p s = some i := by
  obtain ⟨hi, rfl⟩ := List.getElem?_eq_some_iff.1 hx
  refine List.findIdx?_eq_some_iff_getElem.2 ⟨hi, by simp [hc], fun j hj => ?_⟩
  simp [h j _ hj (List.getElem?_eq_getElem (by omega))]
theorem outX_step {p : Pr} {L : List (List UInt8 × Bool)} {i : Nat} {x : List UInt8 × Bool} (h : L[i]? = some x) : outX p (L.take (i + 1)) = putX (outX p (L.take i)) (rowL p x.1).1 (rowL p x.1).2.1 := by
  obtain ⟨hi, rfl⟩ := List.getElem?_eq_some_iff.1 h
  rw [List.take_succ_eq_append_getElem hi, outX_snoc]; rfl
theorem bad_no {p : Pr} {s : List UInt8} (h : ∀ (j : Nat) (x : List UInt8 × Bool), j < (linesL s).length → (linesL s)[j]? = some x → codeX p x = 0) : badX p s = none := by
  rw [badX, List.findIdx?_eq_none_iff]
  intro x hx
  obtain ⟨j, hj, rfl⟩ := List.mem_iff_getElem.1 hx
  rw [h j _ hj (List.getElem?_eq_getElem hj)]; rfl
theorem next_row {p : Pr} {s : List UInt8} {i : Nat} {x : List UInt8 × Bool} (h : ∀ (j : Nat) (x : List UInt8 × Bool), j < i → (linesL s)[j]? = some x → codeX p x = 0) (hx : (linesL s)[i]? = some x) (hc : codeX p x = 0) : ∀ (j : Nat) (x : List UInt8 × Bool), j < i + 1 → (linesL s)[j]? = some x → codeX p x = 0 := fun j y hj hy => by
  by_cases hji : j < i
  · exact h j y hji hy
  · obtain rfl : j = i := by omega
    rw [hx] at hy
    rw [← Option.some.inj hy]; exact hc
theorem AVle.ifcRef {T : TypeId} {cs cs' : List AV} (h : AVleL cs cs') (h1 : cs'.all AV.one = true) : AVle (.ifc T (.ref cs)) (.ifc T (.ref cs')) := by
  intro K v hv
  cases hv with
  | ifc _ hv =>
    cases hv with
    | ref _ hl h' hk =>
      have := h.rel (K := K) ⟨hl, h'⟩
      exact .ifc _ (.ref (fun c hc => List.all_eq_true.1 h1 c hc) this.1 this.2 hk)
theorem read_ok (p : Pr) (s : List UInt8) (R : List En) (hG : NumG R) (hE : ErrG R) (hs : s.length ≤ 1000000) (hp : p.decls.length ≤ 1000) (hD : ∀ d ∈ p.decls, d.types.length ≤ 1000) : ACall Tryz.prog 27 [encP p, .str s] R (ReadQ p s R) := by
  obtain ⟨G, gG, gE, gR⟩ := globs hG hE
  refine ACall_body tab_ok Tryz.func27 rfl rfl rfl (by kernel_rfl) (Nat.le_of_ble_eq_true rfl) ?_
  repeat (first | refine go_ ?_ | intro _)
  rename_i c
  refine ⟨p.decls.length, p.decls.length, by rw [List.length_map], by rw [List.length_map], Nat.le_refl _, room (by first | omega | (simp; omega)) rfl, .inr fun b1 => ?_⟩
  repeat (first | refine go_ ?_ | intro _)
  rename_i b6 b7 b8
  refine Or.inl ⟨⟨_, Tryz.func52, rfl, rfl⟩, ACall.mono ?_ (lines_ok s _)⟩
  rintro _ S1 ⟨q, rfl, hS1⟩
  subst S1
  repeat (first | refine go_ ?_ | intro _)
  refine AW_weak (weak_of (l := [(1, .str s), (2, .ptr c 0), (6, .ptr b6 0), (7, .ptr b7 0), (8, .ptr b8 0), (19, .fn (.func 83) [] [.ptr q 0])]) (m := []) (S' := .cells q [.str s] :: .cells b8 [.nilif] :: .cells b7 [.int .i64 0] :: .cells b6 [.msl b1 0 p.decls.length p.decls.length] :: .cells b1 (zerosAV [.sl 0 [] .full] p.decls.length) :: .cells c [.sl 6 (p.decls.map encD) .no, .sl 4 (p.rules.map encRu) .no] :: R) ?_ rfl ?_) ?_
  · repeat (first | exact trivial | refine env_ ?_)
  · refine SW.le ?_
    repeat (first | exact SW.nil | refine sw_ ?_)
  repeat (first | refine go_ ?_ | intro _)
  refine AW_rangeOut (xs := (linesL s).map lineAV) (α := List Tk) (st := stR p s c b1 b6 b7 b8 G) (inv := fun i z => i ≤ (linesL s).length ∧ z.length = p.decls.length ∧ ∀ (j : Nat) (x : List UInt8 × Bool), j < i → (linesL s)[j]? = some x → codeX p x = 0) (Q := fun x Sc => x = .exit 0 ∧ ∃ (i : Nat) (y : List UInt8 × Bool) (r : List En), badX p s = some i ∧ (linesL s)[i]? = some y ∧ Sc = .cells b8 [wrongE ((i + 1 : Nat) : Int) (codeX p y)] :: .cells b7 [.int .i64 ((i + 1 : Nat) : Int)] :: .cells b6 [.msl b1 0 p.decls.length p.decls.length] :: r) ([.cells q [.str s]]) (R) (List.replicate p.decls.length .full) rfl (lines_gen s q (by omega)) ?_ ?_ ?_ ?_ ?_ ?_
  · refine SLe.trans (SW.le (SW.cons (SW.cons (SW.cons (SW.cons (SW.cells (rows_start _) (rows_one _ _) SW.nil)))))) ?_
    refine SLe.mid [.cells q [.str s], .cells b8 [.nilif], .cells b7 [.int .i64 0], .cells b6 [.msl b1 0 p.decls.length p.decls.length], .cells b1 (rowsAV (List.replicate p.decls.length []) (List.replicate p.decls.length .full)), .cells c [.sl 6 (p.decls.map encD) .no, .sl 4 (p.rules.map encRu) .no]] ((List.replicate p.decls.length Tk.full).map .grow ++ G) R ?_
    rw [List.append_assoc]
    exact (SLe.dups (G := G) fun g hg => ⟨List.mem_append_right _ (gR g hg).1, (gR g hg).2⟩).trans (SLe.fulls _ _)
  · exact ⟨Nat.zero_le _, by simp, fun j x h => by omega⟩
  · intro i args h
    obtain ⟨x, _, rfl⟩ := lineAV_len h
    rfl
  · intro lp R1 i args z hl hx hz
    obtain ⟨x, hx', rfl⟩ := lineAV_len hx
    obtain ⟨h1, h2, h3⟩ : i ≤ (linesL s).length ∧ z.length = p.decls.length ∧ ∀ (j : Nat) (x : List UInt8 × Bool), j < i → (linesL s)[j]? = some x → codeX p x = 0 := hz
    have hli := (List.getElem?_eq_some_iff.1 hx').1
    have hln := linesL_len s
    have hw : IntKind.i64.wrap ((i : Nat) + 1 : Int) = ((i + 1 : Nat) : Int) := by rw [wrap_i64 (by omega)]; rfl
    unfold stR
    repeat (first | refine ga_ ?_ | intro _)
    obtain ⟨w, e⟩ := x
    cases e with
    | false =>
      repeat (first | refine ga_ ?_ | intro _)
      refine ⟨_, ⟨rfl, i, (w, false), .cells b1 (rowsAV (outX p ((linesL s).take i)) z) :: .cells c [.sl 6 (p.decls.map encD) .no, .sl 4 (p.rules.map encRu) .no] :: (z.map .grow ++ G), bad_at h3 hx' (by simp [codeX]), hx', rfl⟩, SLe.of_eq ?_⟩
      show En.cells b8 [wrongE (IntKind.i64.wrap ((i : Nat) + 1 : Int)) 92] :: En.cells b7 [.int .i64 (IntKind.i64.wrap ((i : Nat) + 1 : Int))] :: _ = _
      rw [hw]; rfl
    | true =>
      have hwl : w.length ≤ s.length := linesL_mem (x := (w, true)) (List.mem_of_getElem? hx')
      repeat (first | refine ga_ ?_ | intro _)
      rename_i R2 hl2
      refine Or.inl ⟨⟨_, Tryz.func53, rfl, rfl⟩, ACall.mono ?_ (row_ok p w _ (NumG.cons (NumG.cons (NumG.cons (NumG.cons (NumG.cons (NumG.left (NumG.appL gG))))))) (ErrG.cons (ErrG.cons (ErrG.cons (ErrG.cons (ErrG.cons (ErrG.left (ErrG.app gE))))))) (by omega) hp hD)⟩
      rintro _ S1 ⟨rfl, hS1⟩
      subst S1
      repeat (first | refine ga_ ?_ | intro _)
      by_cases hc : (rowL p w).2.2 = 0
      · have hat := rowL_at hc
        obtain ⟨n, hn⟩ : ∃ n, n = (rowL p w).1 := ⟨_, rfl⟩
        obtain ⟨O, hO⟩ : ∃ O, O = outX p ((linesL s).take i) := ⟨_, rfl⟩
        have hOl : O.length = p.decls.length := by rw [hO, outX_len]
        rw [← hn] at hat
        obtain ⟨r, hr⟩ : ∃ r, O[n]? = some r := ⟨O[n]'(by omega), List.getElem?_eq_getElem _⟩
        obtain ⟨tk, htk⟩ : ∃ t, z[n]? = some t := ⟨z[n]'(by omega), List.getElem?_eq_getElem _⟩
        have hg := rowsAV_get hr htk
        have hst := outX_step (p := p) hx'
        have hnx := next_row h3 hx' (show codeX p (w, true) = 0 by rw [codeX, if_pos rfl]; exact hc)
        obtain ⟨t, ht⟩ : ∃ t, t = (rowL p w).2.1 := ⟨_, rfl⟩
        rw [← hO] at hst
        simp only [] at hst
        rw [← hn, ← ht] at hst
        have hrl : r.length ≤ s.length + 1 := by
          have h4 := (outX_rows hD ((linesL s).take i) r (hO ▸ List.mem_of_getElem? hr)).1
          rw [List.length_take] at h4; omega
        have hgr : ((z.map En.grow ++ G) ++ R2)[n]? = some (.grow tk) := by rw [List.append_assoc]; exact grows_get htk
        have hgs : ∀ t, ((z.map En.grow ++ G) ++ R2).set n (.grow t) = ((z.set n t).map En.grow ++ G) ++ R2 := fun t => by rw [List.append_assoc, grows_set (by omega), List.append_assoc]
        have hrs : ∀ tk', (rowsAV O z).set n (.sl 1 ((r ++ [t]).map encR) tk') = rowsAV (outX p ((linesL s).take (i + 1))) (z.set n tk') := fun tk' => by
          rw [rowsAV_set (by omega), hst, putX, hr]; rfl
        rw [← hO, ← hn, ← ht]
        refine AW_false (b := !decide ((rowL p w).2.2 = 0)) rfl (by rw [hc]; rfl) ?_
        repeat (first | refine ga_ ?_ | intro _)
        refine AW_drawB [.cells b8 [.nilif], .cells b7 [.int .i64 (IntKind.i64.wrap ((i : Nat) + 1 : Int))], .cells b6 [.msl b1 0 p.decls.length p.decls.length], .cells b1 (rowsAV O z), .cells c [.sl 6 (p.decls.map encD) .no, .sl 4 (p.rules.map encRu) .no]] tab_ok mixed 8 [] (by first | rfl | kernel_rfl) rfl ⟨(z.map .grow ++ G) ++ R2, List.Perm.refl _⟩ ?_
        repeat (first | refine det_stepX rfl ?_ | refine go_ ?_ | intro _)
        refine at_msl (n) (n) (by first | rfl | omega | (rw [wrap_i64 (by first | omega | (simp; omega))]; first | rfl | omega | (simp; omega))) (by first | assumption | omega) (by show _ + _ * 1 = _; omega) ?_
        repeat (first | refine det_stepX rfl ?_ | refine go_ ?_ | intro _)
        refine load_one (.sl 1 (r.map encR) tk) rfl rfl hg ?_
        repeat (first | refine det_stepX rfl ?_ | refine go_ ?_ | intro _)
        refine ⟨room (by rw [List.length_map]; simp; omega) rfl, .inl rfl, .inr (.inl ⟨rfl, n + 5, hgr, (r ++ [t]).map encR, by rw [List.map_append]; rfl, fun t1 => ?_⟩)⟩
        refine ⟨⟨((z.set n t1).map En.grow ++ G) ++ R2, by show List.Perm (_ :: _ :: _ :: _ :: _ :: ((z.map En.grow ++ G) ++ R2).set n (.grow t1)) _; rw [hgs]; exact List.Perm.refl _⟩, ?_⟩
        repeat (first | refine go_ ?_ | intro _)
        refine at_msl (n) (n) (by first | rfl | omega | (rw [wrap_i64 (by first | omega | (simp; omega))]; first | rfl | omega | (simp; omega))) (by first | assumption | omega) (by show _ + _ * 1 = _; omega) ?_
        repeat (first | refine go_ ?_ | intro _)
        refine store_one (.sl 1 ((r ++ [t]).map encR) t1) _ rfl rfl (by rw [rowsAV_len (by omega)]; omega) (hrs t1) ?_
        repeat (first | refine go_ ?_ | intro _)
        refine ⟨z.set n t1, ⟨hli, by rw [List.length_set]; exact h2, hnx⟩, SLe.of_eq ?_⟩
        show (En.cells b8 [.nilif] :: En.cells b7 [.int .i64 (IntKind.i64.wrap ((i : Nat) + 1 : Int))] :: _ :: _ :: _ :: ((z.map En.grow ++ G) ++ R2).set n (.grow t1)) = _
        rw [hw, hgs]; rfl
      · refine AW_true (b := !decide ((rowL p w).2.2 = 0)) rfl (by rw [decide_eq_false hc]; rfl) ?_
        repeat (first | refine ga_ ?_ | intro _)
        refine ⟨_, ⟨rfl, i, (w, true), .cells b1 (rowsAV (outX p ((linesL s).take i)) z) :: .cells c [.sl 6 (p.decls.map encD) .no, .sl 4 (p.rules.map encRu) .no] :: (z.map .grow ++ G), bad_at h3 hx' (by simpa [codeX] using hc), hx', rfl⟩, SLe.of_eq ?_⟩
        show En.cells b8 [wrongE (IntKind.i64.wrap ((i : Nat) + 1 : Int)) (rowL p w).2.2] :: En.cells b7 [.int .i64 (IntKind.i64.wrap ((i : Nat) + 1 : Int))] :: _ = _
        rw [hw]; rfl
  · intro d z hz
    obtain ⟨h1, h2, h3⟩ := hz
    have hlen : ((linesL s).map lineAV).length = (linesL s).length := List.length_map ..
    rw [hlen] at h3
    have hb : badX p s = none := bad_no h3
    show (fun i => AW _ _ _ _ _ (stR p s c b1 b6 b7 b8 G i z ++ _) _) ((linesL s).map lineAV).length
    rw [hlen]
    show AW _ _ _ _ _ (stR p s c b1 b6 b7 b8 G (linesL s).length z ++ _) _
    unfold stR
    rw [List.take_length]
    refine AW_weak (weak_of (l := [(6, .ptr b6 0), (8, .ptr b8 0)]) (m := [d]) (S' := .cells b8 [.nilif] :: .cells b6 [.msl b1 0 p.decls.length p.decls.length] :: .cells b1 (rowsAV (outX p (linesL s)) z) :: .obj d (.deferred (some [])) :: R) ?_ rfl ?_) ?_
    · repeat (first | exact trivial | refine env_ ?_)
    · exact fun w0 K w h => h.sub (.cons_cons _ (.cons _ (.cons_cons _ (.cons_cons _ (.cons _ (List.sublist_append_right _ _))))))
    repeat (first | refine go_ ?_ | intro _)
    refine AW_draw tab_ok mixed 6 (by first | rfl | kernel_rfl) ?_
    repeat (first | refine go_ ?_ | intro _)
    apply call_step
    · rfl
    · exact Or.inl ⟨⟨_, Tryz.func54, rfl, rfl⟩, join0_ok _ _⟩
    repeat (first | refine go_ ?_ | intro _)
    refine AW_ret ?_
    refine ⟨3, rfl, ?_⟩
    refine ⟨_, .cells b1 (rowsAV (outX p (linesL s)) z) :: R, AVle.refl _, SLe.tail (SLe.tail SLe.rfl), ?_⟩
    unfold ReadQ
    rw [hb]
    exact ⟨b1, z, h2, rfl, rfl⟩
  · rintro d x Sc ⟨rfl, i, y, r, hb, hy, rfl⟩ _
    repeat (first | refine ga_ ?_ | intro _)
    refine AW_weak (weak_of (l := [(6, .ptr b6 0), (8, .ptr b8 0)]) (m := [d]) (S' := .cells b8 [wrongE ((i + 1 : Nat) : Int) (codeX p y)] :: .cells b6 [.msl b1 0 p.decls.length p.decls.length] :: .obj d (.deferred (some [])) :: R) ?_ rfl ?_) ?_
    · repeat (first | exact trivial | refine env_ ?_)
    · exact fun w0 K w h => h.sub (.cons_cons _ (.cons _ (.cons_cons _ (List.sublist_append_right _ _))))
    refine AW_draw tab_ok mixed 6 (by first | rfl | kernel_rfl) ?_
    repeat (first | refine go_ ?_ | intro _)
    refine ⟨.ifc 142 (.ref [.sl 1 [wrongE ((i + 1 : Nat) : Int) (codeX p y)] .no]), Or.inl ⟨⟨_, Tryz.func54, rfl, rfl⟩, ACall.mono ?_ (join1_ok _ _ _)⟩, ?_⟩
    · rintro _ S1 ⟨tk', rfl, rfl⟩
      exact ⟨AVle.ifcRef ⟨AVle.tk, trivial⟩ rfl, List.Sublist.refl _⟩
    repeat (first | refine go_ ?_ | intro _)
    refine AW_ret ?_
    refine ⟨2, rfl, ?_⟩
    refine ⟨_, R, AVle.refl _, SLe.tail (SLe.tail SLe.rfl), ?_⟩
    unfold ReadQ
    rw [hb]
    refine ⟨b1, .no, ?_, rfl⟩
    rw [hy]; rfl
end Go.Proofs.YtgkjbpnmeeibbaaGreatDoor
/-
  Read, the program's. Own work.
-/
namespace Go.Proofs.YtgkjbpnmeeibbaaGreatDoor
open Go.Aw Go.RowKit Tree
set_option maxHeartbeats 4000000
set_option maxRecDepth 4000
open Rel (V encV encR foldPut Cl riseB)

/-- what the laws of this layer read -/
def FactG (R : List En) : Prop := NumG R ∧ ErrG R ∧ AsG R ∧ ∃ b o, En.glob 1 [errE b o] ∈ R
theorem FactG.cons {R : List En} (h : FactG R) {e : En} : FactG (e :: R) := ⟨h.1.cons, h.2.1.cons, .tail _ h.2.2.1, let ⟨b, o, h⟩ := h.2.2.2; ⟨b, o, .tail _ h⟩⟩
def resAV (x : Rows × Int × Int) : AV := .tup [.sl 1 (x.1.map Rel.encL) .no, .int .i64 x.2.1, .int .i64 x.2.2]
theorem resX_no {p : Pr} {s : List UInt8} (h : rightP p = false) : resX p s = ([], 0, 30) := by rw [resX, if_neg (by rw [h]; simp)]
theorem resX_bad {p : Pr} {s : List UInt8} {i : Nat} (hr : rightP p = true) (h : badX p s = some i) : resX p s = ([], ((i + 1 : Nat) : Int), codeX p ((linesL s)[i]?.getD ([], false))) := by
  rw [badX] at h
  have hc : codeX p ((linesL s)[i]?.getD ([], false)) ≠ 0 := by
    obtain ⟨hi, h1, _⟩ := List.findIdx?_eq_some_iff_getElem.1 h
    rw [List.getElem?_eq_getElem hi, Option.getD_some]
    simpa using h1
  rw [resX, if_pos hr, readX, h]
  exact if_neg hc
theorem resX_ok {p : Pr} {s : List UInt8} (hr : rightP p = true) (h : badX p s = none) : resX p s = (sortX (outX p (linesL s)), 0, 0) := by
  rw [badX] at h
  rw [resX, if_pos hr, readX, h]; rfl
theorem bad_none {p : Pr} {s : List UInt8} (h : badX p s = none) : ∀ x ∈ linesL s, codeX p x = 0 := fun x hx => by
  rw [badX, List.findIdx?_eq_none_iff] at h
  simpa using h x hx
theorem sortC_ok (l : List (List V)) (t : Tk) (R : List En) (hc : Cl l) (hl : l.length ≤ 1000000) (hr : ∀ r ∈ l, r.length ≤ 16777216) : ACall Tryz.prog 29 [.sl 1 (l.map encR) t] R (fun r S => r = Rel.encL (foldPut [] l) ∧ S = R) :=
  ACall.mono (fun r S h => by obtain ⟨C, h1, h2, h3, h4⟩ := h; exact ⟨by rw [h3, Rel.sorts_same hc h1 h2], h4⟩) (Rel.sort_ok l t R hl hr)
theorem rows_le : ∀ (o : Rows) (ts : List Tk), ts.length = o.length → AVleL (rowsAV o ts) (o.map Rel.encL)
  | [], [], _ => trivial
  | [], _ :: _, h => by simp at h
  | _ :: _, [], h => by simp at h
  | a :: o, b :: ts, h => ⟨AVle.tk, rows_le o ts (by simpa using h)⟩
theorem encL_all (o : Rows) : (o.map Rel.encL).all AV.one = true := by rw [List.all_map]; exact List.all_eq_true.2 fun _ _ => rfl
theorem encL_flat (o : Rows) : flat (o.map Rel.encL) = o.map Rel.encL := one_flat fun a ha => by obtain ⟨x, _, rfl⟩ := List.mem_map.1 ha; rfl
theorem encL_sz (o : Rows) : ∀ e ∈ o.map Rel.encL, e.cells.length = 1 := fun e he => by obtain ⟨x, _, rfl⟩ := List.mem_map.1 he; rfl
/-- rows, the first ones sorted -/
def midX (o : Rows) (i : Nat) : Rows := (o.take i).map (foldPut []) ++ o.drop i
theorem midX_len (o : Rows) (i : Nat) : (midX o i).length = o.length := by simp [midX]; omega
theorem midX_get {o : Rows} {i : Nat} (h : i < o.length) : (midX o i)[i]? = some o[i] := by
  rw [midX, List.getElem?_append_right (by simp; omega)]
  have : i - ((o.take i).map (foldPut [])).length = 0 := by simp; omega
  rw [this, List.getElem?_drop, Nat.add_zero, List.getElem?_eq_getElem h]
theorem midX_set {o : Rows} {i : Nat} (h : i < o.length) : (midX o i).set i (foldPut [] o[i]) = midX o (i + 1) := by
  have hl : ((o.take i).map (foldPut [])).length = i := by simp; omega
  rw [midX, List.drop_eq_getElem_cons h, midX, List.take_succ_eq_append_getElem h, List.map_append, List.append_assoc]
  have := mid_set ((o.take i).map (foldPut [])) (o.drop (i + 1)) o[i] (foldPut [] o[i])
  rw [hl] at this
  rw [this]; rfl
theorem readP_ok (p : Pr) (s : List UInt8) (R : List En) (hG : FactG R) (hs : s.length ≤ 900000) (hok : ∀ r ∈ p.rules, okR r) : ACall Tryz.prog 13 [encP p, .str s] R (fun r S => r = resAV (resX p s) ∧ S = R) := by
  obtain ⟨gN, gE, gA, b, o, gT⟩ := hG
  have kr := fun R hE => right_ok b o p R hE hok
  by_cases hr : rightP p = true
  rotate_left
  · have hr : rightP p = false := by simpa using hr
    rw [hr] at kr
    refine ACall_body tab_ok Tryz.func13 rfl rfl rfl (by kernel_rfl) (Nat.le_of_ble_eq_true rfl) ?_
    repeat (first | refine go_ ?_ | intro _)
    refine Or.inl ⟨⟨_, Tryz.func26, rfl, rfl⟩, ACall.mono ?_ (kr _ (.tail _ gT))⟩
    rintro _ S1 ⟨rfl, hS1⟩
    subst S1
    repeat (first | refine ga_ ?_ | intro _)
    refine AW_ret ?_
    refine ⟨_, R, AVle.tup (bs := [.sl 1 [] .no, .int .i64 0, .int .i64 30]) ⟨AVle.nil, AVle.refl _, AVle.refl _, trivial⟩, (by repeat (first | exact SLe.rfl | refine SLe.tail ?_)), ?_, rfl⟩
    rw [resX_no hr]; rfl
  rw [hr] at kr
  obtain ⟨hd, hD⟩ := right_D hr
  have hD' : ∀ d ∈ p.decls, d.types.length ≤ 1000 := fun d h => by have := (hD d h).1; omega
  refine ACall_body tab_ok Tryz.func13 rfl rfl rfl (by kernel_rfl) (Nat.le_of_ble_eq_true rfl) ?_
  repeat (first | refine go_ ?_ | intro _)
  refine Or.inl ⟨⟨_, Tryz.func26, rfl, rfl⟩, ACall.mono ?_ (kr _ (.tail _ gT))⟩
  rintro _ S1 ⟨rfl, hS1⟩
  subst S1
  repeat (first | refine ga_ ?_ | intro _)
  refine Or.inl ⟨⟨_, Tryz.func27, rfl, rfl⟩, ACall.mono ?_ (read_ok p s _ gN.cons gE.cons (by omega) (by omega) hD')⟩
  rintro v S1 hQ
  unfold ReadQ at hQ
  cases hb : badX p s with
  | some i =>
    rw [hb] at hQ
    obtain ⟨b1, tk, rfl, rfl⟩ := hQ
    repeat (first | refine ga_ ?_ | intro _)
    rename_i b9
    refine Or.inl ⟨⟨_, Tryz.func28, rfl, rfl⟩, ACall.mono ?_ (as_ok b9 (.int .i64 0) (.int .i64 0) _ _ tk _ (show AsG _ from .tail _ gA))⟩
    rintro _ S1 ⟨rfl, hS1⟩
    subst S1
    repeat (first | refine ga_ ?_ | intro _)
    refine AW_draw tab_ok mixed 7 (by first | rfl | kernel_rfl) ?_
    repeat (first | refine ga_ ?_ | intro _)
    refine AW_ret ?_
    refine ⟨_, R, AVle.tup (bs := [.sl 1 [] .no, .int .i64 ((i + 1 : Nat) : Int), .int .i64 (codeX p ((linesL s)[i]?.getD ([], false)))]) ⟨AVle.nil, AVle.refl _, AVle.refl _, trivial⟩, (by repeat (first | exact SLe.rfl | refine SLe.tail ?_)), ?_, rfl⟩
    rw [resX_bad hr hb]; rfl
  | none =>
    rw [hb] at hQ
    obtain ⟨b1, ts, hts, rfl, rfl⟩ := hQ
    have hcl := bad_none hb
    obtain ⟨O, hO⟩ : ∃ O, O = outX p (linesL s) := ⟨_, rfl⟩
    have hOl : O.length = p.decls.length := by rw [hO, outX_len]
    have hrow : ∀ l ∈ O, Cl l ∧ l.length ≤ 1000000 ∧ ∀ r ∈ l, r.length ≤ 16777216 := fun l hl => by
      rw [hO] at hl
      have h1 := outX_rows hD' (linesL s) l hl
      have h2 := linesL_len s
      exact ⟨outX_clean hcl hl, by omega, fun r hr => by have := h1.2 r hr; omega⟩
    rw [resX_ok hr hb, ← hO]
    repeat (first | refine ga_ ?_ | intro _)
    rename_i b9
    refine Or.inl ⟨⟨_, Tryz.func28, rfl, rfl⟩, ACall.mono ?_ (asNil_ok _ _)⟩
    rintro _ S1 ⟨rfl, hS1⟩
    subst S1
    repeat (first | refine ga_ ?_ | intro _)
    refine AW_for (α := Nat) (fun z => ⟨[(7, .msl b1 0 p.decls.length p.decls.length), (28, .int .i64 (p.decls.length : Nat)), (29, .int .i64 (z : Nat))], []⟩) (fun z => .cells b1 ((midX O z).map Rel.encL) :: R) (fun z => p.decls.length - z) (fun z => z ≤ p.decls.length) (0) ?_ (weak_of ?_ rfl ?_) (fun z hz => ?_)
    · exact Nat.zero_le _
    · repeat (first | exact trivial | refine env_ ?_)
    · exact SW.le (SW.drop (SW.cells (rows_le O ts (by omega)) (encL_all O) (SW.drop SW.nil)))
    replace hz : z ≤ p.decls.length := hz
    repeat (first | refine go_ ?_ | intro _)
    refine AW_iff (z < p.decls.length) rfl (by first | (simp; done) | (simp <;> omega) | decide) (fun h => ?_) (fun h => ?_)
    · have hlt := h
      have hlo : z < O.length := by omega
      obtain ⟨l, hl⟩ : ∃ l, l = O[z] := ⟨_, rfl⟩
      obtain ⟨h1, h2, h3⟩ := hrow l (hl ▸ List.getElem_mem hlo)
      have hg : ((midX O z).map Rel.encL)[z]? = some (Rel.encL l) := by rw [List.getElem?_map, midX_get hlo, ← hl]; rfl
      have hset : ((midX O z).map Rel.encL).set z (Rel.encL (foldPut [] l)) = (midX O (z + 1)).map Rel.encL := by rw [← midX_set hlo, ← hl, List.map_set]
      repeat (first | refine go_ ?_ | intro _)
      refine at_msl (z) (z) (by first | rfl | omega | (rw [wrap_i64 (by first | omega | (simp; omega))]; first | rfl | omega | (simp; omega))) (by first | assumption | omega) (by show _ + _ * 1 = _; omega) ?_
      repeat (first | refine go_ ?_ | intro _)
      refine load_one (Rel.encL l) rfl rfl hg ?_
      repeat (first | refine go_ ?_ | intro _)
      refine Or.inl ⟨⟨_, Tryz.func29, rfl, rfl⟩, ACall.mono ?_ (sortC_ok l .no _ h1 h2 h3)⟩
      rintro _ S1 ⟨rfl, hS1⟩
      subst S1
      repeat (first | refine go_ ?_ | intro _)
      refine at_msl (z) (z) (by first | rfl | omega | (rw [wrap_i64 (by first | omega | (simp; omega))]; first | rfl | omega | (simp; omega))) (by first | assumption | omega) (by show _ + _ * 1 = _; omega) ?_
      repeat (first | refine go_ ?_ | intro _)
      refine store_one (Rel.encL (foldPut [] l)) ((midX O (z + 1)).map Rel.encL) rfl rfl (by rw [List.length_map, midX_len]; omega) hset ?_
      repeat (first | refine go_ ?_ | intro _)
      refine ⟨z + 1, ?_, ?_, weak_of ?_ rfl ?_⟩
      · omega
      · omega
      · repeat (first | exact trivial | refine env_ ?_)
      · repeat (first | exact SLe.rfl | refine SLe.tail ?_ | refine SLe.full ?_)
    · have hz : z = O.length := by omega
      have he : midX O z = sortX O := by rw [hz, midX, List.take_length, List.drop_length, List.append_nil]; rfl
      rw [he]
      repeat (first | refine go_ ?_ | intro _)
      refine AW_freeze (R := R) 4 (n' := 1) (es := (sortX O).map Rel.encL) (sz := 1) (fun h => nomatch h) rfl (by rw [List.length_map, sortX, List.length_map]; omega) (encL_sz _) (by rw [encL_flat, List.drop_zero, List.take_of_length_le (by rw [List.length_map, sortX, List.length_map]; omega)]) ?_
      repeat (first | refine go_ ?_ | intro _)
      refine AW_ret ?_
      exact ⟨_, R, AVle.refl _, SLe.rfl, rfl, rfl⟩
end Go.Proofs.YtgkjbpnmeeibbaaGreatDoor
