/-
 DreadParts: the walk. Own work.
-/
import Derived.Test.YtfeknkaioofljaaGreatDoorQ25
set_option linter.all false
namespace Go.Proofs.YtfeknkaioofljaaGreatDoor
open Go.Aw Go.RowKit Tree
set_option maxHeartbeats 4000000
set_option maxRecDepth 4000

def cP (p : Pr) : List AV := [.sl 6 (p.decls.map encD) .no, .sl 4 (p.rules.map encRu) .no]
theorem lexS_le (s : List UInt8) : (toksV s).length ≤ 3000 ∧ (toksV s).length ≤ s.length := by
 have := Lx.lexS_len (s.take 3000)
 rw [List.length_take] at this
 unfold toksV
 omega
theorem numT_app {a b : List Lx.Tok} (h1 : NumT a) (h2 : NumT b) : NumT (a ++ b) := fun t ht hk => by
 rcases List.mem_append.1 ht with h | h
 ·exact h1 t h hk
 ·exact h2 t h hk
theorem okP_read {p : Pr} {n m : Nat} (h : Read p n m) : okP p := by
 refine ⟨by have := h.cntD; omega, fun d hd => ?_⟩
 obtain ⟨_, _, h1, h2, _⟩ := rightD_all (h.decls d hd).1
 omega
theorem okP_two {p q : Pr} (h1 : okP p) (h2 : okP q) (h3 : p.decls.length + q.decls.length ≤ 60) : okP ⟨p.decls ++ q.decls, p.rules ++ q.rules⟩ := by
 refine ⟨by show (p.decls ++ q.decls).length ≤ _; rw [List.length_append]; omega, fun d hd => ?_⟩
 rcases List.mem_append.1 hd with hd | hd
 ·exact h1.2 d hd
 ·exact h2.2 d hd
theorem rm_ {n b : Nat} (h : n ≤ 1073741824 := by first | (simp; done) | (simp; omega)) (hb : Nat.ble b 32768 = true := by rfl) : roomFor n b := room h hb
theorem s0_ {G G' : Prop} (k : G') (h : G' → G := by intro k; exact ⟨rfl, 0, 60, rfl, rfl, Nat.zero_le _, rm_, .inl ⟨rfl, k⟩⟩) : G := h k
theorem a0_ {G G' : Prop} (k : G') (h : G' → G := by intro k; exact ⟨_, rfl, rfl, rfl, rm_, .inl rfl, .inr (.inl ⟨rfl, 0, rfl, _, rfl, k⟩)⟩) : G := h k
theorem a1_ {G G' : Prop} (k : G') (h : G' → G := by intro k; exact ⟨_, rfl, rfl, rfl, rm_, .inl rfl, .inr (.inl ⟨rfl, 1, rfl, _, rfl, k⟩)⟩) : G := h k
theorem a2_ {G G' : Prop} (k : G') (h : G' → G := by intro k; exact ⟨_, rfl, rfl, rfl, rm_, .inl rfl, .inr (.inl ⟨rfl, 2, rfl, _, rfl, k⟩)⟩) : G := h k
theorem c0_ {G G' : Prop} (k : G') (h : G' → G := by intro k; exact ⟨_, rfl, rfl, rfl, rm_, .inl rfl, .inr (.inl ⟨rfl, 0, rfl, _, List.map_append.symm, k⟩)⟩) : G := h k
theorem c1_ {G G' : Prop} (k : G') (h : G' → G := by intro k; exact ⟨_, rfl, rfl, rfl, rm_, .inl rfl, .inr (.inl ⟨rfl, 1, rfl, _, List.map_append.symm, k⟩)⟩) : G := h k
theorem c2_ {G G' : Prop} (k : G') (h : G' → G := by intro k; exact ⟨_, rfl, rfl, rfl, rm_, .inl rfl, .inr (.inl ⟨rfl, 2, rfl, _, List.map_append.symm, k⟩)⟩) : G := h k
theorem lf_ {G : Prop} (h : G := by exact ⟨trivial, weak_of (by repeat (first | exact trivial | refine env_ ?_)) rfl (SW.le (by repeat (first | exact SW.nil | refine sw_ ?_)))⟩) : G := h
theorem dreadParts_ok (s t : List UInt8) (R : List En) (hG : LawG R) : ACall Tryz.prog 6 [.str s, .str t] R (fun r S => r = .bool true ∧ S = R) := by
 obtain ⟨a, ha⟩ : ∃ a, a = toksV (s.take 2000) := ⟨_, rfl⟩
 obtain ⟨b, hb⟩ : ∃ b, b = toksV (t.take 2000) := ⟨_, rfl⟩
 have al : a.length ≤ 2000 := by have := (lexS_le (s.take 2000)).2; rw [List.length_take, ← ha] at this; omega
 have bl : b.length ≤ 2000 := by have := (lexS_le (t.take 2000)).2; rw [List.length_take, ← hb] at this; omega
 have aN : NumT a := ha ▸ num_lex _
 have bN : NumT b := hb ▸ num_lex _
 have aT : ToksOk a := ha ▸ toks_lex _
 have bT : ToksOk b := hb ▸ toks_lex _
 have k1 := lexed_ok (s.take 2000) (hG := hG.1)
 have k2 := lexed_ok (t.take 2000) (hG := hG.1)
 rw [← ha] at k1
 rw [← hb] at k2
 have kp := fun (R : List En) (hG : ReadG R) => parse_ok a aN R hG.1 hG.2.2.1
 have kq := fun (R : List En) (hG : ReadG R) => parse_ok b bN R hG.1 hG.2.2.1
 have ku := fun (R : List En) (hG : ReadG R) => parse_ok (a ++ b) (numT_app aN bN) R hG.1 hG.2.2.1
 have hp0 : (parseL a).2.2 ≠ 0 → (parseL a).1 = ⟨[], []⟩ := parse_none
 have hq0 : (parseL b).2.2 ≠ 0 → (parseL b).1 = ⟨[], []⟩ := parse_none
 have hpr := fun h => read_parse (L := a) aT h
 have hqr := fun h => read_parse (L := b) bT h
 have htwo := fun h1 h2 hd hD hR => parse_two (a := a) (b := b) (by omega) h1 h2 hd hD hR
 obtain ⟨P, hP⟩ : ∃ P, P = parseL a := ⟨_, rfl⟩
 obtain ⟨Q, hQ⟩ : ∃ P, P = parseL b := ⟨_, rfl⟩
 obtain ⟨U, hU⟩ : ∃ P, P = parseL (a ++ b) := ⟨_, rfl⟩
 rw [← hP] at kp hp0 hpr htwo
 rw [← hQ] at kq hq0 hqr htwo
 rw [← hU] at ku htwo
 obtain ⟨p, pi, pe⟩ := P
 obtain ⟨q, qi, qe⟩ := Q
 obtain ⟨u, ui, ue⟩ := U
 simp only [] at hp0 hq0 hpr hqr htwo
 have hpl : p.decls.length ≤ 60 ∧ p.rules.length ≤ 200 := by
  by_cases h : pe = 0
  ·exact ⟨(hpr h).cntD, (hpr h).cntR⟩
  ·rw [hp0 h]; exact ⟨Nat.zero_le _, Nat.zero_le _⟩
 have hql : q.decls.length ≤ 60 ∧ q.rules.length ≤ 200 := by
  by_cases h : qe = 0
  ·exact ⟨(hqr h).cntD, (hqr h).cntR⟩
  ·rw [hq0 h]; exact ⟨Nat.zero_le _, Nat.zero_le _⟩
 refine ACall_body tab_ok Tryz.func6 rfl rfl rfl (by kernel_rfl) (Nat.le_of_ble_eq_true rfl) ?_
 repeat (first | refine go_ ?_ | intro _)
 refine Or.inl ⟨⟨_, Tryz.func7, rfl, rfl⟩, ACall.mono ?_ (shown_ok R hG)⟩
 rintro _ S1 ⟨rfl, hS1⟩
 subst S1
 repeat (first | refine go_ ?_ | intro _)
 refine at_ss 0 (min s.length 2000) (s.take 2000) rfl (by show min (s.length : Int) 2000 = _; omega) (by omega) (by omega) (by rw [List.drop_zero, List.take_eq_take_iff]; omega) ?_
 repeat (first | refine go_ ?_ | intro _)
 refine Or.inl ⟨⟨_, Tryz.func17, rfl, rfl⟩, ACall.mono ?_ (k1)⟩
 rintro _ S1 ⟨rfl, hS1⟩
 subst S1
 repeat (first | refine go_ ?_ | intro _)
 refine at_ss 0 (min t.length 2000) (t.take 2000) rfl (by show min (t.length : Int) 2000 = _; omega) (by omega) (by omega) (by rw [List.drop_zero, List.take_eq_take_iff]; omega) ?_
 repeat (first | refine go_ ?_ | intro _)
 refine Or.inl ⟨⟨_, Tryz.func17, rfl, rfl⟩, ACall.mono ?_ (k2)⟩
 rintro _ S1 ⟨rfl, hS1⟩
 subst S1
 repeat (first | refine go_ ?_ | intro _)
 refine Or.inl ⟨⟨_, Tryz.func9, rfl, rfl⟩, ACall.mono ?_ (kp _ hG.1)⟩
 rintro _ S1 ⟨rfl, hS1⟩
 subst S1
 repeat (first | refine gr_ ?_ | intro _)
 rename_i b8
 refine AW_weak (weak_of (l := [(5, .bool true), (6, .sl 3 (a.map Lx.encT) .no), (7, .sl 3 (b.map Lx.encT) .no), (8, .ptr b8 0), (10, .int .i64 pe)]) (m := []) (S' := .cells b8 (cP p) :: R) ?_ rfl ?_) ?_
 ·repeat (first | exact trivial | refine env_ ?_)
 ·refine SW.le ?_
  repeat (first | exact SW.nil | refine sw_ ?_)
 repeat (first | refine go_ ?_ | intro _)
 refine Or.inl ⟨⟨_, Tryz.func9, rfl, rfl⟩, ACall.mono ?_ (kq _ hG.1.cons)⟩
 rintro _ S1 ⟨rfl, hS1⟩
 subst S1
 repeat (first | refine gr_ ?_ | intro _)
 rename_i b11
 refine AW_weak (weak_of (l := [(5, .bool true), (6, .sl 3 (a.map Lx.encT) .no), (7, .sl 3 (b.map Lx.encT) .no), (8, .ptr b8 0), (10, .int .i64 pe), (11, .ptr b11 0), (13, .int .i64 qe)]) (m := []) (S' := .cells b11 (cP q) :: .cells b8 (cP p) :: R) ?_ rfl ?_) ?_
 ·repeat (first | exact trivial | refine env_ ?_)
 ·refine SW.le ?_
  repeat (first | exact SW.nil | refine sw_ ?_)
 repeat (first | refine go_ ?_ | intro _)
 refine ⟨0, a.length + b.length, rfl, (by rw [List.length_map, List.length_map, wrap_i64 (by omega)]; simp), Nat.zero_le _, room (by first | omega | (simp; omega)) rfl, .inl ⟨rfl, fun t1 => ?_⟩⟩
 repeat (first | refine go_ ?_ | intro _)
 refine ⟨room (by first | omega | (simp; done) | (simp; omega) | (simp at *; done) | (simp at *; omega)) rfl, .inl rfl, .inr (.inl ⟨rfl, 0, rfl, a.map Lx.encT, rfl, fun t1 => ?_⟩)⟩
 repeat (first | refine go_ ?_ | intro _)
 refine ⟨room (by first | omega | (simp; done) | (simp; omega) | (simp at *; done) | (simp at *; omega)) rfl, .inl rfl, .inr (.inl ⟨rfl, 0, rfl, (a ++ b).map Lx.encT, by rw [List.map_append], fun t1 => ?_⟩)⟩
 repeat (first | refine go_ ?_ | intro _)
 refine Or.inl ⟨⟨_, Tryz.func9, rfl, rfl⟩, ACall_args (ACall.mono ?_ (ku _ hG.1.cons.cons.cons)) ⟨AVle.tk, trivial⟩⟩
 rintro _ S1 ⟨rfl, hS1⟩
 subst S1
 repeat (first | refine gr_ ?_ | intro _)
 rename_i b14
 refine AW_weak (weak_of (l := [(5, .bool true), (8, .ptr b8 0), (10, .int .i64 pe), (11, .ptr b11 0), (13, .int .i64 qe), (14, .ptr b14 0), (16, .int .i64 ue)]) (m := []) (S' := .cells b14 (cP u) :: .cells b11 (cP q) :: .cells b8 (cP p) :: R) ?_ rfl ?_) ?_
 ·repeat (first | exact trivial | refine env_ ?_)
 ·refine SW.le ?_
  repeat (first | exact SW.nil | refine sw_ ?_)
 repeat (first | refine go_ ?_ | intro _)
 by_cases he : pe = 0
 rotate_left
 ·refine known_true (b := !decide (pe = 0)) (by rw [decide_eq_false he]; rfl) ?_
  repeat (first | refine ga_ ?_ | intro _)
  refine AW_ret ?_
  repeat refine mk_ ?_
  refine ⟨_, R, AVle.eq ?_, sle_, rfl, rfl⟩
  rfl
 refine known_false (b := !decide (pe = 0)) (by rw [decide_eq_true he]; rfl) ?_
 repeat (first | refine go_ ?_ | intro _)
 by_cases hf : qe = 0
 rotate_left
 ·refine known_true (b := !decide (qe = 0)) (by rw [decide_eq_false hf]; rfl) ?_
  repeat (first | refine ga_ ?_ | intro _)
  refine AW_ret ?_
  repeat refine mk_ ?_
  refine ⟨_, R, AVle.eq ?_, sle_, rfl, rfl⟩
  rfl
 refine known_false (b := !decide (qe = 0)) (by rw [decide_eq_true hf]; rfl) ?_
 repeat (first | refine go_ ?_ | intro _)
 have w1 : IntKind.i64.wrap ((((p.decls.map encD).length : Nat) : Int) + (((q.decls.map encD).length : Nat) : Int)) = ((p.decls.length + q.decls.length : Nat) : Int) := by rw [List.length_map, List.length_map, wrap_i64 (by omega)]; simp
 have w2 : IntKind.i64.wrap ((((p.rules.map encRu).length : Nat) : Int) + (((q.rules.map encRu).length : Nat) : Int)) = ((p.rules.length + q.rules.length : Nat) : Int) := by rw [List.length_map, List.length_map, wrap_i64 (by omega)]; simp
 by_cases h1 : 60 < p.decls.length + q.decls.length
 ·refine known_true (b := decide (IntKind.i64.wrap ((((p.decls.map encD).length : Nat) : Int) + (((q.decls.map encD).length : Nat) : Int)) > 60)) (by rw [w1]; exact decide_eq_true (by omega)) ?_
  repeat (first | refine ga_ ?_ | intro _)
  refine AW_ret ?_
  repeat refine mk_ ?_
  refine ⟨_, R, AVle.eq ?_, sle_, rfl, rfl⟩
  rfl
 refine known_false (b := decide (IntKind.i64.wrap ((((p.decls.map encD).length : Nat) : Int) + (((q.decls.map encD).length : Nat) : Int)) > 60)) (by rw [w1]; exact decide_eq_false (by omega)) ?_
 repeat (first | refine go_ ?_ | intro _)
 by_cases h2 : 200 < p.rules.length + q.rules.length
 ·refine AW_true (b := decide (IntKind.i64.wrap ((((p.rules.map encRu).length : Nat) : Int) + (((q.rules.map encRu).length : Nat) : Int)) > 200)) rfl (by rw [w2]; exact decide_eq_true (by omega)) ?_
  repeat (first | refine ga_ ?_ | intro _)
  refine AW_ret ?_
  repeat refine mk_ ?_
  refine ⟨_, R, AVle.eq ?_, sle_, rfl, rfl⟩
  rfl
 refine AW_false (b := decide (IntKind.i64.wrap ((((p.rules.map encRu).length : Nat) : Int) + (((q.rules.map encRu).length : Nat) : Int)) > 200)) rfl (by rw [w2]; exact decide_eq_false (by omega)) ?_
 refine AW_weak (weak_of (l := [(5, .bool true), (8, .ptr b8 0), (11, .ptr b11 0), (14, .ptr b14 0), (16, .int .i64 ue)]) (m := []) (S' := .cells b14 (cP u) :: .cells b11 (cP q) :: .cells b8 (cP p) :: R) ?_ rfl ?_) ?_
 ·repeat (first | exact trivial | refine env_ ?_)
 ·refine SW.le ?_
  repeat (first | exact SW.nil | refine sw_ ?_)
 repeat (first | refine go_ ?_ | intro _)
 refine AW_for (α := Nat) (fun z => ⟨[(5, .bool true), (8, .ptr b8 0), (11, .ptr b11 0), (14, .ptr b14 0), (16, .int .i64 ue), (17, .int .i64 (z : Nat))], []⟩) (fun z => .cells b14 (cP u) :: .cells b11 (cP q) :: .cells b8 (cP p) :: R) (fun z => q.decls.length - z) (fun z => z ≤ q.decls.length ∧ ∀ (i : Nat) (hi : i < q.decls.length), i < z → ∀ x ∈ p.decls, x.rel ≠ q.decls[i].rel) (0) ?_ (weak_of ?_ rfl ?_) (fun z hz => ?_)
 ·exact ⟨Nat.zero_le _, fun i _ h => absurd h (Nat.not_lt_zero _)⟩
 ·repeat (first | exact trivial | refine env_ ?_)
 ·repeat (first | exact SLe.rfl | refine SLe.tail ?_ | refine SLe.full ?_)
 obtain ⟨z1, z2⟩ := hz
 repeat (first | refine go_ ?_ | intro _)
 refine AW_iff (z < q.decls.length) rfl (by first | (simp; done) | (simp <;> omega) | decide) (fun h => ?_) (fun h => ?_)
 ·have hlt := h
  obtain ⟨d, hd⟩ : ∃ d, d = q.decls[z] := ⟨_, rfl⟩
  obtain ⟨i0, rfl⟩ : ∃ i0, i0 = z := ⟨_, rfl⟩
  repeat (first | refine go_ ?_ | intro _)
  refine AW_for (α := Nat) (fun z => ⟨[(5, .bool true), (8, .ptr b8 0), (11, .ptr b11 0), (14, .ptr b14 0), (16, .int .i64 ue), (17, .int .i64 (i0 : Nat)), (18, .int .i64 (z : Nat))], []⟩) (fun z => .cells b14 (cP u) :: .cells b11 (cP q) :: .cells b8 (cP p) :: R) (fun z => p.decls.length - z) (fun z => z ≤ p.decls.length ∧ ∀ (i : Nat) (hi : i < p.decls.length), i < z → p.decls[i].rel ≠ d.rel) (0) ?_ (weak_of ?_ rfl ?_) (fun z hz => ?_)
  ·exact ⟨Nat.zero_le _, fun i _ h => absurd h (Nat.not_lt_zero _)⟩
  ·repeat (first | exact trivial | refine env_ ?_)
  ·repeat (first | exact SLe.rfl | refine SLe.tail ?_ | refine SLe.full ?_)
  obtain ⟨y1, y2⟩ := hz
  repeat (first | refine go_ ?_ | intro _)
  refine AW_iff (z < p.decls.length) rfl (by first | (simp; done) | (simp <;> omega) | decide) (fun h => ?_) (fun h => ?_)
  ·have hlt2 := h
   obtain ⟨x, hx⟩ : ∃ d, d = p.decls[z] := ⟨_, rfl⟩
   repeat (first | refine go_ ?_ | intro _)
   refine AW_draw tab_ok mixed 13 (by first | rfl | kernel_rfl) ?_
   repeat (first | refine go_ ?_ | intro _)
   refine at_get (z) (encD x) (by first | rfl | omega | (rw [wrap_i64 (by omega)]; omega)) (by rw [hx, List.getElem?_map, List.getElem?_eq_getElem hlt2]; rfl) ?_
   repeat (first | refine go_ ?_ | intro _)
   refine at_get (i0) (encD d) (by first | rfl | omega | (rw [wrap_i64 (by omega)]; omega)) (by rw [hd, List.getElem?_map, List.getElem?_eq_getElem hlt]; rfl) ?_
   repeat (first | refine go_ ?_ | intro _)
   by_cases hq : x.rel = d.rel
   ·refine AW_true (b := decide (x.rel = d.rel)) rfl (by exact decide_eq_true hq) ?_
    repeat (first | refine ga_ ?_ | intro _)
    refine AW_ret ?_
    repeat refine mk_ ?_
    refine ⟨_, R, AVle.eq ?_, sle_, rfl, rfl⟩
    rfl
   refine AW_false (b := decide (x.rel = d.rel)) rfl (by exact decide_eq_false hq) ?_
   repeat (first | refine go_ ?_ | intro _)
   refine ⟨(z + 1), ?_, ?_, weak_of ?_ rfl ?_⟩
   ·exact Nat.sub_lt_sub_left hlt2 (Nat.lt_succ_self z)
   ·refine ⟨hlt2, fun i hi hiz => ?_⟩
    by_cases hz : i = z
    ·subst hz; rw [← hx]; exact hq
    ·exact y2 i hi (by omega)
   ·repeat (first | exact trivial | refine env_ ?_)
   ·repeat (first | exact SLe.rfl | refine SLe.tail ?_ | refine SLe.full ?_)
  ·repeat (first | refine go_ ?_ | intro _)
   refine ⟨(i0 + 1), ?_, ?_, weak_of ?_ rfl ?_⟩
   ·exact Nat.sub_lt_sub_left hlt (Nat.lt_succ_self i0)
   ·refine ⟨hlt, fun i hi hiz x hx => ?_⟩
    by_cases hz : i = i0
    ·subst hz
     obtain ⟨j, hj, rfl⟩ := List.mem_iff_getElem.1 hx
     rw [← hd]; exact y2 j hj (by omega)
    ·exact z2 i hi (by omega) x hx
   ·repeat (first | exact trivial | refine env_ ?_)
   ·repeat (first | exact SLe.rfl | refine SLe.tail ?_ | refine SLe.full ?_)
 have hu := htwo he hf (fun x hx y hy => by
  obtain ⟨d1, g1, rfl⟩ := List.mem_map.1 hx
  obtain ⟨d2, g2, rfl⟩ := List.mem_map.1 hy
  obtain ⟨j, hj, rfl⟩ := List.mem_iff_getElem.1 g2
  exact z2 j hj (by omega) d1 g1) (by omega) (by omega)
 obtain ⟨rfl, _, rfl⟩ : u = ⟨p.decls ++ q.decls, p.rules ++ q.rules⟩ ∧ ui = 0 ∧ ue = 0 := by
  injection hu with e1 e2
  injection e2 with e2 e3
  exact ⟨e1, e2, e3⟩
 have rp := hpr he
 have rq := hqr hf
 have hs : ∀ r ∈ (⟨p.decls ++ q.decls, p.rules ++ q.rules⟩ : Pr).rules, cntR r ≤ 8000 := fun r hr => by
  rcases List.mem_append.1 hr with h | h
  ·have := cntRs_at h; have := rp.cnt; omega
  ·have := cntRs_at h; have := rq.cnt; omega
 have kS := fun R => sameB_ok ⟨p.decls ++ q.decls, p.rules ++ q.rules⟩ ⟨p.decls ++ q.decls, p.rules ++ q.rules⟩ R (okP_two (okP_read rp) (okP_read rq) (by omega)) hs (by show (p.rules ++ q.rules).length ≤ 300; rw [List.length_append]; omega)
 rw [isB_t (likeP_refl _)] at kS
 have hz0 : z = q.decls.length := by omega
 refine AW_weak (weak_of (l := [(5, .bool true), (8, .ptr b8 0), (11, .ptr b11 0), (14, .ptr b14 0), (16, .int .i64 0)]) (m := []) (S' := .cells b14 (cP ⟨p.decls ++ q.decls, p.rules ++ q.rules⟩) :: .cells b11 (cP q) :: .cells b8 (cP p) :: R) ?_ rfl ?_) ?_
 ·repeat (first | exact trivial | refine env_ ?_)
 ·refine SW.le ?_
  repeat (first | exact SW.nil | refine sw_ ?_)
 repeat (first | refine go_ ?_ | intro _)
 refine AW_cut (α := Nat) (fun z => ⟨[(5, .bool true), (14, .ptr b14 0), (16, .int .i64 0), (19, .ptr z 0)], []⟩) (fun z => .cells z (cP ⟨p.decls ++ q.decls, p.rules ++ q.rules⟩) :: .cells b14 (cP ⟨p.decls ++ q.decls, p.rules ++ q.rules⟩) :: R) (fun z => True) ?_ (fun z hz => ?_)
 ·refine AW_drawT ([.cells b14 (cP ⟨p.decls ++ q.decls, p.rules ++ q.rules⟩), .cells b11 (cP q), .cells b8 (cP p)]) tab_ok mixed [1, 2, 4, 5, 8, 9, 11, 12] (.more false 0 (.more false 3 (.more false 6 (.more false 7 (.more false 10 (.more true 13 (.more true 14 (.one true 15 (.one true 16 .leaf)) (.one true 15 (.one true 14 (.one true 16 .leaf)))) (.one false 15 (.one true 13 (.one true 14 (.one true 16 .leaf))))) (.one false 15 (.one false 10 (.one true 13 (.one true 14 (.one true 16 .leaf)))))) (.one false 15 (.one false 7 (.one false 10 (.one true 13 (.one true 14 (.one true 16 .leaf))))))) (.more false 7 (.more false 6 (.more false 10 (.more true 13 (.more true 14 (.one true 15 (.one true 16 .leaf)) (.one true 15 (.one true 14 (.one true 16 .leaf)))) (.one false 15 (.one true 13 (.one true 14 (.one true 16 .leaf))))) (.one false 15 (.one false 10 (.one true 13 (.one true 14 (.one true 16 .leaf)))))) (.one false 15 (.one false 6 (.one false 10 (.one true 13 (.one true 14 (.one true 16 .leaf))))))) (.one false 15 (.more false 6 (.one false 7 (.one false 10 (.one true 13 (.one true 14 (.one true 16 .leaf))))) (.one false 7 (.one false 6 (.one false 10 (.one true 13 (.one true 14 (.one true 16 .leaf)))))))))) (.more false 7 (.more false 3 (.more false 6 (.more false 10 (.more true 13 (.more true 14 (.one true 15 (.one true 16 .leaf)) (.one true 15 (.one true 14 (.one true 16 .leaf)))) (.one false 15 (.one true 13 (.one true 14 (.one true 16 .leaf))))) (.one false 15 (.one false 10 (.one true 13 (.one true 14 (.one true 16 .leaf)))))) (.one false 15 (.one false 6 (.one false 10 (.one true 13 (.one true 14 (.one true 16 .leaf))))))) (.one false 15 (.one false 3 (.one false 6 (.one false 10 (.one true 13 (.one true 14 (.one true 16 .leaf)))))))) (.one false 15 (.more false 3 (.more false 6 (.one false 7 (.one false 10 (.one true 13 (.one true 14 (.one true 16 .leaf))))) (.one false 7 (.one false 6 (.one false 10 (.one true 13 (.one true 14 (.one true 16 .leaf))))))) (.one false 7 (.one false 3 (.one false 6 (.one false 10 (.one true 13 (.one true 14 (.one true 16 .leaf))))))))))) (.more false 7 (.more false 0 (.more false 3 (.more false 6 (.more false 10 (.more true 13 (.more true 14 (.one true 15 (.one true 16 .leaf)) (.one true 15 (.one true 14 (.one true 16 .leaf)))) (.one false 15 (.one true 13 (.one true 14 (.one true 16 .leaf))))) (.one false 15 (.one false 10 (.one true 13 (.one true 14 (.one true 16 .leaf)))))) (.one false 15 (.one false 6 (.one false 10 (.one true 13 (.one true 14 (.one true 16 .leaf))))))) (.one false 15 (.one false 3 (.one false 6 (.one false 10 (.one true 13 (.one true 14 (.one true 16 .leaf)))))))) (.one false 15 (.one false 0 (.one false 3 (.one false 6 (.one false 10 (.one true 13 (.one true 14 (.one true 16 .leaf))))))))) (.one false 15 (.more false 0 (.more false 3 (.more false 6 (.one false 7 (.one false 10 (.one true 13 (.one true 14 (.one true 16 .leaf))))) (.one false 7 (.one false 6 (.one false 10 (.one true 13 (.one true 14 (.one true 16 .leaf))))))) (.one false 7 (.one false 3 (.one false 6 (.one false 10 (.one true 13 (.one true 14 (.one true 16 .leaf)))))))) (.one false 7 (.one false 0 (.one false 3 (.one false 6 (.one false 10 (.one true 13 (.one true 14 (.one true 16 .leaf)))))))))))) (by first | rfl | kernel_rfl) ⟨_, List.Perm.refl _⟩ ?_
  repeat (first | refine det_stepX rfl ?_ | refine go_ ?_ | intro _)
  refine ⟨?_, ?_⟩
  ·refine s0_ ?_; intro t1; refine keepA ?_
   refine ⟨?_, ?_⟩
   ·refine a0_ ?_; intro t1; refine keepA ?_
    refine ⟨?_, ?_⟩
    ·refine c0_ ?_; intro t1; refine keepA ?_
     refine ⟨?_, ?_⟩
     ·refine s0_ ?_; intro t1; refine keepA ?_
      refine ⟨?_, ?_⟩
      ·refine a0_ ?_; intro t1; refine keepA ?_
       refine ⟨?_, ?_⟩
       ·refine c0_ ?_; intro t1
        refine ⟨?_, ?_⟩
        ·refine ⟨rfl, _, rfl, ?_⟩
         refine ⟨rfl, fun b9 => ?_⟩
         repeat refine go_ ?_
         exact ⟨b9, lf_⟩
        refine ⟨rfl, fun b9 => ?_⟩
        refine ⟨rfl, _, rfl, ?_⟩
        repeat refine go_ ?_
        exact ⟨b9, lf_⟩
       refine ⟨rfl, fun b9 => ?_⟩; refine keepA ?_
       refine c1_ ?_; intro t1
       refine ⟨rfl, _, rfl, ?_⟩
       repeat refine go_ ?_
       exact ⟨b9, lf_⟩
      refine ⟨rfl, fun b9 => ?_⟩; refine keepA ?_
      refine a1_ ?_; intro t1; refine keepA ?_
      refine c1_ ?_; intro t1
      refine ⟨rfl, _, rfl, ?_⟩
      repeat refine go_ ?_
      exact ⟨b9, lf_⟩
     refine ⟨rfl, fun b9 => ?_⟩; refine keepA ?_
     refine s0_ ?_; intro t1; refine keepA ?_
     refine a0_ ?_; intro t1; refine keepA ?_
     refine c0_ ?_; intro t1
     refine ⟨rfl, _, rfl, ?_⟩
     repeat refine go_ ?_
     exact ⟨b9, lf_⟩
    refine ⟨?_, ?_⟩
    ·refine s0_ ?_; intro t1; refine keepA ?_
     refine ⟨?_, ?_⟩
     ·refine c1_ ?_; intro t1; refine keepA ?_
      refine ⟨?_, ?_⟩
      ·refine a0_ ?_; intro t1; refine keepA ?_
       refine ⟨?_, ?_⟩
       ·refine c0_ ?_; intro t1
        refine ⟨?_, ?_⟩
        ·refine ⟨rfl, _, rfl, ?_⟩
         refine ⟨rfl, fun b9 => ?_⟩
         repeat refine go_ ?_
         exact ⟨b9, lf_⟩
        refine ⟨rfl, fun b9 => ?_⟩
        refine ⟨rfl, _, rfl, ?_⟩
        repeat refine go_ ?_
        exact ⟨b9, lf_⟩
       refine ⟨rfl, fun b9 => ?_⟩; refine keepA ?_
       refine c1_ ?_; intro t1
       refine ⟨rfl, _, rfl, ?_⟩
       repeat refine go_ ?_
       exact ⟨b9, lf_⟩
      refine ⟨rfl, fun b9 => ?_⟩; refine keepA ?_
      refine a1_ ?_; intro t1; refine keepA ?_
      refine c1_ ?_; intro t1
      refine ⟨rfl, _, rfl, ?_⟩
      repeat refine go_ ?_
      exact ⟨b9, lf_⟩
     refine ⟨rfl, fun b9 => ?_⟩; refine keepA ?_
     refine c2_ ?_; intro t1; refine keepA ?_
     refine a1_ ?_; intro t1; refine keepA ?_
     refine c1_ ?_; intro t1
     refine ⟨rfl, _, rfl, ?_⟩
     repeat refine go_ ?_
     exact ⟨b9, lf_⟩
    refine ⟨rfl, fun b9 => ?_⟩; refine keepA ?_
    refine ⟨?_, ?_⟩
    ·refine c1_ ?_; intro t1; refine keepA ?_
     refine s0_ ?_; intro t1; refine keepA ?_
     refine a0_ ?_; intro t1; refine keepA ?_
     refine c0_ ?_; intro t1
     refine ⟨rfl, _, rfl, ?_⟩
     repeat refine go_ ?_
     exact ⟨b9, lf_⟩
    refine s0_ ?_; intro t1; refine keepA ?_
    refine c2_ ?_; intro t1; refine keepA ?_
    refine a0_ ?_; intro t1; refine keepA ?_
    refine c0_ ?_; intro t1
    refine ⟨rfl, _, rfl, ?_⟩
    repeat refine go_ ?_
    exact ⟨b9, lf_⟩
   refine ⟨?_, ?_⟩
   ·refine s0_ ?_; intro t1; refine keepA ?_
    refine ⟨?_, ?_⟩
    ·refine a1_ ?_; intro t1; refine keepA ?_
     refine ⟨?_, ?_⟩
     ·refine c1_ ?_; intro t1; refine keepA ?_
      refine ⟨?_, ?_⟩
      ·refine a0_ ?_; intro t1; refine keepA ?_
       refine ⟨?_, ?_⟩
       ·refine c0_ ?_; intro t1
        refine ⟨?_, ?_⟩
        ·refine ⟨rfl, _, rfl, ?_⟩
         refine ⟨rfl, fun b9 => ?_⟩
         repeat refine go_ ?_
         exact ⟨b9, lf_⟩
        refine ⟨rfl, fun b9 => ?_⟩
        refine ⟨rfl, _, rfl, ?_⟩
        repeat refine go_ ?_
        exact ⟨b9, lf_⟩
       refine ⟨rfl, fun b9 => ?_⟩; refine keepA ?_
       refine c1_ ?_; intro t1
       refine ⟨rfl, _, rfl, ?_⟩
       repeat refine go_ ?_
       exact ⟨b9, lf_⟩
      refine ⟨rfl, fun b9 => ?_⟩; refine keepA ?_
      refine a1_ ?_; intro t1; refine keepA ?_
      refine c1_ ?_; intro t1
      refine ⟨rfl, _, rfl, ?_⟩
      repeat refine go_ ?_
      exact ⟨b9, lf_⟩
     refine ⟨rfl, fun b9 => ?_⟩; refine keepA ?_
     refine c2_ ?_; intro t1; refine keepA ?_
     refine a1_ ?_; intro t1; refine keepA ?_
     refine c1_ ?_; intro t1
     refine ⟨rfl, _, rfl, ?_⟩
     repeat refine go_ ?_
     exact ⟨b9, lf_⟩
    refine ⟨rfl, fun b9 => ?_⟩; refine keepA ?_
    refine a2_ ?_; intro t1; refine keepA ?_
    refine c2_ ?_; intro t1; refine keepA ?_
    refine a1_ ?_; intro t1; refine keepA ?_
    refine c1_ ?_; intro t1
    refine ⟨rfl, _, rfl, ?_⟩
    repeat refine go_ ?_
    exact ⟨b9, lf_⟩
   refine ⟨rfl, fun b9 => ?_⟩; refine keepA ?_
   refine ⟨?_, ?_⟩
   ·refine a1_ ?_; intro t1; refine keepA ?_
    refine ⟨?_, ?_⟩
    ·refine c1_ ?_; intro t1; refine keepA ?_
     refine s0_ ?_; intro t1; refine keepA ?_
     refine a0_ ?_; intro t1; refine keepA ?_
     refine c0_ ?_; intro t1
     refine ⟨rfl, _, rfl, ?_⟩
     repeat refine go_ ?_
     exact ⟨b9, lf_⟩
    refine s0_ ?_; intro t1; refine keepA ?_
    refine c2_ ?_; intro t1; refine keepA ?_
    refine a0_ ?_; intro t1; refine keepA ?_
    refine c0_ ?_; intro t1
    refine ⟨rfl, _, rfl, ?_⟩
    repeat refine go_ ?_
    exact ⟨b9, lf_⟩
   refine s0_ ?_; intro t1; refine keepA ?_
   refine a2_ ?_; intro t1; refine keepA ?_
   refine c2_ ?_; intro t1; refine keepA ?_
   refine a0_ ?_; intro t1; refine keepA ?_
   refine c0_ ?_; intro t1
   refine ⟨rfl, _, rfl, ?_⟩
   repeat refine go_ ?_
   exact ⟨b9, lf_⟩
  refine ⟨?_, ?_⟩
  ·refine s0_ ?_; intro t1; refine keepA ?_
   refine ⟨?_, ?_⟩
   ·refine s0_ ?_; intro t1; refine keepA ?_
    refine ⟨?_, ?_⟩
    ·refine a0_ ?_; intro t1; refine keepA ?_
     refine ⟨?_, ?_⟩
     ·refine c0_ ?_; intro t1; refine keepA ?_
      refine ⟨?_, ?_⟩
      ·refine a1_ ?_; intro t1; refine keepA ?_
       refine ⟨?_, ?_⟩
       ·refine c1_ ?_; intro t1
        refine ⟨?_, ?_⟩
        ·refine ⟨rfl, _, rfl, ?_⟩
         refine ⟨rfl, fun b9 => ?_⟩
         repeat refine go_ ?_
         exact ⟨b9, lf_⟩
        refine ⟨rfl, fun b9 => ?_⟩
        refine ⟨rfl, _, rfl, ?_⟩
        repeat refine go_ ?_
        exact ⟨b9, lf_⟩
       refine ⟨rfl, fun b9 => ?_⟩; refine keepA ?_
       refine c2_ ?_; intro t1
       refine ⟨rfl, _, rfl, ?_⟩
       repeat refine go_ ?_
       exact ⟨b9, lf_⟩
      refine ⟨rfl, fun b9 => ?_⟩; refine keepA ?_
      refine a2_ ?_; intro t1; refine keepA ?_
      refine c2_ ?_; intro t1
      refine ⟨rfl, _, rfl, ?_⟩
      repeat refine go_ ?_
      exact ⟨b9, lf_⟩
     refine ⟨rfl, fun b9 => ?_⟩; refine keepA ?_
     refine c1_ ?_; intro t1; refine keepA ?_
     refine a2_ ?_; intro t1; refine keepA ?_
     refine c2_ ?_; intro t1
     refine ⟨rfl, _, rfl, ?_⟩
     repeat refine go_ ?_
     exact ⟨b9, lf_⟩
    refine ⟨rfl, fun b9 => ?_⟩; refine keepA ?_
    refine a1_ ?_; intro t1; refine keepA ?_
    refine c1_ ?_; intro t1; refine keepA ?_
    refine a2_ ?_; intro t1; refine keepA ?_
    refine c2_ ?_; intro t1
    refine ⟨rfl, _, rfl, ?_⟩
    repeat refine go_ ?_
    exact ⟨b9, lf_⟩
   refine ⟨rfl, fun b9 => ?_⟩; refine keepA ?_
   refine s0_ ?_; intro t1; refine keepA ?_
   refine a0_ ?_; intro t1; refine keepA ?_
   refine c0_ ?_; intro t1; refine keepA ?_
   refine a2_ ?_; intro t1; refine keepA ?_
   refine c2_ ?_; intro t1
   refine ⟨rfl, _, rfl, ?_⟩
   repeat refine go_ ?_
   exact ⟨b9, lf_⟩
  refine ⟨rfl, fun b9 => ?_⟩; refine keepA ?_
  refine ⟨?_, ?_⟩
  ·refine s0_ ?_; intro t1; refine keepA ?_
   refine ⟨?_, ?_⟩
   ·refine a0_ ?_; intro t1; refine keepA ?_
    refine ⟨?_, ?_⟩
    ·refine c0_ ?_; intro t1; refine keepA ?_
     refine s0_ ?_; intro t1; refine keepA ?_
     refine a0_ ?_; intro t1; refine keepA ?_
     refine c0_ ?_; intro t1
     refine ⟨rfl, _, rfl, ?_⟩
     repeat refine go_ ?_
     exact ⟨b9, lf_⟩
    refine s0_ ?_; intro t1; refine keepA ?_
    refine c1_ ?_; intro t1; refine keepA ?_
    refine a0_ ?_; intro t1; refine keepA ?_
    refine c0_ ?_; intro t1
    refine ⟨rfl, _, rfl, ?_⟩
    repeat refine go_ ?_
    exact ⟨b9, lf_⟩
   refine s0_ ?_; intro t1; refine keepA ?_
   refine a1_ ?_; intro t1; refine keepA ?_
   refine c1_ ?_; intro t1; refine keepA ?_
   refine a0_ ?_; intro t1; refine keepA ?_
   refine c0_ ?_; intro t1
   refine ⟨rfl, _, rfl, ?_⟩
   repeat refine go_ ?_
   exact ⟨b9, lf_⟩
  refine s0_ ?_; intro t1; refine keepA ?_
  refine s0_ ?_; intro t1; refine keepA ?_
  refine a0_ ?_; intro t1; refine keepA ?_
  refine c0_ ?_; intro t1; refine keepA ?_
  refine a1_ ?_; intro t1; refine keepA ?_
  refine c1_ ?_; intro t1
  refine ⟨rfl, _, rfl, ?_⟩
  repeat refine go_ ?_
  exact ⟨b9, lf_⟩
 repeat (first | refine ga_ ?_ | intro _)
 refine Or.inl ⟨⟨_, Tryz.func16, rfl, rfl⟩, ACall.mono ?_ (kS _)⟩
 rintro _ S1 ⟨rfl, hS1⟩
 subst S1
 repeat (first | refine ga_ ?_ | intro _)
 refine AW_ret ?_
 repeat refine mk_ ?_
 refine ⟨_, R, AVle.eq ?_, sle_, rfl, rfl⟩
 rfl
end Go.Proofs.YtfeknkaioofljaaGreatDoor
/-
 What the laws' calls begin with. Own work.
-/
namespace Go.Proofs.YtfeknkaioofljaaGreatDoor
open Go.Aw Go.ChangeShapes Go.WideShapes Go.ChangeAt Go.RowKit Tree

theorem startR {W : World} (h0 : laidMetH Tryz.prog Rows.dreadPartsRow.laid W) : ∃ S0, LawG S0 ∧ RelS W (Kof W) S0 W := by
 have hp : laidMet Tryz.prog [("math/bits.deBruijn32tab", Rows.laid_math_bits_deBruijn32tab), ("math/bits.deBruijn64tab", Rows.laid_math_bits_deBruijn64tab), ("internal/strconv.uint64pow10", Rows.laid_internal_strconv_uint64pow10), ("strconv.ErrRange", Rows.laid_strconv_ErrRange), ("strconv.ErrSyntax", Rows.laid_strconv_ErrSyntax), ("sorites/text.errForm", Rows.laid_sorites_text_errForm), ("sorites/dtree.errTree", Rows.laid_sorites_dtree_errTree)] W ∧ handlesMet Tryz.prog [("errors.errorType", Rows.laid_errors_errorType)] W := h0
 obtain ⟨h, hH⟩ := hp
 have h3 := laidMet.tail (laidMet.tail h)
 have ht := pow_tab (by kernel_rfl) h3
 have h4 := laidMet.tail h3
 have h5 := laidMet.tail h4
 have h6 := laidMet.tail h5
 have h7 := laidMet.tail h6
 obtain ⟨a1, s1, v1, c1, _⟩ := laid_sentinel (g := 5) (ti := 55) h4 (by kernel_rfl) (by kernel_rfl) Tryz.underlying55 errRow Tryz.underlying263 Tryz.underlying265 rfl rfl Tryz.underlying9 (by kernel_rfl) (by kernel_rfl)
 obtain ⟨a2, s2, v2, c2, _⟩ := laid_sentinel (g := 4) (ti := 55) h5 (by kernel_rfl) (by kernel_rfl) Tryz.underlying55 errRow Tryz.underlying263 Tryz.underlying265 rfl rfl Tryz.underlying9 (by kernel_rfl) (by kernel_rfl)
 obtain ⟨a3, s3, v3, c3, _⟩ := laid_sentinel (g := 2) (ti := 55) h6 (by kernel_rfl) (by kernel_rfl) Tryz.underlying55 errRow Tryz.underlying263 Tryz.underlying265 rfl rfl Tryz.underlying9 (by kernel_rfl) (by kernel_rfl)
 obtain ⟨a4, s4, v4, c4, _⟩ := laid_sentinel (g := 1) (ti := 55) h7 (by kernel_rfl) (by kernel_rfl) Tryz.underlying55 errRow Tryz.underlying263 Tryz.underlying265 rfl rfl Tryz.underlying9 (by kernel_rfl) (by kernel_rfl)
 have r0 := start_handle (relS_start W) hH
 have q1 := start_err r0 (g := 1) (by kernel_rfl) v4 c4
 have r1 := start_err q1 (g := 2) (by kernel_rfl) v3 c3
 have r2 := start_err r1 (g := 5) (by kernel_rfl) v1 c1
 have r3 := start_err r2 (g := 4) (by kernel_rfl) v2 c2
 have r4 := start_tab r3 (g := 6) (by kernel_rfl) ht pow_ok
 exact ⟨_, ⟨⟨⟨.head _, ⟨_, _, .tail _ (.head _)⟩, _, _, .tail _ (.tail _ (.head _))⟩, ⟨_, _, .tail _ (.tail _ (.tail _ (.head _)))⟩, .tail _ (.tail _ (.tail _ (.tail _ (.tail _ (.head _))))), .tail _ (.tail _ (.tail _ (.tail _ (.tail _ (.head _)))))⟩, ⟨_, _, .tail _ (.tail _ (.tail _ (.tail _ (.head _))))⟩⟩, r4⟩
end Go.Proofs.YtfeknkaioofljaaGreatDoor
