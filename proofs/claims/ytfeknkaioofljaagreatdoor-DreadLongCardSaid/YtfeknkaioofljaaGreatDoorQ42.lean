/-
 The law's long texts: plain. Own work.
-/
import Derived.Test.YtfeknkaioofljaaGreatDoorQ27
import Derived.Test.YtfeknkaioofljaaGreatDoorQ32
import Derived.Test.YtfeknkaioofljaaGreatDoorQ40
import Derived.Test.YtfeknkaioofljaaGreatDoorQ24
import Derived.Test.YtfeknkaioofljaaGreatDoorQ41
set_option linter.all false
set_option maxHeartbeats 4000000
set_option maxRecDepth 4000
namespace Go.Proofs.YtfeknkaioofljaaGreatDoor
open Go.Aw Go.RowKit Tree
theorem numB_lex (s : List UInt8) : NumB (Lx.lexS s).1 := by
 intro t ht hk
 obtain ⟨x,⟨s0,r0,h1⟩,h2,h3⟩ := lex_toks s t ht
 have hk2 : x.1 = 2 := by omega
 obtain ⟨e,hlen⟩ := num_tok ⟨s0,r0,h1⟩ hk2
 obtain ⟨c,l,hs,_,_,_,hc⟩ := Lx.oneT_cases h1
 have hc : digitB c = true ∧ x.2 = s0.takeWhile Lx.wordB := by
  rcases hc with ⟨_,h,_⟩ | ⟨_,h,_,h',_⟩ | ⟨_,h,_⟩ | ⟨_,h,_⟩ | ⟨_,_,_,_,h,_⟩
  ·omega
  ·exact ⟨h,h'⟩
  ·omega
  ·omega
  ·omega
 obtain ⟨n1,n2⟩ := pn_ok e
 obtain ⟨n,hn⟩ : ∃ n,n = (pnL x.2).1 := ⟨_,rfl⟩
 rw [← hn] at n1 n2
 have hcd : 48 ≤ c.toNat ∧ c.toNat ≤ 57 := by
  have := hc.1
  simpa [digitB] using this
 have hhd : x.2.head? = some c := by
  rw [hc.2,hs,List.takeWhile_cons,if_pos (Lx.wordB_digit hc.1)]; rfl
 have h0 : 0 ≤ n := by
  refine Decidable.byContradiction fun hneg => ?_
  obtain ⟨u,hu⟩ : ∃ u : Nat,n = -(u : Int) := ⟨(-n).toNat,by omega⟩
  rw [← n2,hu,Lib.itoa_neg u (by omega)] at hhd
  simp at hhd
  rw [← hhd] at hcd
  revert hcd; decide
 obtain ⟨u,hu⟩ : ∃ u : Nat,n = (u : Int) := ⟨n.toNat,by omega⟩
 rw [hu,Lib.itoa_nonneg] at n2
 have hr : u ≤ 9223372036854775807 := by unfold inR64 at n1; omega
 obtain ⟨p1,p2⟩ := num_parse 18446744073709551615 _ 0 u (parseM_dd u (by omega))
 rw [n2] at p1 p2
 rw [h3]
 exact ⟨p1,by rw [← hn,hu,p2],by omega,hlen⟩
def LA (s : List UInt8) : Prop := ∃ K,LexA s K
def L1 (s : List UInt8) : Prop := ∃ K,Lex1 s K
theorem LA.app {s t : List UInt8} (h : LA s) (k : LA t) : LA (s ++ t) := let ⟨_,a⟩ := h; let ⟨_,b⟩ := k; ⟨_,a.app b⟩
theorem LA.app1 {s t : List UInt8} (h : LA s) (k : L1 t) : L1 (s ++ t) := let ⟨_,a⟩ := h; let ⟨_,b⟩ := k; ⟨_,a.app1 b⟩
theorem L1.app {s t : List UInt8} (h : L1 s) (hn : Nw t) (k : L1 t) : L1 (s ++ t) := let ⟨_,a⟩ := h; let ⟨_,b⟩ := k; ⟨_,a.app hn b⟩
theorem L1.appA {s t : List UInt8} (h : L1 s) (hn : Nw t) (k : LA t) : LA (s ++ t) := let ⟨_,a⟩ := h; let ⟨_,b⟩ := k; ⟨_,a.appA hn b⟩
theorem LA.nil : LA [] := ⟨_,lexA_nil⟩
theorem la_sp : LA [32] := ⟨_,lexA_blank (by decide)⟩
theorem la_nl : LA [10] := ⟨_,lexA_blank (by decide)⟩
theorem la_open : LA [40] := ⟨_,lex_open⟩
theorem la_close : LA [41] := ⟨_,lex_close⟩
theorem la_comma : LA [44,32] := ⟨_,lex_comma⟩
theorem la_colon : LA [58,32] := ⟨_,lexA_sp (w := [58]) fun _ => rfl⟩
theorem la_if : LA [58,45,32] := ⟨_,lexA_sp (w := [58,45]) fun _ => rfl⟩
theorem la_eq : LA [61,32] := ⟨_,lexA_sp (w := [61]) fun _ => rfl⟩
theorem la_plus : LA [43,32] := ⟨_,lexA_sp (w := [43]) fun _ => rfl⟩
theorem l1_dot : L1 [46] := ⟨_,lex_dot⟩
theorem l1_one : L1 [49] := ⟨_,by have := lex_num (n := 1) (by decide) (by unfold inR64; omega); rw [itoa_1] at this; exact this⟩
theorem l1_word (s : List UInt8) (c : UInt8) (l : List UInt8) (e : s = c :: l) (hc : letterB c = true) (hw : ∀ x ∈ s,Lx.wordB x = true) (hl : s.length ≤ 40) : L1 s := ⟨_,lex_word e hc hw hl⟩
theorem nw_of {c : UInt8} {l : List UInt8} (h : Lx.wordB c = false) : Nw (c :: l) := ⟨c,l,rfl,h⟩
abbrev tD : List UInt8 := [46,100,101,99,108,32,112,40,97,58,32,110,117,109,98,101,114]
abbrev tC : List UInt8 := [44,32,97,58,32,115,121,109,98,111,108]
abbrev tE : List UInt8 := [41,10]
abbrev tR : List UInt8 := [112,40,49,41,32,58,45,32,113,40,49,41]
abbrev tQ : List UInt8 := [44,32,113,40,49,41]
abbrev tF : List UInt8 := [46,10]
abbrev tG : List UInt8 := [112,40,49,41,32,58,45,32,49,32,61,32,49]
abbrev tH : List UInt8 := [10,43,32,49]
theorem la_p1 (c : UInt8) (hc : letterB c = true) (hw : Lx.wordB c = true) : LA [c,40,49,41] := by
 have h := l1_word [c] c [] rfl hc (by intro x hx; rw [List.mem_singleton] at hx; rw [hx]; exact hw) (by simp)
 exact h.appA (t := [40,49,41]) (nw_of (by decide)) (la_open.app (t := [49,41]) (l1_one.appA (t := [41]) (nw_of (by decide)) la_close))
theorem l1_D : L1 tD := by
 have k1 : LA ([46,100,101,99,108] ++ [32]) := ⟨_,lexA_key (w := [46,100,101,99,108]) fun r => rfl⟩
 have kp := l1_word [112] 112 [] rfl (by decide) (by decide) (by decide)
 have ka := l1_word [97] 97 [] rfl (by decide) (by decide) (by decide)
 have kn := l1_word [110,117,109,98,101,114] 110 _ rfl (by decide) (by decide) (by decide)
 exact k1.app1 ((kp.appA (t := [40]) (nw_of (by decide)) la_open).app1 ((ka.appA (t := [58,32]) (nw_of (by decide)) la_colon).app1 kn))
theorem l1_C : L1 tC := by
 have ka := l1_word [97] 97 [] rfl (by decide) (by decide) (by decide)
 have kn := l1_word [115,121,109,98,111,108] 115 _ rfl (by decide) (by decide) (by decide)
 exact la_comma.app1 ((ka.appA (t := [58,32]) (nw_of (by decide)) la_colon).app1 kn)
theorem la_E : LA tE := la_close.app la_nl
theorem la_R : LA tR := (la_p1 112 (by decide) (by decide)).app (t := [32,58,45,32,113,40,49,41]) (la_sp.app (t := [58,45,32,113,40,49,41]) (la_if.app (la_p1 113 (by decide) (by decide))))
theorem la_Q : LA tQ := la_comma.app (la_p1 113 (by decide) (by decide))
theorem la_F : LA tF := l1_dot.appA (nw_of (by decide)) la_nl
theorem l1_G : L1 tG := (la_p1 112 (by decide) (by decide)).app1 (t := [32,58,45,32,49,32,61,32,49]) (la_sp.app1 (t := [58,45,32,49,32,61,32,49]) (la_if.app1 (t := [49,32,61,32,49]) ((l1_one.appA (t := [32,61,32]) (nw_of (by decide)) (la_sp.app la_eq)).app1 l1_one)))
theorem l1_H : L1 tH := la_nl.app1 (t := [43,32,49]) (la_plus.app1 l1_one)
theorem okX_of {s : List UInt8} (h : L1 s) : Lx.okX s := by
 obtain ⟨K,h⟩ := h
 have := (h [] nw_nil).2
 rw [List.append_nil] at this
 exact this.2 (by rw [Lx.okX,Lx.skipL_nil,Lx.rawL_nil])
theorem long_lex {s : List UInt8} (h : L1 s) (hl : s.length ≤ 14999) : (Lx.lexS (s ++ [46])).2.2 = 0 ∧ (Lx.lexS (s ++ [46])).1.length ≤ 15000 := by
 have hk := okX_of (h.app (t := [46]) (nw_of (by decide)) l1_dot)
 have hlen : (s ++ [46]).length ≤ 15000 := by rw [List.length_append]; simp; omega
 rw [Lx.lex_ok_of (by omega) hk]
 refine ⟨rfl,?_⟩
 rw [List.length_map]
 exact Nat.le_trans (Lx.raw_len _) (Nat.le_trans (Lx.skipL_len _) hlen)
def cPr (p : Pr) : List AV := [.sl 6 (p.decls.map encD) .no, .sl 4 (p.rules.map encRu) .no]
theorem dreadLong_ok (d r c p h : Int) (R : List En) (hG : LawG R) : ACall Tryz.prog 3 [.int .i64 d, .int .i64 r, .int .i64 c, .int .i64 p, .int .i64 h] R (fun v S => v = .bool true ∧ S = R) := by
 refine ACall_body tab_ok Tryz.func3 rfl rfl rfl (by kernel_rfl) (nb_ rfl) ?_
 repeat first|refine go_ ?_|intro _
 refine Or.inl ⟨⟨_,Tryz.func7,rfl,rfl⟩,ACall.mono ?_ (shown_ok R hG)⟩
 rintro _ S1 ⟨rfl,hS1⟩
 subst S1
 repeat first|refine gr_ ?_|intro _
 refine AW_weak (weak_of (l := [(0, .int .i64 d),(1, .int .i64 r),(2, .int .i64 c),(3, .int .i64 p),(4, .int .i64 h),(11, .bool true)]) (m := []) (S' := R) e_ rfl w_) ?_
 refine AW_cut1 (α := Unit) (fun z => ⟨[(0, .int .i64 d),(1, .int .i64 r),(2, .int .i64 c),(3, .int .i64 p),(4, .int .i64 h),(11, .bool true)], []⟩) (fun z => R) (fun z => 0 ≤ d ∧ d ≤ 70 ∧ 0 ≤ r ∧ r ≤ 210 ∧ 1 ≤ c ∧ c ≤ 12 ∧ 1 ≤ p ∧ p ≤ 25 ∧ 0 ≤ h ∧ h ≤ 30) ?_ (fun z hz => ?_)
 ·repeat first|refine go_ ?_|intro _
  by_cases hx : d < 0
  ·refine known_true (b := decide (d < 0)) (by exact decide_eq_true hx) ?_
   repeat first|refine ga_ ?_|intro _
   refine AW_ret ?_
   repeat refine mk_ ?_
   refine ⟨_,R,AVle.eq ?_,sle_,rfl,rfl⟩
   rfl
  refine known_false (b := decide (d < 0)) (by exact decide_eq_false hx) ?_
  have h1 := Int.not_lt.1 hx
  clear hx
  repeat first|refine go_ ?_|intro _
  by_cases hx : 70 < d
  ·refine known_true (b := decide (70 < d)) (by exact decide_eq_true hx) ?_
   repeat first|refine ga_ ?_|intro _
   refine AW_ret ?_
   repeat refine mk_ ?_
   refine ⟨_,R,AVle.eq ?_,sle_,rfl,rfl⟩
   rfl
  refine known_false (b := decide (70 < d)) (by exact decide_eq_false hx) ?_
  have h2 := Int.not_lt.1 hx
  clear hx
  repeat first|refine go_ ?_|intro _
  by_cases hx : r < 0
  ·refine known_true (b := decide (r < 0)) (by exact decide_eq_true hx) ?_
   repeat first|refine ga_ ?_|intro _
   refine AW_ret ?_
   repeat refine mk_ ?_
   refine ⟨_,R,AVle.eq ?_,sle_,rfl,rfl⟩
   rfl
  refine known_false (b := decide (r < 0)) (by exact decide_eq_false hx) ?_
  have h3 := Int.not_lt.1 hx
  clear hx
  repeat first|refine go_ ?_|intro _
  by_cases hx : 210 < r
  ·refine known_true (b := decide (210 < r)) (by exact decide_eq_true hx) ?_
   repeat first|refine ga_ ?_|intro _
   refine AW_ret ?_
   repeat refine mk_ ?_
   refine ⟨_,R,AVle.eq ?_,sle_,rfl,rfl⟩
   rfl
  refine known_false (b := decide (210 < r)) (by exact decide_eq_false hx) ?_
  have h4 := Int.not_lt.1 hx
  clear hx
  repeat first|refine go_ ?_|intro _
  by_cases hx : c < 1
  ·refine known_true (b := decide (c < 1)) (by exact decide_eq_true hx) ?_
   repeat first|refine ga_ ?_|intro _
   refine AW_ret ?_
   repeat refine mk_ ?_
   refine ⟨_,R,AVle.eq ?_,sle_,rfl,rfl⟩
   rfl
  refine known_false (b := decide (c < 1)) (by exact decide_eq_false hx) ?_
  have h5 := Int.not_lt.1 hx
  clear hx
  repeat first|refine go_ ?_|intro _
  by_cases hx : 12 < c
  ·refine known_true (b := decide (12 < c)) (by exact decide_eq_true hx) ?_
   repeat first|refine ga_ ?_|intro _
   refine AW_ret ?_
   repeat refine mk_ ?_
   refine ⟨_,R,AVle.eq ?_,sle_,rfl,rfl⟩
   rfl
  refine known_false (b := decide (12 < c)) (by exact decide_eq_false hx) ?_
  have h6 := Int.not_lt.1 hx
  clear hx
  repeat first|refine go_ ?_|intro _
  by_cases hx : p < 1
  ·refine known_true (b := decide (p < 1)) (by exact decide_eq_true hx) ?_
   repeat first|refine ga_ ?_|intro _
   refine AW_ret ?_
   repeat refine mk_ ?_
   refine ⟨_,R,AVle.eq ?_,sle_,rfl,rfl⟩
   rfl
  refine known_false (b := decide (p < 1)) (by exact decide_eq_false hx) ?_
  have h7 := Int.not_lt.1 hx
  clear hx
  repeat first|refine go_ ?_|intro _
  by_cases hx : 25 < p
  ·refine known_true (b := decide (25 < p)) (by exact decide_eq_true hx) ?_
   repeat first|refine ga_ ?_|intro _
   refine AW_ret ?_
   repeat refine mk_ ?_
   refine ⟨_,R,AVle.eq ?_,sle_,rfl,rfl⟩
   rfl
  refine known_false (b := decide (25 < p)) (by exact decide_eq_false hx) ?_
  have h8 := Int.not_lt.1 hx
  clear hx
  repeat first|refine go_ ?_|intro _
  by_cases hx : h < 0
  ·refine known_true (b := decide (h < 0)) (by exact decide_eq_true hx) ?_
   repeat first|refine ga_ ?_|intro _
   refine AW_ret ?_
   repeat refine mk_ ?_
   refine ⟨_,R,AVle.eq ?_,sle_,rfl,rfl⟩
   rfl
  refine known_false (b := decide (h < 0)) (by exact decide_eq_false hx) ?_
  have h9 := Int.not_lt.1 hx
  clear hx
  repeat first|refine go_ ?_|intro _
  by_cases hx : 30 < h
  ·refine AW_true (b := decide (30 < h)) rfl (by exact decide_eq_true hx) ?_
   repeat first|refine ga_ ?_|intro _
   refine AW_ret ?_
   repeat refine mk_ ?_
   refine ⟨_,R,AVle.eq ?_,sle_,rfl,rfl⟩
   rfl
  refine AW_false (b := decide (30 < h)) rfl (by exact decide_eq_false hx) ?_
  repeat first|refine ga_ ?_|intro _
  refine ⟨(),?_,weak_of ?_ rfl ?_⟩
  ·exact ⟨h1,h2,h3,h4,h5,h6,h7,h8,h9,Int.not_lt.1 hx⟩
  ·exact e_
  ·exact l_
 obtain ⟨g1,g2,g3,g4,g5,g6,g7,g8,g9,g10⟩ := hz
 clear z
 obtain ⟨d,rfl⟩ : ∃ n : Nat,d = n := ⟨d.toNat,by omega⟩
 obtain ⟨r,rfl⟩ : ∃ n : Nat,r = n := ⟨r.toNat,by omega⟩
 obtain ⟨c,rfl⟩ : ∃ n : Nat,c = n := ⟨c.toNat,by omega⟩
 obtain ⟨p,rfl⟩ : ∃ n : Nat,p = n := ⟨p.toNat,by omega⟩
 obtain ⟨hh,rfl⟩ : ∃ n : Nat,h = n := ⟨h.toNat,by omega⟩
 obtain ⟨b1,b2,b3,b4,b5,b6,b7⟩ : d ≤ 70 ∧ r ≤ 210 ∧ 1 ≤ c ∧ c ≤ 12 ∧ 1 ≤ p ∧ p ≤ 25 ∧ hh ≤ 30 := ⟨by omega,by omega,by omega,by omega,by omega,by omega,by omega⟩
 show AW _ _ _ _ ⟨[(0, .int .i64 (d : Nat)),(1, .int .i64 (r : Nat)),(2, .int .i64 (c : Nat)),(3, .int .i64 (p : Nat)),(4, .int .i64 (hh : Nat)),(11, .bool true)], []⟩ R _
 repeat refine rg_ ?_
 refine AW_region tab_ok ?_
 repeat first|refine gr_ ?_|intro _
 refine AW_weak (weak_of (l := [(0, .int .i64 (d : Nat)),(1, .int .i64 (r : Nat)),(2, .int .i64 (c : Nat)),(3, .int .i64 (p : Nat)),(4, .int .i64 (hh : Nat)),(11, .bool true),(12, .str [])]) (m := []) (S' := R) e_ rfl w_) ?_
 refine AW_cut1 (α := List UInt8) (fun z => ⟨[(1, .int .i64 (r : Nat)),(3, .int .i64 (p : Nat)),(4, .int .i64 (hh : Nat)),(11, .bool true),(12, .str z)], []⟩) (fun z => R) (fun z => LA z ∧ z.length ≤ 9800) ?_ (fun z hz => ?_)
 ·repeat first|refine go_ ?_|intro _
  refine AW_for (α := Nat × List UInt8) (fun z => ⟨[(0, .int .i64 (d : Nat)),(1, .int .i64 (r : Nat)),(2, .int .i64 (c : Nat)),(3, .int .i64 (p : Nat)),(4, .int .i64 (hh : Nat)),(11, .bool true),(12, .str z.2),(13, .int .i64 (z.1 : Nat))], []⟩) (fun z => R) (fun z => d - z.1) (fun z => z.1 ≤ d ∧ LA z.2 ∧ z.2.length ≤ 140 * z.1) ((0, [])) ?_ (weak_of ?_ rfl ?_) (fun z hz => ?_)
  ·exact ⟨Nat.zero_le _,LA.nil,Nat.zero_le _⟩
  ·exact e_
  ·exact l_
  obtain ⟨i,s⟩ := z
  obtain ⟨i1,i2,i3⟩ : i ≤ d ∧ LA s ∧ s.length ≤ 140 * i := hz
  repeat first|refine go_ ?_|intro _
  refine AW_iff (i < d) rfl ib_ (fun h => ?_) (fun h => ?_)
  rotate_left
  ·repeat first|refine go_ ?_|intro _
   refine ⟨s,?_,weak_of ?_ rfl ?_⟩
   ·exact ⟨i2,by omega⟩
   ·exact e_
   ·exact l_
  repeat first|refine go_ ?_|intro _
  refine cat_ ?_
  repeat first|refine go_ ?_|intro _
  refine AW_for (α := Nat × List UInt8) (fun z => ⟨[(0, .int .i64 (d : Nat)),(1, .int .i64 (r : Nat)),(2, .int .i64 (c : Nat)),(3, .int .i64 (p : Nat)),(4, .int .i64 (hh : Nat)),(11, .bool true),(12, .str z.2),(13, .int .i64 (i : Nat)),(14, .int .i64 (z.1 : Nat))], []⟩) (fun z => R) (fun z => c - z.1) (fun z => z.1 ≤ c ∧ 1 ≤ z.1 ∧ L1 z.2 ∧ z.2.length ≤ 140 * i + 6 + 11 * z.1) ((1,s ++ tD)) ?_ (weak_of ?_ rfl ?_) (fun z hz => ?_)
  ·exact ⟨b3,Nat.le_refl _,i2.app1 l1_D,by show (s ++ tD).length ≤ _; rw [List.length_append]; show s.length + 17 ≤ _; omega⟩
  ·exact e_
  ·exact l_
  obtain ⟨k,u⟩ := z
  obtain ⟨k1,k2,k3,k4⟩ : k ≤ c ∧ 1 ≤ k ∧ L1 u ∧ u.length ≤ 140 * i + 6 + 11 * k := hz
  repeat first|refine go_ ?_|intro _
  refine AW_iff (k < c) rfl ib_ (fun h => ?_) (fun h => ?_)
  ·repeat first|refine go_ ?_|intro _
   refine cat_ ?_
   repeat first|refine go_ ?_|intro _
   refine ⟨((k + 1,u ++ tC) : Nat × List UInt8),?_,?_,weak_of ?_ rfl ?_⟩
   ·show c - (k + 1) < c - k; omega
   ·exact ⟨by show k + 1 ≤ c; omega,by show 1 ≤ k + 1; omega,k3.app (nw_of (by decide)) l1_C,by show (u ++ tC).length ≤ _; rw [List.length_append]; show u.length + 11 ≤ 140 * i + 6 + 11 * (k + 1); omega⟩
   ·exact e_
   ·exact l_
  ·repeat first|refine go_ ?_|intro _
   refine cat_ ?_
   repeat first|refine go_ ?_|intro _
   refine ⟨((i + 1,u ++ tE) : Nat × List UInt8),?_,?_,weak_of ?_ rfl ?_⟩
   ·show d - (i + 1) < d - i; omega
   ·exact ⟨by show i + 1 ≤ d; omega,k3.appA (nw_of (by decide)) la_E,by show (u ++ tE).length ≤ _; rw [List.length_append]; show u.length + 2 ≤ 140 * (i + 1); omega⟩
   ·exact e_
   ·exact l_
 obtain ⟨z1,z2⟩ := hz
 refine AW_cut1 (α := List UInt8) (fun z => ⟨[(4, .int .i64 (hh : Nat)),(11, .bool true),(12, .str z)], []⟩) (fun z => R) (fun z => LA z ∧ z.length ≤ 12900) ?_ (fun z hz => ?_)
 ·repeat first|refine go_ ?_|intro _
  refine AW_for (α := Nat × List UInt8) (fun z => ⟨[(1, .int .i64 (r : Nat)),(3, .int .i64 (p : Nat)),(4, .int .i64 (hh : Nat)),(11, .bool true),(12, .str z.2),(15, .int .i64 (z.1 : Nat))], []⟩) (fun z => R) (fun z => r - z.1) (fun z => z.1 ≤ r ∧ LA z.2 ∧ z.2.length ≤ 9950 + 14 * z.1 ∧ (z.1 = 0 → z.2.length ≤ 9800)) ((0,z)) ?_ (weak_of ?_ rfl ?_) (fun z hz => ?_)
  ·exact ⟨Nat.zero_le _,z1,by show z.length ≤ _; omega,fun _ => z2⟩
  ·exact e_
  ·exact l_
  obtain ⟨j,s⟩ := z
  obtain ⟨i1,i2,i3,i4⟩ : j ≤ r ∧ LA s ∧ s.length ≤ 9950 + 14 * j ∧ (j = 0 → s.length ≤ 9800) := hz
  repeat first|refine go_ ?_|intro _
  refine AW_iff (j < r) rfl ib_ (fun h => ?_) (fun h => ?_)
  rotate_left
  ·repeat first|refine go_ ?_|intro _
   refine ⟨s,?_,weak_of ?_ rfl ?_⟩
   ·exact ⟨i2,by omega⟩
   ·exact e_
   ·exact l_
  repeat first|refine go_ ?_|intro _
  refine cat_ ?_
  repeat first|refine go_ ?_|intro _
  refine AW_for (α := Nat × List UInt8) (fun z => ⟨[(1, .int .i64 (r : Nat)),(3, .int .i64 (p : Nat)),(4, .int .i64 (hh : Nat)),(11, .bool true),(12, .str z.2),(15, .int .i64 (j : Nat)),(16, .int .i64 (z.1 : Nat))], []⟩) (fun z => R) (fun z => p - z.1) (fun z => z.1 ≤ p ∧ 1 ≤ z.1 ∧ LA z.2 ∧ z.2.length ≤ 9962 + 14 * j ∧ (j = 0 → z.2.length ≤ 9806 + 6 * z.1)) ((1,s ++ tR)) ?_ (weak_of ?_ rfl ?_) (fun z hz => ?_)
  ·refine ⟨b5,Nat.le_refl _,i2.app la_R,?_,fun h0 => ?_⟩
   ·show (s ++ tR).length ≤ _; rw [List.length_append]; show s.length + 12 ≤ _; omega
   ·show (s ++ tR).length ≤ _; rw [List.length_append]; show s.length + 12 ≤ _; have := i4 h0; omega
  ·exact e_
  ·exact l_
  obtain ⟨k,u⟩ := z
  obtain ⟨k1,k2,k3,k4,k5⟩ : k ≤ p ∧ 1 ≤ k ∧ LA u ∧ u.length ≤ 9962 + 14 * j ∧ (j = 0 → u.length ≤ 9806 + 6 * k) := hz
  have hend : LA (u ++ tF) ∧ (u ++ tF).length ≤ 9950 + 14 * (j + 1) := ⟨k3.app la_F,by rw [List.length_append]; show u.length + 2 ≤ _; omega⟩
  repeat first|refine go_ ?_|intro _
  by_cases hj : j = 0
  ·subst hj
   refine known_true (b := decide (((0 : Nat) : Int) = 0)) (by rfl) ?_
   repeat first|refine go_ ?_|intro _
   refine AW_iff (k < p) rfl ib_ (fun h => ?_) (fun h => ?_)
   ·have hu := k5 rfl
    repeat first|refine go_ ?_|intro _
    refine cat_ ?_
    repeat first|refine go_ ?_|intro _
    refine ⟨((k + 1,u ++ tQ) : Nat × List UInt8),?_,?_,weak_of ?_ rfl ?_⟩
    ·show p - (k + 1) < p - k; omega
    ·refine ⟨by show k + 1 ≤ p; omega,by show 1 ≤ k + 1; omega,k3.app la_Q,?_,fun _ => ?_⟩
     ·show (u ++ tQ).length ≤ _; rw [List.length_append]; show u.length + 6 ≤ _; omega
     ·show (u ++ tQ).length ≤ _; rw [List.length_append]; show u.length + 6 ≤ 9806 + 6 * (k + 1); omega
    ·exact e_
    ·exact l_
   ·repeat first|refine go_ ?_|intro _
    refine cat_ ?_
    repeat first|refine go_ ?_|intro _
    refine ⟨((0 + 1,u ++ tF) : Nat × List UInt8),?_,?_,weak_of ?_ rfl ?_⟩
    ·show r - (0 + 1) < r - 0; omega
    ·exact ⟨by show 0 + 1 ≤ r; omega,hend.1,hend.2,fun h0 => absurd h0 (by show ¬ 0 + 1 = 0; omega)⟩
    ·exact e_
    ·exact l_
  ·refine known_false (b := decide (((j : Nat) : Int) = 0)) (by exact decide_eq_false (by omega)) ?_
   repeat first|refine ga_ ?_|intro _
   refine cat_ ?_
   repeat first|refine go_ ?_|intro _
   refine ⟨((j + 1,u ++ tF) : Nat × List UInt8),?_,?_,weak_of ?_ rfl ?_⟩
   ·show r - (j + 1) < r - j; omega
   ·exact ⟨by show j + 1 ≤ r; omega,hend.1,hend.2,fun h0 => absurd h0 (by show ¬ j + 1 = 0; omega)⟩
   ·exact e_
   ·exact l_
 obtain ⟨z1,z2⟩ := hz
 repeat refine rg_ ?_
 refine AW_region tab_ok ?_
 repeat first|refine gr_ ?_|intro _
 refine cat_ ?_
 repeat first|refine gr_ ?_|intro _
 refine AW_weak (weak_of (l := [(4, .int .i64 (hh : Nat)),(11, .bool true),(12, .str (z ++ tG))]) (m := []) (S' := R) e_ rfl w_) ?_
 refine AW_cut1 (α := List UInt8) (fun z => ⟨[(11, .bool true),(12, .str z)], []⟩) (fun z => R) (fun z => L1 z ∧ z.length ≤ 13100) ?_ (fun z hz => ?_)
 ·repeat first|refine go_ ?_|intro _
  refine AW_for (α := Nat × List UInt8) (fun z => ⟨[(4, .int .i64 (hh : Nat)),(11, .bool true),(12, .str z.2),(17, .int .i64 (z.1 : Nat))], []⟩) (fun z => R) (fun z => hh - z.1) (fun z => z.1 ≤ hh ∧ L1 z.2 ∧ z.2.length ≤ 12913 + 4 * z.1) ((0,z ++ tG)) ?_ (weak_of ?_ rfl ?_) (fun z hz => ?_)
  ·exact ⟨Nat.zero_le _,z1.app1 l1_G,by show (z ++ tG).length ≤ _; rw [List.length_append]; show z.length + 13 ≤ _; omega⟩
  ·exact e_
  ·exact l_
  obtain ⟨k,u⟩ := z
  obtain ⟨k1,k3,k4⟩ : k ≤ hh ∧ L1 u ∧ u.length ≤ 12913 + 4 * k := hz
  repeat first|refine go_ ?_|intro _
  refine AW_iff (k < hh) rfl ib_ (fun h => ?_) (fun h => ?_)
  ·repeat first|refine go_ ?_|intro _
   refine cat_ ?_
   repeat first|refine go_ ?_|intro _
   refine ⟨((k + 1,u ++ tH) : Nat × List UInt8),?_,?_,weak_of ?_ rfl ?_⟩
   ·show hh - (k + 1) < hh - k; omega
   ·exact ⟨by show k + 1 ≤ hh; omega,k3.app (nw_of (by decide)) l1_H,by show (u ++ tH).length ≤ _; rw [List.length_append]; show u.length + 4 ≤ 12913 + 4 * (k + 1); omega⟩
   ·exact e_
   ·exact l_
  ·repeat first|refine go_ ?_|intro _
   refine ⟨u,?_,weak_of ?_ rfl ?_⟩
   ·exact ⟨k3,by omega⟩
   ·exact e_
   ·exact l_
 obtain ⟨z1,z2⟩ := hz
 have zl : (z ++ [46]).length ≤ 13101 := by rw [List.length_append]; show z.length + 1 ≤ _; omega
 obtain ⟨e0,hlen⟩ := long_lex z1 (by omega)
 have hN := num_lex (z ++ [46])
 have hNB := numB_lex (z ++ [46])
 have kL := fun (R : List En) (hG : ReadG R) => Lx.lex_ok (z ++ [46]) R hG.1 hG.2.1 hG.2.2.2 (by omega)
 obtain ⟨x,hx⟩ : ∃ x,x = Lx.lexS (z ++ [46]) := ⟨_,rfl⟩
 rw [← hx] at e0 hlen hN hNB kL
 obtain ⟨L,li,le⟩ := x
 obtain rfl : le = 0 := e0
 have hL : L.length ≤ 15000 := hlen
 have kP := fun (R : List En) (hG : ReadG R) => parse_ok L hN R hG.1 hG.2.2.1
 have kB := fun (R : List En) => bParse_ok L hNB R
 obtain ⟨P,hP⟩ : ∃ P,P = parseL L := ⟨_,rfl⟩
 rw [← hP] at kP kB
 obtain ⟨q,qi,qe⟩ := P
 repeat first|refine go_ ?_|intro _
 refine cat_ ?_
 repeat first|refine go_ ?_|intro _
 refine Or.inl ⟨⟨_,Tryz.func8,rfl,rfl⟩,ACall.mono ?_ (kL _ hG.1)⟩
 rintro _ S1 ⟨rfl,hS1⟩
 subst S1
 repeat first|refine gr_ ?_|intro _
 refine AW_weak (weak_of (l := [(11, .bool true),(18, .sl 3 (L.map Lx.encT) .no),(20, .int .i64 0)]) (m := []) (S' := R) e_ rfl w_) ?_
 repeat first|refine go_ ?_|intro _
 refine Or.inl ⟨⟨_,Tryz.func9,rfl,rfl⟩,ACall.mono ?_ (kP _ hG.1)⟩
 rintro _ S1 ⟨rfl,hS1⟩
 subst S1
 repeat first|refine gr_ ?_|intro _
 rename_i b21
 refine AW_weak (weak_of (l := [(11, .bool true),(18, .sl 3 (L.map Lx.encT) .no),(20, .int .i64 0),(21, .ptr b21 0),(22, .int .i64 qi),(23, .int .i64 qe)]) (m := []) (S' := .cells b21 (cPr q) :: R) e_ rfl w_) ?_
 repeat first|refine go_ ?_|intro _
 refine Or.inl ⟨⟨_,Tryz.func10,rfl,rfl⟩,ACall.mono ?_ (kB _)⟩
 rintro _ S1 ⟨rfl,hS1⟩
 subst S1
 repeat first|refine gr_ ?_|intro _
 rename_i b24
 refine AW_weak (weak_of (l := [(11, .bool true),(20, .int .i64 0),(21, .ptr b21 0),(22, .int .i64 qi),(23, .int .i64 qe),(24, .ptr b24 0),(25, .int .i64 qi),(26, .int .i64 qe)]) (m := []) (S' := .cells b24 (cPr q) :: .cells b21 (cPr q) :: R) e_ rfl w_) ?_
 repeat first|refine ga_ ?_|intro _
 refine Or.inl ⟨⟨_,Tryz.func11,rfl,rfl⟩,ACall.mono ?_ (selfProg_ok q _)⟩
 rintro _ S1 ⟨rfl,hS1⟩
 subst S1
 repeat first|refine ga_ ?_|intro _
 refine known_true (b := decide (qi = qi)) (by exact decide_eq_true rfl) ?_
 repeat first|refine ga_ ?_|intro _
 refine AW_ret ?_
 repeat refine mk_ ?_
 refine ⟨_,R,AVle.eq ?_,sle_,rfl,rfl⟩
 exact congrArg AV.bool (decide_eq_true rfl)
end Go.Proofs.YtfeknkaioofljaaGreatDoor
