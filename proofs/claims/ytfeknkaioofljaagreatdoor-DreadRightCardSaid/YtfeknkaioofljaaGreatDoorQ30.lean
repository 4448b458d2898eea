/-
 DreadRight: the walk. Own work.
-/
import Derived.Test.YtfeknkaioofljaaGreatDoorQ29
set_option linter.all false
set_option maxHeartbeats 4000000
set_option maxRecDepth 4000
namespace Go.Proofs.YtfeknkaioofljaaGreatDoor
open Go.Aw Go.RowKit Tree
theorem dreadRight_ok (s : List UInt8) (R : List En) (hG : LawG R) : ACall Tryz.prog 5 [.str s] R (fun r S => r = .bool true ∧ S = R) := by
 obtain ⟨hR,b,o,hE⟩ := hG
 obtain ⟨a,ha⟩ : ∃ a,a = toksV s := ⟨_,rfl⟩
 have al : a.length ≤ 3000 := by rw [ha]; exact (lexS_le s).1
 have aN : NumT a := ha ▸ num_lex _
 have aT : ToksOk a := ha ▸ toks_lex _
 have at3 : tl a ≤ 3000 := by
  rw [ha]
  have h1 := tl_lex (s.take 3000)
  have h2 := Lx.take_le s 3000
  exact Nat.le_trans h1 h2
 have k1 := lexed_ok s (hG := hR)
 rw [← ha] at k1
 have kp := fun (R : List En) (hG : ReadG R) => parse_ok a aN R hG.1 hG.2.2.1
 have hp0 : (parseL a).2.2 ≠ 0 → (parseL a).1 = ⟨[], []⟩ := parse_none
 have hpr := fun h => read_parse (L := a) aT h
 obtain ⟨P,hP⟩ : ∃ P,P = parseL a := ⟨_,rfl⟩
 rw [← hP] at kp hp0 hpr
 obtain ⟨p,pi,pe⟩ := P
 simp only [] at hp0 hpr
 by_cases he : pe = 0
 rotate_left
 ·obtain rfl := hp0 he
  refine ACall_body tab_ok Tryz.func5 rfl rfl rfl (by kernel_rfl) (Nat.le_of_ble_eq_true rfl) ?_
  repeat (first | refine go_ ?_ | intro _)
  refine Or.inl ⟨⟨_,Tryz.func7,rfl,rfl⟩,ACall.mono ?_ (shown_ok R ⟨hR,b,o,hE⟩)⟩
  rintro _ S1 ⟨rfl,hS1⟩
  subst S1
  repeat (first | refine go_ ?_ | intro _)
  refine Or.inl ⟨⟨_,Tryz.func17,rfl,rfl⟩,ACall.mono ?_ (k1)⟩
  rintro _ S1 ⟨rfl,hS1⟩
  subst S1
  repeat (first | refine go_ ?_ | intro _)
  refine Or.inl ⟨⟨_,Tryz.func9,rfl,rfl⟩,ACall.mono ?_ (kp _ hR)⟩
  rintro _ S1 ⟨rfl,hS1⟩
  subst S1
  repeat (first | refine ga_ ?_ | intro _)
  refine AW_true (b := !decide (pe = 0)) rfl (by rw [decide_eq_false he]; rfl) ?_
  repeat (first | refine ga_ ?_ | intro _)
  refine AW_ret ?_
  repeat refine mk_ ?_
  refine ⟨_,R,AVle.eq ?_,sle_,rfl,rfl⟩
  rfl
 have rp := hpr he
 subst he
 have c1 := rp.cntD
 have hlen := rp.len
 have kS0 := fun R hE hG => showB_ok b o p R hE (fun d hd => (rp.decls d hd).2) (ok_read rp at3 al) (fun _ => by omega) hG
 rw [shownP_t rp.right] at kS0
 have kR := fun R hE => right_ok b o p R hE (fun r hr => (ok_read rp at3 al r hr).1)
 rw [rp.right] at kR
 have hP' := okP_read rp
 refine ACall_body tab_ok Tryz.func5 rfl rfl rfl (by kernel_rfl) (Nat.le_of_ble_eq_true rfl) ?_
 repeat (first | refine go_ ?_ | intro _)
 refine Or.inl ⟨⟨_,Tryz.func7,rfl,rfl⟩,ACall.mono ?_ (shown_ok R ⟨hR,b,o,hE⟩)⟩
 rintro _ S1 ⟨rfl,hS1⟩
 subst S1
 repeat (first | refine go_ ?_ | intro _)
 refine Or.inl ⟨⟨_,Tryz.func17,rfl,rfl⟩,ACall.mono ?_ (k1)⟩
 rintro _ S1 ⟨rfl,hS1⟩
 subst S1
 repeat (first | refine go_ ?_ | intro _)
 refine Or.inl ⟨⟨_,Tryz.func9,rfl,rfl⟩,ACall.mono ?_ (kp _ hR)⟩
 rintro _ S1 ⟨rfl,hS1⟩
 subst S1
 repeat (first | refine ga_ ?_ | intro _)
 rename_i b4
 refine Or.inl ⟨⟨_,Tryz.func13,rfl,rfl⟩,ACall.mono ?_ (kS0 _ (.tail _ hE) hR.cons.1)⟩
 rintro _ S1 ⟨rfl,hS1⟩
 subst S1
 repeat (first | refine gr_ ?_ | intro _)
 obtain ⟨u,hst⟩ : ∃ s,s = showP p := ⟨_,rfl⟩
 rw [← hst]
 refine AW_weak (weak_of (l := [(4, .ptr b4 0),(3, .bool true),(7, .str u),(8, .int .i64 0)]) (m := []) (S' := .cells b4 (cP p) :: R) ?_ rfl ?_) ?_
 ·repeat (first | exact trivial | refine env_ ?_)
 ·refine SW.le ?_
  repeat (first | exact SW.nil | refine sw_ ?_)
 repeat (first | refine ga_ ?_ | intro _)
 refine Or.inl ⟨⟨_,Tryz.func18,rfl,rfl⟩,ACall.mono ?_ (kR _ (.tail _ hE))⟩
 rintro _ S1 ⟨rfl,hS1⟩
 subst S1
 repeat (first | refine ga_ ?_ | intro _)
 refine AW_for (α := Nat) (fun z => ⟨[(4, .ptr b4 0),(3, .bool true),(7, .str u),(9, .int .i64 (z : Nat))], []⟩) (fun z => .cells b4 (cP p) :: R) (fun z => p.decls.length - z) (fun z => z ≤ p.decls.length ∧ ∀ (i : Nat) (hi : i < p.decls.length),i < z → ∀ (j : Nat) (hj : j < i),p.decls[j].rel ≠ p.decls[i].rel) (0) ?_ (weak_of ?_ rfl ?_) (fun z hz => ?_)
 ·exact ⟨Nat.zero_le _,fun i _ h => absurd h (Nat.not_lt_zero _)⟩
 ·repeat (first | exact trivial | refine env_ ?_)
 ·repeat (first | exact SLe.rfl | refine SLe.tail ?_ | refine SLe.full ?_)
 obtain ⟨z1,z2⟩ := hz
 repeat (first | refine go_ ?_ | intro _)
 refine AW_iff (z < p.decls.length) rfl (by first | (simp; done) | (simp <;> omega) | decide) (fun h => ?_) (fun h => ?_)
 ·have hlt := h
  obtain ⟨d,hd⟩ : ∃ d,d = p.decls[z] := ⟨_,rfl⟩
  obtain ⟨i0,rfl⟩ : ∃ i0,i0 = z := ⟨_,rfl⟩
  repeat (first | refine go_ ?_ | intro _)
  refine AW_for (α := Nat) (fun z => ⟨[(4, .ptr b4 0),(3, .bool true),(7, .str u),(9, .int .i64 (i0 : Nat)),(10, .int .i64 (z : Nat))], []⟩) (fun z => .cells b4 (cP p) :: R) (fun z => i0 - z) (fun z => z ≤ i0 ∧ ∀ (j : Nat) (hj : j < z) (hj' : j < p.decls.length),p.decls[j].rel ≠ d.rel) (0) ?_ (weak_of ?_ rfl ?_) (fun z hz => ?_)
  ·exact ⟨Nat.zero_le _,fun j h => absurd h (Nat.not_lt_zero _)⟩
  ·repeat (first | exact trivial | refine env_ ?_)
  ·repeat (first | exact SLe.rfl | refine SLe.tail ?_ | refine SLe.full ?_)
  obtain ⟨y1,y2⟩ := hz
  repeat (first | refine go_ ?_ | intro _)
  refine AW_iff (z < i0) rfl (by first | (simp; done) | (simp <;> omega) | decide) (fun h => ?_) (fun h => ?_)
  ·have hlt2 := h
   have hlt3 : z < p.decls.length := by omega
   obtain ⟨x,hx⟩ : ∃ d,d = p.decls[z] := ⟨_,rfl⟩
   repeat (first | refine go_ ?_ | intro _)
   refine AW_draw tab_ok mixed 13 (by first | rfl | kernel_rfl) ?_
   repeat (first | refine go_ ?_ | intro _)
   refine at_get (z) (encD x) (by first | rfl | omega | (rw [wrap_i64 (by omega)]; omega)) (by rw [hx,List.getElem?_map,List.getElem?_eq_getElem hlt3]; rfl) ?_
   repeat (first | refine go_ ?_ | intro _)
   refine at_get (i0) (encD d) (by first | rfl | omega | (rw [wrap_i64 (by omega)]; omega)) (by rw [hd,List.getElem?_map,List.getElem?_eq_getElem hlt]; rfl) ?_
   repeat (first | refine go_ ?_ | intro _)
   by_cases hq : x.rel = d.rel
   ·refine AW_true (b := decide (x.rel = d.rel)) rfl (by exact decide_eq_true hq) ?_
    repeat (first | refine ga_ ?_ | intro _)
    refine AW_ret ?_
    repeat refine mk_ ?_
    refine ⟨_,R,AVle.eq ?_,sle_,rfl,rfl⟩
    rfl
   refine AW_false (b := decide (x.rel = d.rel)) rfl (by exact decide_eq_false hq) ?_
   repeat (first | refine go_ ?_ | intro _)
   refine ⟨(z + 1),?_,?_,weak_of ?_ rfl ?_⟩
   ·exact Nat.sub_lt_sub_left hlt2 (Nat.lt_succ_self z)
   ·refine ⟨hlt2,fun j hj hj' => ?_⟩
    by_cases hz : j = z
    ·subst hz; rw [← hx]; exact hq
    ·exact y2 j (by omega) hj'
   ·repeat (first | exact trivial | refine env_ ?_)
   ·repeat (first | exact SLe.rfl | refine SLe.tail ?_ | refine SLe.full ?_)
  ·repeat (first | refine go_ ?_ | intro _)
   refine ⟨(i0 + 1),?_,?_,weak_of ?_ rfl ?_⟩
   ·exact Nat.sub_lt_sub_left hlt (Nat.lt_succ_self i0)
   ·refine ⟨hlt,fun i hi hiz j hj => ?_⟩
    by_cases hz : i = i0
    ·subst hz
     rw [← hd]; exact y2 j (by omega) (by omega)
    ·exact z2 i hi (by omega) j hj
   ·repeat (first | exact trivial | refine env_ ?_)
   ·repeat (first | exact SLe.rfl | refine SLe.tail ?_ | refine SLe.full ?_)
 have hnd : (rels p.decls).Nodup := nodup_of fun i hi j hj => z2 i hi (by omega) j hj
 obtain ⟨q,hq1,hq2⟩ := like_read (right_core rp at3 hnd)
 have kr := fun R hG => read_ok u R (by rw [hst]; omega) hG
 rw [hst,hq1] at kr
 have kS := fun R => sameB_ok p q R hP' (fun r hr => by have := cntRs_at hr; have := rp.cnt; omega) (by have := rp.cntR; omega)
 rw [isB_t hq2] at kS
 rw [hst]
 repeat (first | refine go_ ?_ | intro _)
 refine Or.inl ⟨⟨_,Tryz.func15,rfl,rfl⟩,ACall.mono ?_ (kr _ hR.cons)⟩
 rintro _ S1 ⟨rfl,hS1⟩
 subst S1
 repeat (first | refine ga_ ?_ | intro _)
 refine Or.inl ⟨⟨_,Tryz.func16,rfl,rfl⟩,ACall.mono ?_ (kS _)⟩
 rintro _ S1 ⟨rfl,hS1⟩
 subst S1
 repeat (first | refine ga_ ?_ | intro _)
 refine AW_ret ?_
 repeat refine mk_ ?_
 refine ⟨_,R,AVle.eq ?_,sle_,rfl,rfl⟩
 rfl
end Go.Proofs.YtfeknkaioofljaaGreatDoor
