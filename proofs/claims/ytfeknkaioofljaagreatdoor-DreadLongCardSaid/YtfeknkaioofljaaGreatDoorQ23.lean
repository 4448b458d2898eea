/-
 A term's text,the program's. Own work.
-/
import Derived.Test.YtfeknkaioofljaaGreatDoorQ13
import Derived.Test.YtfeknkaioofljaaGreatDoorQ5
import Derived.Test.YtfeknkaioofljaaGreatDoorQ11
set_option linter.all false
set_option maxHeartbeats 4000000
set_option maxRecDepth 4000
namespace Go.Proofs.YtfeknkaioofljaaGreatDoor
open Go.Aw Go.RowKit Tree
mutual
def tx : T → Prop
 | .mk _ s _ l => s.length ≤ 4000000 ∧ txs l
def txs : List T → Prop
 | [] => True
 | t :: r => tx t ∧ txs r
end
theorem txs_at : ∀ {l : List T} {x : T},txs l → x ∈ l → tx x
 | t :: r,x,h,hm => by
  rw [txs] at h
  cases hm with
  | head => exact h.1
  | tail _ hm => exact txs_at h.2 hm
mutual
theorem tx_of : ∀ t : T,okT t → tx t
 | .mk op s n l,h => by
  rw [okT] at h
  rw [tx]
  exact ⟨by omega,txs_of l h.2.2⟩
theorem txs_of : ∀ l : List T,okTs l → txs l
 | [],_ => by rw [txs]; trivial
 | t :: r,h => by
  rw [okTs] at h
  rw [txs]
  exact ⟨tx_of t h.1,txs_of r h.2⟩
end
theorem two_parts {op : Int} {s : List UInt8} {n : Int} {l : List T} {m : Nat} (hr : rightT (.mk op s n l) (m + 1) = true) (h1 : op ≠ 1) (h2 : op ≠ 2) (h3 : op ≠ 3) (h4 : op ≠ 4) : (op = 5 ∨ op = 6 ∨ op = 7) ∧ s = [] ∧ n = 0 ∧ ∃ x y,l = [x,y] ∧ rightT x m = true ∧ rightT y m = true ∧ x.op ≠ 3 ∧ x.op ≠ 4 ∧ y.op ≠ 3 ∧ y.op ≠ 4 := by
 have h2b : twoB op = true := by
  by_cases hb : twoB op = false
  ·have e0 : rightT (.mk op s n l) (m + 1) = leafB (.mk op s n l) := by rw [rightT]; exact if_pos hb
   rw [e0,leafB,bareB] at hr
   by_cases h0 : op = 0
   ·simp [T.op,h0] at hr
   ·simp [T.op,h0,h1,h2,h3,h4] at hr
  ·simpa using hb
 have e0 : rightT (.mk op s n l) (m + 1) = (decide (s = []) && (decide (n = 0) && (decide (l.length = 2) && l.all fun x => !decide (x.op = 3) && (!decide (x.op = 4) && rightT x m)))) := by rw [rightT]; exact if_neg (by show ¬ twoB op = false; rw [h2b]; simp)
 rw [e0] at hr
 simp only [Bool.and_eq_true,decide_eq_true_eq] at hr
 obtain ⟨g1,g2,g3,ha⟩ := hr
 refine ⟨by simp [twoB] at h2b; omega,g1,g2,?_⟩
 match l,g3,ha with
 | [x,y],_,ha =>
  have hx := List.all_eq_true.1 ha x (.head _)
  have hy := List.all_eq_true.1 ha y (.tail _ (.head _))
  simp only [Bool.and_eq_true,Bool.not_eq_true',decide_eq_false_iff_not] at hx hy
  exact ⟨x,y,rfl,hx.2.2,hy.2.2,hx.1,hx.2.1,hy.1,hy.2.1⟩
theorem showT_two {op : Int} {s : List UInt8} {n : Int} {x y : T} (h : op = 5 ∨ op = 6 ∨ op = 7) : showT (.mk op s n [x,y]) = 40 :: (showT x ++ (signL op ++ (showT y ++ [41]))) := by
 rw [showT,if_neg (by omega),if_neg (by omega),if_neg (by omega),if_neg (by omega),showTs,showTs,showTs]; rfl
theorem showTermB_ok : ∀ (h : Nat) (t : T) (R : List En),rightT t h = true → tx t → (showT t).length ≤ 20000000 → NumG R → ACall Tryz.prog 114 [encU t] R (fun r S => r = .str (showT t) ∧ S = R)
 | 0,t,R,hr,_,_,_ => by rw [rightT] at hr; cases hr
 | m + 1,t,R,hr,hx,hc,hG => by
  obtain ⟨op,s,n,l⟩ := t
  have hs : showT (.mk op s n l) = if op = 1 then s else if op = 2 then Lib.itoa n else if op = 3 then quoteL s else if op = 4 then [95] else 40 :: ((showTs l).getD 0 [] ++ (signL op ++ ((showTs l).getD 1 [] ++ [41]))) := by rw [showT]
  refine ACall_body tab_ok Tryz.func114 rfl rfl rfl (by kernel_rfl) (nb_ rfl) ?_
  by_cases h1 : op = 1
  ·subst h1
   replace hs : showT (.mk 1 s n l) = s := hs.trans rfl
   repeat first|refine ga_ ?_|intro _
   refine AW_ret ?_
   repeat refine mk_ ?_
   refine ⟨_,R,AVle.eq ?_,sle_,rfl,rfl⟩
   rw [hs]; rfl
  by_cases h2 : op = 2
  ·subst h2
   replace hs : showT (.mk 2 s n l) = Lib.itoa n := hs.trans rfl
   repeat first|refine ga_ ?_|intro _
   refine Or.inl ⟨⟨_,Tryz.func149,rfl,rfl⟩,ACall.mono ?_ (num_ok n _ hG.cons)⟩
   rintro _ S1 ⟨rfl,hS1⟩
   subst S1
   repeat first|refine go_ ?_|intro _
   refine AW_ret ?_
   repeat refine mk_ ?_
   refine ⟨_,R,AVle.eq ?_,sle_,rfl,rfl⟩
   rw [hs]; rfl
  by_cases h3 : op = 3
  ·subst h3
   replace hs : showT (.mk 3 s n l) = quoteL s := hs.trans rfl
   repeat first|refine ga_ ?_|intro _
   rw [tx] at hx
   refine Or.inl ⟨⟨_,Tryz.func150,rfl,rfl⟩,ACall.mono ?_ (quote_ok s _ hx.1)⟩
   rintro _ S1 ⟨rfl,hS1⟩
   subst S1
   repeat first|refine go_ ?_|intro _
   refine AW_ret ?_
   repeat refine mk_ ?_
   refine ⟨_,R,AVle.eq ?_,sle_,rfl,rfl⟩
   rw [hs]; rfl
  by_cases h4 : op = 4
  ·subst h4
   replace hs : showT (.mk 4 s n l) = [95] := hs.trans rfl
   repeat first|refine ga_ ?_|intro _
   refine AW_ret ?_
   repeat refine mk_ ?_
   refine ⟨_,R,AVle.eq ?_,sle_,rfl,rfl⟩
   rw [hs]; rfl
  obtain ⟨hop,rfl,rfl,x,y,rfl,rx,ry,_⟩ := two_parts hr h1 h2 h3 h4
  have e : showT (.mk op [] 0 [x,y]) = 40 :: (showT x ++ (signL op ++ (showT y ++ [41]))) := showT_two hop
  rw [tx,txs,txs,txs] at hx
  have el := congrArg List.length e
  simp only [List.length_cons,List.length_append,List.length_nil] at el
  have kx := fun R hG => showTermB_ok m x R rx hx.2.1 (by omega) hG
  have ky := fun R hG => showTermB_ok m y R ry hx.2.2.1 (by omega) hG
  have lx : (showT x).length ≤ 20000000 := by omega
  have ly : (showT y).length ≤ 20000000 := by omega
  rcases hop with rfl | rfl | rfl
  ·repeat first|refine ga_ ?_|intro _
   refine AW_draw tab_ok mixed 16 (by first | rfl | kernel_rfl) ?_
   repeat first|refine go_ ?_|intro _
   refine at_get (0) (encU x) (by first | rfl | omega | (rw [wrap_i64 (by omega)]; omega)) (by exact encTs_get (l := [x,y]) (i := 0) (Nat.zero_lt_succ _)) ?_
   repeat first|refine go_ ?_|intro _
   apply call_step
   ·rfl
   ·exact Or.inl ⟨⟨_,Tryz.func114,rfl,rfl⟩,kx _ hG.cons⟩
   repeat first|refine go_ ?_|intro _
   refine cat_ ?_
   repeat first|refine go_ ?_|intro _
   refine cat_ ?_
   repeat first|refine go_ ?_|intro _
   refine at_get (1) (encU y) (by first | rfl | omega | (rw [wrap_i64 (by omega)]; omega)) (by exact encTs_get (l := [x,y]) (i := 1) (Nat.succ_lt_succ (Nat.zero_lt_succ _))) ?_
   repeat first|refine go_ ?_|intro _
   apply call_step
   ·rfl
   ·exact Or.inl ⟨⟨_,Tryz.func114,rfl,rfl⟩,ky _ hG.cons⟩
   repeat first|refine go_ ?_|intro _
   refine cat_ ?_
   repeat first|refine go_ ?_|intro _
   refine cat_ ?_
   repeat first|refine go_ ?_|intro _
   refine AW_ret ?_
   repeat refine mk_ ?_
   refine ⟨_,R,AVle.eq ?_,sle_,rfl,rfl⟩
   exact congrArg AV.str (show (((([40] ++ showT x) ++ signL 5) ++ showT y) ++ [41]) = _ by rw [e]; simp)
  ·repeat first|refine ga_ ?_|intro _
   refine AW_draw tab_ok mixed 16 (by first | rfl | kernel_rfl) ?_
   repeat first|refine go_ ?_|intro _
   refine at_get (0) (encU x) (by first | rfl | omega | (rw [wrap_i64 (by omega)]; omega)) (by exact encTs_get (l := [x,y]) (i := 0) (Nat.zero_lt_succ _)) ?_
   repeat first|refine go_ ?_|intro _
   apply call_step
   ·rfl
   ·exact Or.inl ⟨⟨_,Tryz.func114,rfl,rfl⟩,kx _ hG.cons⟩
   repeat first|refine go_ ?_|intro _
   refine cat_ ?_
   repeat first|refine go_ ?_|intro _
   refine cat_ ?_
   repeat first|refine go_ ?_|intro _
   refine at_get (1) (encU y) (by first | rfl | omega | (rw [wrap_i64 (by omega)]; omega)) (by exact encTs_get (l := [x,y]) (i := 1) (Nat.succ_lt_succ (Nat.zero_lt_succ _))) ?_
   repeat first|refine go_ ?_|intro _
   apply call_step
   ·rfl
   ·exact Or.inl ⟨⟨_,Tryz.func114,rfl,rfl⟩,ky _ hG.cons⟩
   repeat first|refine go_ ?_|intro _
   refine cat_ ?_
   repeat first|refine go_ ?_|intro _
   refine cat_ ?_
   repeat first|refine go_ ?_|intro _
   refine AW_ret ?_
   repeat refine mk_ ?_
   refine ⟨_,R,AVle.eq ?_,sle_,rfl,rfl⟩
   exact congrArg AV.str (show (((([40] ++ showT x) ++ signL 6) ++ showT y) ++ [41]) = _ by rw [e]; simp)
  ·repeat first|refine ga_ ?_|intro _
   refine AW_draw tab_ok mixed 16 (by first | rfl | kernel_rfl) ?_
   repeat first|refine go_ ?_|intro _
   refine at_get (0) (encU x) (by first | rfl | omega | (rw [wrap_i64 (by omega)]; omega)) (by exact encTs_get (l := [x,y]) (i := 0) (Nat.zero_lt_succ _)) ?_
   repeat first|refine go_ ?_|intro _
   apply call_step
   ·rfl
   ·exact Or.inl ⟨⟨_,Tryz.func114,rfl,rfl⟩,kx _ hG.cons⟩
   repeat first|refine go_ ?_|intro _
   refine cat_ ?_
   repeat first|refine go_ ?_|intro _
   refine cat_ ?_
   repeat first|refine go_ ?_|intro _
   refine at_get (1) (encU y) (by first | rfl | omega | (rw [wrap_i64 (by omega)]; omega)) (by exact encTs_get (l := [x,y]) (i := 1) (Nat.succ_lt_succ (Nat.zero_lt_succ _))) ?_
   repeat first|refine go_ ?_|intro _
   apply call_step
   ·rfl
   ·exact Or.inl ⟨⟨_,Tryz.func114,rfl,rfl⟩,ky _ hG.cons⟩
   repeat first|refine go_ ?_|intro _
   refine cat_ ?_
   repeat first|refine go_ ?_|intro _
   refine cat_ ?_
   repeat first|refine go_ ?_|intro _
   refine AW_ret ?_
   repeat refine mk_ ?_
   refine ⟨_,R,AVle.eq ?_,sle_,rfl,rfl⟩
   exact congrArg AV.str (show (((([40] ++ showT x) ++ signL 7) ++ showT y) ++ [41]) = _ by rw [e]; simp)
theorem join_cons2 (x y : List UInt8) (r : List (List UInt8)) (sep : List UInt8) : Lib.join (x :: y :: r) sep = x ++ (sep ++ Lib.join (y :: r) sep) := by
 rw [Lib.join_cons,Lib.join_cons,Lib.joinTail,Lib.joinTail,List.map_cons,List.flatten_cons,List.append_assoc]
theorem join_mem {xs : List (List UInt8)} {x sep : List UInt8} (h : x ∈ xs) : x.length ≤ (Lib.join xs sep).length := by
 induction xs with
 | nil => cases h
 | cons a r ih =>
  cases r with
  | nil =>
   rw [Lib.join_one]
   rcases List.mem_singleton.1 h with rfl
   exact Nat.le_refl _
  | cons b r =>
   rw [join_cons2,List.length_append,List.length_append]
   rcases List.mem_cons.1 h with rfl | h
   ·omega
   ·have := ih h; omega
theorem join_take_le (xs : List (List UInt8)) (z : Nat) (sep : List UInt8) : (Lib.join (xs.take z) sep).length ≤ (Lib.join xs sep).length := by
 induction xs generalizing z with
 | nil => simp
 | cons a r ih =>
  cases z with
  | zero => rw [List.take_zero,Lib.join_nil]; simp
  | succ z =>
   rw [List.take_succ_cons]
   cases r with
   | nil => simp
   | cons b r =>
    have := ih z
    rw [join_cons2,List.length_append,List.length_append]
    cases z with
    | zero => rw [List.take_zero,Lib.join_one]; omega
    | succ z =>
     rw [List.take_succ_cons] at this ⊢
     rw [join_cons2,List.length_append,List.length_append]
     omega
theorem showAtomB_ok (a : At) (R : List En) (hr : rightA a = true) (ht : txs a.l) (hc : (showA a).length ≤ 20000000) (hG : NumG R) : ACall Tryz.prog 70 [encA a] R (fun r S => r = .str (showA a) ∧ S = R) := by
 have hl := rightA_at hr
 have hal : (showA a).length = a.rel.length + ((Lib.join (a.l.map showT) [44,32]).length + 2) := by
  rw [showA]; simp only [List.length_append,List.length_cons,List.length_nil]; omega
 have hj := fun z => join_take_le (a.l.map showT) z [44,32]
 refine ACall_body tab_ok Tryz.func70 rfl rfl rfl (by kernel_rfl) (nb_ rfl) ?_
 repeat first|refine go_ ?_|intro _
 rename_i p
 refine AW_for (α := Nat × Tk) (fun z => ⟨[(1, .ptr p 0),(3, .sl 1 (((a.l.take z.1).map showT).map AV.str) z.2),(7, .sl 4 (encTs a.l) .no),(8, .int .i64 (a.l.length : Nat)),(9, .int .i64 (z.1 : Nat))], []⟩) (fun z => .grow z.2 :: .cells p (cA a) :: R) (fun z => a.l.length - z.1) (fun z => z.1 ≤ a.l.length) ((0, .full)) ?_ (weak_of ?_ rfl ?_) (fun z hz => ?_)
 ·exact Nat.zero_le _
 ·repeat (first | exact trivial | refine ⟨(AVle.eq (congrArg (AV.int .i64) (by simp))),?_⟩ | refine env_ ?_)
 ·exact w_
 obtain ⟨z,tk⟩ := z
 replace hz : z ≤ a.l.length := hz
 repeat first|refine go_ ?_|intro _
 refine AW_iff (z < a.l.length) rfl ib_ (fun h => ?_) (fun h => ?_)
 ·have hlt := h
  obtain ⟨x,hx⟩ : ∃ x,x = a.l[z] := ⟨_,rfl⟩
  have rx := hl.2 z hlt
  have hxm : x ∈ a.l := hx ▸ List.getElem_mem hlt
  have hlx := join_mem (sep := [44,32]) (List.mem_map_of_mem (f := showT) hxm)
  rw [← hx] at rx
  have kx := fun R hG => showTermB_ok 20 x R rx (txs_at ht hxm) (by omega) hG
  repeat first|refine go_ ?_|intro _
  refine at_get (z) (encU x) (by first | rfl | omega | (rw [wrap_i64 (by omega)]; omega)) (by rw [hx]; exact encTs_get hlt) ?_
  repeat first|refine go_ ?_|intro _
  refine Or.inl ⟨⟨_,Tryz.func114,rfl,rfl⟩,ACall.mono ?_ (kx _ hG.cons.cons.cons)⟩
  rintro _ S1 ⟨rfl,hS1⟩
  subst S1
  repeat first|refine go_ ?_|intro _
  refine ⟨room (by first | omega | (simp; done) | (simp; omega) | (simp at *; done) | (simp at *; omega)) rfl, .inl rfl, .inr (.inl ⟨rfl,1,rfl,((a.l.take (z + 1)).map showT).map AV.str,by rw [List.take_succ_eq_append_getElem hlt, ← hx]; simp; rfl,fun t1 => ?_⟩)⟩
  repeat first|refine go_ ?_|intro _
  refine ⟨(z + 1,t1),?_,?_,weak_of ?_ rfl ?_⟩
  ·exact Nat.sub_lt_sub_left hlt (Nat.lt_succ_self z)
  ·exact hlt
  ·exact e_
  ·exact w_
 ·have kj := fun R => join_ok ((a.l.take z).map showT) [44,32] tk R (by rw [List.length_map,List.length_take]; omega) (by have := hj z; rw [← List.map_take] at this; omega)
  have hz' : z = a.l.length := by omega
  have hjz := hj z
  rw [← List.map_take] at hjz
  repeat first|refine go_ ?_|intro _
  refine AW_draw tab_ok mixed 8 (by first | rfl | kernel_rfl) ?_
  repeat first|refine go_ ?_|intro _
  refine cat_ ?_
  repeat first|refine go_ ?_|intro _
  apply call_step
  ·rfl
  ·exact Or.inl ⟨⟨_,Tryz.func69,rfl,rfl⟩,kj _⟩
  repeat first|refine go_ ?_|intro _
  refine cat_ ?_
  repeat first|refine go_ ?_|intro _
  refine cat_ ?_
  repeat first|refine go_ ?_|intro _
  refine AW_ret ?_
  repeat refine mk_ ?_
  refine ⟨_,R,AVle.eq ?_,sle_,rfl,rfl⟩
  exact congrArg AV.str (show ((a.rel ++ [40]) ++ Lib.join ((a.l.take z).map showT) [44,32]) ++ [41] = _ by rw [hz',List.take_length,showA]; simp)
def txL (l : Li) : Prop := txs l.a.l ∧ tx l.x ∧ tx l.y
theorem noT_ne {x : T} (h : x = .mk 0 [] 0 []) (m : Nat) : ¬ rightT x (m + 1) = true := by
 subst h
 rw [rightT,if_pos (show twoB (T.mk 0 [] 0 []).op = false from rfl)]; simp [leafB,T.op]
theorem noA_ne {a : At} (h : a = ⟨[], []⟩) : ¬ rightA a = true := by
 subst h
 simp [rightA]
theorem lit_bnd {l : Li} (hr : rightL l = true) : (rightA l.a = true → (showA l.a).length ≤ (showL l).length) ∧ (rightT l.x 20 = true → (showT l.x).length ≤ (showL l).length) ∧ (rightT l.y 20 = true → (showT l.y).length ≤ (showL l).length) := by
 have hcs := rightL_cases hr
 rw [showL]
 rcases hcs with ⟨o,ra,ex,ey⟩ | ⟨o,ea,rx,ry⟩ | ⟨o,ra,rx,ey⟩ | ⟨o,ra,rx,ry⟩
 ·refine ⟨fun _ => ?_,fun h => absurd h (noT_ne ex 19),fun h => absurd h (noT_ne ey 19)⟩
  rcases o with o | o
  ·rw [if_pos o]; exact Nat.le_refl _
  ·rw [if_neg (by omega),if_pos o,List.length_append]; omega
 ·refine ⟨fun h => absurd h (noA_ne ea),fun _ => ?_,fun _ => ?_⟩ <;>
  ·rw [if_neg (by omega),if_neg (by omega),if_pos (by omega)]
   simp only [List.length_append]; omega
 ·refine ⟨fun _ => ?_,fun _ => ?_,fun h => absurd h (noT_ne ey 19)⟩ <;>
  ·rw [if_neg (by omega),if_neg (by omega),if_neg (by omega)]
   simp only [List.length_append]; omega
 ·refine ⟨fun _ => ?_,fun _ => ?_,fun _ => ?_⟩ <;>
  ·rw [if_neg (by omega),if_neg (by omega),if_neg (by omega)]
   simp only [List.length_append,howL,if_neg (show ¬ l.op = 7 by omega)]; omega
theorem showLitB_ok (l : Li) (R : List En) (hr : rightL l = true) (ht : txL l) (hc : (showL l).length ≤ 20000000) (hG : NumG R) : ACall Tryz.prog 71 [encL l] R (fun r S => r = .str (showL l) ∧ S = R) := by
 have hcs := rightL_cases hr
 have hb := lit_bnd hr
 obtain ⟨op,a,x,y⟩ := l
 obtain ⟨oa,ox,oy⟩ := ht
 simp only [] at hcs oa ox oy hc hb
 have ka : rightA a = true → ∀ R,NumG R → ACall Tryz.prog 70 [encA a] R (fun r S => r = .str (showA a) ∧ S = R) := fun h R hG => showAtomB_ok a R h oa (Nat.le_trans (hb.1 h) hc) hG
 have kx : rightT x 20 = true → ∀ R,NumG R → ACall Tryz.prog 114 [encU x] R (fun r S => r = .str (showT x) ∧ S = R) := fun h R hG => showTermB_ok 20 x R h ox (Nat.le_trans (hb.2.1 h) hc) hG
 have ky : rightT y 20 = true → ∀ R,NumG R → ACall Tryz.prog 114 [encU y] R (fun r S => r = .str (showT y) ∧ S = R) := fun h R hG => showTermB_ok 20 y R h oy (Nat.le_trans (hb.2.2 h) hc) hG
 have la : rightA a = true → (showA a).length ≤ 20000000 := fun h => Nat.le_trans (hb.1 h) hc
 have lx : rightT x 20 = true → (showT x).length ≤ 20000000 := fun h => Nat.le_trans (hb.2.1 h) hc
 have ly : rightT y 20 = true → (showT y).length ≤ 20000000 := fun h => Nat.le_trans (hb.2.2 h) hc
 refine ACall_body tab_ok Tryz.func71 rfl rfl rfl (by kernel_rfl) (nb_ rfl) ?_
 rcases hcs with ⟨o,ra,ex,ey⟩ | ⟨o,ea,rx,ry⟩ | ⟨o,ra,rx,ey⟩ | ⟨o,ra,rx,ry⟩
 ·replace ka := ka ra
  replace la := la ra
  rcases o with o | o
  ·subst o
   repeat first|refine ga_ ?_|intro _
   refine Or.inl ⟨⟨_,Tryz.func70,rfl,rfl⟩,ACall.mono ?_ (ka _ hG.cons)⟩
   rintro _ S1 ⟨rfl,hS1⟩
   subst S1
   repeat first|refine go_ ?_|intro _
   refine AW_ret ?_
   repeat refine mk_ ?_
   refine ⟨_,R,AVle.eq ?_,sle_,rfl,rfl⟩
   rfl
  ·subst o
   repeat first|refine ga_ ?_|intro _
   refine Or.inl ⟨⟨_,Tryz.func70,rfl,rfl⟩,ACall.mono ?_ (ka _ hG.cons)⟩
   rintro _ S1 ⟨rfl,hS1⟩
   subst S1
   repeat first|refine go_ ?_|intro _
   refine cat_ ?_
   repeat first|refine go_ ?_|intro _
   refine AW_ret ?_
   repeat refine mk_ ?_
   refine ⟨_,R,AVle.eq ?_,sle_,rfl,rfl⟩
   rfl
 ·replace kx := kx rx
  replace ky := ky ry
  replace lx := lx rx
  replace ly := ly ry
  rcases o with o | o | o | o
  ·subst o
   have e : showL ⟨3,a,x,y⟩ = showT x ++ ([32,61,32] ++ showT y) := sL3 (l := ⟨3,a,x,y⟩) (by simp)
   repeat first|refine ga_ ?_|intro _
   refine AW_draw tab_ok mixed 9 (by first | rfl | kernel_rfl) ?_
   repeat first|refine go_ ?_|intro _
   apply call_step
   ·rfl
   ·exact Or.inl ⟨⟨_,Tryz.func114,rfl,rfl⟩,kx _ hG.cons⟩
   repeat first|refine go_ ?_|intro _
   refine cat_ ?_
   repeat first|refine go_ ?_|intro _
   apply call_step
   ·rfl
   ·exact Or.inl ⟨⟨_,Tryz.func114,rfl,rfl⟩,ky _ hG.cons⟩
   repeat first|refine go_ ?_|intro _
   refine cat_ ?_
   repeat first|refine go_ ?_|intro _
   refine AW_ret ?_
   repeat refine mk_ ?_
   refine ⟨_,R,AVle.eq ?_,sle_,rfl,rfl⟩
   exact congrArg AV.str (show (showT x ++ [32,61,32]) ++ showT y = _ by rw [e]; simp)
  ·subst o
   have e : showL ⟨4,a,x,y⟩ = showT x ++ ([32,33,61,32] ++ showT y) := sL3 (l := ⟨4,a,x,y⟩) (by simp)
   repeat first|refine ga_ ?_|intro _
   refine AW_draw tab_ok mixed 9 (by first | rfl | kernel_rfl) ?_
   repeat first|refine go_ ?_|intro _
   apply call_step
   ·rfl
   ·exact Or.inl ⟨⟨_,Tryz.func114,rfl,rfl⟩,kx _ hG.cons⟩
   repeat first|refine go_ ?_|intro _
   refine cat_ ?_
   repeat first|refine go_ ?_|intro _
   apply call_step
   ·rfl
   ·exact Or.inl ⟨⟨_,Tryz.func114,rfl,rfl⟩,ky _ hG.cons⟩
   repeat first|refine go_ ?_|intro _
   refine cat_ ?_
   repeat first|refine go_ ?_|intro _
   refine AW_ret ?_
   repeat refine mk_ ?_
   refine ⟨_,R,AVle.eq ?_,sle_,rfl,rfl⟩
   exact congrArg AV.str (show (showT x ++ [32,33,61,32]) ++ showT y = _ by rw [e]; simp)
  ·subst o
   have e : showL ⟨5,a,x,y⟩ = showT x ++ ([32,60,32] ++ showT y) := sL3 (l := ⟨5,a,x,y⟩) (by simp)
   repeat first|refine ga_ ?_|intro _
   refine AW_draw tab_ok mixed 9 (by first | rfl | kernel_rfl) ?_
   repeat first|refine go_ ?_|intro _
   apply call_step
   ·rfl
   ·exact Or.inl ⟨⟨_,Tryz.func114,rfl,rfl⟩,kx _ hG.cons⟩
   repeat first|refine go_ ?_|intro _
   refine cat_ ?_
   repeat first|refine go_ ?_|intro _
   apply call_step
   ·rfl
   ·exact Or.inl ⟨⟨_,Tryz.func114,rfl,rfl⟩,ky _ hG.cons⟩
   repeat first|refine go_ ?_|intro _
   refine cat_ ?_
   repeat first|refine go_ ?_|intro _
   refine AW_ret ?_
   repeat refine mk_ ?_
   refine ⟨_,R,AVle.eq ?_,sle_,rfl,rfl⟩
   exact congrArg AV.str (show (showT x ++ [32,60,32]) ++ showT y = _ by rw [e]; simp)
  ·subst o
   have e : showL ⟨6,a,x,y⟩ = showT x ++ ([32,60,61,32] ++ showT y) := sL3 (l := ⟨6,a,x,y⟩) (by simp)
   repeat first|refine ga_ ?_|intro _
   refine AW_draw tab_ok mixed 9 (by first | rfl | kernel_rfl) ?_
   repeat first|refine go_ ?_|intro _
   apply call_step
   ·rfl
   ·exact Or.inl ⟨⟨_,Tryz.func114,rfl,rfl⟩,kx _ hG.cons⟩
   repeat first|refine go_ ?_|intro _
   refine cat_ ?_
   repeat first|refine go_ ?_|intro _
   apply call_step
   ·rfl
   ·exact Or.inl ⟨⟨_,Tryz.func114,rfl,rfl⟩,ky _ hG.cons⟩
   repeat first|refine go_ ?_|intro _
   refine cat_ ?_
   repeat first|refine go_ ?_|intro _
   refine AW_ret ?_
   repeat refine mk_ ?_
   refine ⟨_,R,AVle.eq ?_,sle_,rfl,rfl⟩
   exact congrArg AV.str (show (showT x ++ [32,60,61,32]) ++ showT y = _ by rw [e]; simp)
 ·replace kx := kx rx
  replace ka := ka ra
  replace lx := lx rx
  replace la := la ra
  subst o
  have e : showL ⟨7,a,x,y⟩ = showT x ++ ([32,61,32] ++ ([99,111,117,110,116] ++ ([32,58,32,123,32] ++ (showA a ++ [32,125])))) := by
   rw [sL7 (l := ⟨7,a,x,y⟩) (by simp),how7 (l := ⟨7,a,x,y⟩) rfl]
  repeat first|refine ga_ ?_|intro _
  refine AW_draw tab_ok mixed 13 (by first | rfl | kernel_rfl) ?_
  repeat first|refine go_ ?_|intro _
  apply call_step
  ·rfl
  ·exact Or.inl ⟨⟨_,Tryz.func114,rfl,rfl⟩,kx _ hG.cons⟩
  repeat first|refine go_ ?_|intro _
  refine cat_ ?_
  repeat first|refine go_ ?_|intro _
  refine cat_ ?_
  repeat first|refine go_ ?_|intro _
  refine cat_ ?_
  repeat first|refine go_ ?_|intro _
  apply call_step
  ·rfl
  ·exact Or.inl ⟨⟨_,Tryz.func70,rfl,rfl⟩,ka _ hG.cons⟩
  repeat first|refine go_ ?_|intro _
  refine cat_ ?_
  repeat first|refine go_ ?_|intro _
  refine cat_ ?_
  repeat first|refine go_ ?_|intro _
  refine AW_ret ?_
  repeat refine mk_ ?_
  refine ⟨_,R,AVle.eq ?_,sle_,rfl,rfl⟩
  exact congrArg AV.str (show (((((showT x ++ [32,61,32]) ++ ([99,111,117,110,116])) ++ [32,58,32,123,32]) ++ showA a) ++ [32,125]) = _ by rw [e]; simp)
 ·replace kx := kx rx
  replace ky := ky ry
  replace ka := ka ra
  replace lx := lx rx
  replace ly := ly ry
  replace la := la ra
  rcases o with o | o | o
  ·subst o
   have e : showL ⟨8,a,x,y⟩ = showT x ++ ([32,61,32] ++ (([115,117,109,32] ++ showT y) ++ ([32,58,32,123,32] ++ (showA a ++ [32,125])))) := by
    rw [sL7 (l := ⟨8,a,x,y⟩) (by simp),how8 (l := ⟨8,a,x,y⟩) rfl]
   repeat first|refine ga_ ?_|intro _
   refine Or.inl ⟨⟨_,Tryz.func114,rfl,rfl⟩,ACall.mono ?_ (ky _ hG.cons)⟩
   rintro _ S1 ⟨rfl,hS1⟩
   subst S1
   repeat first|refine go_ ?_|intro _
   refine cat_ ?_
   repeat first|refine go_ ?_|intro _
   refine AW_draw tab_ok mixed 13 (by first | rfl | kernel_rfl) ?_
   repeat first|refine go_ ?_|intro _
   apply call_step
   ·rfl
   ·exact Or.inl ⟨⟨_,Tryz.func114,rfl,rfl⟩,kx _ hG.cons⟩
   repeat first|refine go_ ?_|intro _
   refine cat_ ?_
   repeat first|refine go_ ?_|intro _
   refine cat_ ?_
   repeat first|refine go_ ?_|intro _
   refine cat_ ?_
   repeat first|refine go_ ?_|intro _
   apply call_step
   ·rfl
   ·exact Or.inl ⟨⟨_,Tryz.func70,rfl,rfl⟩,ka _ hG.cons⟩
   repeat first|refine go_ ?_|intro _
   refine cat_ ?_
   repeat first|refine go_ ?_|intro _
   refine cat_ ?_
   repeat first|refine go_ ?_|intro _
   refine AW_ret ?_
   repeat refine mk_ ?_
   refine ⟨_,R,AVle.eq ?_,sle_,rfl,rfl⟩
   exact congrArg AV.str (show (((((showT x ++ [32,61,32]) ++ ([115,117,109,32] ++ showT y)) ++ [32,58,32,123,32]) ++ showA a) ++ [32,125]) = _ by rw [e]; simp)
  ·subst o
   have e : showL ⟨9,a,x,y⟩ = showT x ++ ([32,61,32] ++ (([109,105,110,32] ++ showT y) ++ ([32,58,32,123,32] ++ (showA a ++ [32,125])))) := by
    rw [sL7 (l := ⟨9,a,x,y⟩) (by simp),how9 (l := ⟨9,a,x,y⟩) rfl]
   repeat first|refine ga_ ?_|intro _
   refine Or.inl ⟨⟨_,Tryz.func114,rfl,rfl⟩,ACall.mono ?_ (ky _ hG.cons)⟩
   rintro _ S1 ⟨rfl,hS1⟩
   subst S1
   repeat first|refine go_ ?_|intro _
   refine cat_ ?_
   repeat first|refine go_ ?_|intro _
   refine AW_draw tab_ok mixed 13 (by first | rfl | kernel_rfl) ?_
   repeat first|refine go_ ?_|intro _
   apply call_step
   ·rfl
   ·exact Or.inl ⟨⟨_,Tryz.func114,rfl,rfl⟩,kx _ hG.cons⟩
   repeat first|refine go_ ?_|intro _
   refine cat_ ?_
   repeat first|refine go_ ?_|intro _
   refine cat_ ?_
   repeat first|refine go_ ?_|intro _
   refine cat_ ?_
   repeat first|refine go_ ?_|intro _
   apply call_step
   ·rfl
   ·exact Or.inl ⟨⟨_,Tryz.func70,rfl,rfl⟩,ka _ hG.cons⟩
   repeat first|refine go_ ?_|intro _
   refine cat_ ?_
   repeat first|refine go_ ?_|intro _
   refine cat_ ?_
   repeat first|refine go_ ?_|intro _
   refine AW_ret ?_
   repeat refine mk_ ?_
   refine ⟨_,R,AVle.eq ?_,sle_,rfl,rfl⟩
   exact congrArg AV.str (show (((((showT x ++ [32,61,32]) ++ ([109,105,110,32] ++ showT y)) ++ [32,58,32,123,32]) ++ showA a) ++ [32,125]) = _ by rw [e]; simp)
  ·subst o
   have e : showL ⟨10,a,x,y⟩ = showT x ++ ([32,61,32] ++ (([109,97,120,32] ++ showT y) ++ ([32,58,32,123,32] ++ (showA a ++ [32,125])))) := by
    rw [sL7 (l := ⟨10,a,x,y⟩) (by simp),how10 (l := ⟨10,a,x,y⟩) rfl]
   repeat first|refine ga_ ?_|intro _
   refine Or.inl ⟨⟨_,Tryz.func114,rfl,rfl⟩,ACall.mono ?_ (ky _ hG.cons)⟩
   rintro _ S1 ⟨rfl,hS1⟩
   subst S1
   repeat first|refine go_ ?_|intro _
   refine cat_ ?_
   repeat first|refine go_ ?_|intro _
   refine AW_draw tab_ok mixed 13 (by first | rfl | kernel_rfl) ?_
   repeat first|refine go_ ?_|intro _
   apply call_step
   ·rfl
   ·exact Or.inl ⟨⟨_,Tryz.func114,rfl,rfl⟩,kx _ hG.cons⟩
   repeat first|refine go_ ?_|intro _
   refine cat_ ?_
   repeat first|refine go_ ?_|intro _
   refine cat_ ?_
   repeat first|refine go_ ?_|intro _
   refine cat_ ?_
   repeat first|refine go_ ?_|intro _
   apply call_step
   ·rfl
   ·exact Or.inl ⟨⟨_,Tryz.func70,rfl,rfl⟩,ka _ hG.cons⟩
   repeat first|refine go_ ?_|intro _
   refine cat_ ?_
   repeat first|refine go_ ?_|intro _
   refine cat_ ?_
   repeat first|refine go_ ?_|intro _
   refine AW_ret ?_
   repeat refine mk_ ?_
   refine ⟨_,R,AVle.eq ?_,sle_,rfl,rfl⟩
   exact congrArg AV.str (show (((((showT x ++ [32,61,32]) ++ ([109,97,120,32] ++ showT y)) ++ [32,58,32,123,32]) ++ showA a) ++ [32,125]) = _ by rw [e]; simp)
def txR (r : Ru) : Prop := txs r.head.l ∧ ∀ l ∈ r.body,txL l
theorem showRuleB_ok (b o : Nat) (r : Ru) (R : List En) (hE : En.glob 1 [errE b o] ∈ R) (hk : okR r) (ht : txR r) (hc : (showR r).length ≤ 20000000) (hG : NumG R) : ACall Tryz.prog 30 [encRu r] R (fun v S => v = shownR r ∧ S = R) := by
 refine ACall_body tab_ok Tryz.func30 rfl rfl rfl (by kernel_rfl) (nb_ rfl) ?_
 repeat first|refine go_ ?_|intro _
 rename_i p
 refine Or.inl ⟨⟨_,Tryz.func43,rfl,rfl⟩,ACall.mono ?_ (rightRule_ok b o r _ (.tail _ hE) hk.1 hk.2)⟩
 rintro _ S1 ⟨rfl,hS1⟩
 subst S1
 repeat first|refine go_ ?_|intro _
 refine AW_cond (b := !rightR r) rfl (fun h => ?_) (fun h => ?_)
 ·have hr : rightR r = false := by simpa using h
  repeat first|refine go_ ?_|intro _
  refine AW_ret ?_
  repeat refine mk_ ?_
  refine ⟨_,R,AVle.eq ?_,sle_,rfl,rfl⟩
  rw [shownR_f hr]; rfl
 have hr : rightR r = true := by simpa using h
 obtain ⟨ra,rb,rl⟩ := rightR_all hr
 have hrl : (showR r).length = (showA r.head).length + ((bodyL r.body).length + 1) := by
  rw [showR]; simp only [List.length_append,List.length_cons,List.length_nil]
 have la : (showA r.head).length ≤ 20000000 := by omega
 have hbl : (Lib.join (r.body.map showL) [44,32]).length ≤ 20000000 := by
  by_cases h0 : r.body.length = 0
  ·rw [List.length_eq_zero_iff.1 h0,List.map_nil,Lib.join_nil]; simp
  ·rw [bodyL,if_neg h0,List.length_append] at hrl; omega
 have ka := fun R hG => showAtomB_ok r.head R ra ht.1 la hG
 repeat first|refine go_ ?_|intro _
 refine Or.inl ⟨⟨_,Tryz.func70,rfl,rfl⟩,ACall.mono ?_ (ka _ hG.cons)⟩
 rintro _ S1 ⟨rfl,hS1⟩
 subst S1
 repeat first|refine go_ ?_|intro _
 refine AW_for (α := Nat × Tk) (fun z => ⟨[(1, .ptr p 0),(4, .str (showA r.head)),(5, .sl 1 (((r.body.take z.1).map showL).map AV.str) z.2),(15, .sl 11 (r.body.map encL) .no),(16, .int .i64 (r.body.length : Nat)),(17, .int .i64 (z.1 : Nat))], []⟩) (fun z => .grow z.2 :: .cells p (cRu r) :: R) (fun z => r.body.length - z.1) (fun z => z.1 ≤ r.body.length) ((0, .full)) ?_ (weak_of ?_ rfl ?_) (fun z hz => ?_)
 ·exact Nat.zero_le _
 ·repeat (first | exact trivial | refine ⟨(AVle.eq (congrArg (AV.int .i64) (by simp))),?_⟩ | refine env_ ?_)
 ·exact w_
 obtain ⟨z,tk⟩ := z
 replace hz : z ≤ r.body.length := hz
 repeat first|refine go_ ?_|intro _
 refine AW_iff (z < r.body.length) rfl ib_ (fun h => ?_) (fun h => ?_)
 ·have hlt := h
  obtain ⟨x,hx⟩ : ∃ x,x = r.body[z] := ⟨_,rfl⟩
  have hm : x ∈ r.body := hx ▸ List.getElem_mem hlt
  have hlx := join_mem (sep := [44,32]) (List.mem_map_of_mem (f := showL) hm)
  have kx := fun R hG => showLitB_ok x R (rl x hm) (ht.2 x hm) (by omega) hG
  repeat first|refine go_ ?_|intro _
  refine at_get (z) (encL x) (by first | rfl | omega | (rw [wrap_i64 (by omega)]; omega)) (by rw [List.getElem?_map,List.getElem?_eq_getElem hlt,hx]; rfl) ?_
  repeat first|refine go_ ?_|intro _
  refine Or.inl ⟨⟨_,Tryz.func71,rfl,rfl⟩,ACall.mono ?_ (kx _ hG.cons.cons.cons)⟩
  rintro _ S1 ⟨rfl,hS1⟩
  subst S1
  repeat first|refine go_ ?_|intro _
  refine ⟨room (by first | omega | (simp; done) | (simp; omega) | (simp at *; done) | (simp at *; omega)) rfl, .inl rfl, .inr (.inl ⟨rfl,1,rfl,((r.body.take (z + 1)).map showL).map AV.str,by rw [take_snoc hlt hx,List.map_append]; rfl,fun t1 => ?_⟩)⟩
  repeat first|refine go_ ?_|intro _
  refine ⟨(z + 1,t1),?_,?_,weak_of ?_ rfl ?_⟩
  ·exact Nat.sub_lt_sub_left hlt (Nat.lt_succ_self z)
  ·exact hlt
  ·exact e_
  ·exact w_
 have hz' : z = r.body.length := by omega
 repeat first|refine go_ ?_|intro _
 refine AW_iff (0 < r.body.length) rfl (by simp [hz']) (fun h => ?_) (fun h => ?_)
 ·have kj := fun R => join_ok ((r.body.take z).map showL) [44,32] tk R (by rw [List.length_map,List.length_take]; omega) (by have := join_take_le (r.body.map showL) z [44,32]; rw [← List.map_take] at this; omega)
  have hjz := join_take_le (r.body.map showL) z [44,32]
  rw [← List.map_take] at hjz
  have h0 : ¬ r.body.length = 0 := by omega
  repeat first|refine go_ ?_|intro _
  refine Or.inl ⟨⟨_,Tryz.func69,rfl,rfl⟩,ACall.mono ?_ (kj _)⟩
  rintro _ S1 ⟨rfl,hS1⟩
  subst S1
  repeat first|refine go_ ?_|intro _
  refine cat_ ?_
  repeat first|refine go_ ?_|intro _
  refine cat_ ?_
  repeat first|refine go_ ?_|intro _
  refine cat_ ?_
  repeat first|refine go_ ?_|intro _
  refine AW_ret ?_
  repeat refine mk_ ?_
  refine ⟨_,R,AVle.eq ?_,sle_,rfl,rfl⟩
  rw [shownR_t hr]
  exact congrArg (fun s => AV.tup [.str s, .int .i64 0]) (show (showA r.head ++ ([32,58,45,32] ++ Lib.join ((r.body.take z).map showL) [44,32])) ++ [46] = _ by rw [hz',List.take_length,showR,bodyL,if_neg h0]; simp)
 ·have h0 : r.body.length = 0 := by omega
  repeat first|refine go_ ?_|intro _
  refine cat_ ?_
  repeat first|refine go_ ?_|intro _
  refine AW_ret ?_
  repeat refine mk_ ?_
  refine ⟨_,R,AVle.eq ?_,sle_,rfl,rfl⟩
  rw [shownR_t hr]
  exact congrArg (fun s => AV.tup [.str s, .int .i64 0]) (show showA r.head ++ [46] = _ by rw [showR,bodyL,if_pos h0]; simp)
theorem showRs_take_le (l : List Ru) (z : Nat) : (showRs (l.take z)).length ≤ (showRs l).length := by
 have e : showRs l = showRs (l.take z) ++ showRs (l.drop z) := by
  rw [showRs,showRs,showRs, ← List.flatten_append, ← List.map_append,List.take_append_drop]
 rw [e,List.length_append]; omega
theorem showR_mem {l : List Ru} {r : Ru} (h : r ∈ l) : (showR r).length ≤ (showRs l).length := by
 obtain ⟨a,b,rfl⟩ := List.append_of_mem h
 rw [showRs,List.map_append,List.flatten_append,List.map_cons,List.flatten_cons]
 simp only [List.length_append]; omega
theorem showB_ok (bE oE : Nat) (p : Pr) (R : List En) (hE : En.glob 1 [errE bE oE] ∈ R) (k1 : ∀ d ∈ p.decls,okDe d) (k2 : ∀ r ∈ p.rules,okR r ∧ txR r) (k3 : rightP p = true → (showP p).length ≤ 16000000) (hG : NumG R) : ACall Tryz.prog 13 [encP p] R (fun v S => v = shownP p ∧ S = R) := by
 refine ACall_body tab_ok Tryz.func13 rfl rfl rfl (by kernel_rfl) (nb_ rfl) ?_
 repeat first|refine go_ ?_|intro _
 rename_i q
 refine Or.inl ⟨⟨_,Tryz.func18,rfl,rfl⟩,ACall.mono ?_ (right_ok bE oE p _ (.tail _ hE) (fun r hr => (k2 r hr).1))⟩
 rintro _ S1 ⟨rfl,hS1⟩
 subst S1
 repeat first|refine go_ ?_|intro _
 refine AW_cond (b := !rightP p) rfl (fun h => ?_) (fun h => ?_)
 ·have hr : rightP p = false := by simpa using h
  repeat first|refine go_ ?_|intro _
  refine AW_ret ?_
  repeat refine mk_ ?_
  refine ⟨_,R,AVle.eq ?_,sle_,rfl,rfl⟩
  rw [shownP_f hr]; rfl
 have hr : rightP p = true := by simpa using h
 obtain ⟨r1,r2,r3,r4⟩ := rightP_all hr
 have hDl : ∀ z,(showDs (p.decls.take z)).length ≤ 12000 * 60 := fun z => by
  have := showDs_len (p.decls.take z) fun d hd => ⟨k1 d (List.mem_of_mem_take hd),(rightD_all (r3 d (List.mem_of_mem_take hd))).2.2.1⟩
  rw [List.length_take] at this
  omega
 have hPl : (showDs p.decls).length + (showRs p.rules).length ≤ 16000000 := by have := k3 hr; rw [showP,List.length_append] at this; exact this
 have hRl : ∀ z,(showDs p.decls).length + (showRs (p.rules.take z)).length ≤ 16000000 := fun z => by
  have := showRs_take_le p.rules z
  omega
 repeat first|refine go_ ?_|intro _
 rename_i b
 refine AW_for (α := Nat × Bool × Nat × Nat × List AV) (fun z => ⟨[(1, .ptr q 0),(4, .ptr b 0),(15, .sl 6 (p.decls.map encD) .no),(16, .int .i64 (p.decls.length : Nat)),(17, .int .i64 (z.1 : Nat))], []⟩) (fun z => .cells q [.sl 6 (p.decls.map encD) .no, .sl 4 (p.rules.map encRu) .no] :: Bld b z.2.1 (showDs (p.decls.take z.1)) z.2.2.1 z.2.2.2.1 z.2.2.2.2 R) (fun z => p.decls.length - z.1) (fun z => z.1 ≤ p.decls.length ∧ (showDs (p.decls.take z.1)).length ≤ z.2.2.2.1 ∧ z.2.2.2.2.length = z.2.2.2.1 - (showDs (p.decls.take z.1)).length) ((0,false,0,0, [])) ?_ (weak_of ?_ rfl ?_) (fun z hz => ?_)
 ·exact ⟨Nat.zero_le _,Nat.le_refl 0,rfl⟩
 ·repeat (first | exact trivial | refine ⟨(AVle.eq (congrArg (AV.int .i64) (by simp))),?_⟩ | refine env_ ?_)
 ·exact bld_in (s := []) (u := false) (bb := 0) (cap := 0) (rest := [])
 obtain ⟨z,u,bb,cap,rest⟩ := z
 obtain ⟨hz,h1,h2⟩ := hz
 replace hz : z ≤ p.decls.length := hz
 replace h1 : (showDs (p.decls.take z)).length ≤ cap := h1
 replace h2 : rest.length = cap - (showDs (p.decls.take z)).length := h2
 have hD1 := hDl (z + 1)
 repeat first|refine go_ ?_|intro _
 refine AW_iff (z < p.decls.length) rfl ib_ (fun h => ?_) (fun h => ?_)
 ·have hlt := h
  obtain ⟨d,hd⟩ : ∃ x,x = p.decls[z] := ⟨_,rfl⟩
  have hm : d ∈ p.decls := hd ▸ List.getElem_mem hlt
  have kd := fun R => showDecl_ok d R (r3 d hm) (k1 d hm)
  have e' : showDs (p.decls.take z) ++ showD d = showDs (p.decls.take (z + 1)) := (showDs_take hlt hd).symm
  have el := congrArg List.length e'
  rw [List.length_append] at el
  repeat first|refine go_ ?_|intro _
  refine at_get (z) (encD d) (by first | rfl | omega | (rw [wrap_i64 (by omega)]; omega)) (by rw [List.getElem?_map,List.getElem?_eq_getElem hlt,hd]; rfl) ?_
  repeat first|refine go_ ?_|intro _
  refine Or.inl ⟨⟨_,Tryz.func29,rfl,rfl⟩,ACall.mono ?_ (kd _)⟩
  rintro _ S1 ⟨rfl,hS1⟩
  subst S1
  repeat first|refine go_ ?_|intro _
  refine Or.inl ⟨⟨_,Tryz.func28,rfl,rfl⟩,ACall.mono ?_ (ACall_drop (SLe.tail bld_out) (writeString_ok b u (showDs (p.decls.take z)) bb cap rest (showD d) _ h1 h2 (by omega)))⟩
  rintro _ S1 ⟨rfl,bb,cap,rest,h1,h2,hS1⟩
  subst S1
  repeat first|refine go_ ?_|intro _
  refine ⟨((z + 1,true,bb,cap,rest) : Nat × Bool × Nat × Nat × List AV),?_,?_,weak_of ?_ rfl ?_⟩
  ·exact Nat.sub_lt_sub_left hlt (Nat.lt_succ_self z)
  ·exact ⟨hlt,e' ▸ h1,e' ▸ h2⟩
  ·exact e_
  ·exact SLe.trans bld_in (SLe.of_eq (congrArg (fun x => _ :: Bld b true x bb cap rest R) e'))
 have hz' : z = p.decls.length := by omega
 have e0 : showDs (p.decls.take z) = showDs p.decls ++ showRs (p.rules.take 0) := by rw [hz',List.take_length]; simp [showRs]
 have hDD := hDl p.decls.length
 rw [List.take_length] at hDD
 rw [e0] at h1 h2
 repeat first|refine go_ ?_|intro _
 refine AW_for (α := Nat × Bool × Nat × Nat × List AV) (fun z => ⟨[(1, .ptr q 0),(4, .ptr b 0),(26, .sl 4 (p.rules.map encRu) .no),(27, .int .i64 (p.rules.length : Nat)),(28, .int .i64 (z.1 : Nat))], []⟩) (fun z => .cells q [.sl 6 (p.decls.map encD) .no, .sl 4 (p.rules.map encRu) .no] :: Bld b z.2.1 (showDs p.decls ++ showRs (p.rules.take z.1)) z.2.2.1 z.2.2.2.1 z.2.2.2.2 R) (fun z => p.rules.length - z.1) (fun z => z.1 ≤ p.rules.length ∧ (showDs p.decls ++ showRs (p.rules.take z.1)).length ≤ z.2.2.2.1 ∧ z.2.2.2.2.length = z.2.2.2.1 - (showDs p.decls ++ showRs (p.rules.take z.1)).length) ((0,u,bb,cap,rest)) ?_ (weak_of ?_ rfl ?_) (fun z hz => ?_)
 ·exact ⟨Nat.zero_le _,h1,h2⟩
 ·repeat (first | exact trivial | refine ⟨(AVle.eq (congrArg (AV.int .i64) (by simp))),?_⟩ | refine env_ ?_)
 ·exact SLe.of_eq (congrArg (fun x => _ :: Bld b u x bb cap rest R) e0)
 obtain ⟨z,u,bb,cap,rest⟩ := z
 obtain ⟨hz,h1,h2⟩ := hz
 replace hz : z ≤ p.rules.length := hz
 replace h1 : (showDs p.decls ++ showRs (p.rules.take z)).length ≤ cap := h1
 replace h2 : rest.length = cap - (showDs p.decls ++ showRs (p.rules.take z)).length := h2
 have hR0 := hRl z
 have hR1 := hRl (z + 1)
 repeat first|refine go_ ?_|intro _
 refine AW_iff (z < p.rules.length) rfl ib_ (fun h => ?_) (fun h => ?_)
 ·have hlt := h
  obtain ⟨r,hd⟩ : ∃ x,x = p.rules[z] := ⟨_,rfl⟩
  have hm : r ∈ p.rules := hd ▸ List.getElem_mem hlt
  have kr : ∀ R,En.glob 1 [errE bE oE] ∈ R → NumG R → ACall Tryz.prog 30 [encRu r] R (fun v S => v = .tup [.str (showR r), .int .i64 0] ∧ S = R) := fun R hE hG => by
   have := showRuleB_ok bE oE r R hE (k2 r hm).1 (k2 r hm).2 (by have := showR_mem hm; omega) hG
   rwa [shownR_t (r4 r hm)] at this
  have e' : (showDs p.decls ++ showRs (p.rules.take z)) ++ (showR r ++ [10]) = showDs p.decls ++ showRs (p.rules.take (z + 1)) := by rw [showRs_take hlt hd,List.append_assoc]
  have el : (showDs p.decls ++ showRs (p.rules.take z)).length + (showR r ++ [10]).length = (showDs p.decls).length + (showRs (p.rules.take (z + 1))).length := by rw [← List.length_append,e',List.length_append]
  have el2 : (showR r ++ [10]).length = (showR r).length + 1 := by simp
  repeat first|refine go_ ?_|intro _
  refine at_get (z) (encRu r) (by first | rfl | omega | (rw [wrap_i64 (by omega)]; omega)) (by rw [List.getElem?_map,List.getElem?_eq_getElem hlt,hd]; rfl) ?_
  repeat first|refine go_ ?_|intro _
  refine Or.inl ⟨⟨_,Tryz.func30,rfl,rfl⟩,ACall.mono ?_ (kr _ (.tail _ (.tail _ (mem_bld hE))) (numG_bld hG).cons.cons)⟩
  rintro _ S1 ⟨rfl,hS1⟩
  subst S1
  repeat first|refine go_ ?_|intro _
  refine cat_ ?_
  repeat first|refine go_ ?_|intro _
  refine Or.inl ⟨⟨_,Tryz.func28,rfl,rfl⟩,ACall.mono ?_ (ACall_drop (SLe.tail bld_out) (writeString_ok b u (showDs p.decls ++ showRs (p.rules.take z)) bb cap rest (showR r ++ [10]) _ h1 h2 (by omega)))⟩
  rintro _ S1 ⟨rfl,bb,cap,rest,h1,h2,hS1⟩
  subst S1
  repeat first|refine go_ ?_|intro _
  refine ⟨((z + 1,true,bb,cap,rest) : Nat × Bool × Nat × Nat × List AV),?_,?_,weak_of ?_ rfl ?_⟩
  ·exact Nat.sub_lt_sub_left hlt (Nat.lt_succ_self z)
  ·exact ⟨hlt,e' ▸ h1,e' ▸ h2⟩
  ·exact e_
  ·exact SLe.trans bld_in (SLe.of_eq (congrArg (fun x => _ :: Bld b true x bb cap rest R) e'))
 have hz' : z = p.rules.length := by omega
 have hl : (showDs p.decls ++ showRs (p.rules.take z)).length ≤ 16777217 := by rw [List.length_append]; omega
 repeat first|refine go_ ?_|intro _
 refine Or.inl ⟨⟨_,Tryz.func31,rfl,rfl⟩,ACall.mono ?_ (ACall_drop bld_out (bldString_ok b u _ bb cap rest _ hl))⟩
 rintro _ S1 ⟨rfl,hS1⟩
 subst S1
 repeat first|refine go_ ?_|intro _
 refine AW_ret ?_
 repeat refine mk_ ?_
 refine ⟨_,R,AVle.eq ?_,sle_,rfl,rfl⟩
 rw [shownP_t hr]
 exact congrArg (fun s => AV.tup [.str s, .int .i64 0]) (show showDs p.decls ++ showRs (p.rules.take z) = _ by rw [hz',List.take_length,showP])
theorem tx_R {r : Ru} (h : okRu r) : txR r := ⟨txs_of _ h.1.1,fun l hl => ⟨txs_of _ (h.2 l hl).1.1,tx_of _ (h.2 l hl).2.1,tx_of _ (h.2 l hl).2.2⟩⟩
theorem showS_len {p : Pr} (hp : okS p) (hr : rightP p = true) : (showP p).length ≤ 16000000 := by
 obtain ⟨k1,k2,k3⟩ := hp
 obtain ⟨r1,_,r3,_⟩ := rightP_all hr
 have h1 := showDs_len p.decls fun d hd => ⟨k1 d hd,(rightD_all (r3 d hd)).2.2.1⟩
 have h2 := showRs_len p.rules k2
 rw [showP,List.length_append]
 omega
theorem showS_ok (bE oE : Nat) (p : Pr) (R : List En) (hE : En.glob 1 [errE bE oE] ∈ R) (hp : okS p) (hG : NumG R) : ACall Tryz.prog 13 [encP p] R (fun v S => v = shownP p ∧ S = R) :=
 showB_ok bE oE p R hE hp.1 (fun r hr => ⟨okR_of (by have := cntRs_at hr; have := hp.2.2; omega),tx_R (hp.2.1 r hr)⟩) (showS_len hp) hG
end Go.Proofs.YtfeknkaioofljaaGreatDoor
