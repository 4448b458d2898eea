/-
 The text of a part of a body. Own work.
-/
import Derived.Test.YtfeknkaioofljaaGreatDoorQ11
import Derived.Test.YtfeknkaioofljaaGreatDoorQ12
set_option linter.all false
set_option maxHeartbeats 4000000
set_option maxRecDepth 4000
namespace Go.Proofs.YtfeknkaioofljaaGreatDoor.Tree
open Go.Aw Go.RowKit
theorem lens_cnt : ∀ l : List Li,l.length ≤ cntLs l
 | [] => by simp
 | t :: r => by have := lens_cnt r; rw [cntLs]; simp only [List.length_cons,cntL]; omega
theorem okR_of {r : Ru} (hc : cntR r ≤ 3000) : okR r := by
 have h1 := len_cnt r.head.l
 have h2 := lens_cnt r.body
 unfold cntR at hc
 exact ⟨by omega,by omega⟩
def shownR (r : Ru) : AV := .tup [.str (if rightR r = true then showR r else []), .int .i64 (if rightR r = true then 0 else 30)]
theorem shownR_t {r : Ru} (h : rightR r = true) : shownR r = .tup [.str (showR r), .int .i64 0] := by rw [shownR,if_pos h,if_pos h]
theorem shownR_f {r : Ru} (h : rightR r = false) : shownR r = .tup [.str [], .int .i64 30] := by rw [shownR,if_neg (by rw [h]; simp),if_neg (by rw [h]; simp)]
theorem joinD_take (d : De) (z : Nat) (h : okDe d) (hr : d.names.length ≤ 8) : (Lib.join (((d.names.zip d.types).take z).map colD) [44,32]).length ≤ 9000 := by
 have h1 := cols_len ((d.names.zip d.types).take z) fun x hx => h.2 _ (List.of_mem_zip (List.mem_of_mem_take hx)).1
 have h2 := join_len (((d.names.zip d.types).take z).map colD) [44,32]
 have h5 : ((d.names.zip d.types).take z).length ≤ 8 := by rw [List.length_take,List.length_zip]; omega
 simp only [List.length_map,List.length_cons,List.length_nil] at h2
 omega
theorem colD_1 {s : List UInt8} {n : Int} (h : n = 1) : colD (s,n) = s ++ [58,32,110,117,109,98,101,114] := by rw [colD,if_pos h]
theorem colD_2 {s : List UInt8} {n : Int} (h : ¬ n = 1) : colD (s,n) = s ++ [58,32,115,121,109,98,111,108] := by rw [colD,if_neg h]
theorem showDecl_ok (d : De) (R : List En) (hd : rightD d = true) (hk : okDe d) : ACall Tryz.prog 29 [encD d] R (fun r S => r = .str (showD d) ∧ S = R) := by
 obtain ⟨_,_,d8,dt,dc⟩ := rightD_all hd
 have hj := fun z => joinD_take d z hk d8
 have hlr := hk.1
 have hzl : (d.names.zip d.types).length = d.names.length := by rw [List.length_zip]; omega
 refine ACall_body tab_ok Tryz.func29 rfl rfl rfl (by kernel_rfl) (nb_ rfl) ?_
 repeat first|refine go_ ?_|intro _
 rename_i p
 refine AW_for (α := Nat × Tk) (fun z => ⟨[(1, .ptr p 0),(3, .sl 1 ((((d.names.zip d.types).take z.1).map colD).map AV.str) z.2),(8, .sl 1 (d.names.map AV.str) .no),(9, .int .i64 (d.names.length : Nat)),(10, .int .i64 (z.1 : Nat))], []⟩) (fun z => .grow z.2 :: .cells p (cD d) :: R) (fun z => d.names.length - z.1) (fun z => z.1 ≤ d.names.length) ((0, .full)) ?_ (weak_of ?_ rfl ?_) (fun z hz => ?_)
 ·exact Nat.zero_le _
 ·repeat (first | exact trivial | refine ⟨(AVle.eq (congrArg (AV.int .i64) (by simp))),?_⟩ | refine env_ ?_)
 ·exact w_
 obtain ⟨z,tk⟩ := z
 replace hz : z ≤ d.names.length := hz
 repeat first|refine go_ ?_|intro _
 refine AW_iff (z < d.names.length) rfl ib_ (fun h => ?_) (fun h => ?_)
 ·have hlt := h
  have hlt2 : z < d.types.length := by omega
  have hlz : z < (d.names.zip d.types).length := by omega
  obtain ⟨s,hs⟩ : ∃ x,x = d.names[z] := ⟨_,rfl⟩
  obtain ⟨n,hn⟩ : ∃ x,x = d.types[z] := ⟨_,rfl⟩
  have hx : (s,n) = (d.names.zip d.types)[z] := by rw [List.getElem_zip,hs,hn]
  have hsl : s.length ≤ 1000 := hk.2 s (hs ▸ List.getElem_mem hlt)
  repeat first|refine go_ ?_|intro _
  refine at_get (z) (.str s) (by first | rfl | omega | (rw [wrap_i64 (by omega)]; omega)) (by rw [List.getElem?_map,List.getElem?_eq_getElem hlt,hs]; rfl) ?_
  repeat first|refine go_ ?_|intro _
  refine at_get (z) (encI n) (by first | rfl | omega | (rw [wrap_i64 (by omega)]; omega)) (by rw [List.getElem?_map,List.getElem?_eq_getElem hlt2,hn]; rfl) ?_
  repeat first|refine go_ ?_|intro _
  refine AW_iff (n = 1) rfl ib_ (fun h => ?_) (fun h => ?_)
  ·have h1 := h
   repeat first|refine go_ ?_|intro _
   refine cat_ ?_
   repeat first|refine go_ ?_|intro _
   refine ⟨room (by first | omega | (simp; done) | (simp; omega) | (simp at *; done) | (simp at *; omega)) rfl, .inl rfl, .inr (.inl ⟨rfl,0,rfl,(((d.names.zip d.types).take (z + 1)).map colD).map AV.str,by rw [take_snoc hlz hx,colD_1 h1,List.map_append]; rfl,fun t1 => ?_⟩)⟩
   repeat first|refine go_ ?_|intro _
   refine ⟨(z + 1,t1),?_,?_,weak_of ?_ rfl ?_⟩
   ·exact Nat.sub_lt_sub_left hlt (Nat.lt_succ_self z)
   ·exact hlt
   ·exact e_
   ·exact w_
  ·have h1 := h
   repeat first|refine go_ ?_|intro _
   refine cat_ ?_
   repeat first|refine go_ ?_|intro _
   refine ⟨room (by first | omega | (simp; done) | (simp; omega) | (simp at *; done) | (simp at *; omega)) rfl, .inl rfl, .inr (.inl ⟨rfl,0,rfl,(((d.names.zip d.types).take (z + 1)).map colD).map AV.str,by rw [take_snoc hlz hx,colD_2 h1,List.map_append]; rfl,fun t1 => ?_⟩)⟩
   repeat first|refine go_ ?_|intro _
   refine ⟨(z + 1,t1),?_,?_,weak_of ?_ rfl ?_⟩
   ·exact Nat.sub_lt_sub_left hlt (Nat.lt_succ_self z)
   ·exact hlt
   ·exact e_
   ·exact w_
 have hz' : z = d.names.length := by omega
 have hjz := hj z
 have kj := fun R => join_ok (((d.names.zip d.types).take z).map colD) [44,32] tk R (by rw [List.length_map,List.length_take]; omega) (by omega)
 have ej : Lib.join (((d.names.zip d.types).take z).map colD) [44,32] = Lib.join ((d.names.zip d.types).map colD) [44,32] := by rw [List.take_of_length_le (by omega)]
 have lj : (Lib.join ((d.names.zip d.types).map colD) [44,32]).length ≤ 9000 := ej ▸ hjz
 repeat first|refine go_ ?_|intro _
 refine AW_draw tab_ok mixed 9 (by first | rfl | kernel_rfl) ?_
 repeat first|refine go_ ?_|intro _
 refine cat_ ?_
 repeat first|refine go_ ?_|intro _
 refine cat_ ?_
 repeat first|refine go_ ?_|intro _
 apply call_step
 ·rfl
 ·exact Or.inl ⟨⟨_,Tryz.func69,rfl,rfl⟩,kj _⟩
 repeat first|refine go_ ?_|intro _
 refine cat_ ?_
 repeat first|refine go_ ?_|intro _
 refine cat_ ?_
 repeat first|refine go_ ?_|intro _
 refine AW_weak (weak_of (l := [(1, .ptr p 0),(39, .bool d.inp),(6, .str ([46,100,101,99,108,32] ++ (d.rel ++ ([40] ++ (Lib.join ((d.names.zip d.types).map colD) [44,32] ++ [41,10])))))]) (m := []) (S' := .cells p (cD d) :: R) ?_ rfl ?_) ?_
 ·repeat (first | exact trivial | refine ⟨(AVle.eq (congrArg AV.str (by rw [ej]; simp))),?_⟩ | refine env_ ?_)
 ·exact w_
 repeat first|refine go_ ?_|intro _
 refine AW_iff (d.inp) rfl ib_ (fun h => ?_) (fun h => ?_)
 ·have hi := h
  repeat first|refine go_ ?_|intro _
  refine cat_ ?_
  repeat first|refine go_ ?_|intro _
  refine cat_ ?_
  repeat first|refine go_ ?_|intro _
  refine cat_ ?_
  repeat first|refine go_ ?_|intro _
  refine AW_iff (d.out) rfl ib_ (fun h => ?_) (fun h => ?_)
  ·have ho := h
   repeat first|refine go_ ?_|intro _
   refine cat_ ?_
   repeat first|refine go_ ?_|intro _
   refine cat_ ?_
   repeat first|refine go_ ?_|intro _
   refine cat_ ?_
   repeat first|refine go_ ?_|intro _
   refine AW_ret ?_
   repeat refine mk_ ?_
   refine ⟨_,R,AVle.eq ?_,sle_,rfl,rfl⟩
   exact congrArg AV.str (show _ ++ (([46,111,117,116,112,117,116,32] ++ d.rel) ++ [10]) = showD d by rw [showD,inD,outD,hi,ho]; simp)
  ·have ho : d.out = false := by simpa using h
   repeat first|refine go_ ?_|intro _
   refine AW_ret ?_
   repeat refine mk_ ?_
   refine ⟨_,R,AVle.eq ?_,sle_,rfl,rfl⟩
   exact congrArg AV.str (show _ = showD d by rw [showD,inD,outD,hi,ho]; simp)
 ·have hi : d.inp = false := by simpa using h
  repeat first|refine go_ ?_|intro _
  refine AW_iff (d.out) rfl ib_ (fun h => ?_) (fun h => ?_)
  ·have ho := h
   repeat first|refine go_ ?_|intro _
   refine cat_ ?_
   repeat first|refine go_ ?_|intro _
   refine cat_ ?_
   repeat first|refine go_ ?_|intro _
   refine cat_ ?_
   repeat first|refine go_ ?_|intro _
   refine AW_ret ?_
   repeat refine mk_ ?_
   refine ⟨_,R,AVle.eq ?_,sle_,rfl,rfl⟩
   exact congrArg AV.str (show _ ++ (([46,111,117,116,112,117,116,32] ++ d.rel) ++ [10]) = showD d by rw [showD,inD,outD,hi,ho]; simp)
  ·have ho : d.out = false := by simpa using h
   repeat first|refine go_ ?_|intro _
   refine AW_ret ?_
   repeat refine mk_ ?_
   refine ⟨_,R,AVle.eq ?_,sle_,rfl,rfl⟩
   exact congrArg AV.str (show _ = showD d by rw [showD,inD,outD,hi,ho]; simp)
def shownP (p : Pr) : AV := .tup [.str (if rightP p = true then showP p else []), .int .i64 (if rightP p = true then 0 else 30)]
theorem shownP_t {r : Pr} (h : rightP r = true) : shownP r = .tup [.str (showP r), .int .i64 0] := by rw [shownP,if_pos h,if_pos h]
theorem shownP_f {r : Pr} (h : rightP r = false) : shownP r = .tup [.str [], .int .i64 30] := by rw [shownP,if_neg (by rw [h]; simp),if_neg (by rw [h]; simp)]
theorem rightP_all {p : Pr} (h : rightP p = true) : p.decls.length ≤ 60 ∧ p.rules.length ≤ 200 ∧ (∀ d ∈ p.decls,rightD d = true) ∧ ∀ r ∈ p.rules,rightR r = true := by
 unfold rightP at h
 simp only [Bool.and_eq_true,List.all_eq_true,Bool.not_eq_true',decide_eq_false_iff_not] at h
 exact ⟨by omega,by omega,h.2.2.1,h.2.2.2⟩
theorem showDs_take {l : List De} {d : De} {z : Nat} (h : z < l.length) (hx : d = l[z]) : showDs (l.take (z + 1)) = showDs (l.take z) ++ showD d := by
 rw [showDs,showDs,take_snoc h hx,List.flatten_append]; simp
theorem showRs_take {l : List Ru} {r : Ru} {z : Nat} (h : z < l.length) (hx : r = l[z]) : showRs (l.take (z + 1)) = showRs (l.take z) ++ (showR r ++ [10]) := by
 rw [showRs,showRs,take_snoc h hx,List.flatten_append]; simp
def okS (p : Pr) : Prop := (∀ d ∈ p.decls,okDe d) ∧ (∀ r ∈ p.rules,okRu r) ∧ cntRs p.rules ≤ 2000
theorem ACall_drop {f : FuncId} {args : List AV} {S S' : List En} {k : AV → List En → Prop} (hS : SLe S S') (hc : ACall Tryz.prog f args S' k) : ACall Tryz.prog f args S k := by
 unfold ACall at hc ⊢
 exact fun w0 K w vs hv h => hc w0 K w vs hv (hS _ _ _ h)
theorem mem_bld {b : Nat} {u : Bool} {s : List UInt8} {bb cap : Nat} {rest : List AV} {R : List En} {e : En} (h : e ∈ R) : e ∈ Bld b u s bb cap rest R := by
 cases s with
 | nil => exact .tail _ (.tail _ h)
 | cons => exact .tail _ (.tail _ (.tail _ (.tail _ h)))
theorem numG_bld {b : Nat} {u : Bool} {s : List UInt8} {bb cap : Nat} {rest : List AV} {R : List En} (h : NumG R) : NumG (Bld b u s bb cap rest R) := by
 cases s with
 | nil => exact h.cons.cons
 | cons => exact h.cons.cons.cons.cons
theorem bld_in {b : Nat} {u : Bool} {s : List UInt8} {bb cap : Nat} {rest : List AV} {R : List En} {e : En} : SLe (Bld b u s bb cap rest (e :: R)) (e :: Bld b u s bb cap rest R) := by
 cases s with
 | nil => exact fun _ _ _ h => h.perm (List.perm_middle (l₁ := [_,_])).symm
 | cons => exact fun _ _ _ h => h.perm (List.perm_middle (l₁ := [_,_,_,_])).symm
theorem bld_out {b : Nat} {u : Bool} {s : List UInt8} {bb cap : Nat} {rest : List AV} {R : List En} {e : En} : SLe (e :: Bld b u s bb cap rest R) (Bld b u s bb cap rest (e :: R)) := by
 cases s with
 | nil => exact fun _ _ _ h => h.perm (List.perm_middle (l₁ := [_,_]))
 | cons => exact fun _ _ _ h => h.perm (List.perm_middle (l₁ := [_,_,_,_]))
end Go.Proofs.YtfeknkaioofljaaGreatDoor.Tree
