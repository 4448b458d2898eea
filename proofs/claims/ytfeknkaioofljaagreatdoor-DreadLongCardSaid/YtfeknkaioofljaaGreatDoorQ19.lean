/-
 How a part goes on; aggregates. Own work.
-/
import Derived.Test.YtfeknkaioofljaaGreatDoorQ18
set_option linter.all false
set_option maxHeartbeats 4000000
set_option maxRecDepth 4000
namespace Go.Proofs.YtfeknkaioofljaaGreatDoor
open Go.Aw Go.RowKit Tree
open Lx (Tok)
def mapA : List (List UInt8 × AV) := [([99,111,117,110,116], .int .i64 7),([115,117,109], .int .i64 8),([109,105,110], .int .i64 9),([109,97,120], .int .i64 10)]
theorem mapA_ok (s : List UInt8) : ∃ b,mget s (.int .i64 0) mapA = (.int .i64 (aggOp s),b) := by
 by_cases h : [99,111,117,110,116] = s
 ·subst h; exact ⟨true,rfl⟩
 ·by_cases h2 : [115,117,109] = s
  ·subst h2; exact ⟨true,rfl⟩
  ·by_cases h3 : [109,105,110] = s
   ·subst h3; exact ⟨true,rfl⟩
   ·by_cases h4 : [109,97,120] = s
    ·subst h4; exact ⟨true,rfl⟩
    ·exact ⟨false,by rw [mapA,mget,if_neg h,mget,if_neg h2,mget,if_neg h3,mget,if_neg h4,mget,aggOp,if_neg (fun e => h e.symm),if_neg (fun e => h2 e.symm),if_neg (fun e => h3 e.symm),if_neg (fun e => h4 e.symm)]⟩
theorem how_ok (rp : Nat) (L : List Tok) (hL : L.length ≤ 20000) (ts : List Tok) (h : ts <:+ L) (R : List En) : ACall Tryz.prog 139 [.ptr rp 0] (RD rp L ts :: R) (fun r S => r = .int .i64 (howL' ts) ∧ S = RD rp L ts :: R) := by
 refine ACall_body tab_ok Tryz.func139 rfl rfl rfl (by kernel_rfl) (nb_ rfl) ?_
 repeat first|refine go_ ?_|intro _
 refine Or.inl ⟨⟨_,Tryz.func51,rfl,rfl⟩,ACall.mono ?_ (ACall_same 0 rfl (ahead_ok rp L ts 1 h hL (by decide)))⟩
 rintro _ S1 ⟨rfl,hS1⟩
 subst S1
 repeat first|refine gr_ ?_|intro _
 rename_i b3
 refine AW_weak (weak_of (l := [(0, .ptr rp 0),(3, .ptr b3 0)]) (m := []) (S' := .cells b3 [.int .i64 (hd ts 1).kind, .str (hd ts 1).s, .int .i64 (hd ts 1).line] :: RD rp L ts :: R) e_ rfl w_) ?_
 repeat first|refine go_ ?_|intro _
 refine Or.inl ⟨⟨_,Tryz.func51,rfl,rfl⟩,ACall.mono ?_ (ACall_same 1 rfl (ahead_ok rp L ts 0 h hL (by decide)))⟩
 rintro _ S1 ⟨rfl,hS1⟩
 subst S1
 repeat first|refine go_ ?_|intro _
 refine Or.inl ⟨⟨_,Tryz.func137,rfl,rfl⟩,ACall.mono ?_ (isSign_ok (hd ts 0) [61] _)⟩
 rintro _ S1 ⟨rfl,hS1⟩
 subst S1
 repeat first|refine go_ ?_|intro _
 by_cases hs : signB (hd ts 0) [61] = true
 rotate_left
 ·refine known_true (b := !signB (hd ts 0) [61]) (by simpa using hs) ?_
  repeat first|refine ga_ ?_|intro _
  refine AW_ret ?_
  refine ⟨.int .i64 (howL' ts),RD rp L ts :: R,AVle.eq ?_,sle_,rfl,rfl⟩
  rw [howL',if_neg (fun hh => hs hh.1)]; rfl
 refine known_false (b := !signB (hd ts 0) [61]) (by rw [hs]; rfl) ?_
 repeat first|refine go_ ?_|intro _
 by_cases hk : (hd ts 1).kind = 1
 rotate_left
 ·refine AW_true (b := !decide ((hd ts 1).kind = 1)) rfl (by rw [decide_eq_false hk]; rfl) ?_
  repeat first|refine ga_ ?_|intro _
  refine AW_ret ?_
  refine ⟨.int .i64 (howL' ts),RD rp L ts :: R,AVle.eq ?_,sle_,rfl,rfl⟩
  rw [howL',if_neg (fun hh => hk hh.2)]; rfl
 refine AW_false (b := !decide ((hd ts 1).kind = 1)) rfl (by rw [hk]; rfl) ?_
 refine AW_weak (weak_of (l := [(0, .ptr rp 0),(3, .ptr b3 0)]) (m := []) (S' := .cells b3 [.int .i64 (hd ts 1).kind, .str (hd ts 1).s, .int .i64 (hd ts 1).line] :: RD rp L ts :: R) e_ rfl w_) ?_
 repeat first|refine go_ ?_|intro _
 rename_i b7
 refine ⟨_,_,0,_,rfl,rfl,rfl,mapA.take 1,rfl,?_⟩
 repeat first|refine go_ ?_|intro _
 refine ⟨_,_,0,_,rfl,rfl,rfl,mapA.take 2,rfl,?_⟩
 repeat first|refine go_ ?_|intro _
 refine ⟨_,_,0,_,rfl,rfl,rfl,mapA.take 3,rfl,?_⟩
 repeat first|refine go_ ?_|intro _
 refine ⟨_,_,0,_,rfl,rfl,rfl,mapA,rfl,?_⟩
 repeat first|refine go_ ?_|intro _
 obtain ⟨mbb,hmg⟩ := mapA_ok (hd ts 1).s
 refine ⟨_,_,_,0,_,rfl,rfl,zero_int,rfl,(.int .i64 (aggOp (hd ts 1).s),mbb),hmg,?_⟩
 repeat first|refine gr_ ?_|intro _
 obtain ⟨op,hop⟩ : ∃ op,op = aggOp (hd ts 1).s := ⟨_,rfl⟩
 have hH : howL' ts = (if op = 7 ∧ signB (hd ts 2) [58] = true ∨ 7 < op ∧ nameT (hd ts 2) = true ∧ signB (hd ts 3) [58] = true then op else 0) := by rw [howL',if_pos ⟨hs,hk⟩, ← hop]
 rw [← hop]
 refine AW_weak (weak_of (l := [(0, .ptr rp 0),(4, .int .i64 op)]) (m := []) (S' := RD rp L ts :: R) e_ rfl w_) ?_
 repeat first|refine go_ ?_|intro _
 by_cases h7 : op = 7
 ·refine known_true (b := decide (op = 7)) (by exact decide_eq_true h7) ?_
  repeat first|refine go_ ?_|intro _
  refine Or.inl ⟨⟨_,Tryz.func51,rfl,rfl⟩,ACall.mono ?_ (ACall_same 0 rfl (ahead_ok rp L ts 2 h hL (by decide)))⟩
  rintro _ S1 ⟨rfl,hS1⟩
  subst S1
  repeat first|refine go_ ?_|intro _
  refine Or.inl ⟨⟨_,Tryz.func137,rfl,rfl⟩,ACall.mono ?_ (isSign_ok (hd ts 2) [58] _)⟩
  rintro _ S1 ⟨rfl,hS1⟩
  subst S1
  repeat first|refine go_ ?_|intro _
  by_cases hc : signB (hd ts 2) [58] = true
  ·refine AW_true (b := signB (hd ts 2) [58]) rfl (by exact hc) ?_
   repeat first|refine ga_ ?_|intro _
   refine AW_ret ?_
   refine ⟨.int .i64 (howL' ts),RD rp L ts :: R,AVle.eq ?_,sle_,rfl,rfl⟩
   rw [hH,if_pos (.inl ⟨h7,hc⟩)]; rfl
  ·refine AW_false (b := signB (hd ts 2) [58]) rfl (by simpa using hc) ?_
   repeat first|refine go_ ?_|intro _
   refine known_false (b := decide (7 < op)) (by exact decide_eq_false (by omega)) ?_
   repeat first|refine ga_ ?_|intro _
   refine AW_ret ?_
   refine ⟨.int .i64 (howL' ts),RD rp L ts :: R,AVle.eq ?_,sle_,rfl,rfl⟩
   rw [hH,if_neg (fun hh => hh.elim (fun a => hc a.2) (fun a => by omega))]; rfl
 ·refine known_false (b := decide (op = 7)) (by exact decide_eq_false h7) ?_
  repeat first|refine ga_ ?_|intro _
  by_cases h8 : 7 < op
  rotate_left
  ·refine known_false (b := decide (7 < op)) (by exact decide_eq_false h8) ?_
   repeat first|refine ga_ ?_|intro _
   refine AW_ret ?_
   refine ⟨.int .i64 (howL' ts),RD rp L ts :: R,AVle.eq ?_,sle_,rfl,rfl⟩
   rw [hH,if_neg (fun hh => hh.elim (fun a => h7 a.1) (fun a => h8 a.1))]; rfl
  ·refine known_true (b := decide (7 < op)) (by exact decide_eq_true h8) ?_
   repeat first|refine go_ ?_|intro _
   refine Or.inl ⟨⟨_,Tryz.func51,rfl,rfl⟩,ACall.mono ?_ (ACall_same 0 rfl (ahead_ok rp L ts 2 h hL (by decide)))⟩
   rintro _ S1 ⟨rfl,hS1⟩
   subst S1
   repeat first|refine go_ ?_|intro _
   refine Or.inl ⟨⟨_,Tryz.func99,rfl,rfl⟩,ACall.mono ?_ (isName_ok (hd ts 2) _)⟩
   rintro _ S1 ⟨rfl,hS1⟩
   subst S1
   repeat first|refine go_ ?_|intro _
   by_cases hn : nameT (hd ts 2) = true
   rotate_left
   ·refine known_false (b := nameT (hd ts 2)) (by simpa using hn) ?_
    repeat first|refine ga_ ?_|intro _
    refine AW_ret ?_
    refine ⟨.int .i64 (howL' ts),RD rp L ts :: R,AVle.eq ?_,sle_,rfl,rfl⟩
    rw [hH,if_neg (fun hh => hh.elim (fun a => h7 a.1) (fun a => hn a.2.1))]; rfl
   ·refine known_true (b := nameT (hd ts 2)) (by exact hn) ?_
    repeat first|refine go_ ?_|intro _
    refine Or.inl ⟨⟨_,Tryz.func51,rfl,rfl⟩,ACall.mono ?_ (ACall_same 0 rfl (ahead_ok rp L ts 3 h hL (by decide)))⟩
    rintro _ S1 ⟨rfl,hS1⟩
    subst S1
    repeat first|refine go_ ?_|intro _
    refine Or.inl ⟨⟨_,Tryz.func137,rfl,rfl⟩,ACall.mono ?_ (isSign_ok (hd ts 3) [58] _)⟩
    rintro _ S1 ⟨rfl,hS1⟩
    subst S1
    repeat first|refine go_ ?_|intro _
    by_cases hc : signB (hd ts 3) [58] = true
    ·refine AW_true (b := signB (hd ts 3) [58]) rfl (by exact hc) ?_
     repeat first|refine ga_ ?_|intro _
     refine AW_ret ?_
     refine ⟨.int .i64 (howL' ts),RD rp L ts :: R,AVle.eq ?_,sle_,rfl,rfl⟩
     rw [hH,if_pos (.inr ⟨h8,hn,hc⟩)]; rfl
    ·refine AW_false (b := signB (hd ts 3) [58]) rfl (by simpa using hc) ?_
     repeat first|refine ga_ ?_|intro _
     refine AW_ret ?_
     refine ⟨.int .i64 (howL' ts),RD rp L ts :: R,AVle.eq ?_,sle_,rfl,rfl⟩
     rw [hH,if_neg (fun hh => hh.elim (fun a => h7 a.1) (fun a => hc a.2.2))]; rfl
def stG (rp b3 b8 : Nat) (op : Int) (x y : T) (a : At) : List En := [.cells b3 [.ptr rp 0], .cells b8 (cL ⟨op,a,x,y⟩)]
theorem aggWhat_ok (rp : Nat) (L : List Tok) (hL : L.length ≤ 20000) (hN : NumT L) (F : Nat) (hF : L.length ≤ F) (b3 b8 : Nat) (op : Int) (x y : T) (a0 : At) : WhatOk rp L 165 [] [.ptr b3 0, .ptr b8 0] (atomL F) (fun a : At => a) (stG rp b3 b8 op x y) a0 := by
 refine ⟨⟨_,Tryz.func165,rfl,rfl⟩,?_⟩
 intro ts R hts hG
 show ACall Tryz.prog 165 [.ptr b3 0, .ptr b8 0] (RD rp L ts :: .cells b3 [.ptr rp 0] :: .cells b8 (cL ⟨op,a0,x,y⟩) :: R) _
 refine ACall_body tab_ok Tryz.func165 rfl rfl rfl (by kernel_rfl) (nb_ rfl) ?_
 repeat first|refine go_ ?_|intro _
 refine Or.inl ⟨⟨_,Tryz.func100,rfl,rfl⟩,ACall.mono ?_ (ACall_at 0 rfl (atom_ok rp L hL hN F hF ts hts _ hG.cons.cons))⟩
 rintro _ S1 ⟨e,hS1,hq⟩
 subst S1
 obtain ⟨a,ts1,o,rfl,hs1,rfl,ho⟩ := hq.cases (fun v r' h2 => (eats_atom F _ _ _ h2).1.trans hts)
 repeat first|refine gr_ ?_|intro _
 rename_i b9
 refine AW_weak (weak_of (l := [(0, .ptr b3 0),(1, .ptr b8 0),(3, .ptr b9 0),(4,errO o)]) (m := []) (S' := .cells b9 (cA a) :: RD rp L ts1 :: .cells b3 [.ptr rp 0] :: .cells b8 (cL ⟨op,a0,x,y⟩) :: R) e_ rfl w_) ?_
 repeat first|refine go_ ?_|intro _
 refine AW_ret ?_
 exact ⟨errO o,RD rp L ts1 :: (stG rp b3 b8 op x y a ++ R),AVle.refl _,sle_,a,ts1,o,rfl,rfl,hs1,ho⟩
theorem leG {op : Int} {x : T} : AVleL [.int .i64 op, .str [], .sl 0 [] .full, .int .i64 x.op, .str x.s, .int .i64 x.n, .sl 4 (encTs x.l) .no, .int .i64 0, .str [], .int .i64 0, .sl 0 [] .full] (cL ⟨op,zeroA,x,zeroT⟩) :=
 ⟨AVle.refl _,AVle.refl _,AVle.nil,AVle.refl _,AVle.refl _,AVle.refl _,AVle.refl _,AVle.refl _,AVle.refl _,AVle.refl _,AVle.nil,trivial⟩
theorem leG1 {op : Int} {x : T} {s : List UInt8} : AVleL [.int .i64 op, .str [], .sl 4 (encTs []) .no, .int .i64 x.op, .str x.s, .int .i64 x.n, .sl 4 (encTs x.l) .no, .int .i64 1, .str s, .int .i64 0, .sl 0 [] .full] (cL ⟨op,zeroA,x, .mk 1 s 0 []⟩) :=
 ⟨AVle.refl _,AVle.refl _,AVle.refl _,AVle.refl _,AVle.refl _,AVle.refl _,AVle.refl _,AVle.refl _,AVle.refl _,AVle.refl _,AVle.nil,trivial⟩
def zeroLi : Li := ⟨0,zeroA,zeroT,zeroT⟩
theorem cL_one (l : Li) : (cL l).all AV.one = true := rfl
theorem leG0 : AVle (.agg [.int .i64 0, .str [], .sl 0 [] .full, .int .i64 0, .str [], .int .i64 0, .sl 0 [] .full, .int .i64 0, .str [], .int .i64 0, .sl 0 [] .full]) (encL zeroLi) :=
 AVle.agg (bs := cL zeroLi) ⟨AVle.refl _,AVle.refl _,AVle.nil,AVle.refl _,AVle.refl _,AVle.refl _,AVle.nil,AVle.refl _,AVle.refl _,AVle.refl _,AVle.nil,trivial⟩ (List.all_eq_true.1 (cL_one _))
theorem RD_at {rp : Nat} {L ts : List Tok} (h : ts <:+ L) (n : Nat) (hn : n ≤ ts.length) (hL : L.length ≤ 20000) : RD rp L (ts.drop n) = .cells rp [.sl 3 (L.map Lx.encT) .no, .int .i64 (IntKind.i64.wrap (((L.length - ts.length : Nat) : Int) + (n : Nat)))] := by
 have := h.length_le
 rw [wrap_i64 (by omega),RD,List.length_drop]
 have : ((L.length - (ts.length - n) : Nat) : Int) = ((L.length - ts.length : Nat) : Int) + (n : Nat) := by omega
 rw [this]
theorem how_cases {ts : List Tok} {op : Int} (h : howL' ts = op) (h0 : op ≠ 0) : (op = 7 ∧ signB (hd ts 2) [58] = true) ∨ (op ≠ 7 ∧ nameT (hd ts 2) = true ∧ signB (hd ts 3) [58] = true) := by
 rw [howL'] at h
 split at h
 ·split at h
  ·rename_i hh
   subst h
   rcases hh with hh | ⟨h1,h2,h3⟩
   ·exact .inl hh
   ·exact .inr ⟨by omega,h2,h3⟩
  ·exact absurd h.symm h0
 ·exact absurd h.symm h0
theorem hd_drop (ts : List Tok) (n m : Nat) : hd (ts.drop n) m = hd ts (n + m) := by rw [hd,hd,List.getElem?_drop]
theorem takes_drop {ts : List Tok} {n : Nat} {s : List UInt8} (h : signB (hd ts n) s = true) : takesL s (ts.drop n) = some (ts.drop (n + 1)) ∧ n < ts.length := by
 have hk : (hd ts n).kind ≠ 0 := by
  rw [signB,Bool.and_eq_true,decide_eq_true_eq] at h; rw [h.1]; decide
 have hn := hd_kind hk
 have e : ts.drop n = ts[n] :: ts.drop (n + 1) := (List.getElem_cons_drop hn).symm
 rw [e,takesL,if_pos (by rw [← hd_get hn]; exact h)]
 exact ⟨rfl,hn⟩
theorem aggregate_ok (rp : Nat) (L : List Tok) (hL : L.length ≤ 20000) (hN : NumT L) (F : Nat) (hF : L.length ≤ F) (ts : List Tok) (h : ts <:+ L) (op : Int) (x : T) (hop : howL' ts = op) (h0 : op ≠ 0) (R : List En) (hG : NumG R) : ACall Tryz.prog 140 [.ptr rp 0, .int .i64 op,encU x] (RD rp L ts :: R) (fun r S => ∃ e,S = e :: R ∧ QT rp L encL (aggL F op x ts) r e) := by
 have hA := how_cases hop h0
 refine ACall_body tab_ok Tryz.func140 rfl rfl rfl (by kernel_rfl) (nb_ rfl) ?_
 repeat refine rg_ ?_
 refine AW_region tab_ok ?_
 repeat first|refine gr_ ?_|intro _
 rename_i b3 b5 b6
 refine AW_weak (weak_of (l := [(1, .int .i64 op),(3, .ptr b3 0),(5, .ptr b5 0),(6, .ptr b6 0)]) (m := []) (S' := .cells b6 [.int .i64 0, .str [], .sl 0 [] .full, .int .i64 0, .str [], .int .i64 0, .sl 0 [] .full, .int .i64 0, .str [], .int .i64 0, .sl 0 [] .full] :: .cells b5 (cT x) :: .cells b3 [.ptr rp 0] :: RD rp L ts :: R) e_ rfl w_) ?_
 by_cases hx : x.op ≠ 1 ∧ x.op ≠ 2
 ·repeat first|refine go_ ?_|intro _
  refine known_true (b := !decide (x.op = 1)) (by rw [decide_eq_false hx.1]; rfl) ?_
  repeat first|refine go_ ?_|intro _
  refine AW_true (b := !decide (x.op = 2)) rfl (by rw [decide_eq_false hx.2]; rfl) ?_
  repeat first|refine go_ ?_|intro _
  refine Or.inl ⟨⟨_,Tryz.func98,rfl,rfl⟩,ACall.mono ?_ (ACall_same 3 rfl (stop_ok rp L ts h hL))⟩
  rintro _ S1 ⟨rfl,hS1⟩
  subst S1
  repeat first|refine go_ ?_|intro _
  refine AW_ret ?_
  refine ⟨rfl,0,_,rfl,⟨nb_ rfl,nb_ rfl⟩, .tup [encL zeroLi,faultE (40,(hd ts 0).line)],RD rp L ts :: R,le2 leG0,sle_,_,rfl,?_⟩
  rw [aggL,if_pos hx]
  exact ⟨zeroLi,ts,rfl,h,rfl⟩
 refine AW_cut1 (α := Unit) (fun z => ⟨[(1, .int .i64 op),(3, .ptr b3 0),(5, .ptr b5 0),(6, .ptr b6 0)], []⟩) (fun z => .cells b6 [.int .i64 0, .str [], .sl 0 [] .full, .int .i64 0, .str [], .int .i64 0, .sl 0 [] .full, .int .i64 0, .str [], .int .i64 0, .sl 0 [] .full] :: .cells b5 (cT x) :: .cells b3 [.ptr rp 0] :: RD rp L ts :: R) (fun z => True) ?_ (fun z hz => ?_)
 ·repeat first|refine go_ ?_|intro _
  by_cases h1 : x.op = 1
  ·refine known_false (b := !decide (x.op = 1)) (by rw [h1]; rfl) ?_
   repeat first|refine ga_ ?_|intro _
   refine ⟨(),?_,weak_of ?_ rfl ?_⟩
   ·trivial
   ·exact e_
   ·exact w_
  ·have h2 : x.op = 2 := Decidable.not_not.1 fun h2 => hx ⟨h1,h2⟩
   refine known_true (b := !decide (x.op = 1)) (by rw [decide_eq_false h1]; rfl) ?_
   repeat first|refine go_ ?_|intro _
   refine AW_false (b := !decide (x.op = 2)) rfl (by rw [h2]; rfl) ?_
   repeat first|refine ga_ ?_|intro _
   refine ⟨(),?_,weak_of ?_ rfl ?_⟩
   ·trivial
   ·exact e_
   ·exact w_
 clear hz z
 have hl2 : 2 ≤ ts.length := by
  rcases hA with hA | hA
  ·have := (takes_drop hA.2).2; omega
  ·have := (takes_drop hA.2.2).2; omega
 repeat refine rg_ ?_
 refine AW_region tab_ok ?_
 repeat first|refine gr_ ?_|intro _
 rename_i b8
 refine AW_weak (weak_of (l := [(1, .int .i64 op),(3, .ptr b3 0),(6, .ptr b6 0),(8, .ptr b8 0)]) (m := []) (S' := .cells b8 (cL ⟨op,zeroA,x,zeroT⟩) :: .cells b6 [.int .i64 0, .str [], .sl 0 [] .full, .int .i64 0, .str [], .int .i64 0, .sl 0 [] .full, .int .i64 0, .str [], .int .i64 0, .sl 0 [] .full] :: .cells b5 (cT x) :: .cells b3 [.ptr rp 0] :: RD rp L ts :: R) ?_ rfl (SW.le (SW.cells leG (cL_one _) SW.nil))) ?_
 ·exact e_
 repeat refine rg_ ?_
 refine AW_region tab_ok ?_
 repeat first|refine gr_ ?_|intro _
 refine AW_weak (weak_of (l := [(1, .int .i64 op),(3, .ptr b3 0),(6, .ptr b6 0),(8, .ptr b8 0)]) (m := []) (S' := RD rp L (ts.drop 2) :: .cells b3 [.ptr rp 0] :: .cells b8 (cL ⟨op,zeroA,x,zeroT⟩) :: .cells b6 [.int .i64 0, .str [], .sl 0 [] .full, .int .i64 0, .str [], .int .i64 0, .sl 0 [] .full, .int .i64 0, .str [], .int .i64 0, .sl 0 [] .full] :: R) ?_ rfl ((fun w0 K w h9 => by rw [RD_at h 2 hl2 hL]; exact (h9.sub (.cons_cons _ (.cons_cons _ (.cons _ (List.Sublist.refl _))))).perm (by repeat (first | exact List.Perm.refl _ | refine perm_pick 0 rfl ?_ | refine perm_pick 1 rfl ?_ | refine perm_pick 2 rfl ?_ | refine perm_pick 3 rfl ?_))))) ?_
 ·exact e_
 repeat first|refine go_ ?_|intro _
 rcases hA with ⟨h7,hc⟩ | ⟨h7,hn,hc⟩
 ·refine AW_false (b := !decide (op = 7)) rfl (by rw [h7]; rfl) ?_
  repeat first|refine go_ ?_|intro _
  refine Or.inl ⟨⟨_,Tryz.func102,rfl,rfl⟩,ACall.mono ?_ (ACall_at 0 rfl (takes_yes rp L (ts.drop 2) (ts.drop 3) [58] ((List.drop_suffix _ _).trans h) hL (takes_drop hc).1 _))⟩
  rintro _ S1 ⟨e,hS1,rfl,rfl⟩
  subst S1
  repeat first|refine gr_ ?_|intro _
  refine AW_weak (weak_of (l := [(3, .ptr b3 0),(6, .ptr b6 0),(8, .ptr b8 0)]) (m := []) (S' := RD rp L (ts.drop 3) :: .cells b3 [.ptr rp 0] :: .cells b8 (cL ⟨op,zeroA,x,zeroT⟩) :: .cells b6 [.int .i64 0, .str [], .sl 0 [] .full, .int .i64 0, .str [], .int .i64 0, .sl 0 [] .full, .int .i64 0, .str [], .int .i64 0, .sl 0 [] .full] :: R) e_ rfl w_) ?_
  repeat first|refine go_ ?_|intro _
  refine Or.inl ⟨⟨_,Tryz.func93,rfl,rfl⟩,ACall.mono ?_ (within_ok rp L hL (atomL F) (fun a : At => a) (stG rp b3 b8 op x (zeroT)) [123] [125] _ _ _ zeroA (aggWhat_ok rp L hL hN F hF b3 b8 op x (zeroT) zeroA) (ts.drop 3) (.cells b6 [.int .i64 0, .str [], .sl 0 [] .full, .int .i64 0, .str [], .int .i64 0, .sl 0 [] .full, .int .i64 0, .str [], .int .i64 0, .sl 0 [] .full] :: R) ((List.drop_suffix _ _).trans h) (NumG.cons hG))⟩
  rintro _ S1 ⟨a,ts2,o,rfl,hS1,hs2,ho2⟩
  subst S1
  repeat first|refine gr_ ?_|intro _
  refine AW_weak (weak_of (l := [(6, .ptr b6 0),(8, .ptr b8 0),(11,errO o)]) (m := []) (S' := .cells b3 [.ptr rp 0] :: .cells b8 (cL ⟨op,a,x,zeroT⟩) :: .cells b6 [.int .i64 0, .str [], .sl 0 [] .full, .int .i64 0, .str [], .int .i64 0, .sl 0 [] .full, .int .i64 0, .str [], .int .i64 0, .sl 0 [] .full] :: RD rp L ts2 :: R) ?_ rfl (fun w0 K w h => h.perm (by repeat (first | exact List.Perm.refl _ | refine perm_pick 0 rfl ?_ | refine perm_pick 1 rfl ?_ | refine perm_pick 2 rfl ?_ | refine perm_pick 3 rfl ?_ | refine perm_pick 4 rfl ?_ | refine perm_pick 5 rfl ?_ | refine perm_pick 6 rfl ?_ | refine perm_pick 7 rfl ?_)))) ?_
  ·exact e_
  repeat first|refine go_ ?_|intro _
  refine AW_ret ?_
  refine ⟨rfl,2,_,rfl,⟨nb_ rfl,nb_ rfl⟩, .tup [encL ⟨op,a,x,zeroT⟩,errO o],RD rp L ts2 :: R,AVle.refl _,sle_,_,rfl,QT.of hs2 ?_⟩
  have e : aggL F op x ts = (match withinL [123] [125] (atomL F) (ts.drop 3) with | .error e => .error e | .ok (a,r) => .ok (⟨op,a,x,zeroT⟩,r)) := by rw [aggL,if_neg hx,if_pos h7,if_pos h7]; rfl
  rw [e]
  cases o with
  | some q => rw [show withinL [123] [125] (atomL F) (ts.drop 3) = .error q from ho2]; rfl
  | none => rw [show withinL [123] [125] (atomL F) (ts.drop 3) = .ok (a,ts2) from ho2]; rfl
 ·have h3 := takes_drop hc
  refine AW_true (b := !decide (op = 7)) rfl (by rw [decide_eq_false h7]; rfl) ?_
  repeat first|refine go_ ?_|intro _
  have hnp : nameP (ts.drop 2) = .ok ((hd ts 2).s,ts.drop 3) := by rw [nameP,hd_drop,if_pos hn,List.tail_drop]
  refine Or.inl ⟨⟨_,Tryz.func92,rfl,rfl⟩,ACall.mono ?_ (ACall_at 0 rfl (rName_ok rp L (ts.drop 2) ((List.drop_suffix _ _).trans h) hL _))⟩
  rintro _ S1 ⟨e,hS1,hq⟩
  subst S1
  rw [hnp] at hq
  obtain ⟨rfl,rfl⟩ := hq
  repeat first|refine gr_ ?_|intro _
  refine AW_weak (weak_of (l := [(3, .ptr b3 0),(6, .ptr b6 0),(8, .ptr b8 0),(9, .str (hd ts 2).s)]) (m := []) (S' := RD rp L (ts.drop 3) :: .cells b3 [.ptr rp 0] :: .cells b8 (cL ⟨op,zeroA,x,zeroT⟩) :: .cells b6 [.int .i64 0, .str [], .sl 0 [] .full, .int .i64 0, .str [], .int .i64 0, .sl 0 [] .full, .int .i64 0, .str [], .int .i64 0, .sl 0 [] .full] :: R) e_ rfl w_) ?_
  repeat refine rg_ ?_
  refine AW_region tab_ok ?_
  repeat first|refine gr_ ?_|intro _
  refine AW_weak (weak_of (l := [(3, .ptr b3 0),(6, .ptr b6 0),(8, .ptr b8 0)]) (m := []) (S' := RD rp L (ts.drop 3) :: .cells b3 [.ptr rp 0] :: .cells b8 (cL ⟨op,zeroA,x, .mk 1 (hd ts 2).s 0 []⟩) :: .cells b6 [.int .i64 0, .str [], .sl 0 [] .full, .int .i64 0, .str [], .int .i64 0, .sl 0 [] .full, .int .i64 0, .str [], .int .i64 0, .sl 0 [] .full] :: R) ?_ rfl (SW.le (SW.cons (SW.cons (SW.cells leG1 (cL_one _) SW.nil))))) ?_
  ·exact e_
  repeat first|refine go_ ?_|intro _
  refine Or.inl ⟨⟨_,Tryz.func102,rfl,rfl⟩,ACall.mono ?_ (ACall_at 0 rfl (takes_yes rp L (ts.drop 3) (ts.drop 4) [58] ((List.drop_suffix _ _).trans h) hL h3.1 _))⟩
  rintro _ S1 ⟨e,hS1,rfl,rfl⟩
  subst S1
  repeat first|refine gr_ ?_|intro _
  refine AW_weak (weak_of (l := [(3, .ptr b3 0),(6, .ptr b6 0),(8, .ptr b8 0)]) (m := []) (S' := RD rp L (ts.drop 4) :: .cells b3 [.ptr rp 0] :: .cells b8 (cL ⟨op,zeroA,x,(.mk 1 (hd ts 2).s 0 [])⟩) :: .cells b6 [.int .i64 0, .str [], .sl 0 [] .full, .int .i64 0, .str [], .int .i64 0, .sl 0 [] .full, .int .i64 0, .str [], .int .i64 0, .sl 0 [] .full] :: R) e_ rfl w_) ?_
  repeat first|refine go_ ?_|intro _
  refine Or.inl ⟨⟨_,Tryz.func93,rfl,rfl⟩,ACall.mono ?_ (within_ok rp L hL (atomL F) (fun a : At => a) (stG rp b3 b8 op x ((.mk 1 (hd ts 2).s 0 []))) [123] [125] _ _ _ zeroA (aggWhat_ok rp L hL hN F hF b3 b8 op x ((.mk 1 (hd ts 2).s 0 [])) zeroA) (ts.drop 4) (.cells b6 [.int .i64 0, .str [], .sl 0 [] .full, .int .i64 0, .str [], .int .i64 0, .sl 0 [] .full, .int .i64 0, .str [], .int .i64 0, .sl 0 [] .full] :: R) ((List.drop_suffix _ _).trans h) (NumG.cons hG))⟩
  rintro _ S1 ⟨a,ts2,o,rfl,hS1,hs2,ho2⟩
  subst S1
  repeat first|refine gr_ ?_|intro _
  refine AW_weak (weak_of (l := [(6, .ptr b6 0),(8, .ptr b8 0),(11,errO o)]) (m := []) (S' := .cells b3 [.ptr rp 0] :: .cells b8 (cL ⟨op,a,x,(.mk 1 (hd ts 2).s 0 [])⟩) :: .cells b6 [.int .i64 0, .str [], .sl 0 [] .full, .int .i64 0, .str [], .int .i64 0, .sl 0 [] .full, .int .i64 0, .str [], .int .i64 0, .sl 0 [] .full] :: RD rp L ts2 :: R) ?_ rfl (fun w0 K w h => h.perm (by repeat (first | exact List.Perm.refl _ | refine perm_pick 0 rfl ?_ | refine perm_pick 1 rfl ?_ | refine perm_pick 2 rfl ?_ | refine perm_pick 3 rfl ?_ | refine perm_pick 4 rfl ?_ | refine perm_pick 5 rfl ?_ | refine perm_pick 6 rfl ?_ | refine perm_pick 7 rfl ?_)))) ?_
  ·exact e_
  repeat first|refine go_ ?_|intro _
  refine AW_ret ?_
  refine ⟨rfl,2,_,rfl,⟨nb_ rfl,nb_ rfl⟩, .tup [encL ⟨op,a,x,(.mk 1 (hd ts 2).s 0 [])⟩,errO o],RD rp L ts2 :: R,AVle.refl _,sle_,_,rfl,QT.of hs2 ?_⟩
  have e : aggL F op x ts = (match withinL [123] [125] (atomL F) (ts.drop 4) with | .error e => .error e | .ok (a,r) => .ok (⟨op,a,x,(.mk 1 (hd ts 2).s 0 [])⟩,r)) := by rw [aggL,if_neg hx,if_neg h7,if_neg h7]; rfl
  rw [e]
  cases o with
  | some q => rw [show withinL [123] [125] (atomL F) (ts.drop 4) = .error q from ho2]; rfl
  | none => rw [show withinL [123] [125] (atomL F) (ts.drop 4) = .ok (a,ts2) from ho2]; rfl
end Go.Proofs.YtfeknkaioofljaaGreatDoor
