/-
 What is held against what. Own work.
-/
import Derived.Test.YtfeknkaioofljaaGreatDoorQ19
set_option linter.all false
set_option maxHeartbeats 4000000
set_option maxRecDepth 4000
namespace Go.Proofs.YtfeknkaioofljaaGreatDoor
open Go.Aw Go.RowKit Tree
open Lx (Tok)
def mapR : List (List UInt8 × AV) := [([61], .int .i64 3),([33,61], .int .i64 4),([60], .int .i64 5),([62], .int .i64 5),([60,61], .int .i64 6),([62,61], .int .i64 6)]
theorem mapR_ok (s : List UInt8) : ∃ b,mget s (.int .i64 0) mapR = (.int .i64 (relOp s),b) := by
 by_cases h : [61] = s
 ·subst h; exact ⟨true,rfl⟩
 ·by_cases h2 : [33,61] = s
  ·subst h2; exact ⟨true,rfl⟩
  ·by_cases h3 : [60] = s
   ·subst h3; exact ⟨true,rfl⟩
   ·by_cases h4 : [62] = s
    ·subst h4; exact ⟨true,rfl⟩
    ·by_cases h5 : [60,61] = s
     ·subst h5; exact ⟨true,rfl⟩
     ·by_cases h6 : [62,61] = s
      ·subst h6; exact ⟨true,rfl⟩
      ·exact ⟨false,by rw [mapR,mget,if_neg h,mget,if_neg h2,mget,if_neg h3,mget,if_neg h4,mget,if_neg h5,mget,if_neg h6,mget,relOp,if_neg (fun e => h e.symm),if_neg (fun e => h2 e.symm),if_neg (fun e => e.elim (fun e => h3 e.symm) (fun e => h4 e.symm)),if_neg (fun e => e.elim (fun e => h5 e.symm) (fun e => h6 e.symm))]⟩
theorem leH {op : Int} {x y : T} : AVle (.agg [.int .i64 op, .str [], .sl 0 [] .full, .int .i64 x.op, .str x.s, .int .i64 x.n, .sl 4 (encTs x.l) .no, .int .i64 y.op, .str y.s, .int .i64 y.n, .sl 4 (encTs y.l) .no]) (encL ⟨op,zeroA,x,y⟩) :=
 AVle.agg (bs := cL ⟨op,zeroA,x,y⟩) ⟨AVle.refl _,AVle.refl _,AVle.nil,AVle.refl _,AVle.refl _,AVle.refl _,AVle.refl _,AVle.refl _,AVle.refl _,AVle.refl _,AVle.refl _,trivial⟩ (List.all_eq_true.1 (cL_one _))
theorem held_ok (rp : Nat) (L : List Tok) (hL : L.length ≤ 20000) (hN : NumT L) (F : Nat) (hF : L.length ≤ F) (ts : List Tok) (h : ts <:+ L) (x : T) (R : List En) (hG : NumG R) : ACall Tryz.prog 141 [.ptr rp 0,encU x] (RD rp L ts :: R) (fun r S => ∃ e,S = e :: R ∧ QT rp L encL (heldL F x ts) r e) := by
 obtain ⟨t,ht⟩ : ∃ t,t = hd ts 0 := ⟨_,rfl⟩
 refine ACall_body tab_ok Tryz.func141 rfl rfl rfl (by kernel_rfl) (nb_ rfl) ?_
 repeat first|refine go_ ?_|intro _
 rename_i b3 b4
 refine Or.inl ⟨⟨_,Tryz.func51,rfl,rfl⟩,ACall.mono ?_ (ACall_same 2 rfl (ahead_ok rp L ts 0 h hL (by decide)))⟩
 rintro _ S1 ⟨rfl,hS1⟩
 subst S1
 repeat first|refine gr_ ?_|intro _
 rename_i b6
 refine AW_weak (weak_of (l := [(0, .ptr rp 0),(3, .ptr b3 0),(4, .ptr b4 0),(6, .ptr b6 0)]) (m := []) (S' := .cells b6 [.int .i64 (hd ts 0).kind, .str (hd ts 0).s, .int .i64 (hd ts 0).line] :: .cells b4 [.int .i64 0, .str [], .sl 0 [] .full, .int .i64 0, .str [], .int .i64 0, .sl 0 [] .full, .int .i64 0, .str [], .int .i64 0, .sl 0 [] .full] :: .cells b3 (cT x) :: RD rp L ts :: R) e_ rfl w_) ?_
 rw [← ht]
 repeat first|refine go_ ?_|intro _
 rename_i b7
 refine ⟨_,_,0,_,rfl,rfl,rfl,mapR.take 1,rfl,?_⟩
 repeat first|refine go_ ?_|intro _
 refine ⟨_,_,0,_,rfl,rfl,rfl,mapR.take 2,rfl,?_⟩
 repeat first|refine go_ ?_|intro _
 refine ⟨_,_,0,_,rfl,rfl,rfl,mapR.take 3,rfl,?_⟩
 repeat first|refine go_ ?_|intro _
 refine ⟨_,_,0,_,rfl,rfl,rfl,mapR.take 4,rfl,?_⟩
 repeat first|refine go_ ?_|intro _
 refine ⟨_,_,0,_,rfl,rfl,rfl,mapR.take 5,rfl,?_⟩
 repeat first|refine go_ ?_|intro _
 refine ⟨_,_,0,_,rfl,rfl,rfl,mapR,rfl,?_⟩
 repeat first|refine go_ ?_|intro _
 obtain ⟨mbb,hmg⟩ := mapR_ok t.s
 refine ⟨_,_,_,0,_,rfl,rfl,zero_int,rfl,(.int .i64 (relOp t.s),mbb),hmg,?_⟩
 repeat first|refine gr_ ?_|intro _
 refine AW_weak (weak_of (l := [(0, .ptr rp 0),(3, .ptr b3 0),(4, .ptr b4 0),(6, .ptr b6 0),(7, .int .i64 (relOp t.s))]) (m := []) (S' := .cells b4 [.int .i64 0, .str [], .sl 0 [] .full, .int .i64 0, .str [], .int .i64 0, .sl 0 [] .full, .int .i64 0, .str [], .int .i64 0, .sl 0 [] .full] :: RD rp L ts :: .cells b6 [.int .i64 t.kind, .str t.s, .int .i64 t.line] :: .cells b3 (cT x) :: .map b7 (mkM mapR) :: R) ?_ rfl (fun w0 K w h => h.perm (by repeat (first | exact List.Perm.refl _ | refine perm_pick 0 rfl ?_ | refine perm_pick 1 rfl ?_ | refine perm_pick 2 rfl ?_ | refine perm_pick 3 rfl ?_ | refine perm_pick 4 rfl ?_ | refine perm_pick 5 rfl ?_ | refine perm_pick 6 rfl ?_ | refine perm_pick 7 rfl ?_)))) ?_
 ·exact e_
 have hre : t.kind = 4 → relOp t.s ≠ 0 → heldL F x ts = (match exprL F ts.tail with | .error e => .error e | .ok (y,r) => .ok (if t.s = [62] ∨ t.s = [62,61] then (⟨relOp t.s,zeroA,y,x⟩ : Li) else ⟨relOp t.s,zeroA,x,y⟩,r)) := fun hk hr => by rw [heldL, ← ht,if_pos ⟨hk,hr⟩]; rfl
 repeat first|refine go_ ?_|intro _
 by_cases hk : t.kind = 4
 rotate_left
 ·refine known_true (b := !decide (t.kind = 4)) (by rw [decide_eq_false hk]; rfl) ?_
  repeat first|refine ga_ ?_|intro _
  refine Or.inl ⟨⟨_,Tryz.func98,rfl,rfl⟩,ACall.mono ?_ (ACall_same 1 rfl (stop_ok rp L ts h hL))⟩
  rintro _ S1 ⟨rfl,hS1⟩
  subst S1
  repeat first|refine go_ ?_|intro _
  refine AW_ret ?_
  refine ⟨rfl,0,_,rfl,⟨nb_ rfl,nb_ rfl⟩, .tup [encL zeroLi,faultE (40,(hd ts 0).line)],RD rp L ts :: R,le2 leG0,SW.le (SW.drop (SW.cons (SW.drop (SW.drop (SW.drop SW.nil))))),_,rfl,?_⟩
  rw [heldL,if_neg (fun hh => hk (ht ▸ hh.1))]
  exact ⟨zeroLi,ts,rfl,h,rfl⟩
 refine known_false (b := !decide (t.kind = 4)) (by rw [hk]; rfl) ?_
 repeat first|refine go_ ?_|intro _
 by_cases hr : relOp t.s = 0
 ·refine AW_true (b := decide (relOp t.s = 0)) rfl (by exact decide_eq_true hr) ?_
  repeat first|refine go_ ?_|intro _
  refine Or.inl ⟨⟨_,Tryz.func98,rfl,rfl⟩,ACall.mono ?_ (ACall_same 1 rfl (stop_ok rp L ts h hL))⟩
  rintro _ S1 ⟨rfl,hS1⟩
  subst S1
  repeat first|refine go_ ?_|intro _
  refine AW_ret ?_
  refine ⟨rfl,0,_,rfl,⟨nb_ rfl,nb_ rfl⟩, .tup [encL zeroLi,faultE (40,(hd ts 0).line)],RD rp L ts :: R,le2 leG0,SW.le (SW.drop (SW.cons (SW.drop (SW.drop (SW.drop SW.nil))))),_,rfl,?_⟩
  rw [heldL,if_neg (fun hh => hh.2 (ht ▸ hr))]
  exact ⟨zeroLi,ts,rfl,h,rfl⟩
 refine AW_false (b := decide (relOp t.s = 0)) rfl (by exact decide_eq_false hr) ?_
 have hne := hd_ne (ts := ts) (by rw [← ht,hk]; decide)
 have hts : ts.tail <:+ L := tail_suf.trans h
 have hre := hre hk hr
 refine AW_weak (weak_of (l := [(0, .ptr rp 0),(3, .ptr b3 0),(4, .ptr b4 0),(6, .ptr b6 0),(7, .int .i64 (relOp t.s))]) (m := []) (S' := .cells b4 [.int .i64 0, .str [], .sl 0 [] .full, .int .i64 0, .str [], .int .i64 0, .sl 0 [] .full, .int .i64 0, .str [], .int .i64 0, .sl 0 [] .full] :: RD rp L ts :: .cells b6 [.int .i64 t.kind, .str t.s, .int .i64 t.line] :: .cells b3 (cT x) :: R) e_ rfl w_) ?_
 repeat refine rg_ ?_
 refine AW_region tab_ok ?_
 repeat first|refine gr_ ?_|intro _
 refine AW_weak (weak_of (l := [(0, .ptr rp 0),(3, .ptr b3 0),(4, .ptr b4 0),(6, .ptr b6 0),(7, .int .i64 (relOp t.s))]) (m := []) (S' := .cells b4 [.int .i64 0, .str [], .sl 0 [] .full, .int .i64 0, .str [], .int .i64 0, .sl 0 [] .full, .int .i64 0, .str [], .int .i64 0, .sl 0 [] .full] :: RD rp L ts.tail :: .cells b6 [.int .i64 t.kind, .str t.s, .int .i64 t.line] :: .cells b3 (cT x) :: R) ?_ rfl (SLe.of_eq (congrArg (fun e => _ :: e :: _) (RD_next h hne hL)))) ?_
 ·exact e_
 repeat first|refine go_ ?_|intro _
 refine Or.inl ⟨⟨_,Tryz.func138,rfl,rfl⟩,ACall.mono ?_ (ACall_at 1 rfl (expr_ok rp L hL hN F hF ts.tail hts _ hG.cons.cons.cons))⟩
 rintro _ S1 ⟨e,hS1,hq⟩
 subst S1
 obtain ⟨y,ts1,o,rfl,hs1,rfl,ho⟩ := hq.cases (fun v r' h2 => (eats_expr F _ _ _ h2).1.trans hts)
 repeat first|refine gr_ ?_|intro _
 rename_i b8
 refine AW_weak (weak_of (l := [(3, .ptr b3 0),(4, .ptr b4 0),(6, .ptr b6 0),(7, .int .i64 (relOp t.s)),(8, .ptr b8 0),(9,errO o)]) (m := []) (S' := .cells b8 (cT y) :: .cells b4 [.int .i64 0, .str [], .sl 0 [] .full, .int .i64 0, .str [], .int .i64 0, .sl 0 [] .full, .int .i64 0, .str [], .int .i64 0, .sl 0 [] .full] :: RD rp L ts1 :: .cells b6 [.int .i64 t.kind, .str t.s, .int .i64 t.line] :: .cells b3 (cT x) :: R) e_ rfl w_) ?_
 have hend : ∀ l : Li,l = (if t.s = [62] ∨ t.s = [62,61] then (⟨relOp t.s,zeroA,y,x⟩ : Li) else ⟨relOp t.s,zeroA,x,y⟩) → ResO (heldL F x ts) l ts1 o := fun l hl => by
  rw [hre]
  cases o with
  | some q => rw [show exprL F ts.tail = .error q from ho]; rfl
  | none => rw [show exprL F ts.tail = .ok (y,ts1) from ho,hl]; rfl
 repeat first|refine go_ ?_|intro _
 by_cases h62 : t.s = [62]
 ·refine known_true (b := decide (t.s = [62])) (by exact decide_eq_true h62) ?_
  repeat first|refine ga_ ?_|intro _
  refine AW_ret ?_
  exact ⟨rfl,1,_,rfl,⟨nb_ rfl,nb_ rfl⟩, .tup [encL ⟨relOp t.s,zeroA,y,x⟩,errO o],RD rp L ts1 :: R,le2 leH,SW.le (SW.drop (SW.drop (SW.cons (SW.drop (SW.drop SW.nil))))),_,rfl,QT.of hs1 (hend _ (if_pos (.inl h62)).symm)⟩
 refine known_false (b := decide (t.s = [62])) (by exact decide_eq_false h62) ?_
 repeat first|refine go_ ?_|intro _
 by_cases h61 : t.s = [62,61]
 ·refine AW_true (b := decide (t.s = [62,61])) rfl (by exact decide_eq_true h61) ?_
  repeat first|refine ga_ ?_|intro _
  refine AW_ret ?_
  exact ⟨rfl,1,_,rfl,⟨nb_ rfl,nb_ rfl⟩, .tup [encL ⟨relOp t.s,zeroA,y,x⟩,errO o],RD rp L ts1 :: R,le2 leH,SW.le (SW.drop (SW.drop (SW.cons (SW.drop (SW.drop SW.nil))))),_,rfl,QT.of hs1 (hend _ (if_pos (.inr h61)).symm)⟩
 refine AW_false (b := decide (t.s = [62,61])) rfl (by exact decide_eq_false h61) ?_
 repeat first|refine ga_ ?_|intro _
 refine AW_ret ?_
 exact ⟨rfl,1,_,rfl,⟨nb_ rfl,nb_ rfl⟩, .tup [encL ⟨relOp t.s,zeroA,x,y⟩,errO o],RD rp L ts1 :: R,le2 leH,SW.le (SW.drop (SW.drop (SW.cons (SW.drop (SW.drop SW.nil))))),_,rfl,QT.of hs1 (hend _ (if_neg (fun hh => hh.elim h62 h61)).symm)⟩
theorem leP {op : Int} {a : At} : AVle (.agg [.int .i64 op, .str a.rel, .sl 4 (encTs a.l) .no, .int .i64 0, .str [], .int .i64 0, .sl 0 [] .full, .int .i64 0, .str [], .int .i64 0, .sl 0 [] .full]) (encL ⟨op,a,zeroT,zeroT⟩) :=
 AVle.agg (bs := cL ⟨op,a,zeroT,zeroT⟩) ⟨AVle.refl _,AVle.refl _,AVle.refl _,AVle.refl _,AVle.refl _,AVle.refl _,AVle.nil,AVle.refl _,AVle.refl _,AVle.refl _,AVle.nil,trivial⟩ (List.all_eq_true.1 (cL_one _))
theorem suf_held {F : Nat} {x : T} {ts r : List Tok} {l : Li} (h : heldL F x ts = .ok (l,r)) : r <:+ ts := by
 rw [heldL] at h
 split at h
 ·split at h
  ·cases h
  ·rename_i y r' hr
   injection h with h; injection h with _ h; subst h
   exact (eats_expr F _ _ _ hr).1.trans tail_suf
 ·cases h
theorem suf_agg {F : Nat} {op : Int} {x : T} {ts r : List Tok} {l : Li} (h : aggL F op x ts = .ok (l,r)) : r <:+ ts := by
 rw [aggL] at h
 split at h
 ·cases h
 ·split at h
  ·cases h
  ·rename_i a r' hr
   injection h with h; injection h with _ h; subst h
   exact (eats_within (eats_atom F) _ _ _ hr).1.trans (List.drop_suffix _ _)
theorem part_ok (rp : Nat) (L : List Tok) (hL : L.length ≤ 20000) (hN : NumT L) (F : Nat) (hF : L.length ≤ F) (ts : List Tok) (h : ts <:+ L) (R : List En) (hG : NumG R) : ACall Tryz.prog 104 [.ptr rp 0] (RD rp L ts :: R) (fun r S => ∃ e,S = e :: R ∧ QT rp L encL (partL' F ts) r e) := by
 refine ACall_body tab_ok Tryz.func104 rfl rfl rfl (by kernel_rfl) (nb_ rfl) ?_
 repeat first|refine go_ ?_|intro _
 rename_i b2
 cases ht : takesL [33] ts with
 | some r =>
  have hr := less_takes ht
  have hp : partL' F ts = litA 2 (atomL F r) := by rw [partL',ht]
  refine Or.inl ⟨⟨_,Tryz.func102,rfl,rfl⟩,ACall.mono ?_ (ACall_at 1 rfl (takes_yes rp L ts r [33] h hL ht _))⟩
  rintro _ S1 ⟨e,hS1,rfl,rfl⟩
  subst S1
  repeat first|refine ga_ ?_|intro _
  refine Or.inl ⟨⟨_,Tryz.func100,rfl,rfl⟩,ACall.mono ?_ (ACall_at 1 rfl (atom_ok rp L hL hN F hF (r) (hr.1.trans h) _ hG.cons))⟩
  rintro _ S1 ⟨e,hS1,hq⟩
  subst S1
  obtain ⟨a,ts1,o,rfl,hs1,rfl,ho⟩ := hq.cases (fun v r' h2 => (eats_atom F _ _ _ h2).1.trans (hr.1.trans h))
  repeat first|refine gr_ ?_|intro _
  rename_i b5
  refine AW_weak (weak_of (l := [(2, .ptr b2 0),(4, .int .i64 (2)),(5, .ptr b5 0),(6,errO o)]) (m := []) (S' := .cells b5 (cA a) :: .cells b2 [.int .i64 0, .str [], .sl 0 [] .full, .int .i64 0, .str [], .int .i64 0, .sl 0 [] .full, .int .i64 0, .str [], .int .i64 0, .sl 0 [] .full] :: RD rp L ts1 :: R) e_ rfl w_) ?_
  repeat first|refine go_ ?_|intro _
  refine AW_ret ?_
  refine ⟨rfl,1,_,rfl,⟨nb_ rfl,nb_ rfl⟩, .tup [encL ⟨2,a,zeroT,zeroT⟩,errO o],RD rp L ts1 :: R,le2 leP,sle_,_,rfl,QT.of hs1 ?_⟩
  rw [hp]
  cases o with
  | some q => rw [show atomL F (r) = .error q from ho]; rfl
  | none => rw [show atomL F (r) = .ok (a,ts1) from ho]; rfl
 | none =>
  refine Or.inl ⟨⟨_,Tryz.func102,rfl,rfl⟩,ACall.mono ?_ (ACall_at 1 rfl (takes_no rp L ts [33] h hL ht _))⟩
  rintro _ S1 ⟨e,hS1,rfl,rfl⟩
  subst S1
  repeat first|refine ga_ ?_|intro _
  refine Or.inl ⟨⟨_,Tryz.func51,rfl,rfl⟩,ACall.mono ?_ (ACall_same 1 rfl (ahead_ok rp L ts 0 h hL (by decide)))⟩
  rintro _ S1 ⟨rfl,hS1⟩
  subst S1
  repeat first|refine go_ ?_|intro _
  refine Or.inl ⟨⟨_,Tryz.func99,rfl,rfl⟩,ACall.mono ?_ (isName_ok (hd ts 0) _)⟩
  rintro _ S1 ⟨rfl,hS1⟩
  subst S1
  repeat first|refine go_ ?_|intro _
  have hp : ¬ (nameT (hd ts 0) = true ∧ signB (hd ts 1) [40] = true) → partL' F ts = (match exprL F ts with | .error e => .error e | .ok (x,r) => if howL' r ≠ 0 then aggL F (howL' r) x r else heldL F x r) := fun hh => by rw [partL',ht]; exact if_neg hh
  by_cases hn : nameT (hd ts 0) = true
  ·refine known_true (b := nameT (hd ts 0)) (by exact hn) ?_
   repeat first|refine go_ ?_|intro _
   refine Or.inl ⟨⟨_,Tryz.func51,rfl,rfl⟩,ACall.mono ?_ (ACall_same 1 rfl (ahead_ok rp L ts 1 h hL (by decide)))⟩
   rintro _ S1 ⟨rfl,hS1⟩
   subst S1
   repeat first|refine go_ ?_|intro _
   refine Or.inl ⟨⟨_,Tryz.func137,rfl,rfl⟩,ACall.mono ?_ (isSign_ok (hd ts 1) [40] _)⟩
   rintro _ S1 ⟨rfl,hS1⟩
   subst S1
   repeat first|refine go_ ?_|intro _
   by_cases hs : signB (hd ts 1) [40] = true
   ·have hp1 : partL' F ts = litA 1 (atomL F ts) := by rw [partL',ht]; exact if_pos ⟨hn,hs⟩
    refine AW_true (b := signB (hd ts 1) [40]) rfl (by exact hs) ?_
    repeat first|refine ga_ ?_|intro _
    refine Or.inl ⟨⟨_,Tryz.func100,rfl,rfl⟩,ACall.mono ?_ (ACall_at 1 rfl (atom_ok rp L hL hN F hF (ts) (h) _ hG.cons))⟩
    rintro _ S1 ⟨e,hS1,hq⟩
    subst S1
    obtain ⟨a,ts1,o,rfl,hs1,rfl,ho⟩ := hq.cases (fun v r' h2 => (eats_atom F _ _ _ h2).1.trans (h))
    repeat first|refine gr_ ?_|intro _
    rename_i b5
    refine AW_weak (weak_of (l := [(2, .ptr b2 0),(4, .int .i64 (1)),(5, .ptr b5 0),(6,errO o)]) (m := []) (S' := .cells b5 (cA a) :: .cells b2 [.int .i64 0, .str [], .sl 0 [] .full, .int .i64 0, .str [], .int .i64 0, .sl 0 [] .full, .int .i64 0, .str [], .int .i64 0, .sl 0 [] .full] :: RD rp L ts1 :: R) e_ rfl w_) ?_
    repeat first|refine go_ ?_|intro _
    refine AW_ret ?_
    refine ⟨rfl,1,_,rfl,⟨nb_ rfl,nb_ rfl⟩, .tup [encL ⟨1,a,zeroT,zeroT⟩,errO o],RD rp L ts1 :: R,le2 leP,sle_,_,rfl,QT.of hs1 ?_⟩
    rw [hp1]
    cases o with
    | some q => rw [show atomL F (ts) = .error q from ho]; rfl
    | none => rw [show atomL F (ts) = .ok (a,ts1) from ho]; rfl
   ·refine AW_false (b := signB (hd ts 1) [40]) rfl (by simpa using hs) ?_
    repeat first|refine ga_ ?_|intro _
    refine Or.inl ⟨⟨_,Tryz.func138,rfl,rfl⟩,ACall.mono ?_ (ACall_at 1 rfl (expr_ok rp L hL hN F hF ts h _ hG.cons))⟩
    rintro _ S1 ⟨e,hS1,hq⟩
    subst S1
    obtain ⟨x,ts1,o,rfl,hs1,rfl,ho⟩ := hq.cases (fun v r' h2 => (eats_expr F _ _ _ h2).1.trans h)
    repeat first|refine gr_ ?_|intro _
    rename_i b7
    refine AW_weak (weak_of (l := [(0, .ptr rp 0),(2, .ptr b2 0),(7, .ptr b7 0),(8,errO o)]) (m := []) (S' := .cells b7 (cT x) :: .cells b2 [.int .i64 0, .str [], .sl 0 [] .full, .int .i64 0, .str [], .int .i64 0, .sl 0 [] .full, .int .i64 0, .str [], .int .i64 0, .sl 0 [] .full] :: RD rp L ts1 :: R) e_ rfl w_) ?_
    cases o with
    | some q =>
     have ho : exprL F ts = .error q := ho
     repeat first|refine ga_ ?_|intro _
     refine AW_ret ?_
     exact ⟨rfl,1,_,rfl,⟨nb_ rfl,nb_ rfl⟩, .tup [encL zeroLi,errO (some q)],RD rp L ts1 :: R,le2 leG0,sle_,_,rfl,QT.of hs1 (by rw [hp (fun hh => hs hh.2),ho]; rfl)⟩
    | none =>
     have ho : exprL F ts = .ok (x,ts1) := ho
     repeat first|refine ga_ ?_|intro _
     refine Or.inl ⟨⟨_,Tryz.func139,rfl,rfl⟩,ACall.mono ?_ (ACall_same 2 rfl (how_ok rp L hL ts1 hs1))⟩
     rintro _ S1 ⟨rfl,hS1⟩
     subst S1
     repeat first|refine go_ ?_|intro _
     by_cases hw : howL' ts1 = 0
     ·refine AW_false (b := !decide (howL' ts1 = 0)) rfl (by rw [hw]; rfl) ?_
      repeat first|refine ga_ ?_|intro _
      refine Or.inl ⟨⟨_,Tryz.func141,rfl,rfl⟩,ACall.mono ?_ (ACall_at 2 rfl (held_ok rp L hL hN F hF ts1 hs1 x _ hG.cons.cons))⟩
      rintro _ S1 ⟨e,hS1,hq⟩
      subst S1
      obtain ⟨l,ts2,o2,rfl,hs2,rfl,ho2⟩ := hq.cases (fun v r' h2 => (suf_held h2).trans hs1)
      repeat first|refine go_ ?_|intro _
      refine AW_ret ?_
      refine ⟨rfl,1,_,rfl,⟨nb_ rfl,nb_ rfl⟩, .tup [encL l,errO o2],RD rp L ts2 :: R,AVle.refl _,sle_,_,rfl,QT.of hs2 ?_⟩
      have e : partL' F ts = heldL F x ts1 := by rw [hp (fun hh => hs hh.2),ho]; exact if_neg (fun hh => hh hw)
      rw [e]; exact ho2
     ·refine AW_true (b := !decide (howL' ts1 = 0)) rfl (by rw [decide_eq_false hw]; rfl) ?_
      repeat first|refine ga_ ?_|intro _
      refine Or.inl ⟨⟨_,Tryz.func140,rfl,rfl⟩,ACall.mono ?_ (ACall_at 2 rfl (aggregate_ok rp L hL hN F hF ts1 hs1 (howL' ts1) x rfl hw _ hG.cons.cons))⟩
      rintro _ S1 ⟨e,hS1,hq⟩
      subst S1
      obtain ⟨l,ts2,o2,rfl,hs2,rfl,ho2⟩ := hq.cases (fun v r' h2 => (suf_agg h2).trans hs1)
      repeat first|refine go_ ?_|intro _
      refine AW_ret ?_
      refine ⟨rfl,1,_,rfl,⟨nb_ rfl,nb_ rfl⟩, .tup [encL l,errO o2],RD rp L ts2 :: R,AVle.refl _,sle_,_,rfl,QT.of hs2 ?_⟩
      have e : partL' F ts = aggL F (howL' ts1) x ts1 := by rw [hp (fun hh => hs hh.2),ho]; exact if_pos hw
      rw [e]; exact ho2
  ·refine known_false (b := nameT (hd ts 0)) (by simpa using hn) ?_
   repeat first|refine ga_ ?_|intro _
   refine Or.inl ⟨⟨_,Tryz.func138,rfl,rfl⟩,ACall.mono ?_ (ACall_at 1 rfl (expr_ok rp L hL hN F hF ts h _ hG.cons))⟩
   rintro _ S1 ⟨e,hS1,hq⟩
   subst S1
   obtain ⟨x,ts1,o,rfl,hs1,rfl,ho⟩ := hq.cases (fun v r' h2 => (eats_expr F _ _ _ h2).1.trans h)
   repeat first|refine gr_ ?_|intro _
   rename_i b7
   refine AW_weak (weak_of (l := [(0, .ptr rp 0),(2, .ptr b2 0),(7, .ptr b7 0),(8,errO o)]) (m := []) (S' := .cells b7 (cT x) :: .cells b2 [.int .i64 0, .str [], .sl 0 [] .full, .int .i64 0, .str [], .int .i64 0, .sl 0 [] .full, .int .i64 0, .str [], .int .i64 0, .sl 0 [] .full] :: RD rp L ts1 :: R) e_ rfl w_) ?_
   cases o with
   | some q =>
    have ho : exprL F ts = .error q := ho
    repeat first|refine ga_ ?_|intro _
    refine AW_ret ?_
    exact ⟨rfl,1,_,rfl,⟨nb_ rfl,nb_ rfl⟩, .tup [encL zeroLi,errO (some q)],RD rp L ts1 :: R,le2 leG0,sle_,_,rfl,QT.of hs1 (by rw [hp (fun hh => hn hh.1),ho]; rfl)⟩
   | none =>
    have ho : exprL F ts = .ok (x,ts1) := ho
    repeat first|refine ga_ ?_|intro _
    refine Or.inl ⟨⟨_,Tryz.func139,rfl,rfl⟩,ACall.mono ?_ (ACall_same 2 rfl (how_ok rp L hL ts1 hs1))⟩
    rintro _ S1 ⟨rfl,hS1⟩
    subst S1
    repeat first|refine go_ ?_|intro _
    by_cases hw : howL' ts1 = 0
    ·refine AW_false (b := !decide (howL' ts1 = 0)) rfl (by rw [hw]; rfl) ?_
     repeat first|refine ga_ ?_|intro _
     refine Or.inl ⟨⟨_,Tryz.func141,rfl,rfl⟩,ACall.mono ?_ (ACall_at 2 rfl (held_ok rp L hL hN F hF ts1 hs1 x _ hG.cons.cons))⟩
     rintro _ S1 ⟨e,hS1,hq⟩
     subst S1
     obtain ⟨l,ts2,o2,rfl,hs2,rfl,ho2⟩ := hq.cases (fun v r' h2 => (suf_held h2).trans hs1)
     repeat first|refine go_ ?_|intro _
     refine AW_ret ?_
     refine ⟨rfl,1,_,rfl,⟨nb_ rfl,nb_ rfl⟩, .tup [encL l,errO o2],RD rp L ts2 :: R,AVle.refl _,sle_,_,rfl,QT.of hs2 ?_⟩
     have e : partL' F ts = heldL F x ts1 := by rw [hp (fun hh => hn hh.1),ho]; exact if_neg (fun hh => hh hw)
     rw [e]; exact ho2
    ·refine AW_true (b := !decide (howL' ts1 = 0)) rfl (by rw [decide_eq_false hw]; rfl) ?_
     repeat first|refine ga_ ?_|intro _
     refine Or.inl ⟨⟨_,Tryz.func140,rfl,rfl⟩,ACall.mono ?_ (ACall_at 2 rfl (aggregate_ok rp L hL hN F hF ts1 hs1 (howL' ts1) x rfl hw _ hG.cons.cons))⟩
     rintro _ S1 ⟨e,hS1,hq⟩
     subst S1
     obtain ⟨l,ts2,o2,rfl,hs2,rfl,ho2⟩ := hq.cases (fun v r' h2 => (suf_agg h2).trans hs1)
     repeat first|refine go_ ?_|intro _
     refine AW_ret ?_
     refine ⟨rfl,1,_,rfl,⟨nb_ rfl,nb_ rfl⟩, .tup [encL l,errO o2],RD rp L ts2 :: R,AVle.refl _,sle_,_,rfl,QT.of hs2 ?_⟩
     have e : partL' F ts = aggL F (howL' ts1) x ts1 := by rw [hp (fun hh => hn hh.1),ho]; exact if_pos hw
     rw [e]; exact ho2
def headT (bare : Bool) (t : T) : Bool := if t.op = 1 then !bare else decide (t.op = 2) || decide (t.op = 3)
theorem isHead_ok (a : At) (bare : Bool) (R : List En) : ACall Tryz.prog 101 [encA a, .bool bare] R (fun r S => r = .bool (headL a bare) ∧ S = R) := by
 refine ACall_sat fun hsat => ?_
 have hl : a.l.length ≤ 9223372036854775807 := by
  have := ((hsat _ (.head _)).agg (show AV.sl 4 (encTs a.l) .no ∈ cA a from .tail _ (.head _))).sl
  rw [encTs_len] at this; exact this
 have hH : headL a bare = a.l.all (headT bare) := rfl
 refine ACall_body tab_ok Tryz.func101 rfl rfl rfl (by kernel_rfl) (nb_ rfl) ?_
 repeat first|refine go_ ?_|intro _
 rename_i p
 refine AW_for (α := Nat) (fun z => ⟨[(1, .bool bare),(8, .sl 4 (encTs a.l) .no),(9, .int .i64 (a.l.length : Nat)),(10, .int .i64 (z : Nat))], []⟩) (fun z => R) (fun z => a.l.length - z) (fun z => z ≤ a.l.length ∧ ∀ (i : Nat) (hi : i < a.l.length),i < z → headT bare a.l[i] = true) (0) ?_ (weak_of ?_ rfl ?_) (fun z hz => ?_)
 ·exact ⟨Nat.zero_le _,fun i _ h => absurd h (Nat.not_lt_zero _)⟩
 ·repeat (first | exact trivial | refine ⟨(AVle.eq (congrArg (AV.int .i64) (by simp))),?_⟩ | refine env_ ?_)
 ·exact l_
 obtain ⟨i1,i2⟩ := hz
 repeat first|refine go_ ?_|intro _
 refine AW_iff (z < a.l.length) rfl ib_ (fun h => ?_) (fun h => ?_)
 rotate_left
 ·have e : headL a bare = true := by
   rw [hH,List.all_eq_true]
   intro x hx
   obtain ⟨i,hi,rfl⟩ := List.mem_iff_getElem.1 hx
   exact i2 i hi (by omega)
  repeat first|refine ga_ ?_|intro _
  refine AW_ret ?_
  repeat refine mk_ ?_
  refine ⟨_,R,AVle.eq ?_,sle_,rfl,rfl⟩
  rw [e]; rfl
 have hlt := h
 obtain ⟨x,hx⟩ : ∃ x,x = a.l[z] := ⟨_,rfl⟩
 have hno : headT bare x = false → headL a bare = false := fun hf => by
  rw [hH,List.all_eq_false]
  exact ⟨x,hx ▸ List.getElem_mem hlt,by rw [hf]; decide⟩
 have hyes : headT bare x = true → z + 1 ≤ a.l.length ∧ ∀ (i : Nat) (hi : i < a.l.length),i < z + 1 → headT bare a.l[i] = true := fun ht => ⟨hlt,fun i hi hiz => by
  by_cases hq : i = z
  ·subst hq; rw [← hx]; exact ht
  ·exact i2 i hi (by omega)⟩
 repeat first|refine go_ ?_|intro _
 refine at_get (z) (encU x) (by first | rfl | omega | (rw [wrap_i64 (by omega)]; omega)) (by rw [hx]; exact encTs_get hlt) ?_
 repeat first|refine go_ ?_|intro _
 by_cases h1 : x.op = 1
 ·refine AW_true (b := decide (x.op = 1)) rfl (by exact decide_eq_true h1) ?_
  repeat first|refine go_ ?_|intro _
  cases bare with
  | true =>
   repeat first|refine ga_ ?_|intro _
   refine AW_ret ?_
   repeat refine mk_ ?_
   refine ⟨_,R,AVle.eq ?_,sle_,rfl,rfl⟩
   rw [hno (by rw [headT,if_pos h1]; rfl)]; rfl
  | false =>
   repeat first|refine ga_ ?_|intro _
   refine ⟨(z + 1),?_,?_,weak_of ?_ rfl ?_⟩
   ·exact Nat.sub_lt_sub_left hlt (Nat.lt_succ_self z)
   ·exact hyes (by rw [headT,if_pos h1]; rfl)
   ·exact e_
   ·exact w_
 ·refine AW_false (b := decide (x.op = 1)) rfl (by exact decide_eq_false h1) ?_
  repeat first|refine go_ ?_|intro _
  by_cases h2 : x.op = 2
  ·refine AW_true (b := decide (x.op = 2)) rfl (by exact decide_eq_true h2) ?_
   repeat first|refine go_ ?_|intro _
   refine AW_true (b := decide (x.op = 2)) rfl (by exact decide_eq_true h2) ?_
   repeat first|refine ga_ ?_|intro _
   refine ⟨(z + 1),?_,?_,weak_of ?_ rfl ?_⟩
   ·exact Nat.sub_lt_sub_left hlt (Nat.lt_succ_self z)
   ·exact hyes (by rw [headT,if_neg h1,decide_eq_true h2]; rfl)
   ·exact e_
   ·exact w_
  ·refine AW_false (b := decide (x.op = 2)) rfl (by exact decide_eq_false h2) ?_
   repeat first|refine go_ ?_|intro _
   by_cases h3 : x.op = 3
   ·refine AW_true (b := decide (x.op = 3)) rfl (by exact decide_eq_true h3) ?_
    repeat first|refine ga_ ?_|intro _
    refine ⟨(z + 1),?_,?_,weak_of ?_ rfl ?_⟩
    ·exact Nat.sub_lt_sub_left hlt (Nat.lt_succ_self z)
    ·exact hyes (by rw [headT,if_neg h1,decide_eq_false h2,decide_eq_true h3]; rfl)
    ·exact e_
    ·exact w_
   ·refine AW_false (b := decide (x.op = 3)) rfl (by exact decide_eq_false h3) ?_
    repeat first|refine ga_ ?_|intro _
    refine AW_ret ?_
    repeat refine mk_ ?_
    refine ⟨_,R,AVle.eq ?_,sle_,rfl,rfl⟩
    rw [hno (by rw [headT,if_neg h1,decide_eq_false h2,decide_eq_false h3]; rfl)]; rfl
theorem suf_lit {op : Int} {x : PR At} {r : List Tok} {l : Li} (h : litA op x = .ok (l,r)) : ∃ a,x = .ok (a,r) := by
 cases x with
 | error q => cases h
 | ok y =>
  obtain ⟨a,r'⟩ := y
  rw [litA] at h
  injection h with h; injection h with _ h; subst h
  exact ⟨a,rfl⟩
theorem suf_part {F : Nat} {ts r : List Tok} {l : Li} (h : partL' F ts = .ok (l,r)) : r <:+ ts := by
 rw [partL'] at h
 split at h
 ·rename_i r1 h1
  obtain ⟨a,ha⟩ := suf_lit h
  exact (eats_atom F _ _ _ ha).1.trans (less_takes h1).1
 ·split at h
  ·obtain ⟨a,ha⟩ := suf_lit h
   exact (eats_atom F _ _ _ ha).1
  ·split at h
   ·cases h
   ·rename_i x r1 hx
    have h2 := (eats_expr F _ _ _ hx).1
    split at h
    ·exact (suf_agg h).trans h2
    ·exact (suf_held h).trans h2
def stU (rp b1 b4 : Nat) (a : At) (ln : Int) (z : List Li × Tk) : List En := [.cells b1 [.ptr rp 0], .cells b4 [.str a.rel, .sl 4 (encTs a.l) .no, .sl 11 (z.1.map encL) z.2, .int .i64 ln], .grow z.2]
theorem bodyStep_ok (rp : Nat) (L : List Tok) (hL : L.length ≤ 20000) (hN : NumT L) (F : Nat) (hF : L.length ≤ F) (b1 b4 : Nat) (a : At) (ln : Int) : OneOk rp L 103 [] [.ptr b1 0, .ptr b4 0] (bodyStep F) (fun z : List Li × Tk => z.1) (fun z => z.1.length) (stU rp b1 b4 a ln) := by
 refine ⟨⟨_,Tryz.func103,rfl,rfl⟩,?_⟩
 rintro ⟨l,tk⟩ ts R hts hG hbz
 have hl : l.length ≤ 3000 := hbz
 show ACall Tryz.prog 103 [.ptr b1 0, .ptr b4 0] (RD rp L ts :: .cells b1 [.ptr rp 0] :: .cells b4 [.str a.rel, .sl 4 (encTs a.l) .no, .sl 11 (l.map encL) tk, .int .i64 ln] :: .grow tk :: R) _
 refine ACall_body tab_ok Tryz.func103 rfl rfl rfl (by kernel_rfl) (nb_ rfl) ?_
 repeat first|refine go_ ?_|intro _
 refine Or.inl ⟨⟨_,Tryz.func104,rfl,rfl⟩,ACall.mono ?_ (ACall_at 0 rfl (part_ok rp L hL hN F hF ts hts _ (NumG.cons (NumG.cons (NumG.cons hG)))))⟩
 rintro _ S1 ⟨e,hS1,hq⟩
 subst S1
 obtain ⟨x,ts1,o,rfl,hs1,rfl,ho⟩ := hq.cases (fun v r' h2 => (suf_part h2).trans hts)
 repeat first|refine gr_ ?_|intro _
 rename_i b3
 refine AW_weak (weak_of (l := [(0, .ptr b1 0),(1, .ptr b4 0),(3, .ptr b3 0),(4,errO o)]) (m := []) (S' := .cells b3 (cL x) :: RD rp L ts1 :: .cells b1 [.ptr rp 0] :: .cells b4 [.str a.rel, .sl 4 (encTs a.l) .no, .sl 11 (l.map encL) tk, .int .i64 ln] :: .grow tk :: R) e_ rfl w_) ?_
 repeat first|refine go_ ?_|intro _
 refine ⟨room (by first | omega | (simp; done) | (simp; omega) | (simp at *; done) | (simp at *; omega)) rfl, .inl rfl, .inr (.inl ⟨rfl,4,rfl,(l ++ [x]).map encL,by rw [List.map_append]; rfl,fun t1 => ?_⟩)⟩
 repeat first|refine gr_ ?_|intro _
 refine AW_weak (weak_of (l := [(4,errO o)]) (m := []) (S' := RD rp L ts1 :: .cells b1 [.ptr rp 0] :: .cells b4 [.str a.rel, .sl 4 (encTs a.l) .no, .sl 11 ((l ++ [x]).map encL) t1, .int .i64 ln] :: .grow t1 :: .cells b3 (cL x) :: R) ?_ rfl (fun w0 K w h => h.perm (by repeat (first | exact List.Perm.refl _ | refine perm_pick 0 rfl ?_ | refine perm_pick 1 rfl ?_ | refine perm_pick 2 rfl ?_ | refine perm_pick 3 rfl ?_ | refine perm_pick 4 rfl ?_ | refine perm_pick 5 rfl ?_ | refine perm_pick 6 rfl ?_ | refine perm_pick 7 rfl ?_)))) ?_
 ·exact e_
 repeat first|refine go_ ?_|intro _
 refine AW_ret ?_
 refine ⟨errO o,RD rp L ts1 :: (stU rp b1 b4 a ln (l ++ [x],t1) ++ R),AVle.refl _,SW.le (SW.cons (SW.cons (SW.cons (SW.cons (SW.drop SW.nil))))),(l ++ [x],t1),ts1,o,rfl,rfl,hs1,?_,?_⟩
 ·show ResO (bodyStep F l ts) (l ++ [x]) ts1 o
  rw [bodyStep]
  cases o with
  | none => rw [show partL' F ts = .ok (x,ts1) from ho]; rfl
  | some q => rw [show partL' F ts = .error q from ho]; rfl
 ·show (l ++ [x]).length ≤ l.length + 1
  rw [List.length_append]; exact Nat.le_refl _
end Go.Proofs.YtfeknkaioofljaaGreatDoor
