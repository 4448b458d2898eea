/-
 Rules. Own work.
-/
import Derived.Test.YtfeknkaioofljaaGreatDoorQ20
import Derived.Test.YtfeknkaioofljaaGreatDoorQ4
set_option linter.all false
set_option maxHeartbeats 4000000
set_option maxRecDepth 4000
namespace Go.Proofs.YtfeknkaioofljaaGreatDoor
open Go.Aw Go.RowKit Tree
open Lx (Tok)
theorem leRu {a : At} {l : List Li} {tk : Tk} {ln : Int} : AVle (.agg [.str a.rel, .sl 4 (encTs a.l) .no, .sl 11 (l.map encL) tk, .int .i64 ln]) (encRu ⟨a,l,ln⟩) :=
 AVle.agg (bs := cRu ⟨a,l,ln⟩) ⟨AVle.refl _,AVle.refl _,AVle.tk,AVle.refl _,trivial⟩ (by intro c hc; simp only [cRu,List.mem_cons,List.not_mem_nil,or_false] at hc; rcases hc with rfl | rfl | rfl | rfl <;> rfl)
theorem rule_ok (rp : Nat) (L : List Tok) (hL : L.length ≤ 20000) (hN : NumT L) (F : Nat) (hF : L.length ≤ F) (ts : List Tok) (h : ts <:+ L) (R : List En) (hG : NumG R) : ACall Tryz.prog 56 [.ptr rp 0] (RD rp L ts :: R) (fun r S => ∃ e,S = e :: R ∧ QT rp L encRu (ruleL F ts) r e) := by
 refine ACall_body tab_ok Tryz.func56 rfl rfl rfl (by kernel_rfl) (nb_ rfl) ?_
 repeat first|refine go_ ?_|intro _
 rename_i b1 b2
 refine Or.inl ⟨⟨_,Tryz.func51,rfl,rfl⟩,ACall.mono ?_ (ACall_same 2 rfl (ahead_ok rp L ts 0 h hL (by decide)))⟩
 rintro _ S1 ⟨rfl,hS1⟩
 subst S1
 repeat first|refine gr_ ?_|intro _
 rename_i b4
 refine AW_weak (weak_of (l := [(1, .ptr b1 0),(2, .ptr b2 0),(4, .ptr b4 0)]) (m := []) (S' := .cells b4 [.str [], .sl 0 [] .full, .sl 0 [] .full, .int .i64 (hd ts 0).line] :: .cells b2 [.str [], .sl 0 [] .full, .sl 0 [] .full, .int .i64 0] :: .cells b1 [.ptr rp 0] :: RD rp L ts :: R) e_ rfl w_) ?_
 repeat first|refine go_ ?_|intro _
 refine Or.inl ⟨⟨_,Tryz.func100,rfl,rfl⟩,ACall.mono ?_ (ACall_at 3 rfl (atom_ok rp L hL hN F hF ts h _ hG.cons.cons.cons))⟩
 rintro _ S1 ⟨e,hS1,hq⟩
 subst S1
 obtain ⟨a,ts1,o,rfl,hs1,rfl,ho⟩ := hq.cases (fun v r' h2 => (eats_atom F _ _ _ h2).1.trans h)
 repeat first|refine gr_ ?_|intro _
 rename_i b5
 refine AW_weak (weak_of (l := [(1, .ptr b1 0),(2, .ptr b2 0),(4, .ptr b4 0),(5, .ptr b5 0),(6,errO o)]) (m := []) (S' := .cells b5 (cA a) :: .cells b4 [.str [], .sl 0 [] .full, .sl 0 [] .full, .int .i64 (hd ts 0).line] :: .cells b2 [.str [], .sl 0 [] .full, .sl 0 [] .full, .int .i64 0] :: .cells b1 [.ptr rp 0] :: RD rp L ts1 :: R) e_ rfl w_) ?_
 repeat refine rg_ ?_
 refine AW_region tab_ok ?_
 repeat first|refine gr_ ?_|intro _
 refine AW_weak (weak_of (l := [(1, .ptr b1 0),(2, .ptr b2 0),(4, .ptr b4 0),(5, .ptr b5 0),(6,errO o)]) (m := []) (S' := .cells b5 (cA a) :: .cells b4 [.str a.rel, .sl 4 (encTs a.l) .no, .sl 11 (([] : List Li).map encL) .full, .int .i64 (hd ts 0).line] :: .cells b2 [.str [], .sl 0 [] .full, .sl 0 [] .full, .int .i64 0] :: .cells b1 [.ptr rp 0] :: RD rp L ts1 :: R) ?_ rfl (SW.le (SW.cons (SW.cells (cs' := [.str a.rel, .sl 4 (encTs a.l) .no, .sl 11 (([] : List Li).map encL) .full, .int .i64 (hd ts 0).line]) ⟨AVle.refl _,AVle.refl _,AVle.nilFull,AVle.refl _,trivial⟩ rfl SW.nil)))) ?_
 ·exact e_
 cases o with
 | some q =>
  have ho : atomL F ts = .error q := ho
  repeat first|refine ga_ ?_|intro _
  refine AW_ret ?_
  refine ⟨rfl,2,_,rfl,⟨nb_ rfl,nb_ rfl⟩, .tup [encRu ⟨a,([] : List Li),(hd ts 0).line⟩,errO (some q)],RD rp L ts1 :: R,le2 leRu,sle_,_,rfl,QT.of hs1 ?_⟩
  rw [ruleL,ho]; rfl
 | none =>
  have ho : atomL F ts = .ok (a,ts1) := ho
  have hr0 : ruleL F ts = (if headL a false = false then .error (40,(hd ts 0).line) else match bodyP F ts1 with
   | .error e => .error e
   | .ok (b,r2) => match mustL [46] r2 with
    | .error e => .error e
    | .ok (_,r3) => if headL a (decide (b.length = 0)) = false then .error (40,(hd ts 0).line) else .ok (⟨a,b,(hd ts 0).line⟩,r3)) := by rw [ruleL,ho]; rfl
  repeat first|refine ga_ ?_|intro _
  refine Or.inl ⟨⟨_,Tryz.func101,rfl,rfl⟩,ACall.mono ?_ (isHead_ok a false _)⟩
  rintro _ S1 ⟨rfl,hS1⟩
  subst S1
  repeat first|refine go_ ?_|intro _
  by_cases hh : headL a false = false
  ·refine AW_true (b := !headL a false) rfl (by rw [hh]; rfl) ?_
   repeat first|refine ga_ ?_|intro _
   refine AW_ret ?_
   refine ⟨rfl,2,_,rfl,⟨nb_ rfl,nb_ rfl⟩, .tup [encRu ⟨a,([] : List Li),(hd ts 0).line⟩,errO (some (40,(hd ts 0).line))],RD rp L ts1 :: R,le2 leRu,sle_,_,rfl,QT.of hs1 ?_⟩
   rw [hr0]; exact if_pos hh
  rw [if_neg hh] at hr0
  refine AW_false (b := !headL a false) rfl (by simpa using hh) ?_
  refine AW_weak (weak_of (l := [(1, .ptr b1 0),(2, .ptr b2 0),(4, .ptr b4 0),(5, .ptr b5 0),(6,errO none)]) (m := []) (S' := .cells b5 (cA a) :: .cells b4 [.str a.rel, .sl 4 (encTs a.l) .no, .sl 11 (([] : List Li).map encL) .full, .int .i64 (hd ts 0).line] :: .cells b2 [.str [], .sl 0 [] .full, .sl 0 [] .full, .int .i64 0] :: .cells b1 [.ptr rp 0] :: RD rp L ts1 :: R) e_ rfl w_) ?_
  refine AW_skip ?_
  refine AW_cut1 (α := List Li × Tk × List Tok × Option (Int × Int)) (fun z => ⟨[(1, .ptr b1 0),(2, .ptr b2 0),(4, .ptr b4 0),(5, .ptr b5 0),(6,errO z.2.2.2)], []⟩) (fun z => .cells b5 (cA a) :: .cells b4 [.str a.rel, .sl 4 (encTs a.l) .no, .sl 11 (z.1.map encL) z.2.1, .int .i64 (hd ts 0).line] :: .cells b2 [.str [], .sl 0 [] .full, .sl 0 [] .full, .int .i64 0] :: .cells b1 [.ptr rp 0] :: RD rp L z.2.2.1 :: R) (fun z => z.2.2.1 <:+ L ∧ ResO (bodyP F ts1) z.1 z.2.2.1 z.2.2.2) ?_ (fun z hz => ?_)
  ·repeat first|refine ga_ ?_|intro _
   cases ht : takesL [58,45] ts1 with
   | none =>
    refine Or.inl ⟨⟨_,Tryz.func102,rfl,rfl⟩,ACall.mono ?_ (ACall_at 4 rfl (takes_no rp L ts1 [58,45] hs1 hL ht _))⟩
    rintro _ S1 ⟨e,hS1,rfl,rfl⟩
    subst S1
    repeat first|refine ga_ ?_|intro _
    refine ⟨(([], .full,ts1,none) : List Li × Tk × List Tok × Option (Int × Int)),?_,weak_of ?_ rfl ?_⟩
    ·exact ⟨hs1,by show bodyP F ts1 = _; rw [bodyP,ht]⟩
    ·exact e_
    ·exact w_
   | some r =>
    have hr := less_takes ht
    refine Or.inl ⟨⟨_,Tryz.func102,rfl,rfl⟩,ACall.mono ?_ (ACall_at 4 rfl (takes_yes rp L ts1 r [58,45] hs1 hL ht _))⟩
    rintro _ S1 ⟨e,hS1,rfl,rfl⟩
    subst S1
    repeat first|refine gr_ ?_|intro _
    refine AW_weak (weak_of (l := [(1, .ptr b1 0),(2, .ptr b2 0),(4, .ptr b4 0),(5, .ptr b5 0),(34, .bool true)]) (m := []) (S' := RD rp L r :: .cells b1 [.ptr rp 0] :: .cells b4 [.str a.rel, .sl 4 (encTs a.l) .no, .sl 11 (([] : List Li).map encL) .full, .int .i64 (hd ts 0).line] :: .cells b5 (cA a) :: .cells b2 [.str [], .sl 0 [] .full, .sl 0 [] .full, .int .i64 0] :: R) ?_ rfl (fun w0 K w h => h.perm (by repeat (first | exact List.Perm.refl _ | refine perm_pick 0 rfl ?_ | refine perm_pick 1 rfl ?_ | refine perm_pick 2 rfl ?_ | refine perm_pick 3 rfl ?_ | refine perm_pick 4 rfl ?_ | refine perm_pick 5 rfl ?_ | refine perm_pick 6 rfl ?_ | refine perm_pick 7 rfl ?_)))) ?_
    ·exact e_
    refine AW_weak (weak_of (l := [(1, .ptr b1 0),(2, .ptr b2 0),(4, .ptr b4 0),(5, .ptr b5 0),(34, .bool true)]) (m := []) (S' := RD rp L r :: .cells b1 [.ptr rp 0] :: .cells b4 [.str a.rel, .sl 4 (encTs a.l) .no, .sl 11 (([] : List Li).map encL) .full, .int .i64 (hd ts 0).line] :: .grow .full :: .cells b5 (cA a) :: .cells b2 [.str [], .sl 0 [] .full, .sl 0 [] .full, .int .i64 0] :: R) ?_ rfl (SW.le (SW.cons (SW.cons (SW.cons (SW.full SW.nil)))))) ?_
    ·exact e_
    repeat first|refine ga_ ?_|intro _
    refine Or.inl ⟨⟨_,Tryz.func95,rfl,rfl⟩,ACall.mono ?_ (list_ok rp L hL (bodyStep F) (fun z : List Li × Tk => z.1) (fun z => z.1.length) (stU rp b1 b4 a (hd ts 0).line) 20 (by decide) _ _ _ (bodyStep_ok rp L hL hN F hF b1 b4 a (hd ts 0).line) ([], .full) (Nat.zero_le _) r (.cells b5 (cA a) :: .cells b2 [.str [], .sl 0 [] .full, .sl 0 [] .full, .int .i64 0] :: R) (hr.1.trans hs1) (hG.cons.cons))⟩
    rintro _ S1 ⟨⟨l,tk⟩,ts2,o,rfl,hS1,hs2,ho2⟩
    subst S1
    repeat first|refine ga_ ?_|intro _
    refine ⟨(l,tk,ts2,o),?_,weak_of ?_ rfl ?_⟩
    ·refine ⟨hs2,?_⟩
     ·show ResO (bodyP F ts1) l ts2 o
      rw [bodyP,ht]; exact ho2
    ·exact e_
    ·exact fun w0 K w h9 => (h9.sub (.cons_cons _ (.cons_cons _ (.cons_cons _ (.cons _ (List.Sublist.refl _)))))).perm (by repeat (first | exact List.Perm.refl _ | refine perm_pick 0 rfl ?_ | refine perm_pick 1 rfl ?_ | refine perm_pick 2 rfl ?_ | refine perm_pick 3 rfl ?_ | refine perm_pick 4 rfl ?_))
  obtain ⟨l,tk,ts2,o⟩ := z
  obtain ⟨hs2,ho2⟩ : ts2 <:+ L ∧ ResO (bodyP F ts1) l ts2 o := hz
  cases o with
  | some q =>
   repeat first|refine ga_ ?_|intro _
   refine AW_ret ?_
   refine ⟨rfl,2,_,rfl,⟨nb_ rfl,nb_ rfl⟩, .tup [encRu ⟨a,l,(hd ts 0).line⟩,errO (some q)],RD rp L ts2 :: R,le2 leRu,sle_,_,rfl,QT.of hs2 ?_⟩
   rw [hr0,show bodyP F ts1 = .error q from ho2]; rfl
  | none =>
   have ho2 : bodyP F ts1 = .ok (l,ts2) := ho2
   repeat first|refine ga_ ?_|intro _
   refine Or.inl ⟨⟨_,Tryz.func105,rfl,rfl⟩,ACall.mono ?_ (ACall_at 4 rfl (must_ok rp L ts2 [46] hs2 hL _))⟩
   rintro _ S1 ⟨e,hS1,hq⟩
   subst S1
   obtain ⟨ts3,o3,rfl,hs3,rfl,ho3⟩ := hq.cases (fun v r' h2 => (less_must h2).1.trans hs2)
   repeat first|refine gr_ ?_|intro _
   refine AW_weak (weak_of (l := [(1, .ptr b1 0),(2, .ptr b2 0),(4, .ptr b4 0),(5, .ptr b5 0),(6,errO o3)]) (m := []) (S' := .cells b5 (cA a) :: .cells b4 [.str a.rel, .sl 4 (encTs a.l) .no, .sl 11 (l.map encL) tk, .int .i64 (hd ts 0).line] :: .cells b2 [.str [], .sl 0 [] .full, .sl 0 [] .full, .int .i64 0] :: .cells b1 [.ptr rp 0] :: RD rp L ts3 :: R) e_ rfl w_) ?_
   cases o3 with
   | some q =>
    have ho3 : mustL [46] ts2 = .error q := ho3
    repeat first|refine ga_ ?_|intro _
    refine AW_ret ?_
    refine ⟨rfl,2,_,rfl,⟨nb_ rfl,nb_ rfl⟩, .tup [encRu ⟨a,l,(hd ts 0).line⟩,errO (some q)],RD rp L ts3 :: R,le2 leRu,sle_,_,rfl,QT.of hs3 ?_⟩
    rw [hr0,ho2]; show (match mustL [46] ts2 with | .error e => _ | .ok (_,r3) => _) = _; rw [ho3]
   | none =>
    obtain ⟨u,ho3⟩ := ho3
    have hr1 : ruleL F ts = (if headL a (decide (l.length = 0)) = false then .error (40,(hd ts 0).line) else .ok (⟨a,l,(hd ts 0).line⟩,ts3)) := by
     rw [hr0,ho2]; show (match mustL [46] ts2 with | .error e => _ | .ok (_,r3) => _) = _; rw [ho3]
    repeat first|refine ga_ ?_|intro _
    have hdec : decide ((((l.map encL).length : Nat) : Int) = 0) = decide (l.length = 0) := decide_eq_decide.2 (by rw [List.length_map]; omega)
    refine Or.inl ⟨⟨_,Tryz.func101,rfl,rfl⟩,ACall.mono ?_ (isHead_ok a (decide ((((l.map encL).length : Nat) : Int) = 0)) _)⟩
    rintro _ S1 ⟨rfl,hS1⟩
    subst S1
    repeat first|refine go_ ?_|intro _
    by_cases hb : headL a (decide (l.length = 0)) = false
    ·refine AW_true (b := !headL a (decide ((((l.map encL).length : Nat) : Int) = 0))) rfl (by rw [hdec,hb]; rfl) ?_
     repeat first|refine ga_ ?_|intro _
     refine AW_ret ?_
     refine ⟨rfl,2,_,rfl,⟨nb_ rfl,nb_ rfl⟩, .tup [encRu ⟨a,l,(hd ts 0).line⟩,errO (some (40,(hd ts 0).line))],RD rp L ts3 :: R,le2 leRu,sle_,_,rfl,QT.of hs3 ?_⟩
     rw [hr1]; exact if_pos hb
    ·refine AW_false (b := !headL a (decide ((((l.map encL).length : Nat) : Int) = 0))) rfl (by rw [hdec]; simpa using hb) ?_
     repeat first|refine ga_ ?_|intro _
     refine AW_ret ?_
     refine ⟨rfl,2,_,rfl,⟨nb_ rfl,nb_ rfl⟩, .tup [encRu ⟨a,l,(hd ts 0).line⟩,errO (none)],RD rp L ts3 :: R,le2 leRu,sle_,_,rfl,QT.of hs3 ?_⟩
     rw [hr1]; exact if_neg hb
def mapK : List (List UInt8 × AV) := [([110,117,109,98,101,114], .int .i64 1),([115,121,109,98,111,108], .int .i64 2)]
theorem mapK_ok (s : List UInt8) : ∃ b,mget s (.int .i64 0) mapK = (.int .i64 (kindT s),b) := by
 by_cases h : [110,117,109,98,101,114] = s
 ·subst h; exact ⟨true,rfl⟩
 ·by_cases h2 : [115,121,109,98,111,108] = s
  ·subst h2; exact ⟨true,rfl⟩
  ·exact ⟨false,by rw [mapK,mget,if_neg h,mget,if_neg h2,mget,kindT,if_neg (fun e => h e.symm),if_neg (fun e => h2 e.symm)]⟩
structure Cl where
 d : List (List UInt8) × List Int
 t1 : Tk
 t2 : Tk
def cCl (rel : List UInt8) (ln : Int) (c : Cl) : List AV := [.str rel, .sl 1 (c.d.1.map AV.str) c.t1, .sl 1 (c.d.2.map encI) c.t2, .bool false, .bool false, .int .i64 ln]
theorem column_ok (rp : Nat) (L : List Tok) (hL : L.length ≤ 20000) (b4 : Nat) (rel : List UInt8) (ln : Int) (c : Cl) (hc1 : c.d.1.length ≤ 3000) (hc2 : c.d.2.length ≤ 3000) (ts : List Tok) (h : ts <:+ L) (R : List En) :
  ACall Tryz.prog 97 [.ptr rp 0, .ptr b4 0] (RD rp L ts :: .cells b4 (cCl rel ln c) :: .grow c.t1 :: .grow c.t2 :: R) (fun r S => ∃ (c' : Cl) (ts' : List Tok) (o : Option (Int × Int)),r = errO o ∧ S = RD rp L ts' :: .cells b4 (cCl rel ln c') :: .grow c'.t1 :: .grow c'.t2 :: R ∧ ts' <:+ L ∧ ResO (colStep c.d ts) c'.d ts' o ∧ c'.d.1.length ≤ c.d.1.length + 1 ∧ c'.d.2.length ≤ c.d.2.length + 1) := by
 obtain ⟨⟨l1,l2⟩,t1,t2⟩ := c
 refine ACall_body tab_ok Tryz.func97 rfl rfl rfl (by kernel_rfl) (nb_ rfl) ?_
 repeat first|refine go_ ?_|intro _
 refine Or.inl ⟨⟨_,Tryz.func92,rfl,rfl⟩,ACall.mono ?_ (ACall_at 0 rfl (rName_ok rp L ts h hL _))⟩
 rintro _ S1 ⟨e,hS1,hq⟩
 subst S1
 obtain ⟨s,ts1,o,rfl,hs1,rfl,ho⟩ := hq.cases (fun v r' h2 => (less_name h2).1.1.trans h)
 repeat first|refine gr_ ?_|intro _
 refine AW_weak (weak_of (l := [(0, .ptr rp 0),(1, .ptr b4 0),(5, .str s),(6,errO o)]) (m := []) (S' := RD rp L ts1 :: .cells b4 (cCl rel ln ⟨(l1,l2),t1,t2⟩) :: .grow t1 :: .grow t2 :: R) e_ rfl w_) ?_
 cases o with
 | some q =>
  have ho : nameP ts = .error q := ho
  repeat first|refine ga_ ?_|intro _
  refine AW_ret ?_
  exact ⟨_,RD rp L ts1 :: .cells b4 (cCl rel ln ⟨(l1,l2),t1,t2⟩) :: .grow t1 :: .grow t2 :: R,AVle.refl _,sle_,⟨(l1,l2),t1,t2⟩,ts1,some q,rfl,rfl,hs1,(by show colStep (l1,l2) ts = _; rw [colStep,ho]),Nat.le_succ _,Nat.le_succ _⟩
 | none =>
  have ho : nameP ts = .ok (s,ts1) := ho
  repeat first|refine ga_ ?_|intro _
  refine Or.inl ⟨⟨_,Tryz.func105,rfl,rfl⟩,ACall.mono ?_ (ACall_at 0 rfl (must_ok rp L ts1 [58] hs1 hL _))⟩
  rintro _ S1 ⟨e,hS1,hq⟩
  subst S1
  obtain ⟨ts2,o,rfl,hs2,rfl,ho2⟩ := hq.cases (fun v r' h2 => (less_must h2).1.trans hs1)
  repeat first|refine gr_ ?_|intro _
  refine AW_weak (weak_of (l := [(0, .ptr rp 0),(1, .ptr b4 0),(5, .str s),(6,errO o)]) (m := []) (S' := RD rp L ts2 :: .cells b4 (cCl rel ln ⟨(l1,l2),t1,t2⟩) :: .grow t1 :: .grow t2 :: R) e_ rfl w_) ?_
  cases o with
  | some q =>
   have ho2 : mustL [58] ts1 = .error q := ho2
   repeat first|refine ga_ ?_|intro _
   refine AW_ret ?_
   exact ⟨_,RD rp L ts2 :: .cells b4 (cCl rel ln ⟨(l1,l2),t1,t2⟩) :: .grow t1 :: .grow t2 :: R,AVle.refl _,sle_,⟨(l1,l2),t1,t2⟩,ts2,some q,rfl,rfl,hs2,(by show colStep (l1,l2) ts = _; rw [colStep,ho]; show (match mustL [58] ts1 with | .error e => _ | .ok (_,r2) => _) = _; rw [ho2]),Nat.le_succ _,Nat.le_succ _⟩
  | none =>
   obtain ⟨u,ho2⟩ := ho2
   repeat first|refine ga_ ?_|intro _
   refine Or.inl ⟨⟨_,Tryz.func51,rfl,rfl⟩,ACall.mono ?_ (ACall_same 0 rfl (ahead_ok rp L ts2 0 hs2 hL (by decide)))⟩
   rintro _ S1 ⟨rfl,hS1⟩
   subst S1
   repeat first|refine gr_ ?_|intro _
   rename_i b7
   obtain ⟨t,ht⟩ : ∃ t,t = hd ts2 0 := ⟨_,rfl⟩
   have hcs : colStep (l1,l2) ts = (if t.kind = 1 ∧ kindT t.s ≠ 0 then .ok ((l1 ++ [s],l2 ++ [kindT t.s]),ts2.tail) else stopE ts2) := by
    rw [colStep,ho]; show (match mustL [58] ts1 with | .error e => _ | .ok (_,r2) => _) = _; rw [ho2,ht]
   refine AW_weak (weak_of (l := [(0, .ptr rp 0),(1, .ptr b4 0),(5, .str s),(7, .ptr b7 0)]) (m := []) (S' := .cells b7 [.int .i64 (hd ts2 0).kind, .str (hd ts2 0).s, .int .i64 (hd ts2 0).line] :: RD rp L ts2 :: .cells b4 (cCl rel ln ⟨(l1,l2),t1,t2⟩) :: .grow t1 :: .grow t2 :: R) e_ rfl w_) ?_
   rw [← ht]
   repeat first|refine go_ ?_|intro _
   rename_i b8
   refine ⟨_,_,0,_,rfl,rfl,rfl,mapK.take 1,rfl,?_⟩
   repeat first|refine go_ ?_|intro _
   refine ⟨_,_,0,_,rfl,rfl,rfl,mapK,rfl,?_⟩
   repeat first|refine go_ ?_|intro _
   obtain ⟨mbb,hmg⟩ := mapK_ok t.s
   refine ⟨_,_,_,0,_,rfl,rfl,zero_int,rfl,(.int .i64 (kindT t.s),mbb),hmg,?_⟩
   repeat first|refine gr_ ?_|intro _
   refine AW_weak (weak_of (l := [(0, .ptr rp 0),(1, .ptr b4 0),(5, .str s),(7, .ptr b7 0),(8, .int .i64 (kindT t.s))]) (m := []) (S' := .cells b7 [.int .i64 t.kind, .str t.s, .int .i64 t.line] :: RD rp L ts2 :: .cells b4 (cCl rel ln ⟨(l1,l2),t1,t2⟩) :: .grow t1 :: .grow t2 :: R) e_ rfl w_) ?_
   repeat first|refine go_ ?_|intro _
   by_cases hk : t.kind = 1
   rotate_left
   ·refine known_true (b := !decide (t.kind = 1)) (by rw [decide_eq_false hk]; rfl) ?_
    repeat first|refine ga_ ?_|intro _
    refine Or.inl ⟨⟨_,Tryz.func98,rfl,rfl⟩,ACall.mono ?_ (ACall_same 1 rfl (stop_ok rp L ts2 hs2 hL))⟩
    rintro _ S1 ⟨rfl,hS1⟩
    subst S1
    repeat first|refine go_ ?_|intro _
    refine AW_ret ?_
    exact ⟨faultE (40,(hd ts2 0).line),RD rp L ts2 :: .cells b4 (cCl rel ln ⟨(l1,l2),t1,t2⟩) :: .grow t1 :: .grow t2 :: R,AVle.refl _,sle_,⟨(l1,l2),t1,t2⟩,ts2,some (40,(hd ts2 0).line),rfl,rfl,hs2,(by show colStep (l1,l2) ts = _; rw [hcs,if_neg (fun hh => hk hh.1)]; rfl),Nat.le_succ _,Nat.le_succ _⟩
   refine known_false (b := !decide (t.kind = 1)) (by rw [hk]; rfl) ?_
   repeat first|refine go_ ?_|intro _
   by_cases hr : kindT t.s = 0
   ·refine AW_true (b := decide (kindT t.s = 0)) rfl (by exact decide_eq_true hr) ?_
    repeat first|refine ga_ ?_|intro _
    refine Or.inl ⟨⟨_,Tryz.func98,rfl,rfl⟩,ACall.mono ?_ (ACall_same 1 rfl (stop_ok rp L ts2 hs2 hL))⟩
    rintro _ S1 ⟨rfl,hS1⟩
    subst S1
    repeat first|refine go_ ?_|intro _
    refine AW_ret ?_
    exact ⟨faultE (40,(hd ts2 0).line),RD rp L ts2 :: .cells b4 (cCl rel ln ⟨(l1,l2),t1,t2⟩) :: .grow t1 :: .grow t2 :: R,AVle.refl _,sle_,⟨(l1,l2),t1,t2⟩,ts2,some (40,(hd ts2 0).line),rfl,rfl,hs2,(by show colStep (l1,l2) ts = _; rw [hcs,if_neg (fun hh => hh.2 hr)]; rfl),Nat.le_succ _,Nat.le_succ _⟩
   refine AW_false (b := decide (kindT t.s = 0)) rfl (by exact decide_eq_false hr) ?_
   have hne := hd_ne (ts := ts2) (by rw [← ht,hk]; decide)
   have hts : ts2.tail <:+ L := tail_suf.trans hs2
   refine AW_weak (weak_of (l := [(0, .ptr rp 0),(1, .ptr b4 0),(5, .str s),(8, .int .i64 (kindT t.s))]) (m := []) (S' := RD rp L ts2 :: .cells b4 (cCl rel ln ⟨(l1,l2),t1,t2⟩) :: .grow t1 :: .grow t2 :: R) e_ rfl w_) ?_
   repeat refine rg_ ?_
   refine AW_region tab_ok ?_
   repeat first|refine gr_ ?_|intro _
   refine AW_weak (weak_of (l := [(1, .ptr b4 0),(5, .str s),(8, .int .i64 (kindT t.s))]) (m := []) (S' := RD rp L ts2.tail :: .cells b4 (cCl rel ln ⟨(l1,l2),t1,t2⟩) :: .grow t1 :: .grow t2 :: R) ?_ rfl (SLe.of_eq (congrArg (fun e => e :: _) (RD_next hs2 hne hL)))) ?_
   ·exact e_
   have hl1 : l1.length ≤ 3000 := hc1
   have hl2 : l2.length ≤ 3000 := hc2
   refine AW_cut1 (α := Tk × Tk) (fun z => ⟨[], []⟩) (fun z => RD rp L ts2.tail :: .cells b4 (cCl rel ln ⟨(l1 ++ [s],l2 ++ [kindT t.s]),z.1,z.2⟩) :: .grow z.1 :: .grow z.2 :: R) (fun z => True) ?_ (fun z hz => ?_)
   ·refine AW_drawT ([RD rp L ts2.tail, .cells b4 (cCl rel ln ⟨(l1,l2),t1,t2⟩)]) tab_ok mixed [0,2,3,4,5,6,7,9,10,11,12,13,14] (.more false 1 (.one false 8 (.one false 15 (.one true 16 (.one true 17 (.one true 18 (.one true 19 (.one true 20 (.one true 21 .leaf)))))))) (.one false 8 (.more false 1 (.one false 15 (.one true 16 (.one true 17 (.one true 18 (.one true 19 (.one true 20 (.one true 21 .leaf))))))) (.one false 15 (.more false 1 (.one true 16 (.one true 17 (.one true 18 (.one true 19 (.one true 20 (.one true 21 .leaf)))))) (.one true 16 (.more true 1 (.one true 17 (.one true 18 (.one true 19 (.one true 20 (.one true 21 .leaf))))) (.one true 17 (.more true 1 (.one true 18 (.one true 19 (.one true 20 (.one true 21 .leaf)))) (.one true 18 (.one true 1 (.one true 19 (.one true 20 (.one true 21 .leaf)))))))))))))) (by first | rfl | kernel_rfl) ⟨_,List.Perm.refl _⟩ ?_
    repeat (first | refine det_stepX rfl ?_ | refine go_ ?_ | intro _)
    refine ⟨?_,?_⟩
    ·refine keepA ?_
     refine ⟨_,rfl,rfl,rfl,room (by rw [List.length_map]; simp; omega) rfl, .inl rfl, .inr (.inl ⟨rfl,2,rfl,(l1 ++ [s]).map AV.str,by rw [List.map_append]; rfl,fun t3 => ?_⟩)⟩; refine keepA ?_
     refine ⟨_,rfl,rfl,rfl,room (by rw [List.length_map]; simp; omega) rfl, .inl rfl, .inr (.inl ⟨rfl,3,rfl,(l2 ++ [kindT t.s]).map encI,by rw [List.map_append]; rfl,fun t4 => ?_⟩)⟩; refine keepA ?_
     refine ⟨1,38,rfl,rfl,Nat.le_refl 1,?_⟩
     refine ⟨rfl,1,_,rfl,rfl,rfl,nb_ rfl,_,rfl,?_⟩
     refine ⟨2,39,rfl,rfl,Nat.le_refl 1,?_⟩
     refine ⟨rfl,1,_,rfl,rfl,rfl,nb_ rfl,_,rfl,?_⟩
     exact ⟨(t3,t4),trivial,weak_of trivial rfl (SW.le (by repeat (first | exact SW.nil | refine sw_ ?_)))⟩
    refine ⟨_,rfl,rfl,rfl,room (by rw [List.length_map]; simp; omega) rfl, .inl rfl, .inr (.inl ⟨rfl,2,rfl,(l1 ++ [s]).map AV.str,by rw [List.map_append]; rfl,fun t3 => ?_⟩)⟩; refine keepA ?_
    refine ⟨?_,?_⟩
    ·refine keepA ?_
     refine ⟨_,rfl,rfl,rfl,room (by rw [List.length_map]; simp; omega) rfl, .inl rfl, .inr (.inl ⟨rfl,3,rfl,(l2 ++ [kindT t.s]).map encI,by rw [List.map_append]; rfl,fun t4 => ?_⟩)⟩; refine keepA ?_
     refine ⟨1,38,rfl,rfl,Nat.le_refl 1,?_⟩
     refine ⟨rfl,1,_,rfl,rfl,rfl,nb_ rfl,_,rfl,?_⟩
     refine ⟨2,39,rfl,rfl,Nat.le_refl 1,?_⟩
     refine ⟨rfl,1,_,rfl,rfl,rfl,nb_ rfl,_,rfl,?_⟩
     exact ⟨(t3,t4),trivial,weak_of trivial rfl (SW.le (by repeat (first | exact SW.nil | refine sw_ ?_)))⟩
    refine ⟨_,rfl,rfl,rfl,room (by rw [List.length_map]; simp; omega) rfl, .inl rfl, .inr (.inl ⟨rfl,3,rfl,(l2 ++ [kindT t.s]).map encI,by rw [List.map_append]; rfl,fun t4 => ?_⟩)⟩; refine keepA ?_
    refine ⟨?_,?_⟩
    ·refine keepA ?_
     refine ⟨1,38,rfl,rfl,Nat.le_refl 1,?_⟩
     refine ⟨rfl,1,_,rfl,rfl,rfl,nb_ rfl,_,rfl,?_⟩
     refine ⟨2,39,rfl,rfl,Nat.le_refl 1,?_⟩
     refine ⟨rfl,1,_,rfl,rfl,rfl,nb_ rfl,_,rfl,?_⟩
     exact ⟨(t3,t4),trivial,weak_of trivial rfl (SW.le (by repeat (first | exact SW.nil | refine sw_ ?_)))⟩
    refine ⟨?_,?_⟩
    ·skip
     refine ⟨1,38,rfl,rfl,Nat.le_refl 1,?_⟩
     refine ⟨rfl,1,_,rfl,rfl,rfl,nb_ rfl,_,rfl,?_⟩
     refine ⟨2,39,rfl,rfl,Nat.le_refl 1,?_⟩
     refine ⟨rfl,1,_,rfl,rfl,rfl,nb_ rfl,_,rfl,?_⟩
     exact ⟨(t3,t4),trivial,weak_of trivial rfl (SW.le (by repeat (first | exact SW.nil | refine sw_ ?_)))⟩
    refine ⟨1,38,rfl,rfl,Nat.le_refl 1,?_⟩
    refine ⟨?_,?_⟩
    ·skip
     refine ⟨rfl,1,_,rfl,rfl,rfl,nb_ rfl,_,rfl,?_⟩
     refine ⟨2,39,rfl,rfl,Nat.le_refl 1,?_⟩
     refine ⟨rfl,1,_,rfl,rfl,rfl,nb_ rfl,_,rfl,?_⟩
     exact ⟨(t3,t4),trivial,weak_of trivial rfl (SW.le (by repeat (first | exact SW.nil | refine sw_ ?_)))⟩
    refine ⟨rfl,1,_,rfl,rfl,rfl,nb_ rfl,_,rfl,?_⟩
    refine ⟨2,39,rfl,rfl,Nat.le_refl 1,?_⟩
    refine ⟨rfl,1,_,rfl,rfl,rfl,nb_ rfl,_,rfl,?_⟩
    exact ⟨(t3,t4),trivial,weak_of trivial rfl (SW.le (by repeat (first | exact SW.nil | refine sw_ ?_)))⟩
   obtain ⟨t3,t4⟩ := z
   repeat first|refine go_ ?_|intro _
   refine AW_ret ?_
   refine ⟨.nilif,RD rp L ts2.tail :: .cells b4 (cCl rel ln ⟨(l1 ++ [s],l2 ++ [kindT t.s]),t3,t4⟩) :: .grow t3 :: .grow t4 :: R,AVle.refl _,sle_,⟨(l1 ++ [s],l2 ++ [kindT t.s]),t3,t4⟩,ts2.tail,none,rfl,rfl,hts,?_,?_,?_⟩
   ·show colStep (l1,l2) ts = _
    rw [hcs,if_pos ⟨hk,hr⟩]
   ·show (l1 ++ [s]).length ≤ l1.length + 1
    rw [List.length_append]; exact Nat.le_refl _
   ·show (l2 ++ [kindT t.s]).length ≤ l2.length + 1
    rw [List.length_append]; exact Nat.le_refl _
def stC (rp b1 b4 : Nat) (rel : List UInt8) (ln : Int) (c : Cl) : List En := [.cells b1 [.ptr rp 0], .cells b4 (cCl rel ln c), .grow c.t1, .grow c.t2]
theorem declStep_ok (rp : Nat) (L : List Tok) (hL : L.length ≤ 20000) (b1 b4 : Nat) (rel : List UInt8) (ln : Int) : OneOk rp L 96 [] [.ptr b1 0, .ptr b4 0] colStep (fun c : Cl => c.d) (fun c => max c.d.1.length c.d.2.length) (stC rp b1 b4 rel ln) := by
 refine ⟨⟨_,Tryz.func96,rfl,rfl⟩,?_⟩
 intro c ts R hts hG hbz
 have hbz : max c.d.1.length c.d.2.length ≤ 3000 := hbz
 show ACall Tryz.prog 96 [.ptr b1 0, .ptr b4 0] (RD rp L ts :: .cells b1 [.ptr rp 0] :: .cells b4 (cCl rel ln c) :: .grow c.t1 :: .grow c.t2 :: R) _
 refine ACall_body tab_ok Tryz.func96 rfl rfl rfl (by kernel_rfl) (nb_ rfl) ?_
 repeat first|refine go_ ?_|intro _
 refine Or.inl ⟨⟨_,Tryz.func97,rfl,rfl⟩,ACall.mono ?_ (ACall_conv (k := fun r S => ∃ (c' : Cl) (ts' : List Tok) (o : Option (Int × Int)),r = errO o ∧ S = RD rp L ts' :: .cells b1 [.ptr rp 0] :: .cells b4 (cCl rel ln c') :: .grow c'.t1 :: .grow c'.t2 :: R ∧ ts' <:+ L ∧ ResO (colStep c.d ts) c'.d ts' o ∧ c'.d.1.length ≤ c.d.1.length + 1 ∧ c'.d.2.length ≤ c.d.2.length + 1) (by repeat (first | exact List.Perm.refl _ | refine perm_pick 0 rfl ?_ | refine perm_pick 1 rfl ?_ | refine perm_pick 2 rfl ?_ | refine perm_pick 3 rfl ?_)) (column_ok rp L hL b4 rel ln c (by omega) (by omega) ts hts (.cells b1 [.ptr rp 0] :: R)) ?_)⟩
 rotate_left
 ·rintro r _ ⟨c',ts',o,h1,rfl,h2⟩
  exact ⟨RD rp L ts' :: .cells b1 [.ptr rp 0] :: .cells b4 (cCl rel ln c') :: .grow c'.t1 :: .grow c'.t2 :: R,(by repeat (first | exact List.Perm.refl _ | refine perm_pick 0 rfl ?_ | refine perm_pick 1 rfl ?_ | refine perm_pick 2 rfl ?_ | refine perm_pick 3 rfl ?_ | refine perm_pick 4 rfl ?_)),c',ts',o,h1,rfl,h2⟩
 rintro _ S1 ⟨c',ts',o,rfl,hS1,h2,h3,h4,h5⟩
 subst S1
 repeat first|refine go_ ?_|intro _
 refine AW_ret ?_
 refine ⟨errO o,RD rp L ts' :: (stC rp b1 b4 rel ln c' ++ R),AVle.refl _,SLe.rfl,c',ts',o,rfl,rfl,h2,h3,?_⟩
 show max c'.d.1.length c'.d.2.length ≤ max c.d.1.length c.d.2.length + 1
 omega
theorem declWhat_ok (rp : Nat) (L : List Tok) (hL : L.length ≤ 20000) (b1 b4 : Nat) (rel : List UInt8) (ln : Int) : WhatOk rp L 94 [] [.ptr b1 0, .ptr b4 0] (listGo colStep 8 ([], [])) (fun c : Cl => c.d) (stC rp b1 b4 rel ln) ⟨([], []), .full, .full⟩ := by
 refine ⟨⟨_,Tryz.func94,rfl,rfl⟩,?_⟩
 intro ts R hts hG
 show ACall Tryz.prog 94 [.ptr b1 0, .ptr b4 0] (RD rp L ts :: .cells b1 [.ptr rp 0] :: .cells b4 (cCl rel ln ⟨([], []), .full, .full⟩) :: .grow .full :: .grow .full :: R) _
 refine ACall_body tab_ok Tryz.func94 rfl rfl rfl (by kernel_rfl) (nb_ rfl) ?_
 repeat first|refine go_ ?_|intro _
 refine Or.inl ⟨⟨_,Tryz.func95,rfl,rfl⟩,ACall.mono ?_ (list_ok rp L hL colStep (fun c : Cl => c.d) (fun c => max c.d.1.length c.d.2.length) (stC rp b1 b4 rel ln) 8 (by decide) _ _ _ (declStep_ok rp L hL b1 b4 rel ln) ⟨([], []), .full, .full⟩ (Nat.zero_le _) ts R hts hG)⟩
 rintro _ S1 ⟨c',ts1,o,rfl,hS1,hs1,ho⟩
 subst S1
 repeat first|refine go_ ?_|intro _
 refine AW_ret ?_
 exact ⟨errO o,_,AVle.refl _,SLe.rfl,c',ts1,o,rfl,rfl,hs1,ho⟩
theorem leDe {rel : List UInt8} {ln : Int} {c : Cl} : AVle (.agg (cCl rel ln c)) (encD ⟨rel,c.d.1,c.d.2,false,false,ln⟩) :=
 AVle.agg (bs := cD ⟨rel,c.d.1,c.d.2,false,false,ln⟩) ⟨AVle.refl _,AVle.tk,AVle.tk,AVle.refl _,AVle.refl _,AVle.refl _,trivial⟩ (by intro c hc; simp only [cD,List.mem_cons,List.not_mem_nil,or_false] at hc; rcases hc with rfl | rfl | rfl | rfl | rfl | rfl <;> rfl)
theorem decl_ok (rp : Nat) (L : List Tok) (hL : L.length ≤ 20000) (ts : List Tok) (h : ts <:+ L) (hne : ts ≠ []) (R : List En) (hG : NumG R) : ACall Tryz.prog 52 [.ptr rp 0] (RD rp L ts :: R) (fun r S => ∃ e,S = e :: R ∧ QT rp L encD (declL ts) r e) := by
 have hts : ts.tail <:+ L := tail_suf.trans h
 refine ACall_body tab_ok Tryz.func52 rfl rfl rfl (by kernel_rfl) (nb_ rfl) ?_
 repeat first|refine go_ ?_|intro _
 rename_i b1 b2
 refine Or.inl ⟨⟨_,Tryz.func51,rfl,rfl⟩,ACall.mono ?_ (ACall_same 2 rfl (ahead_ok rp L ts 0 h hL (by decide)))⟩
 rintro _ S1 ⟨rfl,hS1⟩
 subst S1
 repeat first|refine gr_ ?_|intro _
 rename_i b4
 refine AW_weak (weak_of (l := [(1, .ptr b1 0),(2, .ptr b2 0),(4, .ptr b4 0)]) (m := []) (S' := .cells b4 (cCl [] (hd ts 0).line ⟨([], []), .full, .full⟩) :: .cells b2 [.str [], .sl 0 [] .full, .sl 0 [] .full, .bool false, .bool false, .int .i64 0] :: .cells b1 [.ptr rp 0] :: RD rp L ts :: R) ?_ rfl (SW.le (SW.cells (cs' := cCl [] (hd ts 0).line ⟨([], []), .full, .full⟩) ⟨AVle.refl _,AVle.nilFull,AVle.nilFull,AVle.refl _,AVle.refl _,AVle.refl _,trivial⟩ rfl SW.nil))) ?_
 ·exact e_
 repeat refine rg_ ?_
 refine AW_region tab_ok ?_
 repeat first|refine gr_ ?_|intro _
 refine AW_weak (weak_of (l := [(1, .ptr b1 0),(2, .ptr b2 0),(4, .ptr b4 0)]) (m := []) (S' := .cells b4 (cCl [] (hd ts 0).line ⟨([], []), .full, .full⟩) :: .cells b2 [.str [], .sl 0 [] .full, .sl 0 [] .full, .bool false, .bool false, .int .i64 0] :: .cells b1 [.ptr rp 0] :: RD rp L ts.tail :: R) ?_ rfl (SLe.of_eq (congrArg (fun e => _ :: _ :: _ :: e :: _) (RD_next h hne hL)))) ?_
 ·exact e_
 repeat first|refine go_ ?_|intro _
 refine Or.inl ⟨⟨_,Tryz.func92,rfl,rfl⟩,ACall.mono ?_ (ACall_at 3 rfl (rName_ok rp L ts.tail hts hL _))⟩
 rintro _ S1 ⟨e,hS1,hq⟩
 subst S1
 obtain ⟨s,ts1,o,rfl,hs1,rfl,ho⟩ := hq.cases (fun v r' h2 => (less_name h2).1.1.trans hts)
 repeat first|refine gr_ ?_|intro _
 refine AW_weak (weak_of (l := [(1, .ptr b1 0),(2, .ptr b2 0),(4, .ptr b4 0),(5, .str s),(6,errO o)]) (m := []) (S' := .cells b4 (cCl [] (hd ts 0).line ⟨([], []), .full, .full⟩) :: .cells b2 [.str [], .sl 0 [] .full, .sl 0 [] .full, .bool false, .bool false, .int .i64 0] :: .cells b1 [.ptr rp 0] :: RD rp L ts1 :: R) e_ rfl w_) ?_
 cases o with
 | some q =>
  have ho : nameP ts.tail = .error q := ho
  repeat first|refine ga_ ?_|intro _
  refine AW_ret ?_
  refine ⟨rfl,1,_,rfl,⟨nb_ rfl,nb_ rfl⟩, .tup [encD ⟨[], [], [],false,false,(hd ts 0).line⟩,errO (some q)],RD rp L ts1 :: R,le2 leDe,sle_,_,rfl,QT.of hs1 ?_⟩
  rw [declL,ho]; rfl
 | none =>
  have ho : nameP ts.tail = .ok (s,ts1) := ho
  repeat refine rg_ ?_
  refine AW_region tab_ok ?_
  repeat first|refine gr_ ?_|intro _
  refine AW_false (b := false) rfl rfl ?_
  repeat refine rg_ ?_
  refine AW_region tab_ok ?_
  repeat first|refine gr_ ?_|intro _
  refine AW_weak (weak_of (l := [(1, .ptr b1 0),(2, .ptr b2 0),(4, .ptr b4 0)]) (m := []) (S' := RD rp L ts1 :: .cells b1 [.ptr rp 0] :: .cells b4 (cCl s (hd ts 0).line ⟨([], []), .full, .full⟩) :: .cells b2 [.str [], .sl 0 [] .full, .sl 0 [] .full, .bool false, .bool false, .int .i64 0] :: R) ?_ rfl (fun w0 K w h => h.perm (by repeat (first | exact List.Perm.refl _ | refine perm_pick 0 rfl ?_ | refine perm_pick 1 rfl ?_ | refine perm_pick 2 rfl ?_ | refine perm_pick 3 rfl ?_ | refine perm_pick 4 rfl ?_ | refine perm_pick 5 rfl ?_ | refine perm_pick 6 rfl ?_ | refine perm_pick 7 rfl ?_)))) ?_
  ·exact e_
  refine AW_weak (weak_of (l := [(1, .ptr b1 0),(2, .ptr b2 0),(4, .ptr b4 0)]) (m := []) (S' := RD rp L ts1 :: .cells b1 [.ptr rp 0] :: .cells b4 (cCl s (hd ts 0).line ⟨([], []), .full, .full⟩) :: .grow .full :: .grow .full :: .cells b2 [.str [], .sl 0 [] .full, .sl 0 [] .full, .bool false, .bool false, .int .i64 0] :: R) ?_ rfl (SW.le (SW.cons (SW.cons (SW.cons (SW.full (SW.full SW.nil))))))) ?_
  ·exact e_
  repeat first|refine go_ ?_|intro _
  refine Or.inl ⟨⟨_,Tryz.func93,rfl,rfl⟩,ACall.mono ?_ (within_ok rp L hL (listGo colStep 8 ([], [])) (fun c : Cl => c.d) (stC rp b1 b4 s (hd ts 0).line) [40] [41] _ _ _ ⟨([], []), .full, .full⟩ (declWhat_ok rp L hL b1 b4 s (hd ts 0).line) ts1 (.cells b2 [.str [], .sl 0 [] .full, .sl 0 [] .full, .bool false, .bool false, .int .i64 0] :: R) hs1 hG.cons)⟩
  rintro _ S1 ⟨c',ts2,o,rfl,hS1,hs2,ho2⟩
  subst S1
  repeat first|refine gr_ ?_|intro _
  refine AW_weak (weak_of (l := [(2, .ptr b2 0),(4, .ptr b4 0),(6,errO o)]) (m := []) (S' := .cells b1 [.ptr rp 0] :: .cells b4 (cCl s (hd ts 0).line c') :: .cells b2 [.str [], .sl 0 [] .full, .sl 0 [] .full, .bool false, .bool false, .int .i64 0] :: .grow c'.t1 :: .grow c'.t2 :: RD rp L ts2 :: R) ?_ rfl (fun w0 K w h => h.perm (by repeat (first | exact List.Perm.refl _ | refine perm_pick 0 rfl ?_ | refine perm_pick 1 rfl ?_ | refine perm_pick 2 rfl ?_ | refine perm_pick 3 rfl ?_ | refine perm_pick 4 rfl ?_ | refine perm_pick 5 rfl ?_ | refine perm_pick 6 rfl ?_ | refine perm_pick 7 rfl ?_)))) ?_
  ·exact e_
  repeat first|refine go_ ?_|intro _
  refine AW_ret ?_
  refine ⟨rfl,2,_,rfl,⟨nb_ rfl,nb_ rfl⟩, .tup [encD ⟨s,c'.d.1,c'.d.2,false,false,(hd ts 0).line⟩,errO o],RD rp L ts2 :: R,le2 leDe,sle_,_,rfl,QT.of hs2 ?_⟩
  have e : declL ts = (match withinL [40] [41] (listGo colStep 8 ([], [])) ts1 with | .error e => .error e | .ok (d,r') => .ok (⟨s,d.1,d.2,false,false,(hd ts 0).line⟩,r')) := by rw [declL,ho]; rfl
  rw [e]
  cases o with
  | some q => rw [show withinL [40] [41] (listGo colStep 8 ([], [])) ts1 = .error q from ho2]; rfl
  | none => rw [show withinL [40] [41] (listGo colStep 8 ([], [])) ts1 = .ok (c'.d,ts2) from ho2]; rfl
theorem isIn_ok (b o : Nat) (R : List En) : ACall Tryz.prog 54 [.ptr b o] R (fun r S => r = .ptr b (o + 3) ∧ S = R) := by
 refine ACall_body tab_ok Tryz.func54 rfl rfl rfl (by kernel_rfl) (nb_ rfl) ?_
 repeat first|refine go_ ?_|intro _
 refine AW_ret ?_
 exact ⟨.ptr b (o + 3),R,AVle.refl _,SLe.rfl,rfl,rfl⟩
theorem isOut_ok (b o : Nat) (R : List En) : ACall Tryz.prog 55 [.ptr b o] R (fun r S => r = .ptr b (o + 4) ∧ S = R) := by
 refine ACall_body tab_ok Tryz.func55 rfl rfl rfl (by kernel_rfl) (nb_ rfl) ?_
 repeat first|refine go_ ?_|intro _
 refine AW_ret ?_
 exact ⟨.ptr b (o + 4),R,AVle.refl _,SLe.rfl,rfl,rfl⟩
end Go.Proofs.YtfeknkaioofljaaGreatDoor
