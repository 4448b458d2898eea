/-
 A body's part: the book's. Own work.
-/
import Derived.Test.YtfeknkaioofljaaGreatDoorQ35
import Derived.Test.YtfeknkaioofljaaGreatDoorQ20
set_option linter.all false
set_option maxHeartbeats 4000000
set_option maxRecDepth 4000
namespace Go.Proofs.YtfeknkaioofljaaGreatDoor
open Go.Aw Go.RowKit Tree
theorem litA_pb (op : Int) (x : PR At) : litA op x = pbind x fun a r => .ok (⟨op,a,zeroT,zeroT⟩,r) := by cases x <;> rfl
theorem bPart_ok (rp : Nat) (L : List Lx.Tok) (hL : L.length ≤ 20000) (hN : NumB L) (F : Nat) (hF : 20000 ≤ F) (ts : List Lx.Tok) (e : Option (Int × Int)) (hz : Nz e) (h : ts <:+ L) (R : List En) : ACall Tryz.prog 110 [.ptr rp 0] (RS rp L ts e :: R) (fun r S => ∃ x',S = x' :: R ∧ BkQ rp L ts e encL (partL' F ts) noP r x') := by
 refine ACall_body tab_ok Tryz.func110 rfl rfl rfl (by kernel_rfl) (nb_ rfl) ?_
 repeat first|refine go_ ?_|intro _
 rename_i b2
 refine Or.inl ⟨⟨_,Tryz.func61,rfl,rfl⟩,ACall.mono ?_ (ACall_upd 1 rfl (bTakes_ok rp L ts e hz 4 (by decide) [33] h hL))⟩
 rintro _ S1 ⟨rfl,hS1⟩
 subst S1
 repeat first|refine go_ ?_|intro _
 by_cases hs : isT ts 4 [33] e = true
 ·obtain ⟨hne,hk,hss,rfl⟩ := isT_ne hs (by decide)
  rw [if_pos hs]
  refine AW_true (b := isT ts 4 [33] none) rfl (by exact hs) ?_
  repeat first|refine go_ ?_|intro _
  refine Or.inl ⟨⟨_,Tryz.func108,rfl,rfl⟩,ACall.mono ?_ (ACall_at 1 rfl (bAtom_ok rp L hL hN F hF (ts.tail) (none) (nz_none) (tail_suf.trans h) _))⟩
  rintro _ S1 ⟨x1,hS1,hq⟩
  subst S1
  obtain ⟨a,ts1,e1,rfl,rfl, -,hq⟩ := hq.rq
  repeat first|refine go_ ?_|intro _
  refine AW_ret ?_
  refine ⟨rfl,0,_,rfl,⟨nb_ rfl,nb_ rfl⟩,encL ⟨2,a,zeroT,zeroT⟩,RS rp L ts1 e1 :: R,leP,sle_,_,rfl,RQ.bq encL ?_ trivial⟩
  rw [partL',takesL_of,if_pos hs]
  show RQ ts none (litA 2 (atomL F ts.tail)) _ _ _
  rw [litA_pb]
  exact (hq.bind (RQ.ok _ hq.nz)).ext tail_suf
 rw [if_neg hs]
 have hs' : isT ts 4 [33] e = false := by simpa using hs
 have hno : e = none → takesL [33] ts = none := fun he => by subst he; rw [takesL_of,if_neg hs]
 have hp : e = none → ¬ (nameT (hd ts 0) = true ∧ signB (hd ts 1) [40] = true) → partL' F ts = pbind (exprL F ts) fun x r => if howL' r ≠ 0 then aggL F (howL' r) x r else heldL F x r := fun he hh => by
  rw [partL',hno he]
  refine (if_neg hh).trans ?_
  cases exprL F ts <;> rfl
 refine AW_false (b := isT ts 4 [33] e) rfl (by exact hs') ?_
 repeat first|refine go_ ?_|intro _
 refine Or.inl ⟨⟨_,Tryz.func57,rfl,rfl⟩,ACall.mono ?_ (ACall_same 1 rfl (here_ok rp L ts e 1 h hL (by decide)))⟩
 rintro _ S1 ⟨rfl,hS1⟩
 subst S1
 repeat first|refine gr_ ?_|intro _
 rename_i b3
 refine AW_weak (weak_of (l := [(0, .ptr rp 0),(2, .ptr b2 0),(3, .ptr b3 0)]) (m := []) (S' := .cells b3 [.int .i64 (hd ts 1).kind, .str (hd ts 1).s, .int .i64 (hd ts 1).line] :: .cells b2 zL :: RS rp L ts e :: R) e_ rfl w_) ?_
 repeat first|refine go_ ?_|intro _
 refine Or.inl ⟨⟨_,Tryz.func57,rfl,rfl⟩,ACall.mono ?_ (ACall_same 2 rfl (here_ok rp L ts e 0 h hL (by decide)))⟩
 rintro _ S1 ⟨rfl,hS1⟩
 subst S1
 repeat first|refine go_ ?_|intro _
 refine Or.inl ⟨⟨_,Tryz.func142,rfl,rfl⟩,ACall.mono ?_ (rIsName_ok (hd ts 0) _)⟩
 rintro _ S1 ⟨rfl,hS1⟩
 subst S1
 repeat first|refine go_ ?_|intro _
 by_cases hn : nameT (hd ts 0) = true
 rotate_left
 ·refine known_false (b := nameT (hd ts 0)) (by simpa using hn) ?_
  repeat first|refine ga_ ?_|intro _
  repeat first|refine go_ ?_|intro _
  refine Or.inl ⟨⟨_,Tryz.func144,rfl,rfl⟩,ACall.mono ?_ (ACall_at 2 rfl (bExpr_ok rp L hL hN F hF ts e hz h _))⟩
  rintro _ S1 ⟨x1,hS1,hq⟩
  subst S1
  obtain ⟨x,ts1,e1,rfl,rfl, -,hq⟩ := hq.rq
  repeat first|refine gr_ ?_|intro _
  rename_i b4
  have hs1 := hq.suf.trans h
  refine AW_weak (weak_of (l := [(0, .ptr rp 0),(2, .ptr b2 0),(4, .ptr b4 0)]) (m := []) (S' := .cells b4 (cT x) :: .cells b2 zL :: RS rp L ts1 e1 :: R) e_ rfl w_) ?_
  repeat first|refine go_ ?_|intro _
  refine Or.inl ⟨⟨_,Tryz.func145,rfl,rfl⟩,ACall.mono ?_ (ACall_same 2 rfl (bHow_ok rp L hL ts1 e1 hq.nz hs1))⟩
  rintro _ S1 ⟨rfl,hS1⟩
  subst S1
  repeat first|refine go_ ?_|intro _
  by_cases hw : howE ts1 e1 = 0
  ·refine AW_false (b := !decide (howE ts1 e1 = 0)) rfl (by rw [hw]; rfl) ?_
   repeat first|refine go_ ?_|intro _
   refine Or.inl ⟨⟨_,Tryz.func147,rfl,rfl⟩,ACall.mono ?_ (ACall_at 2 rfl (bHeld_ok rp L hL hN F hF ts1 e1 hq.nz hs1 x _))⟩
   rintro _ S1 ⟨x1,hS1,hq2⟩
   subst S1
   obtain ⟨l,ts2,e2,rfl,rfl, -,hq2⟩ := hq2.rq
   repeat first|refine go_ ?_|intro _
   refine AW_ret ?_
   refine ⟨rfl,1,_,rfl,⟨nb_ rfl,nb_ rfl⟩,encL l,RS rp L ts2 e2 :: R,AVle.refl _,sle_,_,rfl,RQ.bq encL (RQ.of (hq.bind (f := fun x r => if howL' r ≠ 0 then aggL F (howL' r) x r else heldL F x r) (RQ.of hq2 fun he => ?_)) fun he => (hp he (fun hh => hn hh.1)).symm) trivial⟩
   subst he
   rw [if_neg (fun hh => hh hw)]
  ·have he1 : e1 = none := by
    rw [howE] at hw
    by_cases hc : e1 = none
    ·exact hc
    ·rw [if_neg hc] at hw; exact absurd rfl hw
   subst he1
   have hwe : howE ts1 none = howL' ts1 := if_pos rfl
   refine AW_true (b := !decide (howE ts1 none = 0)) rfl (by rw [decide_eq_false hw]; rfl) ?_
   repeat first|refine go_ ?_|intro _
   refine Or.inl ⟨⟨_,Tryz.func146,rfl,rfl⟩,ACall.mono ?_ (ACall_at 2 rfl (bAgg_ok rp L hL hN F hF ts1 hs1 (howE ts1 none) x hwe.symm hw _))⟩
   rintro _ S1 ⟨x1,hS1,hq2⟩
   subst S1
   obtain ⟨l,ts2,e2,rfl,rfl, -,hq2⟩ := hq2.rq
   repeat first|refine go_ ?_|intro _
   refine AW_ret ?_
   refine ⟨rfl,1,_,rfl,⟨nb_ rfl,nb_ rfl⟩,encL l,RS rp L ts2 e2 :: R,AVle.refl _,sle_,_,rfl,RQ.bq encL (RQ.of (hq.bind (f := fun x r => if howL' r ≠ 0 then aggL F (howL' r) x r else heldL F x r) (RQ.of hq2 fun he => ?_)) fun he => (hp he (fun hh => hn hh.1)).symm) trivial⟩
   rw [hwe] at hw ⊢
   rw [if_pos hw]
 refine known_true (b := nameT (hd ts 0)) (by exact hn) ?_
 repeat first|refine go_ ?_|intro _
 by_cases hk : (hd ts 1).kind = 4
 rotate_left
 ·refine known_false (b := decide ((hd ts 1).kind = 4)) (by exact decide_eq_false hk) ?_
  repeat first|refine ga_ ?_|intro _
  repeat first|refine go_ ?_|intro _
  refine Or.inl ⟨⟨_,Tryz.func144,rfl,rfl⟩,ACall.mono ?_ (ACall_at 2 rfl (bExpr_ok rp L hL hN F hF ts e hz h _))⟩
  rintro _ S1 ⟨x1,hS1,hq⟩
  subst S1
  obtain ⟨x,ts1,e1,rfl,rfl, -,hq⟩ := hq.rq
  repeat first|refine gr_ ?_|intro _
  rename_i b4
  have hs1 := hq.suf.trans h
  refine AW_weak (weak_of (l := [(0, .ptr rp 0),(2, .ptr b2 0),(4, .ptr b4 0)]) (m := []) (S' := .cells b4 (cT x) :: .cells b2 zL :: RS rp L ts1 e1 :: R) e_ rfl w_) ?_
  repeat first|refine go_ ?_|intro _
  refine Or.inl ⟨⟨_,Tryz.func145,rfl,rfl⟩,ACall.mono ?_ (ACall_same 2 rfl (bHow_ok rp L hL ts1 e1 hq.nz hs1))⟩
  rintro _ S1 ⟨rfl,hS1⟩
  subst S1
  repeat first|refine go_ ?_|intro _
  by_cases hw : howE ts1 e1 = 0
  ·refine AW_false (b := !decide (howE ts1 e1 = 0)) rfl (by rw [hw]; rfl) ?_
   repeat first|refine go_ ?_|intro _
   refine Or.inl ⟨⟨_,Tryz.func147,rfl,rfl⟩,ACall.mono ?_ (ACall_at 2 rfl (bHeld_ok rp L hL hN F hF ts1 e1 hq.nz hs1 x _))⟩
   rintro _ S1 ⟨x1,hS1,hq2⟩
   subst S1
   obtain ⟨l,ts2,e2,rfl,rfl, -,hq2⟩ := hq2.rq
   repeat first|refine go_ ?_|intro _
   refine AW_ret ?_
   refine ⟨rfl,1,_,rfl,⟨nb_ rfl,nb_ rfl⟩,encL l,RS rp L ts2 e2 :: R,AVle.refl _,sle_,_,rfl,RQ.bq encL (RQ.of (hq.bind (f := fun x r => if howL' r ≠ 0 then aggL F (howL' r) x r else heldL F x r) (RQ.of hq2 fun he => ?_)) fun he => (hp he (fun hh => hk (by have := hh.2; rw [signB,Bool.and_eq_true,decide_eq_true_eq] at this; exact this.1))).symm) trivial⟩
   subst he
   rw [if_neg (fun hh => hh hw)]
  ·have he1 : e1 = none := by
    rw [howE] at hw
    by_cases hc : e1 = none
    ·exact hc
    ·rw [if_neg hc] at hw; exact absurd rfl hw
   subst he1
   have hwe : howE ts1 none = howL' ts1 := if_pos rfl
   refine AW_true (b := !decide (howE ts1 none = 0)) rfl (by rw [decide_eq_false hw]; rfl) ?_
   repeat first|refine go_ ?_|intro _
   refine Or.inl ⟨⟨_,Tryz.func146,rfl,rfl⟩,ACall.mono ?_ (ACall_at 2 rfl (bAgg_ok rp L hL hN F hF ts1 hs1 (howE ts1 none) x hwe.symm hw _))⟩
   rintro _ S1 ⟨x1,hS1,hq2⟩
   subst S1
   obtain ⟨l,ts2,e2,rfl,rfl, -,hq2⟩ := hq2.rq
   repeat first|refine go_ ?_|intro _
   refine AW_ret ?_
   refine ⟨rfl,1,_,rfl,⟨nb_ rfl,nb_ rfl⟩,encL l,RS rp L ts2 e2 :: R,AVle.refl _,sle_,_,rfl,RQ.bq encL (RQ.of (hq.bind (f := fun x r => if howL' r ≠ 0 then aggL F (howL' r) x r else heldL F x r) (RQ.of hq2 fun he => ?_)) fun he => (hp he (fun hh => hk (by have := hh.2; rw [signB,Bool.and_eq_true,decide_eq_true_eq] at this; exact this.1))).symm) trivial⟩
   rw [hwe] at hw ⊢
   rw [if_pos hw]
 refine known_true (b := decide ((hd ts 1).kind = 4)) (by exact decide_eq_true hk) ?_
 repeat first|refine go_ ?_|intro _
 by_cases hc : (hd ts 1).s = [40]
 rotate_left
 ·refine AW_false (b := decide ((hd ts 1).s = [40])) rfl (by exact decide_eq_false hc) ?_
  repeat first|refine go_ ?_|intro _
  refine Or.inl ⟨⟨_,Tryz.func144,rfl,rfl⟩,ACall.mono ?_ (ACall_at 2 rfl (bExpr_ok rp L hL hN F hF ts e hz h _))⟩
  rintro _ S1 ⟨x1,hS1,hq⟩
  subst S1
  obtain ⟨x,ts1,e1,rfl,rfl, -,hq⟩ := hq.rq
  repeat first|refine gr_ ?_|intro _
  rename_i b4
  have hs1 := hq.suf.trans h
  refine AW_weak (weak_of (l := [(0, .ptr rp 0),(2, .ptr b2 0),(4, .ptr b4 0)]) (m := []) (S' := .cells b4 (cT x) :: .cells b2 zL :: RS rp L ts1 e1 :: R) e_ rfl w_) ?_
  repeat first|refine go_ ?_|intro _
  refine Or.inl ⟨⟨_,Tryz.func145,rfl,rfl⟩,ACall.mono ?_ (ACall_same 2 rfl (bHow_ok rp L hL ts1 e1 hq.nz hs1))⟩
  rintro _ S1 ⟨rfl,hS1⟩
  subst S1
  repeat first|refine go_ ?_|intro _
  by_cases hw : howE ts1 e1 = 0
  ·refine AW_false (b := !decide (howE ts1 e1 = 0)) rfl (by rw [hw]; rfl) ?_
   repeat first|refine go_ ?_|intro _
   refine Or.inl ⟨⟨_,Tryz.func147,rfl,rfl⟩,ACall.mono ?_ (ACall_at 2 rfl (bHeld_ok rp L hL hN F hF ts1 e1 hq.nz hs1 x _))⟩
   rintro _ S1 ⟨x1,hS1,hq2⟩
   subst S1
   obtain ⟨l,ts2,e2,rfl,rfl, -,hq2⟩ := hq2.rq
   repeat first|refine go_ ?_|intro _
   refine AW_ret ?_
   refine ⟨rfl,1,_,rfl,⟨nb_ rfl,nb_ rfl⟩,encL l,RS rp L ts2 e2 :: R,AVle.refl _,sle_,_,rfl,RQ.bq encL (RQ.of (hq.bind (f := fun x r => if howL' r ≠ 0 then aggL F (howL' r) x r else heldL F x r) (RQ.of hq2 fun he => ?_)) fun he => (hp he (fun hh => hc (by have := hh.2; rw [signB,Bool.and_eq_true,decide_eq_true_eq,decide_eq_true_eq] at this; exact this.2))).symm) trivial⟩
   subst he
   rw [if_neg (fun hh => hh hw)]
  ·have he1 : e1 = none := by
    rw [howE] at hw
    by_cases hc : e1 = none
    ·exact hc
    ·rw [if_neg hc] at hw; exact absurd rfl hw
   subst he1
   have hwe : howE ts1 none = howL' ts1 := if_pos rfl
   refine AW_true (b := !decide (howE ts1 none = 0)) rfl (by rw [decide_eq_false hw]; rfl) ?_
   repeat first|refine go_ ?_|intro _
   refine Or.inl ⟨⟨_,Tryz.func146,rfl,rfl⟩,ACall.mono ?_ (ACall_at 2 rfl (bAgg_ok rp L hL hN F hF ts1 hs1 (howE ts1 none) x hwe.symm hw _))⟩
   rintro _ S1 ⟨x1,hS1,hq2⟩
   subst S1
   obtain ⟨l,ts2,e2,rfl,rfl, -,hq2⟩ := hq2.rq
   repeat first|refine go_ ?_|intro _
   refine AW_ret ?_
   refine ⟨rfl,1,_,rfl,⟨nb_ rfl,nb_ rfl⟩,encL l,RS rp L ts2 e2 :: R,AVle.refl _,sle_,_,rfl,RQ.bq encL (RQ.of (hq.bind (f := fun x r => if howL' r ≠ 0 then aggL F (howL' r) x r else heldL F x r) (RQ.of hq2 fun he => ?_)) fun he => (hp he (fun hh => hc (by have := hh.2; rw [signB,Bool.and_eq_true,decide_eq_true_eq,decide_eq_true_eq] at this; exact this.2))).symm) trivial⟩
   rw [hwe] at hw ⊢
   rw [if_pos hw]
 refine AW_true (b := decide ((hd ts 1).s = [40])) rfl (by exact decide_eq_true hc) ?_
 repeat first|refine go_ ?_|intro _
 refine Or.inl ⟨⟨_,Tryz.func108,rfl,rfl⟩,ACall.mono ?_ (ACall_at 2 rfl (bAtom_ok rp L hL hN F hF (ts) (e) (hz) (h) _))⟩
 rintro _ S1 ⟨x1,hS1,hq⟩
 subst S1
 obtain ⟨a,ts1,e1,rfl,rfl, -,hq⟩ := hq.rq
 repeat first|refine go_ ?_|intro _
 refine AW_ret ?_
 refine ⟨rfl,1,_,rfl,⟨nb_ rfl,nb_ rfl⟩,encL ⟨1,a,zeroT,zeroT⟩,RS rp L ts1 e1 :: R,leP,sle_,_,rfl,RQ.bq encL ?_ trivial⟩
 have hx : e = none → pbind (atomL F ts) (fun a r => .ok ((⟨1,a,zeroT,zeroT⟩ : Li),r)) = partL' F ts := fun he => by
  rw [partL',hno he]
  refine Eq.trans ?_ (if_pos ⟨hn,by rw [signB,hk,hc]; rfl⟩).symm
  rw [litA_pb]
 exact (hq.bind (RQ.ok _ hq.nz)).of hx
theorem bHeaded_ok (a : At) (bare : Bool) (R : List En) : ACall Tryz.prog 109 [encA a, .bool bare] R (fun r S => r = .bool (headL a bare) ∧ S = R) := by
 refine ACall_sat fun hsat => ?_
 have hl : a.l.length ≤ 9223372036854775807 := by
  have := ((hsat _ (.head _)).agg (show AV.sl 4 (encTs a.l) .no ∈ cA a from .tail _ (.head _))).sl
  rw [encTs_len] at this; exact this
 have hH : headL a bare = a.l.all (headT bare) := rfl
 refine ACall_body tab_ok Tryz.func109 rfl rfl rfl (by kernel_rfl) (nb_ rfl) ?_
 repeat first|refine go_ ?_|intro _
 rename_i p
 refine AW_for (α := Nat) (fun z => ⟨[(1, .bool bare),(2, .ptr p 0),(5, .int .i64 (z : Nat))], []⟩) (fun z => .cells p (cA a) :: R) (fun z => a.l.length - z) (fun z => z ≤ a.l.length ∧ ∀ (i : Nat) (hi : i < a.l.length),i < z → headT bare a.l[i] = true) (0) ?_ (weak_of ?_ rfl ?_) (fun z hz => ?_)
 ·exact ⟨Nat.zero_le _,fun i _ h => absurd h (Nat.not_lt_zero _)⟩
 ·repeat (first | exact trivial | refine ⟨(AVle.eq (congrArg (AV.int .i64) (by simp))),?_⟩ | refine env_ ?_)
 ·exact l_
 obtain ⟨i1,i2⟩ := hz
 repeat first|refine go_ ?_|intro _
 refine AW_iff (z < a.l.length) rfl ib_ (fun h => ?_) (fun h => ?_)
 rotate_left
 ·have e : headL a bare = true := by
   rw [hH,List.all_eq_true]
   intro x hx
   obtain ⟨i,hi,rfl⟩ := List.mem_iff_getElem.1 hx
   exact i2 i hi (by omega)
  repeat first|refine ga_ ?_|intro _
  refine AW_ret ?_
  repeat refine mk_ ?_
  refine ⟨_,R,AVle.eq ?_,sle_,rfl,rfl⟩
  rw [e]; rfl
 have hlt := h
 obtain ⟨x,hx⟩ : ∃ x,x = a.l[z] := ⟨_,rfl⟩
 have hno : headT bare x = false → headL a bare = false := fun hf => by
  rw [hH,List.all_eq_false]
  exact ⟨x,hx ▸ List.getElem_mem hlt,by rw [hf]; decide⟩
 have hyes : headT bare x = true → z + 1 ≤ a.l.length ∧ ∀ (i : Nat) (hi : i < a.l.length),i < z + 1 → headT bare a.l[i] = true := fun ht => ⟨hlt,fun i hi hiz => by
  by_cases hq : i = z
  ·subst hq; rw [← hx]; exact ht
  ·exact i2 i hi (by omega)⟩
 repeat first|refine go_ ?_|intro _
 refine at_get (z) (encU x) (by first | rfl | omega | (rw [wrap_i64 (by omega)]; omega)) (by rw [hx]; exact encTs_get hlt) ?_
 repeat first|refine gr_ ?_|intro _
 obtain ⟨o,ho⟩ : ∃ o,o = x.op := ⟨_,rfl⟩
 refine AW_weak (weak_of (l := [(1, .bool bare),(2, .ptr p 0),(5, .int .i64 (z : Nat)),(6, .int .i64 o)]) (m := []) (S' := .cells p (cA a) :: R) ?_ rfl ?_) ?_
 ·repeat (first | exact trivial | refine ⟨(AVle.eq (congrArg (AV.int .i64) ho.symm)),?_⟩ | refine env_ ?_)
 ·exact w_
 by_cases h1 : o = 1
 ·subst h1
  cases bare with
  | true =>
   repeat first|refine ga_ ?_|intro _
   refine AW_ret ?_
   repeat refine mk_ ?_
   refine ⟨_,R,AVle.eq ?_,sle_,rfl,rfl⟩
   rw [hno (by rw [headT,if_pos ho.symm]; rfl)]; rfl
  | false =>
   repeat first|refine ga_ ?_|intro _
   refine ⟨(z + 1),?_,?_,weak_of ?_ rfl ?_⟩
   ·exact Nat.sub_lt_sub_left hlt (Nat.lt_succ_self z)
   ·exact hyes (by rw [headT,if_pos ho.symm]; rfl)
   ·exact e_
   ·exact w_
 by_cases h2 : o = 2
 ·subst h2
  cases bare with
  | true =>
   repeat first|refine ga_ ?_|intro _
   refine ⟨(z + 1),?_,?_,weak_of ?_ rfl ?_⟩
   ·exact Nat.sub_lt_sub_left hlt (Nat.lt_succ_self z)
   ·exact hyes (by rw [headT,if_neg (by rw [← ho]; exact h1),decide_eq_true ho.symm]; rfl)
   ·exact e_
   ·exact w_
  | false =>
   repeat first|refine ga_ ?_|intro _
   refine ⟨(z + 1),?_,?_,weak_of ?_ rfl ?_⟩
   ·exact Nat.sub_lt_sub_left hlt (Nat.lt_succ_self z)
   ·exact hyes (by rw [headT,if_neg (by rw [← ho]; exact h1),decide_eq_true ho.symm]; rfl)
   ·exact e_
   ·exact w_
 by_cases h3 : o = 3
 ·subst h3
  cases bare with
  | true =>
   repeat first|refine ga_ ?_|intro _
   refine ⟨(z + 1),?_,?_,weak_of ?_ rfl ?_⟩
   ·exact Nat.sub_lt_sub_left hlt (Nat.lt_succ_self z)
   ·exact hyes (by rw [headT,if_neg (by rw [← ho]; exact h1),decide_eq_false (by rw [← ho]; exact h2),decide_eq_true ho.symm]; rfl)
   ·exact e_
   ·exact w_
  | false =>
   repeat first|refine ga_ ?_|intro _
   refine ⟨(z + 1),?_,?_,weak_of ?_ rfl ?_⟩
   ·exact Nat.sub_lt_sub_left hlt (Nat.lt_succ_self z)
   ·exact hyes (by rw [headT,if_neg (by rw [← ho]; exact h1),decide_eq_false (by rw [← ho]; exact h2),decide_eq_true ho.symm]; rfl)
   ·exact e_
   ·exact w_
 repeat first|refine go_ ?_|intro _
 refine known_true (b := !decide (o = 1)) (by rw [decide_eq_false h1]; rfl) ?_
 repeat first|refine ga_ ?_|intro _
 refine known_true (b := !decide (o = 2)) (by rw [decide_eq_false h2]; rfl) ?_
 repeat first|refine ga_ ?_|intro _
 refine known_true (b := !decide (o = 3)) (by rw [decide_eq_false h3]; rfl) ?_
 repeat first|refine ga_ ?_|intro _
 refine AW_ret ?_
 repeat refine mk_ ?_
 refine ⟨_,R,AVle.eq ?_,sle_,rfl,rfl⟩
 rw [hno (by rw [headT,if_neg (by rw [← ho]; exact h1),decide_eq_false (by rw [← ho]; exact h2),decide_eq_false (by rw [← ho]; exact h3)]; rfl)]; rfl
end Go.Proofs.YtfeknkaioofljaaGreatDoor
