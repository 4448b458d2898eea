/-
 The book's aggregates. Own work.
-/
import Derived.Test.YtfeknkaioofljaaGreatDoorQ34
import Derived.Test.YtfeknkaioofljaaGreatDoorQ19
import Derived.Test.YtfeknkaioofljaaGreatDoorQ20
set_option linter.all false
set_option maxHeartbeats 4000000
set_option maxRecDepth 4000
namespace Go.Proofs.YtfeknkaioofljaaGreatDoor
open Go.Aw Go.RowKit Tree
def zL : List AV := [.int .i64 0, .str [], .sl 0 [] .full, .int .i64 0, .str [], .int .i64 0, .sl 0 [] .full, .int .i64 0, .str [], .int .i64 0, .sl 0 [] .full]
def badE (x : T) (ts : List Lx.Tok) : Option (Int × Int) := if x.op ≠ 1 ∧ x.op ≠ 2 then some (40,(hd ts 0).line) else none
theorem badE_nz {x : T} {ts : List Lx.Tok} : Nz (badE x ts) := by
 rw [badE]; split
 ·exact nz_some (by show (40 : Int) ≠ 0; decide)
 ·exact nz_none
theorem RS_at {rp : Nat} {L ts : List Lx.Tok} {e : Option (Int × Int)} (h : ts <:+ L) (n : Nat) (hn : n ≤ ts.length) (hL : L.length ≤ 20000) : En.cells rp [.sl 3 (L.map Lx.encT) .no, .int .i64 (IntKind.i64.wrap (((L.length - ts.length : Nat) : Int) + (n : Nat))), .int .i64 (eI e).1, .int .i64 (eI e).2] = RS rp L (ts.drop n) e := by
 have := h.length_le
 rw [wrap_i64 (by omega),RS,List.length_drop]
 have : ((L.length - (ts.length - n) : Nat) : Int) = ((L.length - ts.length : Nat) : Int) + (n : Nat) := by omega
 rw [this]
structure AgI (op : Int) (x : T) (ts : List Lx.Tok) (y : T) (t3 : List Lx.Tok) (e3 : Option (Int × Int)) : Prop where
 suf : t3 <:+ ts
 nz : Nz e3
 bad : x.op ≠ 1 ∧ x.op ≠ 2 → e3 = some (40,(hd ts 0).line)
 good : ¬ (x.op ≠ 1 ∧ x.op ≠ 2) → e3 = none ∧ t3 = ts.drop (if op = 7 then 2 else 3) ∧ y = (if op = 7 then zeroT else .mk 1 (hd ts 2).s 0 [])
theorem agg_fin {F : Nat} {op : Int} {x y : T} {a : At} {ts t3 ts' : List Lx.Tok} {e3 e' : Option (Int × Int)} (hop : howL' ts = op) (h0 : op ≠ 0) (h : AgI op x ts y t3 e3) (k : RQ (mustR t3 4 [58] e3) (mustE t3 4 [58] e3) (withinL [123] [125] (atomL F) (mustR t3 4 [58] e3)) a ts' e') : RQ ts none (aggL F op x ts) ⟨op,a,x,y⟩ ts' e' := by
 have hMW := (RQ.must (ts := t3) [58] h.nz).bind (f := fun _ r => withinL [123] [125] (atomL F) r) k
 refine ⟨hMW.suf.trans h.suf,hMW.nz,nofun,fun _ => ?_⟩
 by_cases hb : x.op ≠ 1 ∧ x.op ≠ 2
 ·rw [aggL,if_pos hb]
  exact hMW.keep _ (h.bad hb)
 ·obtain ⟨rfl,rfl,rfl⟩ := h.good hb
  have h8 := hMW.res rfl
  rw [aggL,if_neg hb]
  rcases how_cases hop h0 with ⟨h7,hc⟩ | ⟨h7,hn,hc⟩
  ·rw [if_pos h7] at h8
   have hm : mustL [58] (ts.drop 2) = .ok ((),ts.drop 3) := by rw [mustL,(takes_drop hc).1]
   rw [hm,pbind] at h8
   rw [if_pos h7,if_pos h7]
   cases hw : withinL [123] [125] (atomL F) (ts.drop 3) with
   | error q => simp only [hw] at h8; exact h8
   | ok w =>
    simp only [hw] at h8
    obtain ⟨rfl,rfl,rfl⟩ := h8
    exact ⟨rfl,rfl,rfl⟩
  ·rw [if_neg h7] at h8
   have hm : mustL [58] (ts.drop 3) = .ok ((),ts.drop 4) := by rw [mustL,(takes_drop hc).1]
   rw [hm,pbind] at h8
   rw [if_neg h7,if_neg h7]
   cases hw : withinL [123] [125] (atomL F) (ts.drop 4) with
   | error q => simp only [hw] at h8; exact h8
   | ok w =>
    simp only [hw] at h8
    obtain ⟨rfl,rfl,rfl⟩ := h8
    exact ⟨rfl,rfl,rfl⟩
theorem bAgg_ok (rp : Nat) (L : List Lx.Tok) (hL : L.length ≤ 20000) (hN : NumB L) (F : Nat) (hF : 20000 ≤ F) (ts : List Lx.Tok) (h : ts <:+ L) (op : Int) (x : T) (hop : howL' ts = op) (h0 : op ≠ 0) (R : List En) : ACall Tryz.prog 146 [.ptr rp 0, .int .i64 op,encU x] (RS rp L ts none :: R) (fun r S => ∃ x',S = x' :: R ∧ BkQ rp L ts none encL (aggL F op x ts) noP r x') := by
 have hA := how_cases hop h0
 have hl2 : 2 ≤ ts.length := by
  rcases hA with hA | hA
  ·have := (takes_drop hA.2).2; omega
  ·have := (takes_drop hA.2.2).2; omega
 refine ACall_body tab_ok Tryz.func146 rfl rfl rfl (by kernel_rfl) (nb_ rfl) ?_
 repeat refine rg_ ?_
 refine AW_region tab_ok ?_
 repeat first|refine gr_ ?_|intro _
 rename_i b5 b6
 refine AW_weak (weak_of (l := [(0, .ptr rp 0),(1, .int .i64 op),(5, .ptr b5 0),(6, .ptr b6 0)]) (m := []) (S' := .cells b6 zL :: .cells b5 (cT x) :: RS rp L ts none :: R) e_ rfl w_) ?_
 refine AW_cut1 (α := Unit) (fun z => ⟨[(0, .ptr rp 0),(1, .int .i64 op),(5, .ptr b5 0),(6, .ptr b6 0)], []⟩) (fun z => .cells b6 zL :: .cells b5 (cT x) :: RS rp L ts (badE x ts) :: R) (fun z => True) ?_ (fun z hz => ?_)
 ·repeat first|refine go_ ?_|intro _
  by_cases h1 : x.op = 1
  ·refine known_false (b := !decide (x.op = 1)) (by rw [h1]; rfl) ?_
   repeat first|refine ga_ ?_|intro _
   refine ⟨(),?_,weak_of ?_ rfl ?_⟩
   ·trivial
   ·exact e_
   ·rw [badE,if_neg (fun hh => hh.1 h1)]
    repeat (first | exact SLe.rfl | refine SLe.tail ?_ | refine SLe.full ?_)
  ·refine known_true (b := !decide (x.op = 1)) (by rw [decide_eq_false h1]; rfl) ?_
   repeat first|refine go_ ?_|intro _
   by_cases h2 : x.op = 2
   ·refine AW_false (b := !decide (x.op = 2)) rfl (by rw [h2]; rfl) ?_
    repeat first|refine ga_ ?_|intro _
    refine ⟨(),?_,weak_of ?_ rfl ?_⟩
    ·trivial
    ·exact e_
    ·rw [badE,if_neg (fun hh => hh.2 h2)]
     repeat (first | exact SLe.rfl | refine SLe.tail ?_ | refine SLe.full ?_)
   ·refine AW_true (b := !decide (x.op = 2)) rfl (by rw [decide_eq_false h2]; rfl) ?_
    repeat first|refine go_ ?_|intro _
    refine Or.inl ⟨⟨_,Tryz.func57,rfl,rfl⟩,ACall.mono ?_ (ACall_same 2 rfl (here_ok rp L ts none 0 h hL (by decide)))⟩
    rintro _ S1 ⟨rfl,hS1⟩
    subst S1
    repeat first|refine go_ ?_|intro _
    refine Or.inl ⟨⟨_,Tryz.func59,rfl,rfl⟩,ACall.mono ?_ (ACall_upd 2 rfl (fail_ok rp L ts none nz_none 40 (hd ts 0).line))⟩
    rintro _ S1 ⟨rfl,hS1⟩
    subst S1
    repeat first|refine go_ ?_|intro _
    refine ⟨(),?_,weak_of ?_ rfl ?_⟩
    ·trivial
    ·exact e_
    ·rw [badE,if_pos ⟨h1,h2⟩]
     repeat (first | exact SLe.rfl | refine SLe.tail ?_ | refine SLe.full ?_)
 clear hz z
 obtain ⟨f,hf⟩ : ∃ f,f = badE x ts := ⟨_,rfl⟩
 have hfz : Nz f := hf ▸ badE_nz
 rw [← hf]
 repeat refine rg_ ?_
 refine AW_region tab_ok ?_
 repeat first|refine gr_ ?_|intro _
 rename_i b7
 refine AW_weak (weak_of (l := [(0, .ptr rp 0),(1, .int .i64 op),(6, .ptr b6 0),(7, .ptr b7 0)]) (m := []) (S' := .cells b7 (cL ⟨op,zeroA,x,zeroT⟩) :: .cells b6 zL :: .cells b5 (cT x) :: RS rp L ts f :: R) ?_ rfl (SW.le (SW.cells leG (cL_one _) SW.nil))) ?_
 ·exact e_
 repeat refine rg_ ?_
 refine AW_region tab_ok ?_
 repeat first|refine gr_ ?_|intro _
 refine AW_weak (weak_of (l := [(0, .ptr rp 0),(1, .int .i64 op),(6, .ptr b6 0),(7, .ptr b7 0)]) (m := []) (S' := .cells b7 (cL ⟨op,zeroA,x,zeroT⟩) :: .cells b6 zL :: .cells b5 (cT x) :: RS rp L (ts.drop 2) f :: R) ?_ rfl (SLe.of_eq (congrArg (fun e => _ :: _ :: _ :: e :: R) (RS_at h 2 hl2 hL)))) ?_
 ·exact e_
 refine AW_cut1 (α := T × List Lx.Tok × Option (Int × Int)) (fun z => ⟨[(0, .ptr rp 0),(6, .ptr b6 0),(7, .ptr b7 0)], []⟩) (fun z => .cells b7 (cL ⟨op,zeroA,x,z.1⟩) :: .cells b6 zL :: RS rp L z.2.1 z.2.2 :: R) (fun z => AgI op x ts z.1 z.2.1 z.2.2) ?_ (fun z hz => ?_)
 ·repeat first|refine go_ ?_|intro _
  by_cases h7 : op = 7
  ·refine AW_false (b := !decide (op = 7)) rfl (by rw [h7]; rfl) ?_
   repeat first|refine go_ ?_|intro _
   refine ⟨((zeroT,ts.drop 2,f) : T × List Lx.Tok × Option (Int × Int)),?_,weak_of ?_ rfl ?_⟩
   ·refine ⟨List.drop_suffix _ _,hfz,fun hb => by rw [hf,badE,if_pos hb],fun hb => ⟨by rw [hf,badE,if_neg hb],by rw [if_pos h7],by rw [if_pos h7]⟩⟩
   ·exact e_
   ·exact w_
  ·refine AW_true (b := !decide (op = 7)) rfl (by rw [decide_eq_false h7]; rfl) ?_
   repeat first|refine go_ ?_|intro _
   refine Or.inl ⟨⟨_,Tryz.func106,rfl,rfl⟩,ACall.mono ?_ (ACall_at 3 rfl (bName_ok rp L (ts.drop 2) f hfz ((List.drop_suffix _ _).trans h) hL _))⟩
   rintro _ S1 ⟨x1,hS1,hq⟩
   subst S1
   obtain ⟨s,t3,e3,rfl,rfl, -,hq1⟩ := hq.rq
   repeat first|refine go_ ?_|intro _
   refine ⟨((.mk 1 s 0 [],t3,e3) : T × List Lx.Tok × Option (Int × Int)),?_,weak_of ?_ rfl ?_⟩
   ·refine ⟨hq1.suf.trans (List.drop_suffix _ _),hq1.nz,fun hb => hq1.keep _ (by rw [hf,badE,if_pos hb]),fun hb => ?_⟩
    have h8 := hq1.res (by rw [hf,badE,if_neg hb])
    rcases hA with hA | ⟨-,hn,hc⟩
    ·exact absurd hA.1 h7
    have hnp : nameP (ts.drop 2) = .ok ((hd ts 2).s,ts.drop 3) := by rw [nameP,hd_drop,if_pos hn,List.tail_drop]
    rw [hnp] at h8
    obtain ⟨rfl,rfl,rfl⟩ := h8
    exact ⟨rfl,by rw [if_neg h7],by rw [if_neg h7]⟩
   ·exact e_
   ·exact w_
 obtain ⟨y,t3,e3⟩ := z
 have hI : AgI op x ts y t3 e3 := hz
 have hs3 := hI.suf.trans h
 show AW _ _ _ _ ⟨[(0, .ptr rp 0),(6, .ptr b6 0),(7, .ptr b7 0)], []⟩ (.cells b7 (cL ⟨op,zeroA,x,y⟩) :: .cells b6 zL :: RS rp L t3 e3 :: R) _
 repeat first|refine go_ ?_|intro _
 refine Or.inl ⟨⟨_,Tryz.func107,rfl,rfl⟩,ACall.mono ?_ (ACall_upd 2 rfl (bMust_ok rp L t3 e3 hI.nz 4 (by decide) [58] hs3 hL))⟩
 rintro _ S1 ⟨rfl,hS1⟩
 subst S1
 repeat first|refine gr_ ?_|intro _
 obtain ⟨r1,hr1⟩ : ∃ r1,r1 = mustR t3 4 [58] e3 := ⟨_,rfl⟩
 obtain ⟨f1,hf1⟩ : ∃ f1,f1 = mustE t3 4 [58] e3 := ⟨_,rfl⟩
 have hz1 : Nz f1 := hf1 ▸ must_nz hI.nz
 have hs1 : r1 <:+ L := hr1 ▸ must_suf.trans hs3
 rw [← hr1, ← hf1]
 repeat first|refine go_ ?_|intro _
 refine Or.inl ⟨⟨_,Tryz.func107,rfl,rfl⟩,ACall.mono ?_ (ACall_upd 2 rfl (bMust_ok rp L r1 f1 hz1 4 (by decide) [123] hs1 hL))⟩
 rintro _ S1 ⟨rfl,hS1⟩
 subst S1
 repeat first|refine gr_ ?_|intro _
 refine AW_weak (weak_of (l := [(0, .ptr rp 0),(6, .ptr b6 0),(7, .ptr b7 0)]) (m := []) (S' := .cells b7 (cL ⟨op,zeroA,x,y⟩) :: .cells b6 zL :: RS rp L (mustR r1 4 [123] f1) (mustE r1 4 [123] f1) :: R) e_ rfl w_) ?_
 repeat first|refine go_ ?_|intro _
 refine Or.inl ⟨⟨_,Tryz.func108,rfl,rfl⟩,ACall.mono ?_ (ACall_at 2 rfl (bAtom_ok rp L hL hN F hF (mustR r1 4 [123] f1) (mustE r1 4 [123] f1) (must_nz hz1) (must_suf.trans hs1) _))⟩
 rintro _ S1 ⟨x1,hS1,hq⟩
 subst S1
 obtain ⟨a,t5,e5,rfl,rfl, -,hq5⟩ := hq.rq
 repeat first|refine gr_ ?_|intro _
 refine AW_weak (weak_of (l := [(0, .ptr rp 0),(6, .ptr b6 0),(7, .ptr b7 0)]) (m := []) (S' := .cells b7 (cL ⟨op,a,x,y⟩) :: .cells b6 zL :: RS rp L t5 e5 :: R) e_ rfl w_) ?_
 repeat first|refine go_ ?_|intro _
 refine Or.inl ⟨⟨_,Tryz.func107,rfl,rfl⟩,ACall.mono ?_ (ACall_upd 2 rfl (bMust_ok rp L t5 e5 hq5.nz 4 (by decide) [125] (hq5.suf.trans (must_suf.trans hs1)) hL))⟩
 rintro _ S1 ⟨rfl,hS1⟩
 subst S1
 repeat first|refine go_ ?_|intro _
 refine AW_ret ?_
 refine ⟨rfl,1,_,rfl,⟨nb_ rfl,nb_ rfl⟩,encL ⟨op,a,x,y⟩,RS rp L (mustR t5 4 [125] e5) (mustE t5 4 [125] e5) :: R,AVle.refl _,sle_,_,rfl,RQ.bq encL ?_ trivial⟩
 refine agg_fin hop h0 hI ?_
 rw [← hr1, ← hf1]
 exact RQ.within hz1 hq5
theorem RQ.ext {α : Type} {ts ts0 ts' : List Lx.Tok} {e e' : Option (Int × Int)} {x : PR α} {v : α} (h : RQ ts e x v ts' e') (hs : ts <:+ ts0) : RQ ts0 e x v ts' e' := ⟨h.suf.trans hs,h.nz,h.keep,h.res⟩
theorem bHeld_ok (rp : Nat) (L : List Lx.Tok) (hL : L.length ≤ 20000) (hN : NumB L) (F : Nat) (hF : 20000 ≤ F) (ts : List Lx.Tok) (e : Option (Int × Int)) (hz : Nz e) (h : ts <:+ L) (x : T) (R : List En) : ACall Tryz.prog 147 [.ptr rp 0,encU x] (RS rp L ts e :: R) (fun r S => ∃ x',S = x' :: R ∧ BkQ rp L ts e encL (heldL F x ts) noP r x') := by
 obtain ⟨t,ht⟩ : ∃ t,t = hd ts 0 := ⟨_,rfl⟩
 refine ACall_body tab_ok Tryz.func147 rfl rfl rfl (by kernel_rfl) (nb_ rfl) ?_
 repeat first|refine go_ ?_|intro _
 rename_i b3 b4
 refine Or.inl ⟨⟨_,Tryz.func57,rfl,rfl⟩,ACall.mono ?_ (ACall_same 2 rfl (here_ok rp L ts e 0 h hL (by decide)))⟩
 rintro _ S1 ⟨rfl,hS1⟩
 subst S1
 repeat first|refine gr_ ?_|intro _
 rename_i b5
 refine AW_weak (weak_of (l := [(0, .ptr rp 0),(3, .ptr b3 0),(4, .ptr b4 0),(5, .ptr b5 0)]) (m := []) (S' := .cells b5 [.int .i64 (hd ts 0).kind, .str (hd ts 0).s, .int .i64 (hd ts 0).line] :: .cells b4 zL :: .cells b3 (cT x) :: RS rp L ts e :: R) e_ rfl w_) ?_
 rw [← ht]
 repeat refine rg_ ?_
 refine AW_region tab_ok ?_
 repeat first|refine gr_ ?_|intro _
 repeat refine rg_ ?_
 refine AW_region tab_ok ?_
 repeat first|refine gr_ ?_|intro _
 refine AW_weak (weak_of (l := [(0, .ptr rp 0),(3, .ptr b3 0),(4, .ptr b4 0),(5, .ptr b5 0),(6, .int .i64 0),(11, .str t.s)]) (m := []) (S' := .cells b5 [.int .i64 t.kind, .str t.s, .int .i64 t.line] :: .cells b4 zL :: .cells b3 (cT x) :: RS rp L ts e :: R) e_ rfl w_) ?_
 refine AW_cut (α := Unit) (fun z => ⟨[(0, .ptr rp 0),(3, .ptr b3 0),(4, .ptr b4 0),(5, .ptr b5 0),(6, .int .i64 (relOp t.s))], []⟩) (fun z => .cells b5 [.int .i64 t.kind, .str t.s, .int .i64 t.line] :: .cells b4 zL :: .cells b3 (cT x) :: RS rp L ts e :: R) (fun z => True) ?_ (fun z hz => ?_)
 ·repeat first|refine go_ ?_|intro _
  by_cases h1 : t.s = [61]
  ·refine AW_true (b := decide (t.s = [61])) rfl (by exact decide_eq_true h1) ?_
   have hr : relOp t.s = 3 := by rw [relOp]; simp [h1]
   repeat first|refine go_ ?_|intro _
   refine ⟨(),?_,weak_of ?_ rfl ?_⟩
   ·trivial
   ·repeat (first | exact trivial | refine ⟨(AVle.eq (congrArg (AV.int .i64) hr.symm)),?_⟩ | refine env_ ?_)
   ·exact l_
  refine AW_false (b := decide (t.s = [61])) rfl (by exact decide_eq_false h1) ?_
  repeat first|refine go_ ?_|intro _
  by_cases h2 : t.s = [33,61]
  ·refine AW_true (b := decide (t.s = [33,61])) rfl (by exact decide_eq_true h2) ?_
   have hr : relOp t.s = 4 := by rw [relOp]; simp [h2]
   repeat first|refine go_ ?_|intro _
   refine ⟨(),?_,weak_of ?_ rfl ?_⟩
   ·trivial
   ·repeat (first | exact trivial | refine ⟨(AVle.eq (congrArg (AV.int .i64) hr.symm)),?_⟩ | refine env_ ?_)
   ·exact l_
  refine AW_false (b := decide (t.s = [33,61])) rfl (by exact decide_eq_false h2) ?_
  repeat first|refine go_ ?_|intro _
  by_cases h3 : t.s = [60]
  ·refine AW_true (b := decide (t.s = [60])) rfl (by exact decide_eq_true h3) ?_
   repeat first|refine go_ ?_|intro _
   refine AW_true (b := decide (t.s = [60])) rfl (by exact decide_eq_true h3) ?_
   have hr : relOp t.s = 5 := by rw [relOp]; simp [h3]
   repeat first|refine go_ ?_|intro _
   refine ⟨(),?_,weak_of ?_ rfl ?_⟩
   ·trivial
   ·repeat (first | exact trivial | refine ⟨(AVle.eq (congrArg (AV.int .i64) hr.symm)),?_⟩ | refine env_ ?_)
   ·exact l_
  refine AW_false (b := decide (t.s = [60])) rfl (by exact decide_eq_false h3) ?_
  repeat first|refine go_ ?_|intro _
  by_cases h4 : t.s = [62]
  ·refine AW_true (b := decide (t.s = [62])) rfl (by exact decide_eq_true h4) ?_
   have hr : relOp t.s = 5 := by rw [relOp]; simp [h4]
   repeat first|refine go_ ?_|intro _
   refine ⟨(),?_,weak_of ?_ rfl ?_⟩
   ·trivial
   ·repeat (first | exact trivial | refine ⟨(AVle.eq (congrArg (AV.int .i64) hr.symm)),?_⟩ | refine env_ ?_)
   ·exact l_
  refine AW_false (b := decide (t.s = [62])) rfl (by exact decide_eq_false h4) ?_
  repeat first|refine go_ ?_|intro _
  by_cases h5 : t.s = [60,61]
  ·refine AW_true (b := decide (t.s = [60,61])) rfl (by exact decide_eq_true h5) ?_
   repeat first|refine go_ ?_|intro _
   refine AW_true (b := decide (t.s = [60,61])) rfl (by exact decide_eq_true h5) ?_
   have hr : relOp t.s = 6 := by rw [relOp]; simp [h5]
   repeat first|refine go_ ?_|intro _
   refine ⟨(),?_,weak_of ?_ rfl ?_⟩
   ·trivial
   ·repeat (first | exact trivial | refine ⟨(AVle.eq (congrArg (AV.int .i64) hr.symm)),?_⟩ | refine env_ ?_)
   ·exact l_
  refine AW_false (b := decide (t.s = [60,61])) rfl (by exact decide_eq_false h5) ?_
  repeat first|refine go_ ?_|intro _
  by_cases h6 : t.s = [62,61]
  ·refine AW_true (b := decide (t.s = [62,61])) rfl (by exact decide_eq_true h6) ?_
   have hr : relOp t.s = 6 := by rw [relOp]; simp [h6]
   repeat first|refine go_ ?_|intro _
   refine ⟨(),?_,weak_of ?_ rfl ?_⟩
   ·trivial
   ·repeat (first | exact trivial | refine ⟨(AVle.eq (congrArg (AV.int .i64) hr.symm)),?_⟩ | refine env_ ?_)
   ·exact l_
  refine AW_false (b := decide (t.s = [62,61])) rfl (by exact decide_eq_false h6) ?_
  have hr : relOp t.s = 0 := by rw [relOp]; simp [h1,h2,h3,h4,h5,h6]
  repeat first|refine go_ ?_|intro _
  refine ⟨(),?_,weak_of ?_ rfl ?_⟩
  ·trivial
  ·repeat (first | exact trivial | refine ⟨(AVle.eq (congrArg (AV.int .i64) hr.symm)),?_⟩ | refine env_ ?_)
  ·exact l_
 clear hz
 clear z
 repeat first|refine go_ ?_|intro _
 by_cases hk : t.kind = 4
 rotate_left
 ·refine known_true (b := !decide (t.kind = 4)) (by rw [decide_eq_false hk]; rfl) ?_
  repeat first|refine ga_ ?_|intro _
  refine Or.inl ⟨⟨_,Tryz.func59,rfl,rfl⟩,ACall.mono ?_ (ACall_upd 3 rfl (fail_ok rp L ts e hz 40 t.line))⟩
  rintro _ S1 ⟨rfl,hS1⟩
  subst S1
  repeat first|refine go_ ?_|intro _
  refine AW_ret ?_
  refine ⟨rfl,1,_,rfl,⟨nb_ rfl,nb_ rfl⟩,encL zeroLi,RS rp L ts (failE e (40,t.line)) :: R,leG0,sle_,_,rfl,RQ.bq encL ((RQ.fail zeroLi (40,t.line) hz (by show (40 : Int) ≠ 0; decide)).of fun he => ?_) trivial⟩
  rw [heldL, ← ht,if_neg (fun hh => hk hh.1),stopE, ← ht]
 refine known_false (b := !decide (t.kind = 4)) (by rw [hk]; rfl) ?_
 repeat first|refine go_ ?_|intro _
 by_cases hr : relOp t.s = 0
 ·refine known_true (b := decide (relOp t.s = 0)) (by exact decide_eq_true hr) ?_
  repeat first|refine ga_ ?_|intro _
  refine Or.inl ⟨⟨_,Tryz.func59,rfl,rfl⟩,ACall.mono ?_ (ACall_upd 3 rfl (fail_ok rp L ts e hz 40 t.line))⟩
  rintro _ S1 ⟨rfl,hS1⟩
  subst S1
  repeat first|refine go_ ?_|intro _
  refine AW_ret ?_
  refine ⟨rfl,1,_,rfl,⟨nb_ rfl,nb_ rfl⟩,encL zeroLi,RS rp L ts (failE e (40,t.line)) :: R,leG0,sle_,_,rfl,RQ.bq encL ((RQ.fail zeroLi (40,t.line) hz (by show (40 : Int) ≠ 0; decide)).of fun he => ?_) trivial⟩
  rw [heldL, ← ht,if_neg (fun hh => hh.2 hr),stopE, ← ht]
 refine known_false (b := decide (relOp t.s = 0)) (by exact decide_eq_false hr) ?_
 repeat first|refine go_ ?_|intro _
 cases e with
 | some q =>
  refine AW_true (b := !decide ((eI (some q)).1 = 0)) rfl (by rw [eI_none hz]; rfl) ?_
  repeat first|refine go_ ?_|intro _
  obtain ⟨e,he0⟩ : ∃ e : Option (Int × Int),e = some q := ⟨_,rfl⟩
  rw [← he0] at hz ⊢
  refine Or.inl ⟨⟨_,Tryz.func59,rfl,rfl⟩,ACall.mono ?_ (ACall_upd 3 rfl (fail_ok rp L ts e hz 40 t.line))⟩
  rintro _ S1 ⟨rfl,hS1⟩
  subst S1
  repeat first|refine go_ ?_|intro _
  refine AW_ret ?_
  refine ⟨rfl,1,_,rfl,⟨nb_ rfl,nb_ rfl⟩,encL zeroLi,RS rp L ts (failE e (40,t.line)) :: R,leG0,sle_,_,rfl,RQ.bq encL ((RQ.fail zeroLi (40,t.line) hz (by show (40 : Int) ≠ 0; decide)).of fun he => ?_) trivial⟩
  rw [he0] at he; cases he
 | none =>
 refine AW_false (b := !decide ((eI (none : Option (Int × Int))).1 = 0)) rfl (by rfl) ?_
 have hne := hd_ne (ts := ts) (by rw [← ht,hk]; decide)
 have hts : ts.tail <:+ L := tail_suf.trans h
 have hre : heldL F x ts = pbind (exprL F ts.tail) fun y r => .ok (if t.s = [62] ∨ t.s = [62,61] then (⟨relOp t.s,zeroA,y,x⟩ : Li) else ⟨relOp t.s,zeroA,x,y⟩,r) := by
  rw [heldL, ← ht,if_pos ⟨hk,hr⟩]; cases exprL F ts.tail <;> rfl
 refine AW_skip ?_
 repeat refine rg_ ?_
 refine AW_region tab_ok ?_
 repeat first|refine gr_ ?_|intro _
 refine AW_weak (weak_of (l := [(0, .ptr rp 0),(3, .ptr b3 0),(4, .ptr b4 0),(5, .ptr b5 0),(6, .int .i64 (relOp t.s))]) (m := []) (S' := .cells b5 [.int .i64 t.kind, .str t.s, .int .i64 t.line] :: .cells b4 zL :: .cells b3 (cT x) :: RS rp L ts.tail none :: R) ?_ rfl (SLe.of_eq (congrArg (fun e => _ :: _ :: _ :: e :: _) (RS_next h hne hL)))) ?_
 ·exact e_
 repeat first|refine go_ ?_|intro _
 refine Or.inl ⟨⟨_,Tryz.func144,rfl,rfl⟩,ACall.mono ?_ (ACall_at 3 rfl (bExpr_ok rp L hL hN F hF ts.tail none nz_none hts _))⟩
 rintro _ S1 ⟨x1,hS1,hq⟩
 subst S1
 obtain ⟨y,ts1,e1,rfl,rfl, -,hq⟩ := hq.rq
 repeat first|refine gr_ ?_|intro _
 rename_i b7
 refine AW_weak (weak_of (l := [(4, .ptr b4 0),(3, .ptr b3 0),(5, .ptr b5 0),(6, .int .i64 (relOp t.s)),(7, .ptr b7 0)]) (m := []) (S' := .cells b7 (cT y) :: .cells b5 [.int .i64 t.kind, .str t.s, .int .i64 t.line] :: .cells b4 zL :: .cells b3 (cT x) :: RS rp L ts1 e1 :: R) e_ rfl w_) ?_
 repeat first|refine go_ ?_|intro _
 by_cases h62 : t.s = [62]
 ·refine known_true (b := decide (t.s = [62])) (by exact decide_eq_true h62) ?_
  repeat first|refine ga_ ?_|intro _
  refine AW_ret ?_
  refine ⟨rfl,2,_,rfl,⟨nb_ rfl,nb_ rfl⟩,encL ⟨relOp t.s,zeroA,y,x⟩,RS rp L ts1 e1 :: R,leH,SW.le (SW.drop (SW.drop (SW.drop (SW.drop (SW.cons SW.nil))))),_,rfl,RQ.bq encL ?_ trivial⟩
  rw [hre]
  refine (RQ.bind hq (f := fun y r => .ok (if t.s = [62] ∨ t.s = [62,61] then (⟨relOp t.s,zeroA,y,x⟩ : Li) else ⟨relOp t.s,zeroA,x,y⟩,r)) ?_).ext tail_suf
  rw [if_pos (.inl h62)]; exact RQ.ok _ hq.nz
 refine known_false (b := decide (t.s = [62])) (by exact decide_eq_false h62) ?_
 repeat first|refine go_ ?_|intro _
 by_cases h63 : t.s = [62,61]
 ·refine AW_true (b := decide (t.s = [62,61])) rfl (by exact decide_eq_true h63) ?_
  repeat first|refine ga_ ?_|intro _
  refine AW_ret ?_
  refine ⟨rfl,2,_,rfl,⟨nb_ rfl,nb_ rfl⟩,encL ⟨relOp t.s,zeroA,y,x⟩,RS rp L ts1 e1 :: R,leH,SW.le (SW.drop (SW.drop (SW.drop (SW.drop (SW.cons SW.nil))))),_,rfl,RQ.bq encL ?_ trivial⟩
  rw [hre]
  refine (RQ.bind hq (f := fun y r => .ok (if t.s = [62] ∨ t.s = [62,61] then (⟨relOp t.s,zeroA,y,x⟩ : Li) else ⟨relOp t.s,zeroA,x,y⟩,r)) ?_).ext tail_suf
  rw [if_pos (.inr h63)]; exact RQ.ok _ hq.nz
 refine AW_false (b := decide (t.s = [62,61])) rfl (by exact decide_eq_false h63) ?_
 repeat first|refine ga_ ?_|intro _
 refine AW_ret ?_
 refine ⟨rfl,2,_,rfl,⟨nb_ rfl,nb_ rfl⟩,encL ⟨relOp t.s,zeroA,x,y⟩,RS rp L ts1 e1 :: R,leH,SW.le (SW.drop (SW.drop (SW.drop (SW.drop (SW.cons SW.nil))))),_,rfl,RQ.bq encL ?_ trivial⟩
 rw [hre]
 refine (RQ.bind hq (f := fun y r => .ok (if t.s = [62] ∨ t.s = [62,61] then (⟨relOp t.s,zeroA,y,x⟩ : Li) else ⟨relOp t.s,zeroA,x,y⟩,r)) ?_).ext tail_suf
 rw [if_neg (by rintro (hh | hh); exact h62 hh; exact h63 hh)]; exact RQ.ok _ hq.nz
end Go.Proofs.YtfeknkaioofljaaGreatDoor
