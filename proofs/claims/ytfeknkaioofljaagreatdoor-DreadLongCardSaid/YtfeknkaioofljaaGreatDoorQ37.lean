/-
 The book's rules. Own work.
-/
import Derived.Test.YtfeknkaioofljaaGreatDoorQ36
import Derived.Test.YtfeknkaioofljaaGreatDoorQ21
set_option linter.all false
set_option maxHeartbeats 4000000
set_option maxRecDepth 4000
namespace Go.Proofs.YtfeknkaioofljaaGreatDoor
open Go.Aw Go.RowKit Tree
def chkL (b : Bool) (q : Int × Int) (ts : List Lx.Tok) : PR Unit := if b = false then .error q else .ok ((),ts)
def chkE (e : Option (Int × Int)) (b : Bool) (q : Int × Int) : Option (Int × Int) := if e = none ∧ b = false then some q else e
theorem RQ.chk {ts : List Lx.Tok} {e : Option (Int × Int)} (b : Bool) (q : Int × Int) (hz : Nz e) (hq : q.1 ≠ 0) : RQ ts e (chkL b q ts) () ts (chkE e b q) := by
 cases e with
 | some x =>
  have he : chkE (some x) b q = some x := if_neg (fun hh => by cases hh.1)
  rw [he]; exact ⟨List.suffix_refl _,hz,fun _ h => h,nofun⟩
 | none =>
  cases b with
  | false => exact ⟨List.suffix_refl _,nz_some hq,nofun,fun _ => rfl⟩
  | true => exact RQ.ok _ hz
theorem bodyStep_pb (F : Nat) (l : List Li) (ts : List Lx.Tok) : bodyStep F l ts = pbind (partL' F ts) fun t r => .ok (l ++ [t],r) := by
 rw [bodyStep]; cases partL' F ts <;> rfl
theorem rule_pb (F : Nat) (ts : List Lx.Tok) : ruleL F ts = pbind (atomL F ts) fun a r => pbind (chkL (headL a false) (40,(hd ts 0).line) r) fun _ r => pbind (bodyP F r) fun b r2 => pbind (mustL [46] r2) fun _ r3 => pbind (chkL (headL a (decide (b.length = 0))) (40,(hd ts 0).line) r3) fun _ r4 => .ok (⟨a,b,(hd ts 0).line⟩,r4) := by
 rw [ruleL]
 cases atomL F ts with
 | error q => rfl
 | ok y =>
  obtain ⟨a,r⟩ := y
  simp only [pbind,chkL]
  by_cases h : headL a false = false
  ·rw [if_pos h,if_pos h]
  ·rw [if_neg h,if_neg h]
   simp only
   cases bodyP F r with
   | error q => rfl
   | ok z =>
    obtain ⟨b,r2⟩ := z
    simp only
    cases mustL [46] r2 with
    | error q => rfl
    | ok w =>
     obtain ⟨u,r3⟩ := w
     simp only
     by_cases h2 : headL a (decide (b.length = 0)) = false
     ·rw [if_pos h2,if_pos h2]
     ·rw [if_neg h2,if_neg h2]
abbrev cR (a : At) (l : List Li) (tk : Tk) (n : Int) : List AV := [.str a.rel, .sl 4 (encTs a.l) .no, .sl 11 (l.map encL) tk, .int .i64 n]
abbrev zR : List AV := [.str [], .sl 0 [] .full, .sl 0 [] .full, .int .i64 0]
theorem bRule_ok (rp : Nat) (L : List Lx.Tok) (hL : L.length ≤ 20000) (hN : NumB L) (F : Nat) (hF : 20000 ≤ F) (ts : List Lx.Tok) (e : Option (Int × Int)) (hz : Nz e) (h : ts <:+ L) (R : List En) : ACall Tryz.prog 63 [.ptr rp 0] (RS rp L ts e :: R) (fun r S => ∃ x',S = x' :: R ∧ BkQ rp L ts e encRu (ruleL F ts) noP r x') := by
 obtain ⟨n,hn⟩ : ∃ n,n = (hd ts 0).line := ⟨_,rfl⟩
 refine ACall_body tab_ok Tryz.func63 rfl rfl rfl (by kernel_rfl) (nb_ rfl) ?_
 repeat first|refine go_ ?_|intro _
 rename_i b2
 refine Or.inl ⟨⟨_,Tryz.func57,rfl,rfl⟩,ACall.mono ?_ (ACall_same 1 rfl (here_ok rp L ts e 0 h hL (by decide)))⟩
 rintro _ S1 ⟨rfl,hS1⟩
 subst S1
 repeat first|refine gr_ ?_|intro _
 rename_i b3
 refine AW_weak (weak_of (l := [(0, .ptr rp 0),(2, .ptr b2 0),(3, .ptr b3 0)]) (m := []) (S' := .cells b3 [.str [], .sl 0 [] .full, .sl 0 [] .full, .int .i64 (hd ts 0).line] :: .cells b2 zR :: RS rp L ts e :: R) e_ rfl w_) ?_
 rw [← hn]
 repeat first|refine go_ ?_|intro _
 refine Or.inl ⟨⟨_,Tryz.func108,rfl,rfl⟩,ACall.mono ?_ (ACall_at 2 rfl (bAtom_ok rp L hL hN F hF ts e hz h _))⟩
 rintro _ S1 ⟨x1,hS1,hq⟩
 subst S1
 obtain ⟨a,ts1,e1,rfl,rfl, -,hq1⟩ := hq.rq
 have hs1 := hq1.suf.trans h
 repeat first|refine gr_ ?_|intro _
 refine AW_weak (weak_of (l := [(0, .ptr rp 0),(2, .ptr b2 0),(3, .ptr b3 0)]) (m := []) (S' := .cells b3 (cR a [] .full n) :: .grow .full :: .cells b2 zR :: RS rp L ts1 e1 :: R) ?_ rfl (SW.le (SW.cells (cs := [.str a.rel, .sl 4 (encTs a.l) .no, .sl 0 [] .full, .int .i64 n]) (cs' := cR a [] .full n) ⟨AVle.refl _,AVle.refl _,AVle.nilFull,AVle.refl _,trivial⟩ rfl (SW.full (SW.cons (SW.cons SW.nil)))))) ?_
 ·exact e_
 refine AW_cut1 (α := Unit) (fun z => ⟨[(0, .ptr rp 0),(2, .ptr b2 0),(3, .ptr b3 0)], []⟩) (fun z => .cells b3 (cR a [] .full n) :: .grow .full :: .cells b2 zR :: RS rp L ts1 (chkE e1 (headL a false) (40,n)) :: R) (fun z => True) ?_ (fun z hz => ?_)
 ·repeat first|refine go_ ?_|intro _
  cases e1 with
  | some q =>
   refine known_false (b := decide ((eI (some q)).1 = 0)) (by rw [eI_none hq1.nz]; rfl) ?_
   repeat first|refine ga_ ?_|intro _
   refine ⟨(),?_,weak_of ?_ rfl ?_⟩
   ·trivial
   ·exact e_
   ·rw [chkE,if_neg (fun hh => by cases hh.1)]
    repeat (first | exact SLe.rfl | refine SLe.tail ?_ | refine SLe.full ?_)
  | none =>
   refine known_true (b := decide ((eI (none : Option (Int × Int))).1 = 0)) (by rfl) ?_
   repeat first|refine go_ ?_|intro _
   refine Or.inl ⟨⟨_,Tryz.func109,rfl,rfl⟩,ACall.mono ?_ (bHeaded_ok a false _)⟩
   rintro _ S1 ⟨rfl,hS1⟩
   subst S1
   repeat first|refine go_ ?_|intro _
   by_cases hh : headL a false = false
   ·refine AW_true (b := !headL a false) rfl (by rw [hh]; rfl) ?_
    repeat first|refine go_ ?_|intro _
    refine Or.inl ⟨⟨_,Tryz.func59,rfl,rfl⟩,ACall.mono ?_ (ACall_upd 3 rfl (fail_ok rp L ts1 none nz_none 40 n))⟩
    rintro _ S1 ⟨rfl,hS1⟩
    subst S1
    repeat first|refine go_ ?_|intro _
    refine ⟨(),?_,weak_of ?_ rfl ?_⟩
    ·trivial
    ·exact e_
    ·rw [chkE,if_pos ⟨rfl,hh⟩]
     repeat (first | exact SLe.rfl | refine SLe.tail ?_ | refine SLe.full ?_)
   ·refine AW_false (b := !headL a false) rfl (by simpa using hh) ?_
    repeat first|refine go_ ?_|intro _
    refine ⟨(),?_,weak_of ?_ rfl ?_⟩
    ·trivial
    ·exact e_
    ·rw [chkE,if_neg (fun hc => hh hc.2)]
     repeat (first | exact SLe.rfl | refine SLe.tail ?_ | refine SLe.full ?_)
 clear hz z
 have hc1 := RQ.chk (ts := ts1) (headL a false) (40,n) hq1.nz (by show (40 : Int) ≠ 0; decide)
 obtain ⟨f1,hf1⟩ : ∃ f1,f1 = chkE e1 (headL a false) (40,n) := ⟨_,rfl⟩
 rw [← hf1]
 have hfz : Nz f1 := hf1 ▸ hc1.nz
 refine AW_cut1 (α := StT (List Li)) (fun z => ⟨[(0, .ptr rp 0),(2, .ptr b2 0),(3, .ptr b3 0)], []⟩) (fun z => .cells b3 (cR a z.1 z.2.1 n) :: .cells b2 zR :: RS rp L z.2.2.1 z.2.2.2 :: R) (fun z => RQ ts1 f1 (bodyP F ts1) z.1 z.2.2.1 z.2.2.2 ∧ z.1.length ≤ 21) ?_ (fun z hz => ?_)
 ·repeat first|refine go_ ?_|intro _
  refine Or.inl ⟨⟨_,Tryz.func61,rfl,rfl⟩,ACall.mono ?_ (ACall_upd 3 rfl (bTakes_ok rp L ts1 f1 hfz 4 (by decide) [58,45] hs1 hL))⟩
  rintro _ S1 ⟨rfl,hS1⟩
  subst S1
  repeat first|refine go_ ?_|intro _
  by_cases hs : isT ts1 4 [58,45] f1 = true
  rotate_left
  ·have hs' : isT ts1 4 [58,45] f1 = false := by simpa using hs
   rw [if_neg hs]
   refine AW_false (b := isT ts1 4 [58,45] f1) rfl (by exact hs') ?_
   repeat first|refine go_ ?_|intro _
   refine ⟨(([], .full,ts1,f1) : StT (List Li)),?_,weak_of ?_ rfl ?_⟩
   ·refine ⟨(RQ.ok [] hfz).of fun he => ?_,Nat.zero_le _⟩
    subst he
    rw [bodyP,takesL_of,if_neg hs]
   ·exact e_
   ·exact w_
  obtain ⟨hne,hk,hss,hf0⟩ := isT_ne hs (by decide)
  rw [hf0] at hs hfz ⊢
  rw [if_pos hs]
  have hsT : ts1.tail <:+ L := tail_suf.trans hs1
  refine AW_true (b := isT ts1 4 [58,45] none) rfl (by exact hs) ?_
  repeat first|refine go_ ?_|intro _
  refine AW_for (α := StT (List Li)) (fun z => ⟨[(0, .ptr rp 0),(2, .ptr b2 0),(3, .ptr b3 0)], []⟩) (fun z => .cells b3 (cR a z.1 z.2.1 n) :: .grow z.2.1 :: .cells b2 zR :: RS rp L z.2.2.1 z.2.2.2 :: R) (fun z => z.2.2.1.length) (fun z => LiB (bodyStep F) List.length 20 [] ts1.tail none z.1 z.2.2.1 z.2.2.2) (([], .full,ts1.tail,none)) ?_ (weak_of ?_ rfl ?_) (fun z hz => ?_)
  ·exact LiB.start nz_none rfl
  ·exact e_
  ·exact l_
  obtain ⟨l,tk,ts2,e2⟩ := z
  have hB : LiB (bodyStep F) List.length 20 [] ts1.tail none l ts2 e2 := hz
  have h2 := hB.suf.trans hsT
  have hl8 := hB.le
  have hfin : ∀ {l : List Li} {t : List Lx.Tok} {e : Option (Int × Int)},RQ ts1.tail none (listGo (bodyStep F) 20 [] ts1.tail) l t e → RQ ts1 none (bodyP F ts1) l t e := fun hh => (hh.ext tail_suf).of fun _ => by rw [bodyP,takesL_of,if_pos hs]
  show AW _ _ _ _ ⟨[(0, .ptr rp 0),(2, .ptr b2 0),(3, .ptr b3 0)], []⟩ (.cells b3 (cR a l tk n) :: .grow tk :: .cells b2 zR :: RS rp L ts2 e2 :: R) _
  repeat first|refine go_ ?_|intro _
  cases e2 with
  | some q =>
   refine AW_false (b := decide ((eI (some q)).1 = 0)) rfl (by rw [eI_none hB.nz]; rfl) ?_
   repeat first|refine go_ ?_|intro _
   refine ⟨((l,tk,ts2,some q) : StT (List Li)),?_,weak_of ?_ rfl ?_⟩
   ·exact ⟨hfin hB.out,Nat.le_trans hl8 (by decide)⟩
   ·exact e_
   ·exact w_
  | none =>
  refine AW_true (b := decide ((eI (none : Option (Int × Int))).1 = 0)) rfl (by rfl) ?_
  have hle : (l.map encL).length = l.length := List.length_map ..
  have hr8 : (l.map encL).length ≤ 20 := by omega
  refine AW_skip ?_
  refine AW_block ?_
  refine AW_cut1 (α := Unit) (fun z => ⟨[(0, .ptr rp 0),(2, .ptr b2 0),(3, .ptr b3 0)], []⟩) (fun z => .cells b3 (cR a l tk n) :: .grow tk :: .cells b2 zR :: RS rp L ts2 (fullE List.length 20 l ts2) :: R) (fun z => True) ?_ (fun z hz => ?_)
  ·repeat first|refine go_ ?_|intro _
   by_cases hM : l.length = 20
   ·refine AW_true (b := decide ((((l.map encL).length : Nat) : Int) = 20)) rfl (by rw [hle,hM]; rfl) ?_
    repeat first|refine go_ ?_|intro _
    refine Or.inl ⟨⟨_,Tryz.func57,rfl,rfl⟩,ACall.mono ?_ (ACall_same 3 rfl (here_ok rp L ts2 none 0 h2 hL (by decide)))⟩
    rintro _ S1 ⟨rfl,hS1⟩
    subst S1
    repeat first|refine go_ ?_|intro _
    refine Or.inl ⟨⟨_,Tryz.func59,rfl,rfl⟩,ACall.mono ?_ (ACall_upd 3 rfl (fail_ok rp L ts2 none nz_none 21 (hd ts2 0).line))⟩
    rintro _ S1 ⟨rfl,hS1⟩
    subst S1
    repeat first|refine go_ ?_|intro _
    refine ⟨(),?_,weak_of ?_ rfl ?_⟩
    ·trivial
    ·exact e_
    ·rw [fullE,if_pos hM]
     repeat (first | exact SLe.rfl | refine SLe.tail ?_ | refine SLe.full ?_)
   ·refine AW_false (b := decide ((((l.map encL).length : Nat) : Int) = 20)) rfl (by exact decide_eq_false (by omega)) ?_
    repeat first|refine go_ ?_|intro _
    refine ⟨(),?_,weak_of ?_ rfl ?_⟩
    ·trivial
    ·exact e_
    ·rw [fullE,if_neg hM]
     repeat (first | exact SLe.rfl | refine SLe.tail ?_ | refine SLe.full ?_)
  clear hz z
  obtain ⟨f2,hf2⟩ : ∃ f2,f2 = fullE List.length 20 l ts2 := ⟨_,rfl⟩
  have hf2z : Nz f2 := hf2 ▸ full_nz
  rw [← hf2]
  repeat first|refine go_ ?_|intro _
  refine AW_drawT ([.cells b3 (cR a l tk n)]) tab_ok mixed [0,1,2] (.one false 3 (.one false 4 (.one true 5 (.one true 6 (.one true 7 .leaf))))) (by first | rfl | kernel_rfl) ⟨_,List.Perm.refl _⟩ ?_
  repeat (first | refine det_stepX rfl ?_ | refine go_ ?_ | intro _)
  refine Or.inl ⟨⟨_,Tryz.func110,rfl,rfl⟩,ACall.mono ?_ (ACall_at 3 rfl (bPart_ok rp L hL hN F hF ts2 f2 hf2z h2 _))⟩
  rintro _ S1 ⟨x1,hS1,hq⟩
  subst S1
  obtain ⟨y,ts3,e3,rfl,rfl, -,hq3⟩ := hq.rq
  refine keepA ?_
  repeat (first | refine det_stepX rfl ?_ | refine go_ ?_ | intro _)
  refine keepA ?_
  repeat (first | refine det_stepX rfl ?_ | refine go_ ?_ | intro _)
  refine ⟨room (by first | omega | (simp; done) | (simp; omega) | (simp at *; done) | (simp at *; omega)) rfl, .inl rfl, .inr (.inl ⟨rfl,1,rfl,(l ++ [y]).map encL,by rw [List.map_append]; rfl,fun t1 => ?_⟩)⟩
  repeat (first | refine det_stepX rfl ?_ | refine gr_ ?_ | intro _)
  refine AW_weak (weak_of (l := [(0, .ptr rp 0),(2, .ptr b2 0),(3, .ptr b3 0)]) (m := []) (S' := .cells b3 (cR a (l ++ [y]) t1 n) :: .grow t1 :: .cells b2 zR :: RS rp L ts3 e3 :: R) e_ rfl w_) ?_
  have hq4 : RQ ts2 (fullE List.length 20 l ts2) (bodyStep F l ts2) (l ++ [y]) ts3 e3 := by
   rw [← hf2,bodyStep_pb]; exact hq3.bind (RQ.ok _ hq3.nz)
  have hly : (l ++ [y]).length = l.length + 1 := by rw [List.length_append]; rfl
  have h3 := hq3.suf.trans h2
  repeat first|refine go_ ?_|intro _
  refine Or.inl ⟨⟨_,Tryz.func61,rfl,rfl⟩,ACall.mono ?_ (ACall_upd 3 rfl (bTakes_ok rp L ts3 e3 hq3.nz 4 (by decide) [44] h3 hL))⟩
  rintro _ S1 ⟨rfl,hS1⟩
  subst S1
  repeat first|refine go_ ?_|intro _
  by_cases hs2 : isT ts3 4 [44] e3 = true
  ·obtain ⟨rfl,hB2⟩ := hB.more hq4 hly hs2
   obtain ⟨hne,hk, -, -⟩ := isT_ne hs2 (by decide)
   have htl := tail_len (ts := ts3) (by rw [hk]; decide)
   have hl3 := hq3.suf.length_le
   rw [if_pos hs2]
   refine AW_false (b := !isT ts3 4 [44] none) rfl (by rw [hs2]; rfl) ?_
   repeat first|refine go_ ?_|intro _
   refine ⟨((l ++ [y],t1,ts3.tail,none) : StT (List Li)),?_,?_,weak_of ?_ rfl ?_⟩
   ·show ts3.tail.length < ts2.length; omega
   ·exact hB2
   ·exact e_
   ·exact l_
  ·have hs' : isT ts3 4 [44] e3 = false := by simpa using hs2
   rw [if_neg hs2]
   refine AW_true (b := !isT ts3 4 [44] e3) rfl (by rw [hs']; rfl) ?_
   repeat first|refine go_ ?_|intro _
   refine ⟨((l ++ [y],t1,ts3,e3) : StT (List Li)),?_,weak_of ?_ rfl ?_⟩
   ·exact ⟨hfin (hB.last hq4 hs'),by show (l ++ [y]).length ≤ 21; omega⟩
   ·exact e_
   ·exact w_
 obtain ⟨l,tk,ts2,e2⟩ := z
 obtain ⟨hq2,hl9⟩ : RQ ts1 f1 (bodyP F ts1) l ts2 e2 ∧ l.length ≤ 21 := hz
 have hs2 := hq2.suf.trans hs1
 have hle : (l.map encL).length = l.length := List.length_map ..
 show AW _ _ _ _ ⟨[(0, .ptr rp 0),(2, .ptr b2 0),(3, .ptr b3 0)], []⟩ (.cells b3 (cR a l tk n) :: .cells b2 zR :: RS rp L ts2 e2 :: R) _
 repeat first|refine go_ ?_|intro _
 refine Or.inl ⟨⟨_,Tryz.func107,rfl,rfl⟩,ACall.mono ?_ (ACall_upd 2 rfl (bMust_ok rp L ts2 e2 hq2.nz 4 (by decide) [46] hs2 hL))⟩
 rintro _ S1 ⟨rfl,hS1⟩
 subst S1
 repeat first|refine gr_ ?_|intro _
 obtain ⟨r3,hr3⟩ : ∃ r1,r1 = mustR ts2 4 [46] e2 := ⟨_,rfl⟩
 obtain ⟨f3,hf3⟩ : ∃ f1,f1 = mustE ts2 4 [46] e2 := ⟨_,rfl⟩
 have hm := RQ.must (ts := ts2) [46] hq2.nz
 rw [← hr3, ← hf3] at hm
 rw [← hr3, ← hf3]
 obtain ⟨bb,hbb⟩ : ∃ bb,bb = decide (l.length = 0) := ⟨_,rfl⟩
 have hbb' : decide ((((l.map encL).length : Nat) : Int) = 0) = bb := by
  rw [hle,hbb,Bool.eq_iff_iff,decide_eq_true_eq,decide_eq_true_eq]; omega
 refine AW_weak (weak_of (l := [(0, .ptr rp 0),(2, .ptr b2 0),(3, .ptr b3 0)]) (m := []) (S' := .cells b3 (cR a l tk n) :: .cells b2 zR :: RS rp L r3 f3 :: R) e_ rfl w_) ?_
 refine AW_cut1 (α := Unit) (fun z => ⟨[(0, .ptr rp 0),(2, .ptr b2 0),(3, .ptr b3 0)], []⟩) (fun z => .cells b3 (cR a l tk n) :: .cells b2 zR :: RS rp L r3 (chkE f3 (headL a bb) (40,n)) :: R) (fun z => True) ?_ (fun z hz => ?_)
 ·repeat first|refine go_ ?_|intro _
  cases f3 with
  | some q =>
   refine known_false (b := decide ((eI (some q)).1 = 0)) (by rw [eI_none hm.nz]; rfl) ?_
   repeat first|refine ga_ ?_|intro _
   refine ⟨(),?_,weak_of ?_ rfl ?_⟩
   ·trivial
   ·exact e_
   ·rw [chkE,if_neg (fun hh => by cases hh.1)]
    repeat (first | exact SLe.rfl | refine SLe.tail ?_ | refine SLe.full ?_)
  | none =>
   refine known_true (b := decide ((eI (none : Option (Int × Int))).1 = 0)) (by rfl) ?_
   repeat first|refine go_ ?_|intro _
   refine Or.inl ⟨⟨_,Tryz.func109,rfl,rfl⟩,ACall.mono ?_ (by have := bHeaded_ok a bb (.cells b3 (cR a l tk n) :: .cells b2 zR :: RS rp L r3 none :: R); rw [← hbb'] at this; exact this)⟩
   rintro _ S1 ⟨rfl,hS1⟩
   subst S1
   rw [hbb']
   repeat first|refine go_ ?_|intro _
   by_cases hh : headL a bb = false
   ·refine AW_true (b := !headL a bb) rfl (by rw [hh]; rfl) ?_
    repeat first|refine go_ ?_|intro _
    refine Or.inl ⟨⟨_,Tryz.func59,rfl,rfl⟩,ACall.mono ?_ (ACall_upd 2 rfl (fail_ok rp L r3 none nz_none 40 n))⟩
    rintro _ S1 ⟨rfl,hS1⟩
    subst S1
    repeat first|refine go_ ?_|intro _
    refine ⟨(),?_,weak_of ?_ rfl ?_⟩
    ·trivial
    ·exact e_
    ·rw [chkE,if_pos ⟨rfl,hh⟩]
     repeat (first | exact SLe.rfl | refine SLe.tail ?_ | refine SLe.full ?_)
   ·refine AW_false (b := !headL a bb) rfl (by simpa using hh) ?_
    repeat first|refine go_ ?_|intro _
    refine ⟨(),?_,weak_of ?_ rfl ?_⟩
    ·trivial
    ·exact e_
    ·rw [chkE,if_neg (fun hc => hh hc.2)]
     repeat (first | exact SLe.rfl | refine SLe.tail ?_ | refine SLe.full ?_)
 repeat first|refine go_ ?_|intro _
 have hc2 := RQ.chk (ts := r3) (headL a bb) (40,n) hm.nz (by show (40 : Int) ≠ 0; decide)
 refine AW_ret ?_
 refine ⟨rfl,1,_,rfl,⟨nb_ rfl,nb_ rfl⟩,encRu ⟨a,l,n⟩,RS rp L r3 (chkE f3 (headL a bb) (40,n)) :: R,leRu,sle_,_,rfl,RQ.bq encRu ?_ trivial⟩
 rw [rule_pb, ← hn]
 refine hq1.bind (hc1.bind ?_)
 rw [← hf1]
 refine hq2.bind (hm.bind ?_)
 rw [← hbb]
 exact hc2.bind (RQ.ok _ hc2.nz)
end Go.Proofs.YtfeknkaioofljaaGreatDoor
