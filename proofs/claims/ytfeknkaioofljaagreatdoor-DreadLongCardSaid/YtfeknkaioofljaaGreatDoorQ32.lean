/-
 The book's products. Own work.
-/
import Derived.Test.YtfeknkaioofljaaGreatDoorQ31
import Derived.Test.YtfeknkaioofljaaGreatDoorQ4
set_option linter.all false
set_option maxHeartbeats 4000000
set_option maxRecDepth 4000
namespace Go.Proofs.YtfeknkaioofljaaGreatDoor
open Go.Aw Go.RowKit Tree
theorem joined_at (rp : Nat) (L ts : List Lx.Tok) (e : Option (Int × Int)) (hz : Nz e) (op : Int) (x y : T) (line : Int) {S : List En} (p : Nat) (hp : S[p]? = some (RS rp L ts e)) : ACall Tryz.prog 181 [.ptr rp 0, .int .i64 op,encU x,encU y, .int .i64 line] S (fun r S' => r = encU (.mk op [] 0 [x,y]) ∧ S' = S.set p (RS rp L ts (jE e x y line))) :=
 ACall_upd p hp (joined_ok rp L ts e hz op x y line)
theorem bProduct_ok (rp : Nat) (L : List Lx.Tok) (hL : L.length ≤ 20000) (n : Nat) (hp : BPart rp L 193 (thingL n) n) : BPart rp L 180 (prodL n) n := by
 obtain ⟨hf,hp⟩ := hp
 refine ⟨⟨_,Tryz.func180,rfl,rfl⟩,fun ts e R hz h hn => ?_⟩
 refine ACall_body tab_ok Tryz.func180 rfl rfl rfl (by kernel_rfl) (nb_ rfl) ?_
 repeat first|refine go_ ?_|intro _
 rename_i b2
 refine Or.inl ⟨hf,ACall.mono ?_ (ACall_at 1 rfl (hp ts e _ hz h hn))⟩
 rintro _ S1 ⟨x1,hS1,hq⟩
 subst S1
 obtain ⟨x,ts1,e1,rfl,rfl,hc⟩ := hq.chain opsP
 repeat first|refine go_ ?_|intro _
 rename_i b3
 refine AW_for (α := T × List Lx.Tok × Option (Int × Int)) (fun z => ⟨[(0, .ptr rp 0),(2, .ptr b2 0),(3, .ptr b3 0)], []⟩) (fun z => .cells b3 (cT z.1) :: .cells b2 [.int .i64 0, .str [], .int .i64 0, .sl 0 [] .full] :: RS rp L z.2.1 z.2.2 :: R) (fun z => z.2.1.length) (fun z => ChB (thingL n) opsP ts e z.1 z.2.1 z.2.2) ((x,ts1,e1)) ?_ (weak_of ?_ rfl ?_) (fun z hz => ?_)
 ·exact hc
 ·exact e_
 ·exact l_
 obtain ⟨x,ts2,e2⟩ := z
 have hc : ChB (thingL n) opsP ts e x ts2 e2 := hz
 have h2 := hc.suf.trans h
 show AW _ _ _ _ ⟨[(0, .ptr rp 0),(2, .ptr b2 0),(3, .ptr b3 0)], []⟩ (.cells b3 (cT x) :: .cells b2 [.int .i64 0, .str [], .int .i64 0, .sl 0 [] .full] :: RS rp L ts2 e2 :: R) _
 repeat first|refine go_ ?_|intro _
 refine Or.inl ⟨⟨_,Tryz.func58,rfl,rfl⟩,ACall.mono ?_ (ACall_same 2 rfl (is_ok rp L ts2 e2 hc.nz 4 [42] h2 hL))⟩
 rintro _ S1 ⟨rfl,hS1⟩
 subst S1
 repeat first|refine go_ ?_|intro _
 by_cases hs : isT ts2 4 [42] e2 = true
 ·obtain ⟨hne,hk,hss,rfl⟩ := isT_ne hs (by decide)
  refine AW_true (b := isT ts2 4 [42] none) rfl (by exact hs) ?_
  repeat first|refine go_ ?_|intro _
  refine Or.inl ⟨⟨_,Tryz.func57,rfl,rfl⟩,ACall.mono ?_ (ACall_same 2 rfl (here_ok rp L ts2 none 0 h2 hL (by decide)))⟩
  rintro _ S1 ⟨rfl,hS1⟩
  subst S1
  repeat first|refine gr_ ?_|intro _
  have hts : ts2.tail <:+ L := tail_suf.trans h2
  have htl := tail_len (ts := ts2) (by rw [hk]; decide)
  have hsl := hc.suf.length_le
  unfold RS
  repeat refine rg_ ?_
  refine AW_region tab_ok ?_
  repeat first|refine gr_ ?_|intro _
  refine AW_weak (weak_of (l := [(0, .ptr rp 0),(2, .ptr b2 0),(3, .ptr b3 0),(4, .int .i64 (hd ts2 0).line)]) (m := []) (S' := .cells b3 (cT x) :: .cells b2 [.int .i64 0, .str [], .int .i64 0, .sl 0 [] .full] :: RS rp L ts2.tail none :: R) ?_ rfl (SLe.of_eq (congrArg (fun e => _ :: _ :: e :: _) (RS_next h2 hne hL)))) ?_
  ·exact e_
  refine AW_drawT ([.cells b3 (cT x)]) tab_ok mixed [0,1,2,4] (.one false 3 (.one true 5 (.one true 6 .leaf))) (by first | rfl | kernel_rfl) ⟨_,List.Perm.refl _⟩ ?_
  repeat (first | refine det_stepX rfl ?_ | refine go_ ?_ | intro _)
  refine Or.inl ⟨hf,ACall.mono ?_ (ACall_at 2 rfl (hp ts2.tail none _ nz_none hts (by omega)))⟩
  rintro _ S1 ⟨x1,hS1,hq⟩
  subst S1
  obtain ⟨y,ts3,e3,rfl,rfl,hz3,hs3,hc3⟩ := hc.step hk (o := 7) (by rw [hss]; rfl) (by decide) hq
  refine keepA ?_
  repeat (first | refine det_stepX rfl ?_ | refine go_ ?_ | intro _)
  refine Or.inl ⟨⟨_,Tryz.func181,rfl,rfl⟩,ACall.mono ?_ (joined_at rp L ts3 e3 hz3 7 x y (hd ts2 0).line 2 rfl)⟩
  rintro _ S1 ⟨rfl,hS1⟩
  subst S1
  repeat (first | refine det_stepX rfl ?_ | refine go_ ?_ | intro _)
  have hl3 := hs3.length_le
  refine ⟨((.mk 7 [] 0 [x,y],ts3,jE e3 x y (hd ts2 0).line) : T × List Lx.Tok × Option (Int × Int)),?_,?_,weak_of ?_ rfl ?_⟩
  ·show ts3.length < ts2.length; omega
  ·exact hc3
  ·exact e_
  ·exact l_
 ·have hs' : isT ts2 4 [42] e2 = false := by simpa using hs
  refine AW_false (b := isT ts2 4 [42] e2) rfl (by exact hs') ?_
  repeat first|refine go_ ?_|intro _
  refine AW_ret ?_
  refine ⟨rfl,1,_,rfl,⟨nb_ rfl,nb_ rfl⟩,encU x,RS rp L ts2 e2 :: R,AVle.refl _,sle_,_,rfl,hc.done fun he hh => hs ?_⟩
  subst he
  rw [isT,Bool.and_eq_true,Bool.and_eq_true,decide_eq_true_eq,decide_eq_true_eq]
  refine ⟨⟨hh.1,?_⟩,rfl⟩
  by_cases h42 : (hd ts2 0).s = [42]
  ·exact h42
  ·exact absurd (by rw [opsP,if_neg h42]) hh.2
theorem bSum_ok (rp : Nat) (L : List Lx.Tok) (hL : L.length ≤ 20000) (n : Nat) (hp : BPart rp L 180 (prodL n) n) : BPart rp L 166 (sumL n) n := by
 obtain ⟨hf,hp⟩ := hp
 refine ⟨⟨_,Tryz.func166,rfl,rfl⟩,fun ts e R hz h hn => ?_⟩
 refine ACall_body tab_ok Tryz.func166 rfl rfl rfl (by kernel_rfl) (nb_ rfl) ?_
 repeat first|refine go_ ?_|intro _
 rename_i b2
 refine Or.inl ⟨hf,ACall.mono ?_ (ACall_at 1 rfl (hp ts e _ hz h hn))⟩
 rintro _ S1 ⟨x1,hS1,hq⟩
 subst S1
 obtain ⟨x,ts1,e1,rfl,rfl,hc⟩ := hq.chain opsS
 repeat first|refine go_ ?_|intro _
 rename_i b3
 refine AW_for (α := T × List Lx.Tok × Option (Int × Int)) (fun z => ⟨[(0, .ptr rp 0),(2, .ptr b2 0),(3, .ptr b3 0)], []⟩) (fun z => .cells b3 (cT z.1) :: .cells b2 [.int .i64 0, .str [], .int .i64 0, .sl 0 [] .full] :: RS rp L z.2.1 z.2.2 :: R) (fun z => z.2.1.length) (fun z => ChB (prodL n) opsS ts e z.1 z.2.1 z.2.2) ((x,ts1,e1)) ?_ (weak_of ?_ rfl ?_) (fun z hz => ?_)
 ·exact hc
 ·exact e_
 ·exact l_
 obtain ⟨x,ts2,e2⟩ := z
 have hc : ChB (prodL n) opsS ts e x ts2 e2 := hz
 have h2 := hc.suf.trans h
 show AW _ _ _ _ ⟨[(0, .ptr rp 0),(2, .ptr b2 0),(3, .ptr b3 0)], []⟩ (.cells b3 (cT x) :: .cells b2 [.int .i64 0, .str [], .int .i64 0, .sl 0 [] .full] :: RS rp L ts2 e2 :: R) _
 repeat first|refine go_ ?_|intro _
 refine Or.inl ⟨⟨_,Tryz.func58,rfl,rfl⟩,ACall.mono ?_ (ACall_same 2 rfl (is_ok rp L ts2 e2 hc.nz 4 [43] h2 hL))⟩
 rintro _ S1 ⟨rfl,hS1⟩
 subst S1
 repeat first|refine go_ ?_|intro _
 by_cases hs : isT ts2 4 [43] e2 = true
 ·obtain ⟨hne,hk,hss,rfl⟩ := isT_ne hs (by decide)
  refine known_true (b := isT ts2 4 [43] none) (by exact hs) ?_
  repeat first|refine ga_ ?_|intro _
  refine Or.inl ⟨⟨_,Tryz.func58,rfl,rfl⟩,ACall.mono ?_ (ACall_same 2 rfl (is_ok rp L ts2 none hc.nz 4 [45] h2 hL))⟩
  rintro _ S1 ⟨rfl,hS1⟩
  subst S1
  repeat first|refine go_ ?_|intro _
  refine AW_false (b := isT ts2 4 [45] none) rfl (by rw [isT,hss]; simp) ?_
  repeat first|refine go_ ?_|intro _
  refine Or.inl ⟨⟨_,Tryz.func57,rfl,rfl⟩,ACall.mono ?_ (ACall_same 2 rfl (here_ok rp L ts2 none 0 h2 hL (by decide)))⟩
  rintro _ S1 ⟨rfl,hS1⟩
  subst S1
  repeat first|refine gr_ ?_|intro _
  have hts : ts2.tail <:+ L := tail_suf.trans h2
  have htl := tail_len (ts := ts2) (by rw [hk]; decide)
  have hsl := hc.suf.length_le
  unfold RS
  repeat refine rg_ ?_
  refine AW_region tab_ok ?_
  repeat first|refine gr_ ?_|intro _
  refine AW_weak (weak_of (l := [(0, .ptr rp 0),(2, .ptr b2 0),(3, .ptr b3 0),(4, .int .i64 5),(5, .int .i64 (hd ts2 0).line)]) (m := []) (S' := .cells b3 (cT x) :: .cells b2 [.int .i64 0, .str [], .int .i64 0, .sl 0 [] .full] :: RS rp L ts2.tail none :: R) ?_ rfl (SLe.of_eq (congrArg (fun e => _ :: _ :: e :: _) (RS_next h2 hne hL)))) ?_
  ·exact e_
  refine AW_drawT ([.cells b3 (cT x)]) tab_ok mixed [0,1,2,3,5] (.one false 4 (.one true 6 (.one true 7 .leaf))) (by first | rfl | kernel_rfl) ⟨_,List.Perm.refl _⟩ ?_
  repeat (first | refine det_stepX rfl ?_ | refine go_ ?_ | intro _)
  refine Or.inl ⟨hf,ACall.mono ?_ (ACall_at 2 rfl (hp ts2.tail none _ nz_none hts (by omega)))⟩
  rintro _ S1 ⟨x1,hS1,hq⟩
  subst S1
  obtain ⟨y,ts3,e3,rfl,rfl,hz3,hs3,hc3⟩ := hc.step hk (o := 5) (by rw [hss]; rfl) (by decide) hq
  refine keepA ?_
  repeat (first | refine det_stepX rfl ?_ | refine go_ ?_ | intro _)
  refine Or.inl ⟨⟨_,Tryz.func181,rfl,rfl⟩,ACall.mono ?_ (joined_at rp L ts3 e3 hz3 5 x y (hd ts2 0).line 2 rfl)⟩
  rintro _ S1 ⟨rfl,hS1⟩
  subst S1
  repeat (first | refine det_stepX rfl ?_ | refine go_ ?_ | intro _)
  have hl3 := hs3.length_le
  refine ⟨((.mk 5 [] 0 [x,y],ts3,jE e3 x y (hd ts2 0).line) : T × List Lx.Tok × Option (Int × Int)),?_,?_,weak_of ?_ rfl ?_⟩
  ·show ts3.length < ts2.length; omega
  ·exact hc3
  ·exact e_
  ·exact l_
 ·have hs' : isT ts2 4 [43] e2 = false := by simpa using hs
  refine known_false (b := isT ts2 4 [43] e2) (by exact hs') ?_
  repeat first|refine ga_ ?_|intro _
  refine Or.inl ⟨⟨_,Tryz.func58,rfl,rfl⟩,ACall.mono ?_ (ACall_same 2 rfl (is_ok rp L ts2 e2 hc.nz 4 [45] h2 hL))⟩
  rintro _ S1 ⟨rfl,hS1⟩
  subst S1
  repeat first|refine go_ ?_|intro _
  by_cases hm : isT ts2 4 [45] e2 = true
  ·obtain ⟨hne,hk,hss,rfl⟩ := isT_ne hm (by decide)
   refine AW_true (b := isT ts2 4 [45] none) rfl (by exact hm) ?_
   repeat first|refine go_ ?_|intro _
   refine Or.inl ⟨⟨_,Tryz.func58,rfl,rfl⟩,ACall.mono ?_ (ACall_same 2 rfl (is_ok rp L ts2 none hc.nz 4 [45] h2 hL))⟩
   rintro _ S1 ⟨rfl,hS1⟩
   subst S1
   repeat first|refine go_ ?_|intro _
   refine AW_true (b := isT ts2 4 [45] none) rfl (by exact hm) ?_
   repeat first|refine go_ ?_|intro _
   refine Or.inl ⟨⟨_,Tryz.func57,rfl,rfl⟩,ACall.mono ?_ (ACall_same 2 rfl (here_ok rp L ts2 none 0 h2 hL (by decide)))⟩
   rintro _ S1 ⟨rfl,hS1⟩
   subst S1
   repeat first|refine gr_ ?_|intro _
   have hts : ts2.tail <:+ L := tail_suf.trans h2
   have htl := tail_len (ts := ts2) (by rw [hk]; decide)
   have hsl := hc.suf.length_le
   unfold RS
   repeat refine rg_ ?_
   refine AW_region tab_ok ?_
   repeat first|refine gr_ ?_|intro _
   refine AW_weak (weak_of (l := [(0, .ptr rp 0),(2, .ptr b2 0),(3, .ptr b3 0),(4, .int .i64 6),(5, .int .i64 (hd ts2 0).line)]) (m := []) (S' := .cells b3 (cT x) :: .cells b2 [.int .i64 0, .str [], .int .i64 0, .sl 0 [] .full] :: RS rp L ts2.tail none :: R) ?_ rfl (SLe.of_eq (congrArg (fun e => _ :: _ :: e :: _) (RS_next h2 hne hL)))) ?_
   ·exact e_
   refine AW_drawT ([.cells b3 (cT x)]) tab_ok mixed [0,1,2,3,5] (.one false 4 (.one true 6 (.one true 7 .leaf))) (by first | rfl | kernel_rfl) ⟨_,List.Perm.refl _⟩ ?_
   repeat (first | refine det_stepX rfl ?_ | refine go_ ?_ | intro _)
   refine Or.inl ⟨hf,ACall.mono ?_ (ACall_at 2 rfl (hp ts2.tail none _ nz_none hts (by omega)))⟩
   rintro _ S1 ⟨x1,hS1,hq⟩
   subst S1
   obtain ⟨y,ts3,e3,rfl,rfl,hz3,hs3,hc3⟩ := hc.step hk (o := 6) (by rw [hss]; rfl) (by decide) hq
   refine keepA ?_
   repeat (first | refine det_stepX rfl ?_ | refine go_ ?_ | intro _)
   refine Or.inl ⟨⟨_,Tryz.func181,rfl,rfl⟩,ACall.mono ?_ (joined_at rp L ts3 e3 hz3 6 x y (hd ts2 0).line 2 rfl)⟩
   rintro _ S1 ⟨rfl,hS1⟩
   subst S1
   repeat (first | refine det_stepX rfl ?_ | refine go_ ?_ | intro _)
   have hl3 := hs3.length_le
   refine ⟨((.mk 6 [] 0 [x,y],ts3,jE e3 x y (hd ts2 0).line) : T × List Lx.Tok × Option (Int × Int)),?_,?_,weak_of ?_ rfl ?_⟩
   ·show ts3.length < ts2.length; omega
   ·exact hc3
   ·exact e_
   ·exact l_
  ·have hm' : isT ts2 4 [45] e2 = false := by simpa using hm
   refine AW_false (b := isT ts2 4 [45] e2) rfl (by exact hm') ?_
   repeat first|refine go_ ?_|intro _
   refine AW_ret ?_
   refine ⟨rfl,1,_,rfl,⟨nb_ rfl,nb_ rfl⟩,encU x,RS rp L ts2 e2 :: R,AVle.refl _,sle_,_,rfl,hc.done fun he hh => ?_⟩
   subst he
   rw [isT,hh.1] at hs' hm'
   by_cases h43 : (hd ts2 0).s = [43]
   ·rw [h43] at hs'; exact absurd hs' (by decide)
   ·by_cases h45 : (hd ts2 0).s = [45]
    ·rw [h45] at hm'; exact absurd hm' (by decide)
    ·exact absurd (by rw [opsS,if_neg h43,if_neg h45]) hh.2
def thingQ (F : List Lx.Tok → PR T) (ts : List Lx.Tok) : PR T := if (hd ts 0).kind = 2 then numL 1 ts else if (hd ts 0).kind = 3 then .ok (.mk 3 (hd ts 0).s 0 [],ts.tail) else if nameT (hd ts 0) = true then .ok (.mk 1 (hd ts 0).s 0 [],ts.tail) else (match takesL [45] ts with
  | some r => numL (-1) r
  | none => match takesL [40] ts with
   | some r => within1 F r
   | none => stopE ts)
def NumB (L : List Lx.Tok) : Prop := ∀ t ∈ L,t.kind = 2 → digs t.s ∧ (pnL t.s).1 = (numA 0 t.s : Nat) ∧ numA 0 t.s ≤ 9223372036854775807 ∧ t.s.length ≤ 100
theorem NumB.hd {L ts : List Lx.Tok} (h : NumB L) (hs : ts <:+ L) (hk : (Go.Proofs.YtfeknkaioofljaaGreatDoor.hd ts 0).kind = 2) : digs (Go.Proofs.YtfeknkaioofljaaGreatDoor.hd ts 0).s ∧ (pnL (Go.Proofs.YtfeknkaioofljaaGreatDoor.hd ts 0).s).1 = (numA 0 (Go.Proofs.YtfeknkaioofljaaGreatDoor.hd ts 0).s : Nat) ∧ numA 0 (Go.Proofs.YtfeknkaioofljaaGreatDoor.hd ts 0).s ≤ 9223372036854775807 ∧ (Go.Proofs.YtfeknkaioofljaaGreatDoor.hd ts 0).s.length ≤ 100 := by
 have hl := hd_kind (ts := ts) (n := 0) (by rw [hk]; decide)
 have : Go.Proofs.YtfeknkaioofljaaGreatDoor.hd ts 0 ∈ L := by rw [hd_get hl]; exact hs.subset (List.getElem_mem hl)
 exact h _ this hk
theorem bq_ok {α : Type} {rp : Nat} {L ts r0 : List Lx.Tok} {e : Option (Int × Int)} {enc : α → AV} {x : PR α} {P : α → List Lx.Tok → Prop} (v : α) (he : e = none) (hs : r0 <:+ ts) (hP : P v r0) (hx : x = .ok (v,r0)) : BkQ rp L ts e enc x P (enc v) (RS rp L r0 none) := by
 subst he hx
 exact ⟨v,r0,none,rfl,rfl,hs,nz_none,hP,nofun,fun _ => ⟨rfl,rfl,rfl⟩⟩
theorem hp1 {ts : List Lx.Tok} {op : Int} {s : List UInt8} {n : Int} (h : (hd ts 0).kind ≠ 0) : HP ts (.mk op s n []) ts.tail := by
 have := tail_len h
 unfold HP
 show highs [] + 1 + _ ≤ _
 rw [highs]; omega
theorem hp0 {ts : List Lx.Tok} : HP ts zeroT ts := by
 unfold HP
 show highs [] + 1 + _ ≤ _
 rw [highs]; omega
theorem takesL_of {ts : List Lx.Tok} {s : List UInt8} : takesL s ts = if isT ts 4 s none = true then some ts.tail else none := by
 cases ts with
 | nil => rw [if_neg (by rw [isT]; simp [hd])]; rfl
 | cons t r =>
  rw [takesL,isT]
  simp [signB,hd]
theorem mustL_of {ts : List Lx.Tok} {s : List UInt8} : mustL s ts = if isT ts 4 s none = true then .ok ((),ts.tail) else stopE ts := by
 rw [mustL,takesL_of]
 by_cases h : isT ts 4 s none = true
 ·rw [if_pos h,if_pos h]
 ·rw [if_neg h,if_neg h]
theorem must_suf {ts : List Lx.Tok} {k : Int} {s : List UInt8} {e : Option (Int × Int)} : mustR ts k s e <:+ ts := by
 rw [mustR]; split
 ·exact tail_suf
 ·exact List.suffix_refl _
theorem must_nz {ts : List Lx.Tok} {k : Int} {s : List UInt8} {e : Option (Int × Int)} (h : Nz e) : Nz (mustE ts k s e) := by
 rw [mustE]; split
 ·exact h
 ·exact nz_fail h (by show (40 : Int) ≠ 0; decide)
theorem must_keep {ts : List Lx.Tok} {k : Int} {s : List UInt8} {q : Int × Int} : mustE ts k s (some q) = some q := by
 rw [mustE]; split <;> rfl
theorem bThing_step (rp : Nat) (L : List Lx.Tok) (hL : L.length ≤ 20000) (hN : NumB L) (F : List Lx.Tok → PR T) (ts : List Lx.Tok) (e : Option (Int × Int)) (hz : Nz e) (h : ts <:+ L)
  (hS : ∀ (r : List Lx.Tok) (R : List En),r <:+ L → r.length < ts.length → ACall Tryz.prog 166 [.ptr rp 0] (RS rp L r none :: R) (fun v S => ∃ x,S = x :: R ∧ BkQ rp L r none encU (F r) (HP r) v x)) (R : List En) :
  ACall Tryz.prog 193 [.ptr rp 0] (RS rp L ts e :: R) (fun r S => ∃ x,S = x :: R ∧ BkQ rp L ts e encU (thingQ F ts) (HP ts) r x) := by
 refine ACall_body tab_ok Tryz.func193 rfl rfl rfl (by kernel_rfl) (nb_ rfl) ?_
 repeat first|refine go_ ?_|intro _
 rename_i b2
 refine Or.inl ⟨⟨_,Tryz.func57,rfl,rfl⟩,ACall.mono ?_ (ACall_same 1 rfl (here_ok rp L ts e 0 h hL (by decide)))⟩
 rintro _ S1 ⟨rfl,hS1⟩
 subst S1
 repeat first|refine go_ ?_|intro _
 rename_i b3
 cases e with
 | some q =>
  refine AW_true (b := !decide ((eI (some q)).1 = 0)) rfl (by rw [eI_none hz]; rfl) ?_
  repeat first|refine go_ ?_|intro _
  refine AW_ret ?_
  exact ⟨rfl,1,_,rfl,⟨nb_ rfl,nb_ rfl⟩,encU zeroT,RS rp L ts (some q) :: R,leU,sle_,_,rfl,⟨zeroT,ts,some q,rfl,rfl,List.suffix_refl _,hz,hp0,fun _ h => h,nofun⟩⟩
 | none =>
 refine AW_false (b := !decide ((eI (none : Option (Int × Int))).1 = 0)) rfl (by rfl) ?_
 repeat first|refine go_ ?_|intro _
 by_cases hk : (hd ts 0).kind = 2
 ·refine AW_true (b := decide ((hd ts 0).kind = 2)) rfl (by exact decide_eq_true hk) ?_
  have hne := hd_ne (ts := ts) (by rw [hk]; decide)
  unfold RS
  repeat refine rg_ ?_
  refine AW_region tab_ok ?_
  repeat first|refine gr_ ?_|intro _
  refine AW_weak (weak_of (l := [(0, .ptr rp 0),(2, .ptr b2 0),(3, .ptr b3 0)]) (m := []) (S' := .cells b3 [.int .i64 (hd ts 0).kind, .str (hd ts 0).s, .int .i64 (hd ts 0).line] :: .cells b2 [.int .i64 0, .str [], .int .i64 0, .sl 0 [] .full] :: RS rp L ts.tail none :: R) ?_ rfl (SLe.of_eq (congrArg (fun e => _ :: _ :: e :: _) (RS_next h hne hL)))) ?_
  ·exact e_
  obtain ⟨n1,n2,n3,n4⟩ := hN.hd h hk
  repeat first|refine go_ ?_|intro _
  refine Or.inl ⟨⟨_,Tryz.func205,rfl,rfl⟩,ACall.mono ?_ (number_ok (hd ts 0).s n1 n3 (by omega) _)⟩
  rintro _ S1 ⟨rfl,hS1⟩
  subst S1
  repeat first|refine go_ ?_|intro _
  refine AW_ret ?_
  refine ⟨rfl,1,_,rfl,⟨nb_ rfl,nb_ rfl⟩,encU (.mk 2 [] (numA 0 (hd ts 0).s : Nat) []),RS rp L ts.tail none :: R,leU,sle_,_,rfl,bq_ok _ rfl tail_suf (hp1 (by rw [hk]; decide)) ?_⟩
  rw [thingQ,if_pos hk,numL,if_pos hk,n2,Int.one_mul,wrap_i64 (by omega)]
 refine AW_false (b := decide ((hd ts 0).kind = 2)) rfl (by exact decide_eq_false hk) ?_
 repeat first|refine go_ ?_|intro _
 have hk2 := hk
 by_cases hk : (hd ts 0).kind = 3
 ·refine AW_true (b := decide ((hd ts 0).kind = 3)) rfl (by exact decide_eq_true hk) ?_
  have hne := hd_ne (ts := ts) (by rw [hk]; decide)
  unfold RS
  repeat refine rg_ ?_
  refine AW_region tab_ok ?_
  repeat first|refine gr_ ?_|intro _
  refine AW_weak (weak_of (l := [(0, .ptr rp 0),(2, .ptr b2 0),(3, .ptr b3 0)]) (m := []) (S' := .cells b3 [.int .i64 (hd ts 0).kind, .str (hd ts 0).s, .int .i64 (hd ts 0).line] :: .cells b2 [.int .i64 0, .str [], .int .i64 0, .sl 0 [] .full] :: RS rp L ts.tail none :: R) ?_ rfl (SLe.of_eq (congrArg (fun e => _ :: _ :: e :: _) (RS_next h hne hL)))) ?_
  ·exact e_
  repeat first|refine go_ ?_|intro _
  refine AW_ret ?_
  refine ⟨rfl,1,_,rfl,⟨nb_ rfl,nb_ rfl⟩,encU (.mk 3 (hd ts 0).s 0 []),RS rp L ts.tail none :: R,leU,sle_,_,rfl,bq_ok _ rfl tail_suf (hp1 (by rw [hk]; decide)) ?_⟩
  rw [thingQ,if_neg hk2,if_pos hk]
 refine AW_false (b := decide ((hd ts 0).kind = 3)) rfl (by exact decide_eq_false hk) ?_
 repeat first|refine go_ ?_|intro _
 have hk3 := hk
 refine Or.inl ⟨⟨_,Tryz.func142,rfl,rfl⟩,ACall.mono ?_ (rIsName_ok (hd ts 0) _)⟩
 rintro _ S1 ⟨rfl,hS1⟩
 subst S1
 repeat first|refine go_ ?_|intro _
 by_cases hn : nameT (hd ts 0) = true
 ·have hk := name_kind hn
  refine AW_true (b := nameT (hd ts 0)) rfl (by exact hn) ?_
  have hne := hd_ne (ts := ts) (by rw [hk]; decide)
  unfold RS
  repeat refine rg_ ?_
  refine AW_region tab_ok ?_
  repeat first|refine gr_ ?_|intro _
  refine AW_weak (weak_of (l := [(0, .ptr rp 0),(2, .ptr b2 0),(3, .ptr b3 0)]) (m := []) (S' := .cells b3 [.int .i64 (hd ts 0).kind, .str (hd ts 0).s, .int .i64 (hd ts 0).line] :: .cells b2 [.int .i64 0, .str [], .int .i64 0, .sl 0 [] .full] :: RS rp L ts.tail none :: R) ?_ rfl (SLe.of_eq (congrArg (fun e => _ :: _ :: e :: _) (RS_next h hne hL)))) ?_
  ·exact e_
  repeat first|refine go_ ?_|intro _
  refine AW_ret ?_
  refine ⟨rfl,1,_,rfl,⟨nb_ rfl,nb_ rfl⟩,encU (.mk 1 (hd ts 0).s 0 []),RS rp L ts.tail none :: R,leU,sle_,_,rfl,bq_ok _ rfl tail_suf (hp1 (by rw [hk]; decide)) ?_⟩
  rw [thingQ,if_neg hk2,if_neg hk3,if_pos hn]
 refine AW_false (b := nameT (hd ts 0)) rfl (by simpa using hn) ?_
 repeat first|refine go_ ?_|intro _
 refine Or.inl ⟨⟨_,Tryz.func61,rfl,rfl⟩,ACall.mono ?_ (ACall_upd 2 rfl (bTakes_ok rp L ts none nz_none 4 (by decide) [45] h hL))⟩
 rintro _ S1 ⟨rfl,hS1⟩
 subst S1
 repeat first|refine go_ ?_|intro _
 by_cases hm : isT ts 4 [45] none = true
 ·obtain ⟨hne,hk,hss, -⟩ := isT_ne hm (by decide)
  rw [if_pos hm]
  have hts : ts.tail <:+ L := tail_suf.trans h
  have htl := tail_len (ts := ts) (by rw [hk]; decide)
  refine AW_true (b := isT ts 4 [45] none) rfl (by exact hm) ?_
  repeat first|refine go_ ?_|intro _
  refine Or.inl ⟨⟨_,Tryz.func57,rfl,rfl⟩,ACall.mono ?_ (ACall_same 2 rfl (here_ok rp L ts.tail none 0 hts hL (by decide)))⟩
  rintro _ S1 ⟨rfl,hS1⟩
  subst S1
  repeat first|refine go_ ?_|intro _
  rename_i b4
  have hq : thingQ F ts = numL (-1) ts.tail := by rw [thingQ,if_neg hk2,if_neg hk3,if_neg hn,takesL_of,if_pos hm]
  by_cases hk4 : (hd ts.tail 0).kind = 2
  ·refine AW_false (b := !decide ((hd ts.tail 0).kind = 2)) rfl (by rw [hk4]; rfl) ?_
   have hne4 := hd_ne (ts := ts.tail) (by rw [hk4]; decide)
   obtain ⟨n1,n2,n3,n4⟩ := hN.hd hts hk4
   unfold RS
   repeat refine rg_ ?_
   refine AW_region tab_ok ?_
   repeat first|refine gr_ ?_|intro _
   refine AW_weak (weak_of (l := [(0, .ptr rp 0),(2, .ptr b2 0),(4, .ptr b4 0)]) (m := []) (S' := .cells b4 [.int .i64 (hd ts.tail 0).kind, .str (hd ts.tail 0).s, .int .i64 (hd ts.tail 0).line] :: .cells b3 [.int .i64 (hd ts 0).kind, .str (hd ts 0).s, .int .i64 (hd ts 0).line] :: .cells b2 [.int .i64 0, .str [], .int .i64 0, .sl 0 [] .full] :: RS rp L ts.tail.tail none :: R) ?_ rfl (SLe.of_eq (congrArg (fun e => _ :: _ :: _ :: e :: _) (RS_next hts hne4 hL)))) ?_
   ·exact e_
   repeat first|refine go_ ?_|intro _
   refine Or.inl ⟨⟨_,Tryz.func205,rfl,rfl⟩,ACall.mono ?_ (number_ok (hd ts.tail 0).s n1 n3 (by omega) _)⟩
   rintro _ S1 ⟨rfl,hS1⟩
   subst S1
   repeat first|refine go_ ?_|intro _
   refine AW_ret ?_
   have ht4 := tail_len (ts := ts.tail) (by rw [hk4]; decide)
   refine ⟨rfl,2,_,rfl,⟨nb_ rfl,nb_ rfl⟩,encU (.mk 2 [] (IntKind.i64.wrap (0 - (numA 0 (hd ts.tail 0).s : Nat))) []),RS rp L ts.tail.tail none :: R,leU,sle_,_,rfl,bq_ok _ rfl (tail_suf.trans tail_suf) ?_ ?_⟩
   ·unfold HP
    show highs [] + 1 + _ ≤ _
    rw [highs]; omega
   ·rw [hq,numL,if_pos hk4,n2,Int.neg_one_mul,Int.zero_sub]
  ·refine AW_true (b := !decide ((hd ts.tail 0).kind = 2)) rfl (by rw [decide_eq_false hk4]; rfl) ?_
   repeat first|refine go_ ?_|intro _
   refine Or.inl ⟨⟨_,Tryz.func59,rfl,rfl⟩,ACall.mono ?_ (ACall_upd 3 rfl (fail_ok rp L ts.tail none nz_none 40 (hd ts.tail 0).line))⟩
   rintro _ S1 ⟨rfl,hS1⟩
   subst S1
   repeat first|refine go_ ?_|intro _
   refine AW_ret ?_
   refine ⟨rfl,2,_,rfl,⟨nb_ rfl,nb_ rfl⟩,encU zeroT,RS rp L ts.tail (some (40,(hd ts.tail 0).line)) :: R,leU,sle_,_,rfl,⟨zeroT,ts.tail,some (40,(hd ts.tail 0).line),rfl,rfl,tail_suf,nz_some (by show (40 : Int) ≠ 0; decide),?_,nofun,fun _ => ?_⟩⟩
   ·unfold HP
    show highs [] + 1 + _ ≤ _
    rw [highs]; omega
   ·rw [hq,numL,if_neg hk4]; rfl
 rw [if_neg hm]
 refine AW_false (b := isT ts 4 [45] none) rfl (by simpa using hm) ?_
 repeat first|refine go_ ?_|intro _
 refine Or.inl ⟨⟨_,Tryz.func61,rfl,rfl⟩,ACall.mono ?_ (ACall_upd 2 rfl (bTakes_ok rp L ts none nz_none 4 (by decide) [40] h hL))⟩
 rintro _ S1 ⟨rfl,hS1⟩
 subst S1
 repeat first|refine go_ ?_|intro _
 by_cases hl : isT ts 4 [40] none = true
 ·obtain ⟨hne,hk,hss, -⟩ := isT_ne hl (by decide)
  rw [if_pos hl]
  have hts : ts.tail <:+ L := tail_suf.trans h
  have htl := tail_len (ts := ts) (by rw [hk]; decide)
  refine AW_true (b := isT ts 4 [40] none) rfl (by exact hl) ?_
  repeat first|refine go_ ?_|intro _
  refine Or.inl ⟨⟨_,Tryz.func166,rfl,rfl⟩,ACall.mono ?_ (ACall_at 2 rfl (hS ts.tail _ hts htl))⟩
  rintro _ S1 ⟨x1,hS1,hq⟩
  subst S1
  obtain ⟨y,ts1,e1,rfl,rfl,hs1,hz1,hp1, -,hr1⟩ := hq.h
  repeat first|refine go_ ?_|intro _
  rename_i b5
  refine Or.inl ⟨⟨_,Tryz.func107,rfl,rfl⟩,ACall.mono ?_ (ACall_upd 3 rfl (bMust_ok rp L ts1 e1 hz1 4 (by decide) [41] (hs1.trans hts) hL))⟩
  rintro _ S1 ⟨rfl,hS1⟩
  subst S1
  repeat first|refine go_ ?_|intro _
  refine AW_ret ?_
  refine ⟨rfl,2,_,rfl,⟨nb_ rfl,nb_ rfl⟩,encU y,RS rp L (mustR ts1 4 [41] e1) (mustE ts1 4 [41] e1) :: R,AVle.refl _,sle_,_,rfl,⟨y,_,_,rfl,rfl,must_suf.trans (hs1.trans tail_suf),must_nz hz1,?_,nofun,fun _ => ?_⟩⟩
  ·have := (must_suf (ts := ts1) (k := 4) (s := [41]) (e := e1)).length_le
   unfold HP at *
   omega
  ·have h8 := hr1 rfl
   have hq : thingQ F ts = within1 F ts.tail := by rw [thingQ,if_neg hk2,if_neg hk3,if_neg hn,takesL_of,if_neg hm,takesL_of,if_pos hl]
   rw [hq]
   cases hp : F ts.tail with
   | error q =>
    rw [hp] at h8
    obtain rfl : e1 = some q := h8
    rw [within1,hp]
    exact must_keep
   | ok w =>
    obtain ⟨y1,y2⟩ := w
    rw [hp] at h8
    obtain ⟨rfl,rfl,rfl⟩ : y = y1 ∧ ts1 = y2 ∧ e1 = none := h8
    rw [within1,hp,mustR,mustE]
    by_cases hc : isT ts1 4 [41] none = true
    ·have hm1 : mustL [41] ts1 = .ok ((),ts1.tail) := by rw [mustL_of,if_pos hc]
     rw [if_pos hc,if_pos hc]
     simp only [hm1]
     exact ⟨trivial,trivial,trivial⟩
    ·have hm1 : mustL [41] ts1 = stopE ts1 := by rw [mustL_of,if_neg hc]
     rw [if_neg hc,if_neg hc]
     simp only [hm1,stopE]
     rfl
 rw [if_neg hl]
 refine AW_false (b := isT ts 4 [40] none) rfl (by simpa using hl) ?_
 repeat first|refine go_ ?_|intro _
 refine Or.inl ⟨⟨_,Tryz.func59,rfl,rfl⟩,ACall.mono ?_ (ACall_upd 2 rfl (fail_ok rp L ts none nz_none 40 (hd ts 0).line))⟩
 rintro _ S1 ⟨rfl,hS1⟩
 subst S1
 repeat first|refine go_ ?_|intro _
 refine AW_ret ?_
 refine ⟨rfl,1,_,rfl,⟨nb_ rfl,nb_ rfl⟩,encU zeroT,RS rp L ts (failE none (40,(hd ts 0).line)) :: R,leU,sle_,_,rfl,bq_fail zeroT nz_none (by show (40 : Int) ≠ 0; decide) hp0 fun _ => ?_⟩
 rw [thingQ,if_neg hk2,if_neg hk3,if_neg hn,takesL_of,if_neg hm,takesL_of,if_neg hl]; rfl
theorem bThing_ok (rp : Nat) (L : List Lx.Tok) (hL : L.length ≤ 20000) (hN : NumB L) : ∀ n,BPart rp L 193 (thingL n) n
 | 0 => ⟨⟨_,Tryz.func193,rfl,rfl⟩,fun ts e R hz h hn => by
  obtain rfl : ts = [] := List.length_eq_zero_iff.1 (by omega)
  exact bThing_step rp L hL hN (sumL 0) [] e hz h (fun r R _ hl => absurd hl (Nat.not_lt_zero _)) R⟩
 | n + 1 => ⟨⟨_,Tryz.func193,rfl,rfl⟩,fun ts e R hz h hn => by
  have hs := bSum_ok rp L hL n (bProduct_ok rp L hL n (bThing_ok rp L hL hN n))
  exact bThing_step rp L hL hN (sumL n) ts e hz h (fun r R hr hl => hs.2 r none R nz_none hr (by omega)) R⟩
theorem bSum_all (rp : Nat) (L : List Lx.Tok) (hL : L.length ≤ 20000) (hN : NumB L) (n : Nat) : BPart rp L 166 (sumL n) n := bSum_ok rp L hL n (bProduct_ok rp L hL n (bThing_ok rp L hL hN n))
end Go.Proofs.YtfeknkaioofljaaGreatDoor
