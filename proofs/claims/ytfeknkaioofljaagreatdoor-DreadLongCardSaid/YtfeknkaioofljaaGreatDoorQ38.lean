/-
 The book's relations. Own work.
-/
import Derived.Test.YtfeknkaioofljaaGreatDoorQ37
import Derived.Test.YtfeknkaioofljaaGreatDoorQ21
set_option linter.all false
set_option maxHeartbeats 4000000
set_option maxRecDepth 4000
namespace Go.Proofs.YtfeknkaioofljaaGreatDoor
open Go.Aw Go.RowKit Tree
abbrev Cols : Type := List (List UInt8) × List Int
def tyL (ts : List Lx.Tok) : PR Int := if (hd ts 0).kind = 1 ∧ kindT (hd ts 0).s ≠ 0 then .ok (kindT (hd ts 0).s,ts.tail) else stopE ts
theorem colStep_pb (d : Cols) (ts : List Lx.Tok) : colStep d ts = pbind (nameP ts) fun s r => pbind (mustL [58] r) fun _ r2 => pbind (tyL r2) fun k r3 => .ok ((d.1 ++ [s],d.2 ++ [k]),r3) := by
 rw [colStep]
 cases nameP ts with
 | error q => rfl
 | ok y =>
  obtain ⟨s,r⟩ := y
  simp only [pbind]
  cases mustL [58] r with
  | error q => rfl
  | ok w =>
   obtain ⟨u,r2⟩ := w
   simp only [tyL]
   by_cases h : (hd r2 0).kind = 1 ∧ kindT (hd r2 0).s ≠ 0
   ·rw [if_pos h,if_pos h]
   ·rw [if_neg h,if_neg h]; rfl
def declB (n : Int) (ts : List Lx.Tok) : PR De := pbind (nameP ts) fun s r => pbind (withinL [40] [41] (listGo colStep 8 ([], [])) r) fun d r' => .ok (⟨s,d.1,d.2,false,false,n⟩,r')
theorem decl_pb (ts : List Lx.Tok) : declL ts = declB (hd ts 0).line ts.tail := by
 rw [declL,declB]
 cases nameP ts.tail with
 | error q => rfl
 | ok y =>
  obtain ⟨s,r⟩ := y
  simp only [pbind]
  cases withinL [40] [41] (listGo colStep 8 ([], [])) r <;> rfl
theorem RQ.num {ts : List Lx.Tok} (h : isT ts 1 [110,117,109,98,101,114] none = true) : RQ ts none (tyL ts) 1 ts.tail none := by
 obtain ⟨hne,hk,hs, -⟩ := isT_ne h (by decide)
 refine ⟨tail_suf,nz_none,nofun,fun _ => ?_⟩
 have hkt : kindT (hd ts 0).s = 1 := by rw [hs]; rfl
 rw [tyL,if_pos ⟨hk,by rw [hkt]; decide⟩,hkt]
 exact ⟨rfl,rfl,rfl⟩
theorem RQ.sym {ts : List Lx.Tok} {e : Option (Int × Int)} (hz : Nz e) (h : isT ts 1 [110,117,109,98,101,114] e = false) : RQ ts e (tyL ts) 2 (mustR ts 1 [115,121,109,98,111,108] e) (mustE ts 1 [115,121,109,98,111,108] e) := by
 refine ⟨must_suf,must_nz hz,fun q hq => by subst hq; exact must_keep,fun he => ?_⟩
 subst he
 rw [tyL,mustR,mustE]
 by_cases hc : isT ts 1 [115,121,109,98,111,108] none = true
 ·obtain ⟨hne,hk,hs, -⟩ := isT_ne hc (by decide)
  have hkt : kindT (hd ts 0).s = 2 := by rw [hs]; rfl
  rw [if_pos hc,if_pos hc,if_pos ⟨hk,by rw [hkt]; decide⟩,hkt]
  exact ⟨rfl,rfl,rfl⟩
 ·rw [if_neg hc,if_neg hc,if_neg]
  ·rfl
  rintro ⟨hk,hkt⟩
  rw [kindT] at hkt
  rw [isT,hk] at h hc
  split at hkt
  ·rename_i hs; rw [hs] at h; exact absurd h (by decide)
  ·split at hkt
   ·rename_i hs; rw [hs] at hc; exact hc (by decide)
   ·exact hkt rfl
abbrev cE (s : List UInt8) (d : Cols) (k1 k2 : Tk) (n : Int) : List AV := [.str s, .sl 1 (d.1.map AV.str) k1, .sl 1 (d.2.map encI) k2, .bool false, .bool false, .int .i64 n]
abbrev zE : List AV := [.str [], .sl 0 [] .full, .sl 0 [] .full, .bool false, .bool false, .int .i64 0]
theorem leDeB {s : List UInt8} {d : Cols} {k1 k2 : Tk} {n : Int} : AVle (.agg (cE s d k1 k2 n)) (encD ⟨s,d.1,d.2,false,false,n⟩) :=
 AVle.agg (bs := cD ⟨s,d.1,d.2,false,false,n⟩) ⟨AVle.refl _,AVle.tk,AVle.tk,AVle.refl _,AVle.refl _,AVle.refl _,trivial⟩ (by intro c hc; simp only [cD,List.mem_cons,List.not_mem_nil,or_false] at hc; rcases hc with rfl | rfl | rfl | rfl | rfl | rfl <;> rfl)
abbrev StD : Type := Cols × Tk × Tk × List Lx.Tok × Option (Int × Int)
abbrev StY : Type := Int × Tk × List Lx.Tok × Option (Int × Int)
theorem bDecl_ok (rp : Nat) (L : List Lx.Tok) (hL : L.length ≤ 20000) (n : Int) (ts : List Lx.Tok) (e : Option (Int × Int)) (hz : Nz e) (h : ts <:+ L) (R : List En) : ACall Tryz.prog 60 [.ptr rp 0, .int .i64 n] (RS rp L ts e :: R) (fun r S => ∃ x',S = x' :: R ∧ BkQ rp L ts e encD (declB n ts) noP r x') := by
 refine ACall_body tab_ok Tryz.func60 rfl rfl rfl (by kernel_rfl) (nb_ rfl) ?_
 repeat first|refine go_ ?_|intro _
 rename_i b4
 refine Or.inl ⟨⟨_,Tryz.func106,rfl,rfl⟩,ACall.mono ?_ (ACall_at 1 rfl (bName_ok rp L ts e hz h hL _))⟩
 rintro _ S1 ⟨x1,hS1,hq⟩
 subst S1
 obtain ⟨s,ts1,e1,rfl,rfl, -,hq1⟩ := hq.rq
 repeat first|refine gr_ ?_|intro _
 rename_i b5
 refine AW_weak (weak_of (l := [(0, .ptr rp 0),(4, .ptr b4 0),(5, .ptr b5 0)]) (m := []) (S' := .cells b5 [.str s, .sl 0 [] .full, .sl 0 [] .full, .bool false, .bool false, .int .i64 n] :: .cells b4 zE :: RS rp L ts1 e1 :: R) e_ rfl w_) ?_
 repeat first|refine go_ ?_|intro _
 refine Or.inl ⟨⟨_,Tryz.func107,rfl,rfl⟩,ACall.mono ?_ (ACall_upd 2 rfl (bMust_ok rp L ts1 e1 hq1.nz 4 (by decide) [40] (hq1.suf.trans h) hL))⟩
 rintro _ S1 ⟨rfl,hS1⟩
 subst S1
 repeat first|refine gr_ ?_|intro _
 obtain ⟨r1,hr1⟩ : ∃ r1,r1 = mustR ts1 4 [40] e1 := ⟨_,rfl⟩
 obtain ⟨f1,hf1⟩ : ∃ f1,f1 = mustE ts1 4 [40] e1 := ⟨_,rfl⟩
 have hm : Nz f1 := hf1 ▸ must_nz hq1.nz
 have hs1 : r1 <:+ L := hr1 ▸ must_suf.trans (hq1.suf.trans h)
 rw [← hr1, ← hf1]
 refine AW_weak (weak_of (l := [(0, .ptr rp 0),(4, .ptr b4 0),(5, .ptr b5 0)]) (m := []) (S' := .cells b5 [.str s, .sl 0 [] .full, .sl 0 [] .full, .bool false, .bool false, .int .i64 n] :: .cells b4 zE :: RS rp L r1 f1 :: R) e_ rfl w_) ?_
 refine AW_cut1 (α := StD) (fun z => ⟨[(0, .ptr rp 0),(4, .ptr b4 0),(5, .ptr b5 0)], []⟩) (fun z => .cells b5 (cE s z.1 z.2.1 z.2.2.1 n) :: .cells b4 zE :: RS rp L z.2.2.2.1 z.2.2.2.2 :: R) (fun z => RQ r1 f1 (listGo colStep 8 ([], []) r1) z.1 z.2.2.2.1 z.2.2.2.2) ?_ (fun z hz => ?_)
 ·repeat first|refine go_ ?_|intro _
  refine AW_for (α := StD) (fun z => ⟨[(0, .ptr rp 0),(4, .ptr b4 0),(5, .ptr b5 0)], []⟩) (fun z => .cells b5 (cE s z.1 z.2.1 z.2.2.1 n) :: .grow z.2.1 :: .grow z.2.2.1 :: .cells b4 zE :: RS rp L z.2.2.2.1 z.2.2.2.2 :: R) (fun z => z.2.2.2.1.length) (fun z => LiB colStep (fun d : Cols => d.1.length) 8 ([], []) r1 f1 z.1 z.2.2.2.1 z.2.2.2.2 ∧ z.1.2.length = z.1.1.length) ((([], []), .full, .full,r1,f1)) ?_ (weak_of ?_ rfl ?_) (fun z hz => ?_)
  ·exact ⟨LiB.start hm rfl,rfl⟩
  ·exact e_
  ·exact SW.le (SW.cells (cs := [.str s, .sl 0 [] .full, .sl 0 [] .full, .bool false, .bool false, .int .i64 n]) (cs' := cE s ([], []) .full .full n) ⟨AVle.refl _,AVle.nilFull,AVle.nilFull,AVle.refl _,AVle.refl _,AVle.refl _,trivial⟩ rfl (SW.full (SW.full (SW.cons (SW.cons SW.nil)))))
  obtain ⟨⟨ns,ys⟩,k1,k2,ts2,e2⟩ := z
  obtain ⟨hB,hyl⟩ : LiB colStep (fun d : Cols => d.1.length) 8 ([], []) r1 f1 (ns,ys) ts2 e2 ∧ ys.length = ns.length := hz
  have h2 := hB.suf.trans hs1
  have hl8 : ns.length ≤ 8 := hB.le
  show AW _ _ _ _ ⟨[(0, .ptr rp 0),(4, .ptr b4 0),(5, .ptr b5 0)], []⟩ (.cells b5 (cE s (ns,ys) k1 k2 n) :: .grow k1 :: .grow k2 :: .cells b4 zE :: RS rp L ts2 e2 :: R) _
  repeat first|refine go_ ?_|intro _
  cases e2 with
  | some q =>
   refine AW_false (b := decide ((eI (some q)).1 = 0)) rfl (by rw [eI_none hB.nz]; rfl) ?_
   repeat first|refine go_ ?_|intro _
   refine ⟨(((ns,ys),k1,k2,ts2,some q) : StD),?_,weak_of ?_ rfl ?_⟩
   ·exact hB.out
   ·exact e_
   ·exact w_
  | none =>
  refine AW_true (b := decide ((eI (none : Option (Int × Int))).1 = 0)) rfl (by rfl) ?_
  have hle : (ns.map AV.str).length = ns.length := List.length_map ..
  have hr8 : (ns.map AV.str).length ≤ 8 := by omega
  have hly8 : (ys.map encI).length ≤ 8 := by rw [List.length_map]; omega
  refine AW_skip ?_
  refine AW_block ?_
  refine AW_cut1 (α := Unit) (fun z => ⟨[(0, .ptr rp 0),(4, .ptr b4 0),(5, .ptr b5 0)], []⟩) (fun z => .cells b5 (cE s (ns,ys) k1 k2 n) :: .grow k1 :: .grow k2 :: .cells b4 zE :: RS rp L ts2 (fullE (fun d : Cols => d.1.length) 8 (ns,ys) ts2) :: R) (fun z => True) ?_ (fun z hz => ?_)
  ·repeat first|refine go_ ?_|intro _
   by_cases hM : ns.length = 8
   ·refine AW_true (b := decide ((((ns.map AV.str).length : Nat) : Int) = 8)) rfl (by rw [hle,hM]; rfl) ?_
    repeat first|refine go_ ?_|intro _
    refine Or.inl ⟨⟨_,Tryz.func57,rfl,rfl⟩,ACall.mono ?_ (ACall_same 4 rfl (here_ok rp L ts2 none 0 h2 hL (by decide)))⟩
    rintro _ S1 ⟨rfl,hS1⟩
    subst S1
    repeat first|refine go_ ?_|intro _
    refine Or.inl ⟨⟨_,Tryz.func59,rfl,rfl⟩,ACall.mono ?_ (ACall_upd 4 rfl (fail_ok rp L ts2 none nz_none 21 (hd ts2 0).line))⟩
    rintro _ S1 ⟨rfl,hS1⟩
    subst S1
    repeat first|refine go_ ?_|intro _
    refine ⟨(),?_,weak_of ?_ rfl ?_⟩
    ·trivial
    ·exact e_
    ·rw [fullE,if_pos hM]
     repeat (first | exact SLe.rfl | refine SLe.tail ?_ | refine SLe.full ?_)
   ·refine AW_false (b := decide ((((ns.map AV.str).length : Nat) : Int) = 8)) rfl (by exact decide_eq_false (by omega)) ?_
    repeat first|refine go_ ?_|intro _
    refine ⟨(),?_,weak_of ?_ rfl ?_⟩
    ·trivial
    ·exact e_
    ·rw [fullE,if_neg hM]
     repeat (first | exact SLe.rfl | refine SLe.tail ?_ | refine SLe.full ?_)
  clear hz z
  obtain ⟨f2,hf2⟩ : ∃ f2,f2 = fullE (fun d : Cols => d.1.length) 8 (ns,ys) ts2 := ⟨_,rfl⟩
  have hf2z : Nz f2 := hf2 ▸ full_nz
  rw [← hf2]
  repeat first|refine go_ ?_|intro _
  refine AW_drawT ([.cells b5 (cE s (ns,ys) k1 k2 n)]) tab_ok mixed [0,1,2] (.one false 3 (.one false 4 (.one true 5 (.one true 6 (.one true 7 .leaf))))) (by first | rfl | kernel_rfl) ⟨_,List.Perm.refl _⟩ ?_
  repeat (first | refine det_stepX rfl ?_ | refine go_ ?_ | intro _)
  refine Or.inl ⟨⟨_,Tryz.func106,rfl,rfl⟩,ACall.mono ?_ (ACall_at 4 rfl (bName_ok rp L ts2 f2 hf2z h2 hL _))⟩
  rintro _ S1 ⟨x1,hS1,hq⟩
  subst S1
  obtain ⟨y,ts3,e3,rfl,rfl, -,hq3⟩ := hq.rq
  refine keepA ?_
  repeat (first | refine det_stepX rfl ?_ | refine go_ ?_ | intro _)
  refine keepA ?_
  repeat (first | refine det_stepX rfl ?_ | refine go_ ?_ | intro _)
  refine ⟨room (by first | omega | (simp; done) | (simp; omega) | (simp at *; done) | (simp at *; omega)) rfl, .inl rfl, .inr (.inl ⟨rfl,1,rfl,(ns ++ [y]).map AV.str,by rw [List.map_append]; rfl,fun t1 => ?_⟩)⟩
  repeat (first | refine det_stepX rfl ?_ | refine gr_ ?_ | intro _)
  refine AW_weak (weak_of (l := [(0, .ptr rp 0),(4, .ptr b4 0),(5, .ptr b5 0)]) (m := []) (S' := .cells b5 (cE s (ns ++ [y],ys) t1 k2 n) :: .grow t1 :: .grow k2 :: .cells b4 zE :: RS rp L ts3 e3 :: R) e_ rfl w_) ?_
  have h3 := hq3.suf.trans h2
  repeat first|refine go_ ?_|intro _
  refine Or.inl ⟨⟨_,Tryz.func107,rfl,rfl⟩,ACall.mono ?_ (ACall_upd 4 rfl (bMust_ok rp L ts3 e3 hq3.nz 4 (by decide) [58] h3 hL))⟩
  rintro _ S1 ⟨rfl,hS1⟩
  subst S1
  repeat first|refine gr_ ?_|intro _
  have hm4 := RQ.must (ts := ts3) [58] hq3.nz
  obtain ⟨ts4,h4⟩ : ∃ r1,r1 = mustR ts3 4 [58] e3 := ⟨_,rfl⟩
  obtain ⟨e4,he4⟩ : ∃ f1,f1 = mustE ts3 4 [58] e3 := ⟨_,rfl⟩
  rw [← h4, ← he4] at hm4
  rw [← h4, ← he4]
  have h4s := hm4.suf.trans h3
  refine AW_weak (weak_of (l := [(0, .ptr rp 0),(4, .ptr b4 0),(5, .ptr b5 0)]) (m := []) (S' := .cells b5 (cE s (ns ++ [y],ys) t1 k2 n) :: .grow t1 :: .grow k2 :: .cells b4 zE :: RS rp L ts4 e4 :: R) e_ rfl w_) ?_
  refine AW_cut1 (α := StY) (fun z => ⟨[(0, .ptr rp 0),(4, .ptr b4 0),(5, .ptr b5 0)], []⟩) (fun z => .cells b5 (cE s (ns ++ [y],ys ++ [z.1]) t1 z.2.1 n) :: .grow t1 :: .grow z.2.1 :: .cells b4 zE :: RS rp L z.2.2.1 z.2.2.2 :: R) (fun z => RQ ts4 e4 (tyL ts4) z.1 z.2.2.1 z.2.2.2) ?_ (fun z hz => ?_)
  ·repeat first|refine go_ ?_|intro _
   refine Or.inl ⟨⟨_,Tryz.func61,rfl,rfl⟩,ACall.mono ?_ (ACall_upd 4 rfl (bTakes_ok rp L ts4 e4 hm4.nz 1 (by decide) [110,117,109,98,101,114] h4s hL))⟩
   rintro _ S1 ⟨rfl,hS1⟩
   subst S1
   repeat first|refine go_ ?_|intro _
   by_cases hs : isT ts4 1 [110,117,109,98,101,114] e4 = true
   ·obtain ⟨hne,hk, -,he0⟩ := isT_ne hs (by decide)
    rw [he0] at hs ⊢
    rw [if_pos hs]
    refine AW_true (b := isT ts4 1 [110,117,109,98,101,114] none) rfl (by exact hs) ?_
    repeat first|refine go_ ?_|intro _
    refine ⟨room (by first | omega | (simp; done) | (simp; omega) | (simp at *; done) | (simp at *; omega)) rfl, .inl rfl, .inr (.inl ⟨rfl,2,rfl,(ys ++ [1]).map encI,by rw [List.map_append]; rfl,fun t1 => ?_⟩)⟩
    repeat first|refine go_ ?_|intro _
    refine ⟨((1,t1,ts4.tail,none) : StY),?_,weak_of ?_ rfl ?_⟩
    ·exact RQ.num hs
    ·exact e_
    ·exact l_
   ·have hs' : isT ts4 1 [110,117,109,98,101,114] e4 = false := by simpa using hs
    rw [if_neg hs]
    refine AW_false (b := isT ts4 1 [110,117,109,98,101,114] e4) rfl (by exact hs') ?_
    repeat first|refine go_ ?_|intro _
    refine Or.inl ⟨⟨_,Tryz.func107,rfl,rfl⟩,ACall.mono ?_ (ACall_upd 4 rfl (bMust_ok rp L ts4 e4 hm4.nz 1 (by decide) [115,121,109,98,111,108] h4s hL))⟩
    rintro _ S1 ⟨rfl,hS1⟩
    subst S1
    repeat first|refine go_ ?_|intro _
    refine ⟨room (by first | omega | (simp; done) | (simp; omega) | (simp at *; done) | (simp at *; omega)) rfl, .inl rfl, .inr (.inl ⟨rfl,2,rfl,(ys ++ [2]).map encI,by rw [List.map_append]; rfl,fun t1 => ?_⟩)⟩
    repeat first|refine go_ ?_|intro _
    refine ⟨((2,t1,mustR ts4 1 [115,121,109,98,111,108] e4,mustE ts4 1 [115,121,109,98,111,108] e4) : StY),?_,weak_of ?_ rfl ?_⟩
    ·exact RQ.sym hm4.nz hs'
    ·exact e_
    ·exact l_
  obtain ⟨k,t2,ts5,e5⟩ := z
  have hq5 : RQ ts4 e4 (tyL ts4) k ts5 e5 := hz
  have h5 := hq5.suf.trans h4s
  have hq6 : RQ ts2 (fullE (fun d : Cols => d.1.length) 8 (ns,ys) ts2) (colStep (ns,ys) ts2) (ns ++ [y],ys ++ [k]) ts5 e5 := by
   rw [← hf2,colStep_pb]; exact hq3.bind (hm4.bind (hq5.bind (RQ.ok _ hq5.nz)))
  have hly : (fun d : Cols => d.1.length) (ns ++ [y],ys ++ [k]) = (fun d : Cols => d.1.length) (ns,ys) + 1 := by show (ns ++ [y]).length = _; rw [List.length_append]; rfl
  show AW _ _ _ _ ⟨[(0, .ptr rp 0),(4, .ptr b4 0),(5, .ptr b5 0)], []⟩ (.cells b5 (cE s (ns ++ [y],ys ++ [k]) t1 t2 n) :: .grow t1 :: .grow t2 :: .cells b4 zE :: RS rp L ts5 e5 :: R) _
  repeat first|refine go_ ?_|intro _
  refine Or.inl ⟨⟨_,Tryz.func61,rfl,rfl⟩,ACall.mono ?_ (ACall_upd 4 rfl (bTakes_ok rp L ts5 e5 hq5.nz 4 (by decide) [44] h5 hL))⟩
  rintro _ S1 ⟨rfl,hS1⟩
  subst S1
  repeat first|refine go_ ?_|intro _
  by_cases hs2 : isT ts5 4 [44] e5 = true
  ·obtain ⟨rfl,hB2⟩ := hB.more hq6 hly hs2
   obtain ⟨hne,hk, -, -⟩ := isT_ne hs2 (by decide)
   have htl := tail_len (ts := ts5) (by rw [hk]; decide)
   have hl3 := (hq5.suf.trans (hm4.suf.trans hq3.suf)).length_le
   rw [if_pos hs2]
   refine AW_false (b := !isT ts5 4 [44] none) rfl (by rw [hs2]; rfl) ?_
   repeat first|refine go_ ?_|intro _
   refine ⟨(((ns ++ [y],ys ++ [k]),t1,t2,ts5.tail,none) : StD),?_,?_,weak_of ?_ rfl ?_⟩
   ·show ts5.tail.length < ts2.length; omega
   ·exact ⟨hB2,by show (ys ++ [k]).length = (ns ++ [y]).length; rw [List.length_append,List.length_append,hyl]; rfl⟩
   ·exact e_
   ·exact l_
  ·have hs' : isT ts5 4 [44] e5 = false := by simpa using hs2
   rw [if_neg hs2]
   refine AW_true (b := !isT ts5 4 [44] e5) rfl (by rw [hs']; rfl) ?_
   repeat first|refine go_ ?_|intro _
   refine ⟨(((ns ++ [y],ys ++ [k]),t1,t2,ts5,e5) : StD),?_,weak_of ?_ rfl ?_⟩
   ·exact hB.last hq6 hs'
   ·exact e_
   ·exact w_
 obtain ⟨d,k1,k2,ts2,e2⟩ := z
 have hq2 : RQ r1 f1 (listGo colStep 8 ([], []) r1) d ts2 e2 := hz
 show AW _ _ _ _ ⟨[(0, .ptr rp 0),(4, .ptr b4 0),(5, .ptr b5 0)], []⟩ (.cells b5 (cE s d k1 k2 n) :: .cells b4 zE :: RS rp L ts2 e2 :: R) _
 repeat first|refine go_ ?_|intro _
 refine Or.inl ⟨⟨_,Tryz.func107,rfl,rfl⟩,ACall.mono ?_ (ACall_upd 2 rfl (bMust_ok rp L ts2 e2 hq2.nz 4 (by decide) [41] (hq2.suf.trans hs1) hL))⟩
 rintro _ S1 ⟨rfl,hS1⟩
 subst S1
 repeat first|refine go_ ?_|intro _
 refine AW_ret ?_
 refine ⟨rfl,1,_,rfl,⟨nb_ rfl,nb_ rfl⟩,encD ⟨s,d.1,d.2,false,false,n⟩,RS rp L (mustR ts2 4 [41] e2) (mustE ts2 4 [41] e2) :: R,leDeB,sle_,_,rfl,RQ.bq encD ?_ trivial⟩
 rw [declB]
 subst hr1 hf1
 exact hq1.bind ((RQ.within hq1.nz hq2).bind (RQ.ok _ (must_nz hq2.nz)))
end Go.Proofs.YtfeknkaioofljaaGreatDoor
