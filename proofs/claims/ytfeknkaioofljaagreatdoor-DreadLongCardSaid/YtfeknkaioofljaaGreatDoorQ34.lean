/-
 Which aggregate stands next: the book's. Own work.
-/
import Derived.Test.YtfeknkaioofljaaGreatDoorQ33
import Derived.Test.YtfeknkaioofljaaGreatDoorQ8
set_option linter.all false
set_option maxHeartbeats 4000000
set_option maxRecDepth 4000
namespace Go.Proofs.YtfeknkaioofljaaGreatDoor
open Go.Aw Go.RowKit Tree
def howE (ts : List Lx.Tok) (e : Option (Int × Int)) : Int := if e = none then howL' ts else 0
theorem bHow_ok (rp : Nat) (L : List Lx.Tok) (hL : L.length ≤ 20000) (ts : List Lx.Tok) (e : Option (Int × Int)) (hz : Nz e) (h : ts <:+ L) (R : List En) : ACall Tryz.prog 145 [.ptr rp 0] (RS rp L ts e :: R) (fun r S => r = .int .i64 (howE ts e) ∧ S = RS rp L ts e :: R) := by
 refine ACall_body tab_ok Tryz.func145 rfl rfl rfl (by kernel_rfl) (nb_ rfl) ?_
 repeat first|refine go_ ?_|intro _
 refine Or.inl ⟨⟨_,Tryz.func57,rfl,rfl⟩,ACall.mono ?_ (ACall_same 0 rfl (here_ok rp L ts e 1 h hL (by decide)))⟩
 rintro _ S1 ⟨rfl,hS1⟩
 subst S1
 repeat first|refine go_ ?_|intro _
 rename_i b3
 refine Or.inl ⟨⟨_,Tryz.func58,rfl,rfl⟩,ACall.mono ?_ (ACall_same 1 rfl (is_ok rp L ts e hz 4 [61] h hL))⟩
 rintro _ S1 ⟨rfl,hS1⟩
 subst S1
 repeat first|refine go_ ?_|intro _
 by_cases hs : isT ts 4 [61] e = true
 rotate_left
 ·have hs' : isT ts 4 [61] e = false := by simpa using hs
  refine known_true (b := !isT ts 4 [61] e) (by rw [hs']; rfl) ?_
  repeat first|refine ga_ ?_|intro _
  refine AW_ret ?_
  repeat refine mk_ ?_
  refine ⟨_,RS rp L ts e :: R,AVle.eq ?_,sle_,rfl,rfl⟩
  show AV.int .i64 0 = AV.int .i64 (howE ts e)
  refine congrArg (AV.int .i64) ?_
  rw [howE]
  split
  ·rename_i he
   subst he
   rw [howL',if_neg]
   rintro ⟨hh, -⟩
   rw [signB] at hh
   rw [isT,hh] at hs'
   exact absurd hs' (by decide)
  ·rfl
 obtain ⟨hne,hk,hss,rfl⟩ := isT_ne hs (by decide)
 have hs0 : signB (hd ts 0) [61] = true := by rw [signB,hk,hss]; rfl
 refine known_false (b := !isT ts 4 [61] none) (by rw [hs]; rfl) ?_
 repeat first|refine ga_ ?_|intro _
 by_cases hk1 : (hd ts 1).kind = 1
 rotate_left
 ·refine AW_true (b := !decide ((hd ts 1).kind = 1)) rfl (by rw [decide_eq_false hk1]; rfl) ?_
  repeat first|refine go_ ?_|intro _
  refine AW_ret ?_
  repeat refine mk_ ?_
  refine ⟨_,RS rp L ts none :: R,AVle.eq ?_,sle_,rfl,rfl⟩
  show AV.int .i64 0 = AV.int .i64 (howE ts none)
  rw [howE,if_pos rfl,howL',if_neg (fun hh => hk1 hh.2)]
 refine AW_false (b := !decide ((hd ts 1).kind = 1)) rfl (by rw [hk1]; rfl) ?_
 have hH : howL' ts = (if aggOp (hd ts 1).s = 7 ∧ signB (hd ts 2) [58] = true ∨ 7 < aggOp (hd ts 1).s ∧ nameT (hd ts 2) = true ∧ signB (hd ts 3) [58] = true then aggOp (hd ts 1).s else 0) := by rw [howL',if_pos ⟨hs0,hk1⟩]
 repeat first|refine go_ ?_|intro _
 rename_i b4
 refine Or.inl ⟨⟨_,Tryz.func57,rfl,rfl⟩,ACall.mono ?_ (ACall_same 2 rfl (here_ok rp L ts none 2 h hL (by decide)))⟩
 rintro _ S1 ⟨rfl,hS1⟩
 subst S1
 repeat first|refine go_ ?_|intro _
 rename_i b5
 refine Or.inl ⟨⟨_,Tryz.func57,rfl,rfl⟩,ACall.mono ?_ (ACall_same 3 rfl (here_ok rp L ts none 3 h hL (by decide)))⟩
 rintro _ S1 ⟨rfl,hS1⟩
 subst S1
 repeat first|refine gr_ ?_|intro _
 rename_i b6
 repeat refine rg_ ?_
 refine AW_region tab_ok ?_
 repeat first|refine gr_ ?_|intro _
 refine AW_weak (weak_of (l := [(0, .ptr rp 0),(3, .ptr b3 0),(4, .ptr b4 0),(5, .ptr b5 0),(6, .ptr b6 0)]) (m := []) (S' := .cells b6 [.int .i64 (hd ts 3).kind, .str (hd ts 3).s, .int .i64 0] :: .cells b5 [.int .i64 (hd ts 2).kind, .str (hd ts 2).s, .int .i64 0] :: .cells b4 [.int .i64 4, .str [58], .int .i64 0] :: .cells b3 [.int .i64 (hd ts 1).kind, .str (hd ts 1).s, .int .i64 (hd ts 1).line] :: RS rp L ts none :: R) e_ rfl w_) ?_
 repeat first|refine go_ ?_|intro _
 by_cases hc : (hd ts 1).s = [99,111,117,110,116]
 ·refine known_true (b := decide ((hd ts 1).s = [99,111,117,110,116])) (by exact decide_eq_true hc) ?_
  have ha : aggOp (hd ts 1).s = 7 := by rw [hc]; rfl
  repeat first|refine go_ ?_|intro _
  refine ⟨⟨_,Lx.eqk_tok,rfl⟩,signB (hd ts 2) [58],congrArg some (by simp [signB]),?_⟩
  repeat first|refine go_ ?_|intro _
  by_cases hc2 : signB (hd ts 2) [58] = true
  ·refine AW_true (b := signB (hd ts 2) [58]) rfl (by exact hc2) ?_
   repeat first|refine ga_ ?_|intro _
   refine AW_ret ?_
   repeat refine mk_ ?_
   refine ⟨_,RS rp L ts none :: R,AVle.eq ?_,sle_,rfl,rfl⟩
   show AV.int .i64 _ = AV.int .i64 (howE ts none)
   refine congrArg (AV.int .i64) ?_
   rw [howE,if_pos rfl,hH]
   rw [if_pos (.inl ⟨ha,hc2⟩),ha]
  refine AW_false (b := signB (hd ts 2) [58]) rfl (by simpa using hc2) ?_
  have hno : ¬ (aggOp (hd ts 1).s = 7 ∧ signB (hd ts 2) [58] = true) := fun hh => hc2 hh.2
  repeat first|refine go_ ?_|intro _
  refine Or.inl ⟨⟨_,Tryz.func142,rfl,rfl⟩,ACall.mono ?_ (rIsName_ok ⟨(hd ts 2).kind,(hd ts 2).s,0⟩ _)⟩
  rintro _ S1 ⟨rfl,hS1⟩
  subst S1
  repeat first|refine go_ ?_|intro _
  by_cases hn : nameT (hd ts 2) = true
  rotate_left
  ·refine known_true (b := !nameT (⟨(hd ts 2).kind,(hd ts 2).s,0⟩ : Lx.Tok)) (by show (!nameT (hd ts 2)) = true; simpa using hn) ?_
   repeat first|refine ga_ ?_|intro _
   refine AW_ret ?_
   repeat refine mk_ ?_
   refine ⟨_,RS rp L ts none :: R,AVle.eq ?_,sle_,rfl,rfl⟩
   show AV.int .i64 _ = AV.int .i64 (howE ts none)
   refine congrArg (AV.int .i64) ?_
   rw [howE,if_pos rfl,hH]
   rw [if_neg]
   rintro (hh | hh)
   ·exact hno hh
   ·exact hn hh.2.1
  refine known_false (b := !nameT (⟨(hd ts 2).kind,(hd ts 2).s,0⟩ : Lx.Tok)) (by show (!nameT (hd ts 2)) = false; rw [hn]; rfl) ?_
  repeat first|refine go_ ?_|intro _
  refine ⟨⟨_,Lx.eqk_tok,rfl⟩,signB (hd ts 3) [58],congrArg some (by simp [signB]),?_⟩
  repeat first|refine go_ ?_|intro _
  by_cases hc3 : signB (hd ts 3) [58] = true
  rotate_left
  ·refine AW_true (b := !signB (hd ts 3) [58]) rfl (by simpa using hc3) ?_
   repeat first|refine ga_ ?_|intro _
   refine AW_ret ?_
   repeat refine mk_ ?_
   refine ⟨_,RS rp L ts none :: R,AVle.eq ?_,sle_,rfl,rfl⟩
   show AV.int .i64 _ = AV.int .i64 (howE ts none)
   refine congrArg (AV.int .i64) ?_
   rw [howE,if_pos rfl,hH]
   rw [if_neg]
   rintro (hh | hh)
   ·exact hno hh
   ·exact hc3 hh.2.2
  refine AW_false (b := !signB (hd ts 3) [58]) rfl (by rw [hc3]; rfl) ?_
  repeat first|refine go_ ?_|intro _
  refine AW_false (b := decide ((hd ts 1).s = [115,117,109])) rfl (by rw [hc]; rfl) ?_
  repeat first|refine go_ ?_|intro _
  refine AW_false (b := decide ((hd ts 1).s = [109,105,110])) rfl (by rw [hc]; rfl) ?_
  repeat first|refine go_ ?_|intro _
  refine AW_false (b := decide ((hd ts 1).s = [109,97,120])) rfl (by rw [hc]; rfl) ?_
  repeat first|refine go_ ?_|intro _
  refine AW_ret ?_
  repeat refine mk_ ?_
  refine ⟨_,RS rp L ts none :: R,AVle.eq ?_,sle_,rfl,rfl⟩
  show AV.int .i64 _ = AV.int .i64 (howE ts none)
  refine congrArg (AV.int .i64) ?_
  rw [howE,if_pos rfl,hH]
  rw [if_neg]
  rintro (hh | hh)
  ·exact hno hh
  ·omega
 refine known_false (b := decide ((hd ts 1).s = [99,111,117,110,116])) (by exact decide_eq_false hc) ?_
 repeat first|refine ga_ ?_|intro _
 have hno : ¬ (aggOp (hd ts 1).s = 7 ∧ signB (hd ts 2) [58] = true) := by
  rintro ⟨hh, -⟩
  rw [aggOp,if_neg hc] at hh
  split at hh
  ·omega
  ·split at hh
   ·omega
   ·split at hh <;> omega
 repeat first|refine go_ ?_|intro _
 refine Or.inl ⟨⟨_,Tryz.func142,rfl,rfl⟩,ACall.mono ?_ (rIsName_ok ⟨(hd ts 2).kind,(hd ts 2).s,0⟩ _)⟩
 rintro _ S1 ⟨rfl,hS1⟩
 subst S1
 repeat first|refine go_ ?_|intro _
 by_cases hn : nameT (hd ts 2) = true
 rotate_left
 ·refine known_true (b := !nameT (⟨(hd ts 2).kind,(hd ts 2).s,0⟩ : Lx.Tok)) (by show (!nameT (hd ts 2)) = true; simpa using hn) ?_
  repeat first|refine ga_ ?_|intro _
  refine AW_ret ?_
  repeat refine mk_ ?_
  refine ⟨_,RS rp L ts none :: R,AVle.eq ?_,sle_,rfl,rfl⟩
  show AV.int .i64 _ = AV.int .i64 (howE ts none)
  refine congrArg (AV.int .i64) ?_
  rw [howE,if_pos rfl,hH]
  rw [if_neg]
  rintro (hh | hh)
  ·exact hno hh
  ·exact hn hh.2.1
 refine known_false (b := !nameT (⟨(hd ts 2).kind,(hd ts 2).s,0⟩ : Lx.Tok)) (by show (!nameT (hd ts 2)) = false; rw [hn]; rfl) ?_
 repeat first|refine go_ ?_|intro _
 refine ⟨⟨_,Lx.eqk_tok,rfl⟩,signB (hd ts 3) [58],congrArg some (by simp [signB]),?_⟩
 repeat first|refine go_ ?_|intro _
 by_cases hc3 : signB (hd ts 3) [58] = true
 rotate_left
 ·refine AW_true (b := !signB (hd ts 3) [58]) rfl (by simpa using hc3) ?_
  repeat first|refine ga_ ?_|intro _
  refine AW_ret ?_
  repeat refine mk_ ?_
  refine ⟨_,RS rp L ts none :: R,AVle.eq ?_,sle_,rfl,rfl⟩
  show AV.int .i64 _ = AV.int .i64 (howE ts none)
  refine congrArg (AV.int .i64) ?_
  rw [howE,if_pos rfl,hH]
  rw [if_neg]
  rintro (hh | hh)
  ·exact hno hh
  ·exact hc3 hh.2.2
 refine AW_false (b := !signB (hd ts 3) [58]) rfl (by rw [hc3]; rfl) ?_
 repeat first|refine go_ ?_|intro _
 by_cases h8 : (hd ts 1).s = [115,117,109]
 ·refine AW_true (b := decide ((hd ts 1).s = [115,117,109])) rfl (by exact decide_eq_true h8) ?_
  repeat first|refine go_ ?_|intro _
  refine AW_ret ?_
  repeat refine mk_ ?_
  refine ⟨_,RS rp L ts none :: R,AVle.eq ?_,sle_,rfl,rfl⟩
  show AV.int .i64 _ = AV.int .i64 (howE ts none)
  refine congrArg (AV.int .i64) ?_
  rw [howE,if_pos rfl,hH]
  have ha : aggOp (hd ts 1).s = 8 := by rw [h8]; rfl
  rw [ha,if_pos (.inr ⟨by decide,hn,hc3⟩)]
 refine AW_false (b := decide ((hd ts 1).s = [115,117,109])) rfl (by exact decide_eq_false h8) ?_
 repeat first|refine go_ ?_|intro _
 by_cases h9 : (hd ts 1).s = [109,105,110]
 ·refine AW_true (b := decide ((hd ts 1).s = [109,105,110])) rfl (by exact decide_eq_true h9) ?_
  repeat first|refine go_ ?_|intro _
  refine AW_ret ?_
  repeat refine mk_ ?_
  refine ⟨_,RS rp L ts none :: R,AVle.eq ?_,sle_,rfl,rfl⟩
  show AV.int .i64 _ = AV.int .i64 (howE ts none)
  refine congrArg (AV.int .i64) ?_
  rw [howE,if_pos rfl,hH]
  have ha : aggOp (hd ts 1).s = 9 := by rw [h9]; rfl
  rw [ha,if_pos (.inr ⟨by decide,hn,hc3⟩)]
 refine AW_false (b := decide ((hd ts 1).s = [109,105,110])) rfl (by exact decide_eq_false h9) ?_
 repeat first|refine go_ ?_|intro _
 by_cases h10 : (hd ts 1).s = [109,97,120]
 ·refine AW_true (b := decide ((hd ts 1).s = [109,97,120])) rfl (by exact decide_eq_true h10) ?_
  repeat first|refine go_ ?_|intro _
  refine AW_ret ?_
  repeat refine mk_ ?_
  refine ⟨_,RS rp L ts none :: R,AVle.eq ?_,sle_,rfl,rfl⟩
  show AV.int .i64 _ = AV.int .i64 (howE ts none)
  refine congrArg (AV.int .i64) ?_
  rw [howE,if_pos rfl,hH]
  have ha : aggOp (hd ts 1).s = 10 := by rw [h10]; rfl
  rw [ha,if_pos (.inr ⟨by decide,hn,hc3⟩)]
 refine AW_false (b := decide ((hd ts 1).s = [109,97,120])) rfl (by exact decide_eq_false h10) ?_
 repeat first|refine go_ ?_|intro _
 refine AW_ret ?_
 repeat refine mk_ ?_
 refine ⟨_,RS rp L ts none :: R,AVle.eq ?_,sle_,rfl,rfl⟩
 show AV.int .i64 _ = AV.int .i64 (howE ts none)
 refine congrArg (AV.int .i64) ?_
 rw [howE,if_pos rfl,hH]
 have ha : aggOp (hd ts 1).s = 0 := by rw [aggOp,if_neg hc,if_neg h8,if_neg h9,if_neg h10]
 rw [ha,if_neg]
 rintro (hh | hh)
 ·omega
 ·omega
theorem argStep_pb (F : Nat) (l : List T) (ts : List Lx.Tok) : argStep F l ts = pbind (argL F ts) fun t r => .ok (l ++ [t],r) := by
 rw [argStep]; cases argL F ts <;> rfl
theorem atom_pb (F : Nat) (ts : List Lx.Tok) : atomL F ts = pbind (nameP ts) fun s r => pbind (withinL [40] [41] (listGo (argStep F) 8 []) r) fun l r' => .ok (⟨s,l⟩,r') := by
 rw [atomL]
 cases nameP ts with
 | error q => rfl
 | ok y =>
  show _ = pbind (withinL [40] [41] (listGo (argStep F) 8 []) y.2) _
  simp only
  cases withinL [40] [41] (listGo (argStep F) 8 []) y.2 <;> rfl
abbrev StT (α : Type) : Type := α × Tk × List Lx.Tok × Option (Int × Int)
def nA : At → List Lx.Tok → Prop := fun a _ => a.l.length ≤ 9
theorem leAt {s : List UInt8} {l : List T} {tk : Tk} : AVle (.agg [.str s, .sl 4 (encTs l) tk]) (encA ⟨s,l⟩) :=
 AVle.agg (bs := [.str s, .sl 4 (encTs l) .no]) ⟨AVle.refl _,AVle.tk,trivial⟩ (by intro c hc; simp only [List.mem_cons,List.not_mem_nil,or_false] at hc; rcases hc with rfl | rfl <;> rfl)
theorem encTs_app (l : List T) (y : T) : encTs l ++ [encU y] = encTs (l ++ [y]) := by rw [encTs_map,encTs_map,List.map_append]; rfl
theorem bAtom_ok (rp : Nat) (L : List Lx.Tok) (hL : L.length ≤ 20000) (hN : NumB L) (F : Nat) (hF : 20000 ≤ F) (ts : List Lx.Tok) (e : Option (Int × Int)) (hz : Nz e) (h : ts <:+ L) (R : List En) : ACall Tryz.prog 108 [.ptr rp 0] (RS rp L ts e :: R) (fun r S => ∃ x,S = x :: R ∧ BkQ rp L ts e encA (atomL F ts) nA r x) := by
 refine ACall_body tab_ok Tryz.func108 rfl rfl rfl (by kernel_rfl) (nb_ rfl) ?_
 repeat first|refine go_ ?_|intro _
 rename_i b2
 refine Or.inl ⟨⟨_,Tryz.func106,rfl,rfl⟩,ACall.mono ?_ (ACall_at 1 rfl (bName_ok rp L ts e hz h hL _))⟩
 rintro _ S1 ⟨x1,hS1,hq⟩
 subst S1
 obtain ⟨s,ts1,e1,rfl,rfl, -,hq1⟩ := hq.rq
 repeat first|refine go_ ?_|intro _
 rename_i b3
 refine Or.inl ⟨⟨_,Tryz.func107,rfl,rfl⟩,ACall.mono ?_ (ACall_upd 2 rfl (bMust_ok rp L ts1 e1 hq1.nz 4 (by decide) [40] (hq1.suf.trans h) hL))⟩
 rintro _ S1 ⟨rfl,hS1⟩
 subst S1
 repeat first|refine gr_ ?_|intro _
 obtain ⟨r1,hr1⟩ : ∃ r1,r1 = mustR ts1 4 [40] e1 := ⟨_,rfl⟩
 obtain ⟨f1,hf1⟩ : ∃ f1,f1 = mustE ts1 4 [40] e1 := ⟨_,rfl⟩
 have hm : Nz f1 := hf1 ▸ must_nz hq1.nz
 have hs1 : r1 <:+ L := hr1 ▸ must_suf.trans (hq1.suf.trans h)
 rw [← hr1, ← hf1]
 refine AW_weak (weak_of (l := [(0, .ptr rp 0),(2, .ptr b2 0),(3, .ptr b3 0)]) (m := []) (S' := .cells b3 [.str s, .sl 0 [] .full] :: .cells b2 [.str [], .sl 0 [] .full] :: RS rp L r1 f1 :: R) e_ rfl w_) ?_
 refine AW_cut1 (α := StT (List T)) (fun z => ⟨[(0, .ptr rp 0),(2, .ptr b2 0),(3, .ptr b3 0)], []⟩) (fun z => .cells b3 [.str s, .sl 4 (encTs z.1) z.2.1] :: .cells b2 [.str [], .sl 0 [] .full] :: RS rp L z.2.2.1 z.2.2.2 :: R) (fun z => RQ r1 f1 (listGo (argStep F) 8 [] r1) z.1 z.2.2.1 z.2.2.2 ∧ z.1.length ≤ 9) ?_ (fun z hz => ?_)
 ·repeat first|refine go_ ?_|intro _
  refine AW_for (α := StT (List T)) (fun z => ⟨[(0, .ptr rp 0),(2, .ptr b2 0),(3, .ptr b3 0)], []⟩) (fun z => .cells b3 [.str s, .sl 4 (encTs z.1) z.2.1] :: .grow z.2.1 :: .cells b2 [.str [], .sl 0 [] .full] :: RS rp L z.2.2.1 z.2.2.2 :: R) (fun z => z.2.2.1.length) (fun z => LiB (argStep F) List.length 8 [] r1 f1 z.1 z.2.2.1 z.2.2.2) (([], .full,r1,f1)) ?_ (weak_of ?_ rfl ?_) (fun z hz => ?_)
  ·exact LiB.start hm rfl
  ·exact e_
  ·exact SW.le (SW.cells (cs := [.str s, .sl 0 [] .full]) (cs' := [.str s, .sl 4 [] .full]) ⟨AVle.refl _,AVle.nilFull,trivial⟩ rfl (SW.full (SW.cons (SW.cons SW.nil))))
  obtain ⟨l,tk,ts2,e2⟩ := z
  have hB : LiB (argStep F) List.length 8 [] r1 f1 l ts2 e2 := hz
  have h2 := hB.suf.trans hs1
  have hl8 := hB.le
  show AW _ _ _ _ ⟨[(0, .ptr rp 0),(2, .ptr b2 0),(3, .ptr b3 0)], []⟩ (.cells b3 [.str s, .sl 4 (encTs l) tk] :: .grow tk :: .cells b2 [.str [], .sl 0 [] .full] :: RS rp L ts2 e2 :: R) _
  repeat first|refine go_ ?_|intro _
  cases e2 with
  | some q =>
   refine AW_false (b := decide ((eI (some q)).1 = 0)) rfl (by rw [eI_none hB.nz]; rfl) ?_
   repeat first|refine go_ ?_|intro _
   refine ⟨((l,tk,ts2,some q) : StT (List T)),?_,weak_of ?_ rfl ?_⟩
   ·exact ⟨hB.out,Nat.le_trans hl8 (by decide)⟩
   ·exact e_
   ·exact w_
  | none =>
  refine AW_true (b := decide ((eI (none : Option (Int × Int))).1 = 0)) rfl (by rfl) ?_
  have hle : (encTs l).length = l.length := encTs_len l
  have hr8 : (encTs l).length ≤ 8 := by omega
  refine AW_skip ?_
  refine AW_block ?_
  refine AW_cut1 (α := Unit) (fun z => ⟨[(0, .ptr rp 0),(2, .ptr b2 0),(3, .ptr b3 0)], []⟩) (fun z => .cells b3 [.str s, .sl 4 (encTs l) tk] :: .grow tk :: .cells b2 [.str [], .sl 0 [] .full] :: RS rp L ts2 (fullE List.length 8 l ts2) :: R) (fun z => True) ?_ (fun z hz => ?_)
  ·repeat first|refine go_ ?_|intro _
   by_cases hM : l.length = 8
   ·refine AW_true (b := decide ((((encTs l).length : Nat) : Int) = 8)) rfl (by rw [hle,hM]; rfl) ?_
    repeat first|refine go_ ?_|intro _
    refine Or.inl ⟨⟨_,Tryz.func57,rfl,rfl⟩,ACall.mono ?_ (ACall_same 3 rfl (here_ok rp L ts2 none 0 h2 hL (by decide)))⟩
    rintro _ S1 ⟨rfl,hS1⟩
    subst S1
    repeat first|refine go_ ?_|intro _
    refine Or.inl ⟨⟨_,Tryz.func59,rfl,rfl⟩,ACall.mono ?_ (ACall_upd 3 rfl (fail_ok rp L ts2 none nz_none 21 (hd ts2 0).line))⟩
    rintro _ S1 ⟨rfl,hS1⟩
    subst S1
    repeat first|refine go_ ?_|intro _
    refine ⟨(),?_,weak_of ?_ rfl ?_⟩
    ·trivial
    ·exact e_
    ·rw [fullE,if_pos hM]
     repeat (first | exact SLe.rfl | refine SLe.tail ?_ | refine SLe.full ?_)
   ·refine AW_false (b := decide ((((encTs l).length : Nat) : Int) = 8)) rfl (by exact decide_eq_false (by omega)) ?_
    repeat first|refine go_ ?_|intro _
    refine ⟨(),?_,weak_of ?_ rfl ?_⟩
    ·trivial
    ·exact e_
    ·rw [fullE,if_neg hM]
     repeat (first | exact SLe.rfl | refine SLe.tail ?_ | refine SLe.full ?_)
  clear hz z
  obtain ⟨f2,hf2⟩ : ∃ f2,f2 = fullE List.length 8 l ts2 := ⟨_,rfl⟩
  have hf2z : Nz f2 := hf2 ▸ full_nz
  rw [← hf2]
  repeat first|refine go_ ?_|intro _
  refine AW_drawT ([.cells b3 [.str s, .sl 4 (encTs l) tk]]) tab_ok mixed [0,1,2] (.one false 3 (.one false 4 (.one true 5 (.one true 6 (.one true 7 .leaf))))) (by first | rfl | kernel_rfl) ⟨_,List.Perm.refl _⟩ ?_
  repeat (first | refine det_stepX rfl ?_ | refine go_ ?_ | intro _)
  refine Or.inl ⟨⟨_,Tryz.func143,rfl,rfl⟩,ACall.mono ?_ (ACall_at 3 rfl (bArg_ok rp L hL hN F hF ts2 f2 hf2z h2 _))⟩
  rintro _ S1 ⟨x1,hS1,hq⟩
  subst S1
  obtain ⟨y,ts3,e3,rfl,rfl, -,hq3⟩ := hq.rq
  refine keepA ?_
  repeat (first | refine det_stepX rfl ?_ | refine go_ ?_ | intro _)
  refine keepA ?_
  repeat (first | refine det_stepX rfl ?_ | refine go_ ?_ | intro _)
  refine ⟨room (by first | omega | (simp; done) | (simp; omega) | (simp at *; done) | (simp at *; omega)) rfl, .inl rfl, .inr (.inl ⟨rfl,1,rfl,encTs (l ++ [y]),(encTs_app l y),fun t1 => ?_⟩)⟩
  repeat (first | refine det_stepX rfl ?_ | refine gr_ ?_ | intro _)
  refine AW_weak (weak_of (l := [(0, .ptr rp 0),(2, .ptr b2 0),(3, .ptr b3 0)]) (m := []) (S' := .cells b3 [.str s, .sl 4 (encTs (l ++ [y])) t1] :: .grow t1 :: .cells b2 [.str [], .sl 0 [] .full] :: RS rp L ts3 e3 :: R) e_ rfl w_) ?_
  have hq4 : RQ ts2 (fullE List.length 8 l ts2) (argStep F l ts2) (l ++ [y]) ts3 e3 := by
   rw [← hf2,argStep_pb]; exact hq3.bind (RQ.ok _ hq3.nz)
  have hly : (l ++ [y]).length = l.length + 1 := by rw [List.length_append]; rfl
  have h3 := hq3.suf.trans h2
  repeat first|refine go_ ?_|intro _
  refine Or.inl ⟨⟨_,Tryz.func61,rfl,rfl⟩,ACall.mono ?_ (ACall_upd 3 rfl (bTakes_ok rp L ts3 e3 hq3.nz 4 (by decide) [44] h3 hL))⟩
  rintro _ S1 ⟨rfl,hS1⟩
  subst S1
  repeat first|refine go_ ?_|intro _
  by_cases hs : isT ts3 4 [44] e3 = true
  ·obtain ⟨rfl,hB2⟩ := hB.more hq4 hly hs
   obtain ⟨hne,hk, -, -⟩ := isT_ne hs (by decide)
   have htl := tail_len (ts := ts3) (by rw [hk]; decide)
   have hl3 := hq3.suf.length_le
   rw [if_pos hs]
   refine AW_false (b := !isT ts3 4 [44] none) rfl (by rw [hs]; rfl) ?_
   repeat first|refine go_ ?_|intro _
   refine ⟨((l ++ [y],t1,ts3.tail,none) : StT (List T)),?_,?_,weak_of ?_ rfl ?_⟩
   ·show ts3.tail.length < ts2.length; omega
   ·exact hB2
   ·exact e_
   ·exact l_
  ·have hs' : isT ts3 4 [44] e3 = false := by simpa using hs
   rw [if_neg hs]
   refine AW_true (b := !isT ts3 4 [44] e3) rfl (by rw [hs']; rfl) ?_
   repeat first|refine go_ ?_|intro _
   refine ⟨((l ++ [y],t1,ts3,e3) : StT (List T)),?_,weak_of ?_ rfl ?_⟩
   ·exact ⟨hB.last hq4 hs',by show (l ++ [y]).length ≤ 9; omega⟩
   ·exact e_
   ·exact w_
 obtain ⟨l,tk,ts2,e2⟩ := z
 obtain ⟨hq2,hl9⟩ : RQ r1 f1 (listGo (argStep F) 8 [] r1) l ts2 e2 ∧ l.length ≤ 9 := hz
 repeat first|refine go_ ?_|intro _
 refine Or.inl ⟨⟨_,Tryz.func107,rfl,rfl⟩,ACall.mono ?_ (ACall_upd 2 rfl (bMust_ok rp L ts2 e2 hq2.nz 4 (by decide) [41] (hq2.suf.trans hs1) hL))⟩
 rintro _ S1 ⟨rfl,hS1⟩
 subst S1
 repeat first|refine go_ ?_|intro _
 refine AW_ret ?_
 refine ⟨rfl,1,_,rfl,⟨nb_ rfl,nb_ rfl⟩,encA ⟨s,l⟩,RS rp L (mustR ts2 4 [41] e2) (mustE ts2 4 [41] e2) :: R,leAt,sle_,_,rfl,RQ.bq encA ?_ hl9⟩
 rw [atom_pb]
 subst hr1 hf1
 exact hq1.bind ((RQ.within hq1.nz hq2).bind (RQ.ok _ (must_nz hq2.nz)))
end Go.Proofs.YtfeknkaioofljaaGreatDoor
