/-
 What stands next: the book's. Own work.
-/
import Derived.Test.YtfeknkaioofljaaGreatDoorQ39
import Derived.Test.YtfeknkaioofljaaGreatDoorQ22
set_option linter.all false
set_option maxHeartbeats 4000000
set_option maxRecDepth 4000
namespace Go.Proofs.YtfeknkaioofljaaGreatDoor
open Go.Aw Go.RowKit Tree
theorem RQ.guard {α : Type} {b : Prop} [Decidable b] {q : Int × Int} {ts ts' : List Lx.Tok} {e' : Option (Int × Int)} {x : PR α} {v : α} (h : RQ ts (if b then some q else none) x v ts' e') : RQ ts none (if b then .error q else x) v ts' e' := by
 by_cases hb : b
 ·rw [if_pos hb] at h ⊢
  exact ⟨h.suf,h.nz,nofun,fun _ => h.keep q rfl⟩
 ·rw [if_neg hb] at h ⊢; exact h
theorem word_of {ts : List Lx.Tok} {s : List UInt8} : isT ts 5 s none = wordT (hd ts 0) s := by
 rw [isT,wordT]; simp
theorem guard_nz {b : Prop} [Decidable b] {q : Int × Int} (hq : q.1 ≠ 0) : Nz (if b then some q else none) := by
 split
 ·exact nz_some hq
 ·exact nz_none
theorem le_3 {A B C : En} {X Y : List En} : (A :: B :: C :: (X ++ Y)).Perm (X ++ (A :: B :: C :: Y)) := by
 refine List.Perm.symm (List.perm_middle.trans (List.Perm.cons _ (List.perm_middle.trans (List.Perm.cons _ List.perm_middle))))
theorem le_m {A B C D : En} {G R : List En} : (A :: (G ++ (B :: C :: D :: R))).Perm (B :: C :: A :: D :: (G ++ R)) := (List.Perm.cons A le_3.symm).trans (perm_pick 2 rfl (List.Perm.refl _))
abbrev zP : List AV := [.sl 0 [] .full, .sl 0 [] .full]
def BIt (rp : Nat) (L : List Lx.Tok) (F : Nat) (z : It) (ts : List Lx.Tok) (R : List En) (r : AV) (S : List En) : Prop := ∃ (z' : It) (ts' : List Lx.Tok) (e' : Option (Int × Int)),r = .agg z'.cs ∧ S = RS rp L ts' e' :: .grow z'.tk :: (grS cD z'.g ++ R) ∧ RQ ts none (itemL F z.pr ts) z'.pr ts' e'
theorem bItem_ok (rp : Nat) (L : List Lx.Tok) (hL : L.length ≤ 20000) (hN : NumB L) (F : Nat) (hF : 20000 ≤ F) (z : It) (hz1 : z.g.l.length ≤ 60) (hz2 : z.l.length ≤ 200) (ts : List Lx.Tok) (h : ts <:+ L) (R : List En) :
  ACall Tryz.prog 23 [.ptr rp 0, .agg z.cs] (RS rp L ts none :: .grow z.tk :: (grS cD z.g ++ R)) (BIt rp L F z ts R) := by
 obtain ⟨g,l,tk⟩ := z
 have hg : g.l.length ≤ 60 := hz1
 have hl : l.length ≤ 200 := hz2
 have hts : ts.tail <:+ L := tail_suf.trans h
 obtain ⟨n,hn⟩ : ∃ n,n = (hd ts 0).line := ⟨_,rfl⟩
 have hI : itemL F ⟨g.l,l⟩ ts = (if isT ts 5 [46,100,101,99,108] none = true then (if g.l.length = 60 then .error (21,n) else pbind (declB n ts.tail) fun d r => .ok (⟨g.l ++ [d],l⟩,r))
  else if isT ts 5 [46,105,110,112,117,116] none = true then pbind (markB true g.l ts.tail) fun x r => .ok (⟨x,l⟩,r)
  else if isT ts 5 [46,111,117,116,112,117,116] none = true then pbind (markB false g.l ts.tail) fun x r => .ok (⟨x,l⟩,r)
  else if l.length = 200 then .error (21,n) else pbind (ruleL F ts) fun x r => .ok (⟨g.l,l ++ [x]⟩,r)) := by
  rw [word_of,word_of,word_of,hn, ← decl_pb, ← mark_pb, ← mark_pb,itemL]
  cases declL ts <;> cases markL true g.l ts <;> cases markL false g.l ts <;> cases ruleL F ts <;> rfl
 show ACall Tryz.prog 23 [.ptr rp 0, .agg [grL g, .sl 4 (l.map encRu) tk]] (RS rp L ts none :: .grow tk :: (grS cD g ++ R)) _
 have hlr : (l.map encRu).length = l.length := List.length_map ..
 refine ACall_body tab_ok Tryz.func23 rfl rfl rfl (by kernel_rfl) (nb_ rfl) ?_
 repeat refine rg_ ?_
 refine AW_region tab_ok ?_
 repeat first|refine gr_ ?_|intro _
 rename_i b3 b4
 refine AW_weak (weak_of (l := [(0, .ptr rp 0),(3, .ptr b3 0),(4, .ptr b4 0)]) (m := []) (S' := .cells b4 zP :: .cells b3 [grL g, .sl 4 (l.map encRu) tk] :: RS rp L ts none :: .grow tk :: (grS cD g ++ R)) e_ rfl w_) ?_
 repeat first|refine go_ ?_|intro _
 refine Or.inl ⟨⟨_,Tryz.func57,rfl,rfl⟩,ACall.mono ?_ (ACall_same 2 rfl (here_ok rp L ts none 0 h hL (by decide)))⟩
 rintro _ S1 ⟨rfl,hS1⟩
 subst S1
 repeat first|refine gr_ ?_|intro _
 refine AW_weak (weak_of (l := [(0, .ptr rp 0),(3, .ptr b3 0),(4, .ptr b4 0),(5, .int .i64 (hd ts 0).line)]) (m := []) (S' := .cells b4 zP :: .cells b3 [grL g, .sl 4 (l.map encRu) tk] :: RS rp L ts none :: .grow tk :: (grS cD g ++ R)) e_ rfl w_) ?_
 rw [← hn]
 repeat first|refine go_ ?_|intro _
 refine Or.inl ⟨⟨_,Tryz.func58,rfl,rfl⟩,ACall.mono ?_ (ACall_same 2 rfl (is_ok rp L ts none nz_none 5 [46,100,101,99,108] h hL))⟩
 rintro _ S1 ⟨rfl,hS1⟩
 subst S1
 repeat first|refine go_ ?_|intro _
 by_cases hw : isT ts 5 [46,100,101,99,108] none = true
 ·rw [if_pos hw] at hI
  obtain ⟨hne, -, -, -⟩ := isT_ne hw (by decide)
  refine AW_true (b := isT ts 5 [46,100,101,99,108] none) rfl (by exact hw) ?_
  refine AW_cut1 (α := Unit) (fun z => ⟨[(0, .ptr rp 0),(3, .ptr b3 0),(4, .ptr b4 0),(5, .int .i64 n)], []⟩) (fun z => .cells b4 zP :: .cells b3 [grL g, .sl 4 (l.map encRu) tk] :: RS rp L ts (if g.l.length = 60 then some (21,n) else none) :: .grow tk :: (grS cD g ++ R)) (fun z => True) ?_ (fun z hz => ?_)
  ·obtain ⟨gl,b,cap,rest,h1,h2⟩ := g
   cases gl with
   | nil =>
    show AW _ _ _ _ _ (.cells b4 zP :: .cells b3 [.sl 0 [] .full, .sl 4 (l.map encRu) tk] :: RS rp L ts none :: .grow tk :: R) _
    repeat first|refine go_ ?_|intro _
    refine AW_false (b := false) rfl (by first | rfl | (simp; done) | (simp; omega) | decide) ?_
    repeat first|refine ga_ ?_|intro _
    refine ⟨(),?_,weak_of ?_ rfl ?_⟩
    ·trivial
    ·exact e_
    ·exact w_
   | cons y r =>
    show AW _ _ _ _ _ (.cells b4 zP :: .cells b3 [.msl b 0 (y :: r).length cap, .sl 4 (l.map encRu) tk] :: RS rp L ts none :: .grow tk :: .cells b (flG cD (y :: r) ++ rest) :: R) _
    repeat first|refine go_ ?_|intro _
    by_cases hx : (y :: r).length = 60
    ·refine AW_true (b := decide ((((y :: r).length : Nat) : Int) = 60)) rfl (by rw [hx]; rfl) ?_
     repeat first|refine go_ ?_|intro _
     refine Or.inl ⟨⟨_,Tryz.func59,rfl,rfl⟩,ACall.mono ?_ (ACall_upd 2 rfl (fail_ok rp L ts none nz_none 21 n))⟩
     rintro _ S1 ⟨rfl,hS1⟩
     subst S1
     repeat first|refine go_ ?_|intro _
     refine ⟨(),?_,weak_of ?_ rfl ?_⟩
     ·trivial
     ·exact e_
     ·rw [if_pos hx]
      repeat (first | exact SLe.rfl | refine SLe.tail ?_ | refine SLe.full ?_)
    ·refine AW_false (b := decide ((((y :: r).length : Nat) : Int) = 60)) rfl (by exact decide_eq_false (by omega)) ?_
     repeat first|refine ga_ ?_|intro _
     refine ⟨(),?_,weak_of ?_ rfl ?_⟩
     ·trivial
     ·exact e_
     ·rw [if_neg hx]
      repeat (first | exact SLe.rfl | refine SLe.tail ?_ | refine SLe.full ?_)
  clear hz z
  obtain ⟨f2,hf2⟩ : ∃ f2,f2 = (if g.l.length = 60 then some ((21,n) : Int × Int) else none) := ⟨_,rfl⟩
  have hf2z : Nz f2 := hf2 ▸ guard_nz (by show (21 : Int) ≠ 0; decide)
  rw [← hf2]
  repeat refine rg_ ?_
  refine AW_region tab_ok ?_
  repeat first|refine gr_ ?_|intro _
  refine AW_weak (weak_of (l := [(0, .ptr rp 0),(3, .ptr b3 0),(4, .ptr b4 0),(5, .int .i64 n)]) (m := []) (S' := .cells b4 zP :: .cells b3 [grL g, .sl 4 (l.map encRu) tk] :: RS rp L ts.tail f2 :: .grow tk :: (grS cD g ++ R)) ?_ rfl (SLe.of_eq (congrArg (fun e => _ :: _ :: e :: _) (RS_next h hne hL)))) ?_
  ·exact e_
  refine AW_weak (weak_of (l := [(0, .ptr rp 0),(3, .ptr b3 0),(4, .ptr b4 0),(5, .int .i64 n)]) (m := []) (S' := .cells b3 [grL g, .sl 4 (l.map encRu) tk] :: .cells b4 zP :: RS rp L ts.tail f2 :: .grow tk :: (grS cD g ++ R)) ?_ rfl (fun w0 K w h => h.perm (by repeat (first | exact List.Perm.refl _ | refine perm_pick 0 rfl ?_ | refine perm_pick 1 rfl ?_ | refine perm_pick 2 rfl ?_ | refine perm_pick 3 rfl ?_ | refine perm_pick 4 rfl ?_ | refine perm_pick 5 rfl ?_ | refine perm_pick 6 rfl ?_ | refine perm_pick 7 rfl ?_)))) ?_
  ·exact e_
  refine AW_cut1 (α := De × List Lx.Tok × Option (Int × Int) × Gr De 6) (fun z => ⟨[(3, .ptr b3 0),(4, .ptr b4 0)], []⟩) (fun z => grS cD z.2.2.2 ++ (.cells b3 [grL z.2.2.2, .sl 4 (l.map encRu) tk] :: .cells b4 zP :: RS rp L z.2.1 z.2.2.1 :: .grow tk :: R)) (fun z => RQ ts.tail f2 (declB n ts.tail) z.1 z.2.1 z.2.2.1 ∧ z.2.2.2.l = g.l ++ [z.1]) ?_ (fun z hz => ?_)
  ·obtain ⟨gl,b,cap,rest,h1,h2⟩ := g
   cases gl with
   | nil =>
    show AW _ _ _ _ _ (.cells b3 [.sl 0 [] .full, .sl 4 (l.map encRu) tk] :: .cells b4 zP :: RS rp L ts.tail f2 :: .grow tk :: R) _
    refine AW_drawT ([.cells b3 [.sl 0 [] .full, .sl 4 (l.map encRu) tk]]) tab_ok mixed [0,1,2,3] (.one false 4 (.one false 5 (.one true 6 (.one true 7 (.one true 8 .leaf))))) (by first | rfl | kernel_rfl) ⟨_,List.Perm.refl _⟩ ?_
    repeat (first | refine det_stepX rfl ?_ | refine go_ ?_ | intro _)
    refine Or.inl ⟨⟨_,Tryz.func60,rfl,rfl⟩,ACall.mono ?_ (ACall_at 2 rfl (bDecl_ok rp L hL n ts.tail f2 hf2z hts _))⟩
    rintro _ S1 ⟨x1,hS1,hq⟩
    subst S1
    obtain ⟨d,ts3,e3,rfl,rfl, -,hq3⟩ := hq.rq
    refine keepA ?_
    repeat (first | refine det_stepX rfl ?_ | refine go_ ?_ | intro _)
    refine keepA ?_
    repeat (first | refine det_stepX rfl ?_ | refine go_ ?_ | intro _)
    refine ⟨room (nb_ rfl) rfl, .inl rfl, .inr (.inr ⟨rfl,rfl,cD d,1,rfl,rfl,fun b2 cap2 rest2 hc2 _ hr2 => ?_⟩)⟩
    show aT _ _ _ _ _ _ (.cells b2 (cD d ++ rest2) :: .cells b3 [.sl 0 [] .full, .sl 4 (l.map encRu) tk] :: .cells b4 zP :: RS rp L ts3 e3 :: .grow tk :: R) _
    repeat (first | refine det_stepX rfl ?_ | refine go_ ?_ | intro _)
    refine ⟨(d,ts3,e3,grF d b2 cap2 rest2 hc2 hr2),⟨hq3,rfl⟩,weak_of ?_ rfl ?_⟩
    ·exact e_
    ·exact w_
   | cons y r =>
    have hl : (y :: r).length ≤ 60 := hg
    show AW _ _ _ _ _ (.cells b3 [.msl b 0 (y :: r).length cap, .sl 4 (l.map encRu) tk] :: .cells b4 zP :: RS rp L ts.tail f2 :: .grow tk :: .cells b (flG cD (y :: r) ++ rest) :: R) _
    refine AW_weak (weak_of (l := [(0, .ptr rp 0),(3, .ptr b3 0),(4, .ptr b4 0),(5, .int .i64 n)]) (m := []) (S' := .cells b3 [.msl b 0 (y :: r).length cap, .sl 4 (l.map encRu) tk] :: .cells b (flG cD (y :: r) ++ rest) :: .cells b4 zP :: RS rp L ts.tail f2 :: .grow tk :: R) ?_ rfl (fun w0 K w h => h.perm (by repeat (first | exact List.Perm.refl _ | refine perm_pick 0 rfl ?_ | refine perm_pick 1 rfl ?_ | refine perm_pick 2 rfl ?_ | refine perm_pick 3 rfl ?_ | refine perm_pick 4 rfl ?_ | refine perm_pick 5 rfl ?_ | refine perm_pick 6 rfl ?_ | refine perm_pick 7 rfl ?_)))) ?_
    ·exact e_
    refine AW_drawT ([.cells b3 [.msl b 0 (y :: r).length cap, .sl 4 (l.map encRu) tk]]) tab_ok mixed [0,1,2,3] (.one false 4 (.one false 5 (.one true 6 (.one true 7 (.one true 8 .leaf))))) (by first | rfl | kernel_rfl) ⟨_,List.Perm.refl _⟩ ?_
    repeat (first | refine det_stepX rfl ?_ | refine go_ ?_ | intro _)
    refine Or.inl ⟨⟨_,Tryz.func60,rfl,rfl⟩,ACall.mono ?_ (ACall_at 3 rfl (bDecl_ok rp L hL n ts.tail f2 hf2z hts _))⟩
    rintro _ S1 ⟨x1,hS1,hq⟩
    subst S1
    obtain ⟨d,ts3,e3,rfl,rfl, -,hq3⟩ := hq.rq
    refine keepA ?_
    repeat (first | refine det_stepX rfl ?_ | refine go_ ?_ | intro _)
    refine keepA ?_
    repeat (first | refine det_stepX rfl ?_ | refine go_ ?_ | intro _)
    have hle : ((y :: r) ++ [d]).length = (y :: r).length + 1 := by rw [List.length_append]; rfl
    by_cases hroom : (y :: r).length + 1 ≤ cap
    ·obtain ⟨k1,k2,k3⟩ := room_len cD_len ⟨y :: r,b,cap,rest,h1,h2⟩ hroom
     have k1 : (flG cD (y :: r) ++ rest).length = cap * 6 := k1
     have k2 : 6 ≤ rest.length := k2
     have k3 : (y :: r).length * 6 + 6 ≤ cap * 6 := k3
     refine ⟨1,1,_,room (by omega) rfl,rfl,by show 0 + (y :: r).length * 6 ≤ _; omega, .inl ⟨.inl ⟨_,rfl⟩,cD d,⟨.inl rfl,rfl,rfl⟩,fun _ => ⟨by show 0 + ((y :: r).length + 1) * 6 ≤ _; omega,_,(put_in cD_len ⟨y :: r,b,cap,rest,h1,h2⟩ (cD d) rfl).trans (show _ = flG cD ((y :: r) ++ [d]) ++ rest.drop 6 by rw [flG_app,flG_one,List.append_assoc]),?_⟩,fun hc => absurd hc (by omega)⟩⟩
     show aT _ _ _ _ _ _ (.cells b3 [.msl b 0 (y :: r).length cap, .sl 4 (l.map encRu) tk] :: .cells b (flG cD ((y :: r) ++ [d]) ++ rest.drop 6) :: .cells b4 zP :: RS rp L ts3 e3 :: .grow tk :: R) _
     repeat (first | refine det_stepX rfl ?_ | refine go_ ?_ | intro _)
     refine ⟨(d,ts3,e3,grI ⟨y :: r,b,cap,rest,h1,h2⟩ d hroom),⟨hq3,rfl⟩,weak_of ?_ rfl ?_⟩
     ·exact e_
     ·show SLe _ (.cells b (flG cD ((y :: r) ++ [d]) ++ rest.drop 6) :: .cells b3 [.msl b 0 ((y :: r) ++ [d]).length cap, .sl 4 (l.map encRu) tk] :: .cells b4 zP :: RS rp L ts3 e3 :: .grow tk :: R)
      rw [hle]
      exact fun w0 K w h => h.perm (List.Perm.swap _ _ _)
    ·have k1 : (flG cD (y :: r) ++ rest).length = (y :: r).length * 6 + rest.length := by rw [List.length_append,flG_len cD_len]
     refine ⟨1,1,_,room (by omega) rfl,rfl,by show 0 + (y :: r).length * 6 ≤ _; omega, .inl ⟨.inl ⟨_,rfl⟩,cD d,⟨.inl rfl,rfl,rfl⟩,fun hc => absurd hc hroom,fun _ => ⟨_,(old_cells cD_len ⟨y :: r,b,cap,rest,h1,h2⟩ (cD d)).trans (show _ = flG cD ((y :: r) ++ [d]) by rw [flG_app,flG_one]),fun b2 cap2 rest2 hc2 hr2 => ?_⟩⟩⟩
     show aT _ _ _ _ _ _ (.cells b2 ((flG cD ((y :: r) ++ [d])) ++ rest2) :: .cells b3 [.msl b 0 (y :: r).length cap, .sl 4 (l.map encRu) tk] :: .cells b (flG cD (y :: r) ++ rest) :: .cells b4 zP :: RS rp L ts3 e3 :: .grow tk :: R) _
     repeat (first | refine det_stepX rfl ?_ | refine go_ ?_ | intro _)
     refine ⟨(d,ts3,e3,grA ⟨y :: r,b,cap,rest,h1,h2⟩ d b2 cap2 rest2 hc2 hr2),⟨hq3,rfl⟩,weak_of ?_ rfl ?_⟩
     ·exact e_
     ·show SLe _ (.cells b2 (flG cD ((y :: r) ++ [d]) ++ rest2) :: .cells b3 [.msl b2 0 ((y :: r) ++ [d]).length cap2, .sl 4 (l.map encRu) tk] :: .cells b4 zP :: RS rp L ts3 e3 :: .grow tk :: R)
      rw [hle]
      exact SW.le (SW.cons (SW.cons (SW.drop SW.nil)))
  obtain ⟨d,ts3,e3,g'⟩ := z
  obtain ⟨hq3,hgl⟩ : RQ ts.tail f2 (declB n ts.tail) d ts3 e3 ∧ g'.l = g.l ++ [d] := hz
  show AW _ _ _ _ ⟨[(3, .ptr b3 0),(4, .ptr b4 0)], []⟩ (grS cD g' ++ (.cells b3 [grL g', .sl 4 (l.map encRu) tk] :: .cells b4 zP :: RS rp L ts3 e3 :: .grow tk :: R)) _
  refine AW_weak (weak_of (l := [(3, .ptr b3 0),(4, .ptr b4 0)]) (m := []) (S' := .cells b3 [grL g', .sl 4 (l.map encRu) tk] :: .cells b4 zP :: RS rp L ts3 e3 :: .grow tk :: (grS cD g' ++ R)) ?_ rfl ((fun w0 K w h => h.perm (List.perm_append_comm_assoc (grS cD g') [.cells b3 [grL g', .sl 4 (l.map encRu) tk], .cells b4 zP,RS rp L ts3 e3, .grow tk] R).symm))) ?_
  ·exact e_
  repeat first|refine go_ ?_|intro _
  refine AW_ret ?_
  refine ⟨rfl,1,_,rfl,⟨nb_ rfl,nb_ rfl⟩, .agg (It.cs ⟨g',l,tk⟩),RS rp L ts3 e3 :: .grow tk :: (grS cD g' ++ R),AVle.refl _,sle_,⟨g',l,tk⟩,ts3,e3,rfl,rfl,?_⟩
  show RQ ts none (itemL F ⟨g.l,l⟩ ts) ⟨g'.l,l⟩ ts3 e3
  rw [hI,hgl]
  refine RQ.guard ?_
  rw [← hf2]
  exact (hq3.bind (RQ.ok _ hq3.nz)).ext tail_suf
 rw [if_neg hw] at hI
 refine AW_false (b := isT ts 5 [46,100,101,99,108] none) rfl (by simpa using hw) ?_
 refine AW_skip ?_
 refine AW_weak (weak_of (l := [(0, .ptr rp 0),(3, .ptr b3 0),(4, .ptr b4 0),(5, .int .i64 n)]) (m := []) (S' := .cells b4 zP :: .cells b3 [grL g, .sl 4 (l.map encRu) tk] :: RS rp L ts none :: .grow tk :: (grS cD g ++ R)) e_ rfl w_) ?_
 repeat first|refine go_ ?_|intro _
 refine Or.inl ⟨⟨_,Tryz.func61,rfl,rfl⟩,ACall.mono ?_ (ACall_upd 2 rfl (bTakes_ok rp L ts none nz_none 5 (by decide) [46,105,110,112,117,116] h hL))⟩
 rintro _ S1 ⟨rfl,hS1⟩
 subst S1
 repeat first|refine go_ ?_|intro _
 by_cases hw1 : isT ts 5 [46,105,110,112,117,116] none = true
 ·rw [if_pos hw1] at hI
  rw [if_pos (hw1)]
  refine AW_true (b := isT ts 5 [46,105,110,112,117,116] none) rfl (by exact hw1) ?_
  repeat first|refine go_ ?_|intro _
  refine Or.inl ⟨⟨_,Tryz.func62,rfl,rfl⟩,ACall.mono ?_ (ACall_conv (k := fun r S => r = .tup [] ∧ ∃ (g' : Gr De 6) (ts' : List Lx.Tok) (e' : Option (Int × Int)),S = .cells b4 zP :: .cells b3 [grL g, .sl 4 (l.map encRu) tk] :: RS rp L ts' e' :: .grow tk :: (grS cD g' ++ R) ∧ grL g' = grL g ∧ g'.l.length = g.l.length ∧ RQ ts.tail none (markB true g.l ts.tail) g'.l ts' e') ?_ (bMark_ok rp L hL true g (by omega) ts.tail none nz_none hts (.cells b4 zP :: .cells b3 [grL g, .sl 4 (l.map encRu) tk] :: .grow tk :: R)) ?_)⟩
  rotate_left
  ·exact le_m
  ·rintro r _ ⟨hr,g',ts',e',rfl,q2⟩
   exact ⟨_,le_m.symm,hr,g',ts',e',rfl,q2⟩
  rintro _ S1 ⟨rfl,g',ts1,e1,hS1,hgg,hgl,hq⟩
  subst S1
  rw [← hgg]
  repeat first|refine go_ ?_|intro _
  refine AW_ret ?_
  refine ⟨rfl,0,_,rfl,⟨nb_ rfl,nb_ rfl⟩, .agg (It.cs ⟨g',l,tk⟩),RS rp L ts1 e1 :: .grow tk :: (grS cD g' ++ R),AVle.refl _,sle_,⟨g',l,tk⟩,ts1,e1,rfl,rfl,?_⟩
  show RQ ts none (itemL F ⟨g.l,l⟩ ts) ⟨g'.l,l⟩ ts1 e1
  rw [hI]
  exact (hq.bind (RQ.ok _ hq.nz)).ext tail_suf
 rw [if_neg hw1] at hI
 rw [if_neg hw1]
 refine AW_false (b := isT ts 5 [46,105,110,112,117,116] none) rfl (by simpa using hw1) ?_
 refine AW_skip ?_
 refine AW_weak (weak_of (l := [(0, .ptr rp 0),(3, .ptr b3 0),(4, .ptr b4 0),(5, .int .i64 n)]) (m := []) (S' := .cells b4 zP :: .cells b3 [grL g, .sl 4 (l.map encRu) tk] :: RS rp L ts none :: .grow tk :: (grS cD g ++ R)) e_ rfl w_) ?_
 repeat first|refine go_ ?_|intro _
 refine Or.inl ⟨⟨_,Tryz.func61,rfl,rfl⟩,ACall.mono ?_ (ACall_upd 2 rfl (bTakes_ok rp L ts none nz_none 5 (by decide) [46,111,117,116,112,117,116] h hL))⟩
 rintro _ S1 ⟨rfl,hS1⟩
 subst S1
 repeat first|refine go_ ?_|intro _
 by_cases hw2 : isT ts 5 [46,111,117,116,112,117,116] none = true
 ·rw [if_pos hw2] at hI
  rw [if_pos (hw2)]
  refine AW_true (b := isT ts 5 [46,111,117,116,112,117,116] none) rfl (by exact hw2) ?_
  repeat first|refine go_ ?_|intro _
  refine Or.inl ⟨⟨_,Tryz.func62,rfl,rfl⟩,ACall.mono ?_ (ACall_conv (k := fun r S => r = .tup [] ∧ ∃ (g' : Gr De 6) (ts' : List Lx.Tok) (e' : Option (Int × Int)),S = .cells b4 zP :: .cells b3 [grL g, .sl 4 (l.map encRu) tk] :: RS rp L ts' e' :: .grow tk :: (grS cD g' ++ R) ∧ grL g' = grL g ∧ g'.l.length = g.l.length ∧ RQ ts.tail none (markB false g.l ts.tail) g'.l ts' e') ?_ (bMark_ok rp L hL false g (by omega) ts.tail none nz_none hts (.cells b4 zP :: .cells b3 [grL g, .sl 4 (l.map encRu) tk] :: .grow tk :: R)) ?_)⟩
  rotate_left
  ·exact le_m
  ·rintro r _ ⟨hr,g',ts',e',rfl,q2⟩
   exact ⟨_,le_m.symm,hr,g',ts',e',rfl,q2⟩
  rintro _ S1 ⟨rfl,g',ts1,e1,hS1,hgg,hgl,hq⟩
  subst S1
  rw [← hgg]
  repeat first|refine go_ ?_|intro _
  refine AW_ret ?_
  refine ⟨rfl,0,_,rfl,⟨nb_ rfl,nb_ rfl⟩, .agg (It.cs ⟨g',l,tk⟩),RS rp L ts1 e1 :: .grow tk :: (grS cD g' ++ R),AVle.refl _,sle_,⟨g',l,tk⟩,ts1,e1,rfl,rfl,?_⟩
  show RQ ts none (itemL F ⟨g.l,l⟩ ts) ⟨g'.l,l⟩ ts1 e1
  rw [hI]
  exact (hq.bind (RQ.ok _ hq.nz)).ext tail_suf
 rw [if_neg hw2] at hI
 rw [if_neg hw2]
 refine AW_false (b := isT ts 5 [46,111,117,116,112,117,116] none) rfl (by simpa using hw2) ?_
 refine AW_skip ?_
 refine AW_weak (weak_of (l := [(0, .ptr rp 0),(3, .ptr b3 0),(4, .ptr b4 0),(5, .int .i64 n)]) (m := []) (S' := .cells b3 [grL g, .sl 4 (l.map encRu) tk] :: .cells b4 zP :: RS rp L ts none :: .grow tk :: (grS cD g ++ R)) ?_ rfl (fun w0 K w h => h.perm (by repeat (first | exact List.Perm.refl _ | refine perm_pick 0 rfl ?_ | refine perm_pick 1 rfl ?_ | refine perm_pick 2 rfl ?_ | refine perm_pick 3 rfl ?_ | refine perm_pick 4 rfl ?_ | refine perm_pick 5 rfl ?_ | refine perm_pick 6 rfl ?_ | refine perm_pick 7 rfl ?_)))) ?_
 ·exact e_
 refine AW_cut1 (α := Unit) (fun z => ⟨[(0, .ptr rp 0),(3, .ptr b3 0),(4, .ptr b4 0)], []⟩) (fun z => .cells b3 [grL g, .sl 4 (l.map encRu) tk] :: .cells b4 zP :: RS rp L ts (if l.length = 200 then some (21,n) else none) :: .grow tk :: (grS cD g ++ R)) (fun z => True) ?_ (fun z hz => ?_)
 ·repeat first|refine go_ ?_|intro _
  by_cases hx : l.length = 200
  ·refine AW_true (b := decide ((((l.map encRu).length : Nat) : Int) = 200)) rfl (by rw [hlr,hx]; rfl) ?_
   repeat first|refine go_ ?_|intro _
   refine Or.inl ⟨⟨_,Tryz.func59,rfl,rfl⟩,ACall.mono ?_ (ACall_upd 2 rfl (fail_ok rp L ts none nz_none 21 n))⟩
   rintro _ S1 ⟨rfl,hS1⟩
   subst S1
   repeat first|refine go_ ?_|intro _
   refine ⟨(),?_,weak_of ?_ rfl ?_⟩
   ·trivial
   ·exact e_
   ·rw [if_pos hx]
    repeat (first | exact SLe.rfl | refine SLe.tail ?_ | refine SLe.full ?_)
  ·refine AW_false (b := decide ((((l.map encRu).length : Nat) : Int) = 200)) rfl (by rw [hlr]; exact decide_eq_false (by omega)) ?_
   repeat first|refine go_ ?_|intro _
   refine ⟨(),?_,weak_of ?_ rfl ?_⟩
   ·trivial
   ·exact e_
   ·rw [if_neg hx]
    repeat (first | exact SLe.rfl | refine SLe.tail ?_ | refine SLe.full ?_)
 clear hz z
 obtain ⟨f2,hf2⟩ : ∃ f2,f2 = (if l.length = 200 then some ((21,n) : Int × Int) else none) := ⟨_,rfl⟩
 have hf2z : Nz f2 := hf2 ▸ guard_nz (by show (21 : Int) ≠ 0; decide)
 rw [← hf2]
 have hlr2 : (l.map encRu).length ≤ 200 := by omega
 repeat first|refine go_ ?_|intro _
 refine AW_drawT ([.cells b3 [grL g, .sl 4 (l.map encRu) tk]]) tab_ok mixed [0,1,2] (.one false 3 (.one false 4 (.one true 5 (.one true 6 (.one true 7 .leaf))))) (by first | rfl | kernel_rfl) ⟨_,List.Perm.refl _⟩ ?_
 repeat (first | refine det_stepX rfl ?_ | refine go_ ?_ | intro _)
 refine Or.inl ⟨⟨_,Tryz.func63,rfl,rfl⟩,ACall.mono ?_ (ACall_at 2 rfl (bRule_ok rp L hL hN F hF ts f2 hf2z h _))⟩
 rintro _ S1 ⟨x1,hS1,hq⟩
 subst S1
 obtain ⟨x,ts3,e3,rfl,rfl, -,hq3⟩ := hq.rq
 refine keepA ?_
 repeat (first | refine det_stepX rfl ?_ | refine go_ ?_ | intro _)
 refine keepA ?_
 repeat (first | refine det_stepX rfl ?_ | refine go_ ?_ | intro _)
 refine ⟨room (by first | omega | (simp; done) | (simp; omega) | (simp at *; done) | (simp at *; omega)) rfl, .inl rfl, .inr (.inl ⟨rfl,3,rfl,(l ++ [x]).map encRu,by rw [List.map_append]; rfl,fun t1 => ?_⟩)⟩
 repeat (first | refine det_stepX rfl ?_ | refine gr_ ?_ | intro _)
 refine AW_weak (weak_of (l := [(3, .ptr b3 0),(4, .ptr b4 0)]) (m := []) (S' := .cells b3 [grL g, .sl 4 ((l ++ [x]).map encRu) t1] :: .cells b4 zP :: RS rp L ts3 e3 :: .grow t1 :: (grS cD g ++ R)) e_ rfl w_) ?_
 repeat first|refine go_ ?_|intro _
 refine AW_ret ?_
 refine ⟨rfl,1,_,rfl,⟨nb_ rfl,nb_ rfl⟩, .agg (It.cs ⟨g,l ++ [x],t1⟩),RS rp L ts3 e3 :: .grow t1 :: (grS cD g ++ R),AVle.refl _,sle_,⟨g,l ++ [x],t1⟩,ts3,e3,rfl,rfl,?_⟩
 show RQ ts none (itemL F ⟨g.l,l⟩ ts) ⟨g.l,l ++ [x]⟩ ts3 e3
 rw [hI]
 refine RQ.guard ?_
 rw [← hf2]
 exact hq3.bind (RQ.ok _ hq3.nz)
structure PaI (L ts : List Lx.Tok) (z : It) (e : Option (Int × Int)) : Prop where
 suf : ts <:+ L
 nz : Nz e
 ok : e = none → z.g.l.length ≤ 60 ∧ z.l.length ≤ 200 ∧ itemsGo 20001 20000 ⟨[], []⟩ L = itemsGo 20001 ts.length z.pr ts
 err : ∀ q,e = some q → itemsGo 20001 20000 ⟨[], []⟩ L = .error q
theorem PaI.next {L ts ts' : List Lx.Tok} {z z' : It} {e' : Option (Int × Int)} (h : PaI L ts z none) (hne : ts ≠ []) (k : RQ ts none (itemL 20001 z.pr ts) z'.pr ts' e') : PaI L ts' z' e' ∧ ts'.length + (if e' = none then 1 else 0) < ts.length + 1 := by
 obtain ⟨h1,h2,h3⟩ := h.ok rfl
 obtain ⟨m,hm⟩ : ∃ k,ts.length = k + 1 := ⟨ts.length - 1,by have := List.length_pos_iff.2 hne; omega⟩
 have hr := k.res rfl
 have hl := k.suf.length_le
 cases ho : itemL 20001 z.pr ts with
 | error q =>
  rw [ho] at hr
  obtain rfl : e' = some q := hr
  refine ⟨⟨k.suf.trans h.suf,k.nz,nofun,fun q' hq' => ?_⟩,?_⟩
  ·obtain rfl : q = q' := Option.some.inj hq'
   rw [h3,hm]; exact items_err hne ho
  ·rw [if_neg (by simp)]; omega
 | ok y =>
  obtain ⟨y1,y2⟩ := y
  rw [ho] at hr
  obtain ⟨e1,rfl,rfl⟩ : z'.pr = y1 ∧ ts' = y2 ∧ e' = none := hr
  subst e1
  have hc := item_cnt ho h1 h2
  have hlt := (eats_item 20001 z.pr _ _ _ ho).2
  refine ⟨⟨k.suf.trans h.suf,nz_none,fun _ => ⟨hc.1,hc.2,?_⟩,nofun⟩,?_⟩
  ·rw [h3,hm,items_step hne ho]
   exact items_fuel _ _ _ _ (by omega) (Nat.le_refl _)
  ·rw [if_pos rfl]; omega
theorem le_it {A B C : En} {G X : List En} : (A :: C :: (G ++ (B :: X))).Perm (A :: B :: C :: (G ++ X)) := List.Perm.cons _ ((List.Perm.cons _ List.perm_middle).trans (List.Perm.swap _ _ _))
theorem bParse_ok (L : List Lx.Tok) (hN : NumB L) (R : List En) : ACall Tryz.prog 10 [.sl 3 (L.map Lx.encT) .no] R (fun r S => r = resP (parseL L) ∧ S = R) := by
 by_cases hL : 20000 < L.length
 ·have e : parseL L = (⟨[], []⟩,0,21) := if_pos hL
  rw [e]
  refine ACall_body tab_ok Tryz.func10 rfl rfl rfl (by kernel_rfl) (nb_ rfl) ?_
  repeat first|refine go_ ?_|intro _
  refine AW_true (b := decide (((L.map Lx.encT).length : Nat) > (20000 : Int))) rfl (by rw [List.length_map]; exact decide_eq_true (by omega)) ?_
  repeat first|refine go_ ?_|intro _
  refine AW_ret ?_
  exact ⟨rfl,0,_,rfl,⟨nb_ rfl,nb_ rfl⟩, .tup [encP ⟨[], []⟩, .int .i64 0, .int .i64 21],R,AVle.tup ⟨leP0,AVle.refl _,AVle.refl _,trivial⟩,sle_,rfl,rfl⟩
 have e : parseL L = (match itemsGo 20001 20000 ⟨[], []⟩ L with
  | .error e => (⟨[], []⟩,e.2,e.1)
  | .ok p => (p,0,0)) := if_neg hL
 have hL : L.length ≤ 20000 := by omega
 rw [e]
 refine ACall_body tab_ok Tryz.func10 rfl rfl rfl (by kernel_rfl) (nb_ rfl) ?_
 repeat first|refine go_ ?_|intro _
 rename_i b2
 refine AW_false (b := decide (((L.map Lx.encT).length : Nat) > (20000 : Int))) rfl (by rw [List.length_map]; exact decide_eq_false (by omega)) ?_
 refine AW_skip ?_
 repeat refine rg_ ?_
 refine AW_region tab_ok ?_
 repeat first|refine gr_ ?_|intro _
 rename_i rp
 repeat refine rg_ ?_
 refine AW_region tab_ok ?_
 repeat first|refine gr_ ?_|intro _
 rename_i b6
 have hRS : RS rp L L none = .cells rp [.sl 3 (L.map Lx.encT) .no, .int .i64 0, .int .i64 0, .int .i64 0] := by rw [RS,Nat.sub_self]; rfl
 refine AW_weak (weak_of (l := [(0, .sl 3 (L.map Lx.encT) .no),(2, .ptr b2 0),(3, .int .i64 0),(4, .int .i64 0),(5, .ptr rp 0),(6, .ptr b6 0)]) (m := []) (S' := .cells rp [.sl 3 (L.map Lx.encT) .no, .int .i64 0, .int .i64 0, .int .i64 0] :: .cells b6 zP :: .cells b2 zP :: R) ?_ rfl (fun w0 K w h => h.perm (by repeat (first | exact List.Perm.refl _ | refine perm_pick 0 rfl ?_ | refine perm_pick 1 rfl ?_ | refine perm_pick 2 rfl ?_ | refine perm_pick 3 rfl ?_ | refine perm_pick 4 rfl ?_ | refine perm_pick 5 rfl ?_ | refine perm_pick 6 rfl ?_ | refine perm_pick 7 rfl ?_)))) ?_
 ·exact e_
 refine AW_cut1 (α := It × List Lx.Tok × Option (Int × Int)) (fun z => ⟨[(2, .ptr b2 0),(5, .ptr rp 0),(6, .ptr b6 0)], []⟩) (fun z => RS rp L z.2.1 z.2.2 :: .cells b6 z.1.cs :: .grow z.1.tk :: (grS cD z.1.g ++ (.cells b2 zP :: R))) (fun z => PaI L z.2.1 z.1 z.2.2 ∧ (z.2.2 = none → z.2.1 = [])) ?_ (fun z hz => ?_)
 ·repeat first|refine go_ ?_|intro _
  refine AW_for (α := It × List Lx.Tok × Option (Int × Int)) (fun z => ⟨[(0, .sl 3 (L.map Lx.encT) .no),(2, .ptr b2 0),(5, .ptr rp 0),(6, .ptr b6 0)], []⟩) (fun z => RS rp L z.2.1 z.2.2 :: .cells b6 z.1.cs :: .grow z.1.tk :: (grS cD z.1.g ++ (.cells b2 zP :: R))) (fun z => z.2.1.length + (if z.2.2 = none then 1 else 0)) (fun z => PaI L z.2.1 z.1 z.2.2) ((⟨grN, [], .full⟩,L,none)) ?_ (weak_of ?_ rfl ?_) (fun z hz => ?_)
  ·exact ⟨List.suffix_refl _,nz_none,fun _ => ⟨Nat.zero_le _,Nat.zero_le _,items_fuel _ _ _ _ hL (Nat.le_refl _)⟩,nofun⟩
  ·exact e_
  ·intro w0 K w h
   rw [hRS]
   exact (SW.le (SW.cons (SW.cells (cs := [.sl 0 [] .full, .sl 0 [] .full]) (cs' := [.sl 0 [] .full, .sl 4 [] .full]) ⟨AVle.refl _,AVle.nilFull,trivial⟩ rfl (SW.full SW.nil)))) _ _ _ h
  obtain ⟨z,ts,e1⟩ := z
  have hI : PaI L ts z e1 := hz
  have hs := hI.suf
  have hlen := hs.length_le
  show AW _ _ _ _ ⟨[(0, .sl 3 (L.map Lx.encT) .no),(2, .ptr b2 0),(5, .ptr rp 0),(6, .ptr b6 0)], []⟩ (RS rp L ts e1 :: .cells b6 z.cs :: .grow z.tk :: (grS cD z.g ++ (.cells b2 zP :: R))) _
  repeat first|refine go_ ?_|intro _
  by_cases hne : ts = []
  ·subst hne
   refine known_false (b := decide (((L.length - ([] : List Lx.Tok).length : Nat) : Int) < ((L.map Lx.encT).length : Nat))) (by rw [List.length_map]; exact decide_eq_false (by simp)) ?_
   repeat first|refine ga_ ?_|intro _
   refine ⟨((z, [],e1) : It × List Lx.Tok × Option (Int × Int)),?_,weak_of ?_ rfl ?_⟩
   ·exact ⟨hI,fun _ => rfl⟩
   ·exact e_
   ·exact l_
  have hpos := List.length_pos_iff.2 hne
  refine known_true (b := decide (((L.length - ts.length : Nat) : Int) < ((L.map Lx.encT).length : Nat))) (by rw [List.length_map]; exact decide_eq_true (by omega)) ?_
  repeat first|refine go_ ?_|intro _
  cases e1 with
  | some q =>
   refine AW_false (b := decide ((eI (some q)).1 = 0)) rfl (by rw [eI_none hI.nz]; rfl) ?_
   repeat first|refine go_ ?_|intro _
   refine ⟨((z,ts,some q) : It × List Lx.Tok × Option (Int × Int)),?_,weak_of ?_ rfl ?_⟩
   ·exact ⟨hI,nofun⟩
   ·exact e_
   ·exact l_
  | none =>
   obtain ⟨h1,h2, -⟩ := hI.ok rfl
   refine AW_true (b := decide ((eI (none : Option (Int × Int))).1 = 0)) rfl (by rfl) ?_
   repeat first|refine go_ ?_|intro _
   refine Or.inl ⟨⟨_,Tryz.func23,rfl,rfl⟩,ACall.mono ?_ (ACall_conv (k := fun r S => ∃ (z' : It) (ts' : List Lx.Tok) (e' : Option (Int × Int)),r = .agg z'.cs ∧ S = RS rp L ts' e' :: .cells b6 z.cs :: .grow z'.tk :: (grS cD z'.g ++ (.cells b2 zP :: R)) ∧ RQ ts none (itemL 20001 z.pr ts) z'.pr ts' e') le_it (bItem_ok rp L hL hN 20001 (by omega) z h1 h2 ts hs (.cells b6 z.cs :: .cells b2 zP :: R)) ?_)⟩
   rotate_left
   ·rintro r _ ⟨z',ts',e',hr,rfl,hq⟩
    exact ⟨_,le_it.symm,z',ts',e',hr,rfl,hq⟩
   rintro _ S1 ⟨z',ts1,e1,rfl,hS1,hq⟩
   subst S1
   obtain ⟨hI2,hm⟩ := hI.next hne hq
   repeat first|refine go_ ?_|intro _
   refine ⟨(z',ts1,e1),?_,?_,weak_of ?_ rfl ?_⟩
   ·show ts1.length + (if e1 = none then 1 else 0) < ts.length + (if (none : Option (Int × Int)) = none then 1 else 0)
    rw [if_pos rfl]; exact hm
   ·exact hI2
   ·exact e_
   ·exact SLe.of_eq rfl
 obtain ⟨z,ts,e1⟩ := z
 obtain ⟨hI,hend⟩ : PaI L ts z e1 ∧ (e1 = none → ts = []) := hz
 show AW _ _ _ _ ⟨[(2, .ptr b2 0),(5, .ptr rp 0),(6, .ptr b6 0)], []⟩ (RS rp L ts e1 :: .cells b6 z.cs :: .grow z.tk :: (grS cD z.g ++ (.cells b2 zP :: R))) _
 cases e1 with
 | some q =>
  rw [hI.err q rfl]
  repeat first|refine go_ ?_|intro _
  refine AW_true (b := !decide ((eI (some q)).1 = 0)) rfl (by rw [eI_none hI.nz]; rfl) ?_
  refine AW_weak (weak_of (l := [(2, .ptr b2 0),(5, .ptr rp 0)]) (m := []) (S' := RS rp L ts (some q) :: .cells b2 zP :: R) ?_ rfl ((fun w0 K w h => h.sub (.cons_cons _ (.cons _ (.cons _ (List.sublist_append_right _ _))))))) ?_
  ·exact e_
  refine AW_seq ?_
  refine AW_drawT ([RS rp L ts (some q)]) tab_ok mixed [0,1,2,3,4,5,6,7,8] (.one false 9 (.one false 10 (.one true 11 .leaf))) (by first | rfl | kernel_rfl) ⟨_,List.Perm.refl _⟩ ?_
  repeat (first | refine det_stepX rfl ?_ | refine go_ ?_ | intro _)
  refine keepA ?_
  repeat (first | refine det_stepX rfl ?_ | refine go_ ?_ | intro _)
  refine keepA ?_
  repeat (first | refine det_stepX rfl ?_ | refine go_ ?_ | intro _)
  refine AW_ret ?_
  exact ⟨rfl,1,_,rfl,⟨nb_ rfl,nb_ rfl⟩, .tup [encP ⟨[], []⟩, .int .i64 q.2, .int .i64 q.1],R,AVle.tup ⟨leP0,AVle.refl _,AVle.refl _,trivial⟩,sle_,rfl,rfl⟩
 | none =>
  obtain rfl : ts = [] := hend rfl
  obtain ⟨h1,h2,h3⟩ := hI.ok rfl
  rw [h3,items_nil]
  repeat first|refine go_ ?_|intro _
  refine AW_false (b := !decide ((eI (none : Option (Int × Int))).1 = 0)) rfl (by rfl) ?_
  refine AW_skip ?_
  refine AW_weak (weak_of (l := [(2, .ptr b2 0),(6, .ptr b6 0)]) (m := []) (S' := .cells b6 [grL z.g, .sl 4 (z.l.map encRu) z.tk] :: (grS cD z.g ++ (.cells b2 zP :: R))) ?_ rfl ((fun w0 K w h => h.sub (.cons _ (.cons_cons _ (.cons _ (List.Sublist.refl _))))))) ?_
  ·exact e_
  refine AW_grownD b6 _ z.g rfl ?_
  repeat first|refine go_ ?_|intro _
  refine AW_ret ?_
  exact ⟨rfl,1,_,rfl,⟨nb_ rfl,nb_ rfl⟩, .tup [encP z.pr, .int .i64 0, .int .i64 0],R,AVle.tup ⟨lePr,AVle.refl _,AVle.refl _,trivial⟩,sle_,rfl,rfl⟩
end Go.Proofs.YtfeknkaioofljaaGreatDoor
