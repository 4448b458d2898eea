/-
 Marks: the book's. Own work.
-/
import Derived.Test.YtfeknkaioofljaaGreatDoorQ38
import Derived.Test.YtfeknkaioofljaaGreatDoorQ22
set_option linter.all false
set_option maxHeartbeats 4000000
set_option maxRecDepth 4000
namespace Go.Proofs.YtfeknkaioofljaaGreatDoor
open Go.Aw Go.RowKit Tree
def markI (w : Bool) (l : List De) (n : Int) (s : List UInt8) (r : List Lx.Tok) : PR (List De) := match l.findIdx? (relB s) with
 | none => .error (40,n)
 | some i => match l[i]? with
  | none => .error (40,n)
  | some d => if flag w d = true then .error (40,n) else .ok (l.set i (setF w d),r)
def markB (w : Bool) (l : List De) (ts : List Lx.Tok) : PR (List De) := pbind (nameP ts) (markI w l (hd ts 0).line)
theorem mark_pb (w : Bool) (l : List De) (ts : List Lx.Tok) : markL w l ts = markB w l ts.tail := by
 rw [markL,markB,nameP]
 by_cases h : nameT (hd ts.tail 0) = true
 ·rw [if_pos h,if_pos h]; rfl
 ·rw [if_neg h,if_neg h]; rfl
theorem markI_none {w : Bool} {l : List De} {n : Int} {s : List UInt8} {r : List Lx.Tok} (h : l.findIdx? (relB s) = none) : markI w l n s r = .error (40,n) := by rw [markI,h]
theorem markI_some {w : Bool} {l : List De} {n : Int} {s : List UInt8} {r : List Lx.Tok} {z : Nat} (hz : z < l.length) (h : l.findIdx? (relB s) = some z) : markI w l n s r = if flag w l[z] = true then .error (40,n) else .ok (l.set z (setF w l[z]),r) := by
 rw [markI,h]; simp only [List.getElem?_eq_getElem hz]
theorem find_none {l : List De} {s : List UInt8} (h : ∀ (i : Nat) (hi : i < l.length),relB s l[i] = false) : l.findIdx? (relB s) = none := by
 rw [List.findIdx?_eq_none_iff]
 intro x hx
 obtain ⟨i,hi,rfl⟩ := List.mem_iff_getElem.1 hx
 exact h i hi
theorem find_some {l : List De} {s : List UInt8} {z : Nat} (hz : z < l.length) (h : ∀ (i : Nat) (hi : i < l.length),i < z → relB s l[i] = false) (hr : l[z].rel = s) : l.findIdx? (relB s) = some z := by
 rw [List.findIdx?_eq_some_iff_getElem]
 refine ⟨hz,by rw [relB]; exact decide_eq_true hr,fun j hj => ?_⟩
 rw [h j (by omega) hj]; decide
theorem put_flag {l : List De} {rest : List AV} {z j : Nat} {v : AV} {y : De} (hz : z < l.length) (hj : j < 6) (h : (cD l[z]).set j v = cD y) : (flG cD l ++ rest).set (z * 6 + j) v = flG cD (l.set z y) ++ rest := by
 rw [List.set_append_left _ _ (by rw [flG_len cD_len]; omega),flG_set cD_len l z j hz hj h]
theorem get_flag {l : List De} {rest : List AV} {z j : Nat} {v : AV} (hz : z < l.length) (hj : j < 6) (h : (cD l[z])[j]? = some v) : (flG cD l ++ rest)[z * 6 + j]? = some v := by
 rw [List.getElem?_append_left (by rw [flG_len cD_len]; omega),flG_get cD_len l z j hz hj,h]
theorem keep_out {d : De} {x : Bool} (h : d.out = x) : (cD (setF true d)).set 4 (.bool x) = cD (setF true d) := by subst h; rfl
theorem keep_in {d : De} {x : Bool} (h : d.inp = x) : (cD d).set 3 (.bool x) = cD d := by subst h; rfl
def BMk (rp : Nat) (L : List Lx.Tok) (g : Gr De 6) (w : Bool) (ts : List Lx.Tok) (e : Option (Int × Int)) (R : List En) (r : AV) (S : List En) : Prop := r = .tup [] ∧ ∃ (g' : Gr De 6) (ts' : List Lx.Tok) (e' : Option (Int × Int)),S = RS rp L ts' e' :: (grS cD g' ++ R) ∧ grL g' = grL g ∧ g'.l.length = g.l.length ∧ RQ ts e (markB w g.l ts) g'.l ts' e'
theorem bMark_ok (rp : Nat) (L : List Lx.Tok) (hL : L.length ≤ 20000) (w : Bool) (g : Gr De 6) (hl : g.l.length ≤ 1000) (ts : List Lx.Tok) (e : Option (Int × Int)) (hz : Nz e) (h : ts <:+ L) (R : List En) :
  ACall Tryz.prog 62 [.ptr rp 0,grL g, .bool w] (RS rp L ts e :: (grS cD g ++ R)) (BMk rp L g w ts e R) := by
 obtain ⟨n,hn⟩ : ∃ n,n = (hd ts 0).line := ⟨_,rfl⟩
 obtain ⟨G,hG⟩ : ∃ G,G = grS cD g ++ R := ⟨_,rfl⟩
 rw [← hG]
 refine ACall_body tab_ok Tryz.func62 rfl rfl rfl (by kernel_rfl) (nb_ rfl) ?_
 repeat first|refine go_ ?_|intro _
 refine Or.inl ⟨⟨_,Tryz.func57,rfl,rfl⟩,ACall.mono ?_ (ACall_same 0 rfl (here_ok rp L ts e 0 h hL (by decide)))⟩
 rintro _ S1 ⟨rfl,hS1⟩
 subst S1
 repeat first|refine gr_ ?_|intro _
 refine AW_weak (weak_of (l := [(0, .ptr rp 0),(1,grL g),(2, .bool w),(6, .int .i64 (hd ts 0).line)]) (m := []) (S' := RS rp L ts e :: G) e_ rfl w_) ?_
 rw [← hn]
 repeat first|refine go_ ?_|intro _
 refine Or.inl ⟨⟨_,Tryz.func106,rfl,rfl⟩,ACall.mono ?_ (ACall_at 0 rfl (bName_ok rp L ts e hz h hL _))⟩
 rintro _ S1 ⟨x1,hS1,hq⟩
 subst S1
 obtain ⟨s,ts1,e1,rfl,rfl, -,hq1⟩ := hq.rq
 have hs1 := hq1.suf.trans h
 repeat first|refine gr_ ?_|intro _
 refine AW_weak (weak_of (l := [(0, .ptr rp 0),(1,grL g),(2, .bool w),(6, .int .i64 n),(7, .str s)]) (m := []) (S' := RS rp L ts1 e1 :: G) e_ rfl w_) ?_
 obtain ⟨l,b,cap,rest,h1,h2⟩ := g
 cases l with
 | nil =>
  have hG : G = R := hG
  subst hG
  show AW _ _ _ _ ⟨[(0, .ptr rp 0),(1, .sl 0 [] .full),(2, .bool w),(6, .int .i64 n),(7, .str s)], []⟩ _ _
  repeat first|refine go_ ?_|intro _
  refine AW_for (α := Nat) (fun z => ⟨[(0, .ptr rp 0),(1, .sl 0 [] .full),(2, .bool w),(6, .int .i64 n),(7, .str s),(8, .int .i64 (z : Nat))], []⟩) (fun z => RS rp L ts1 e1 :: G) (fun z => 0) (fun z => z = 0) (0) ?_ (weak_of ?_ rfl ?_) (fun z hz => ?_)
  ·rfl
  ·exact e_
  ·exact l_
  obtain rfl : z = 0 := hz
  repeat first|refine go_ ?_|intro _
  refine AW_false (b := false) rfl (by first | rfl | (simp; done) | (simp; omega) | decide) ?_
  repeat first|refine go_ ?_|intro _
  refine Or.inl ⟨⟨_,Tryz.func59,rfl,rfl⟩,ACall.mono ?_ (ACall_upd 0 rfl (fail_ok rp L ts1 e1 hq1.nz 40 n))⟩
  rintro _ S1 ⟨rfl,hS1⟩
  subst S1
  repeat first|refine go_ ?_|intro _
  refine ⟨.tup [],RS rp L ts1 (failE e1 (40,n)) :: G,AVle.refl _,SLe.rfl,rfl,⟨[],b,cap,rest,h1,h2⟩,ts1,failE e1 (40,n),rfl,rfl,rfl,?_⟩
  refine hq1.bind ((RQ.fail _ (40,n) hq1.nz (by show (40 : Int) ≠ 0; decide)).of fun he => ?_)
  rw [← hn]
  exact (markI_none rfl).symm
 | cons d0 l0 =>
  obtain ⟨l,hle⟩ : ∃ l,l = d0 :: l0 := ⟨_,rfl⟩
  have hG : G = .cells b (flG cD l ++ rest) :: R := by rw [hG,hle]; rfl
  have hgl : grL (⟨d0 :: l0,b,cap,rest,h1,h2⟩ : Gr De 6) = .msl b 0 l.length cap := by rw [hle]; rfl
  have k1 := h1
  have k2 := h2
  have h1 : l.length ≤ cap := by rw [hle]; exact h1
  have h2 : rest.length = (cap - l.length) * 6 := by rw [hle]; exact h2
  have hl : l.length ≤ 1000 := by rw [hle]; exact hl
  have hpost : ∀ (g' : Gr De 6),g'.b = b → g'.cap = cap → g'.l ≠ [] → g'.rest = rest → g'.l.length = l.length → grL g' = grL (⟨d0 :: l0,b,cap,rest,k1,k2⟩ : Gr De 6) ∧ grS cD g' = [.cells b (flG cD g'.l ++ rest)] := by
   intro g' e1 e2 e3 e4 e5
   rw [hgl,grL_ne e3,grS_ne e3,e1,e2,e4,e5]; exact ⟨rfl,rfl⟩
  have hS0 : ∀ p1 p2,grS cD (⟨d0 :: l0,b,cap,rest,p1,p2⟩ : Gr De 6) = [.cells b (flG cD l ++ rest)] := by intro p1 p2; rw [hle]; rfl
  have hgl' := hgl
  rw [hgl,hG]
  repeat first|refine go_ ?_|intro _
  refine AW_for (α := Nat) (fun z => ⟨[(0, .ptr rp 0),(1, .msl b 0 l.length cap),(2, .bool w),(6, .int .i64 n),(7, .str s),(8, .int .i64 (z : Nat))], []⟩) (fun z => RS rp L ts1 e1 :: .cells b (flG cD l ++ rest) :: R) (fun z => l.length - z) (fun z => z ≤ l.length ∧ (e1 = none → ∀ (i : Nat) (hi : i < l.length),i < z → relB s l[i] = false)) (0) ?_ (weak_of ?_ rfl ?_) (fun z hz => ?_)
  ·exact ⟨Nat.zero_le _,fun _ i _ h => absurd h (Nat.not_lt_zero _)⟩
  ·exact e_
  ·exact l_
  obtain ⟨i1,i2⟩ := hz
  repeat first|refine go_ ?_|intro _
  refine AW_iff (z < l.length) rfl ib_ (fun h => ?_) (fun h => ?_)
  rotate_left
  ·repeat first|refine go_ ?_|intro _
   refine Or.inl ⟨⟨_,Tryz.func59,rfl,rfl⟩,ACall.mono ?_ (ACall_upd 0 rfl (fail_ok rp L ts1 e1 hq1.nz 40 n))⟩
   rintro _ S1 ⟨rfl,hS1⟩
   subst S1
   repeat first|refine go_ ?_|intro _
   refine ⟨.tup [],RS rp L ts1 (failE e1 (40,n)) :: .cells b (flG cD l ++ rest) :: R,AVle.refl _,SLe.rfl,rfl,⟨d0 :: l0,b,cap,rest,k1,k2⟩,ts1,failE e1 (40,n),by rw [hS0]; rfl,rfl,rfl,?_⟩
   show RQ ts e (markB w (d0 :: l0) ts) (d0 :: l0) ts1 (failE e1 (40,n))
   rw [← hle]
   refine hq1.bind ((RQ.fail l (40,n) hq1.nz (by show (40 : Int) ≠ 0; decide)).of fun he => ?_)
   rw [← hn]
   exact (markI_none (find_none fun i hi => i2 he i hi (by omega))).symm
  have hlt := h
  obtain ⟨d,hd'⟩ : ∃ d,d = l[z] := ⟨_,rfl⟩
  have hget : ∀ j v,j < 6 → (cD d)[j]? = some v → (flG cD l ++ rest)[z * 6 + j]? = some v := fun j v hj hv => get_flag hlt hj (by rw [← hd']; exact hv)
  repeat first|refine go_ ?_|intro _
  refine at_msl z (z * 6) rfl hlt (by show 0 + z * 6 = _; omega) ?_
  repeat first|refine go_ ?_|intro _
  refine load_one (.str d.rel) rfl rfl (hget 0 _ (by decide) rfl) ?_
  repeat first|refine go_ ?_|intro _
  by_cases hqs : d.rel = s
  rotate_left
  ·refine known_true (b := !decide (d.rel = s)) (by rw [decide_eq_false hqs]; rfl) ?_
   repeat first|refine ga_ ?_|intro _
   refine ⟨(z + 1),?_,?_,weak_of ?_ rfl ?_⟩
   ·exact Nat.sub_lt_sub_left hlt (Nat.lt_succ_self z)
   ·refine ⟨hlt,fun he i hi hiz => ?_⟩
    by_cases hz : i = z
    ·subst hz; rw [← hd',relB]; exact decide_eq_false hqs
    ·exact i2 he i hi (by omega)
   ·exact e_
   ·exact w_
  refine known_false (b := !decide (d.rel = s)) (by rw [decide_eq_true hqs]; rfl) ?_
  repeat first|refine go_ ?_|intro _
  cases e1 with
  | some q =>
   refine AW_true (b := !decide ((eI (some q)).1 = 0)) rfl (by rw [eI_none hq1.nz]; rfl) ?_
   repeat first|refine go_ ?_|intro _
   refine ⟨(z + 1),?_,?_,weak_of ?_ rfl ?_⟩
   ·exact Nat.sub_lt_sub_left hlt (Nat.lt_succ_self z)
   ·exact ⟨hlt,nofun⟩
   ·exact e_
   ·exact w_
  | none =>
  refine AW_false (b := !decide ((eI (none : Option (Int × Int))).1 = 0)) rfl (by rfl) ?_
  refine AW_skip ?_
  refine AW_weak (weak_of (l := [(0, .ptr rp 0),(1, .msl b 0 l.length cap),(2, .bool w),(6, .int .i64 n),(7, .str s),(8, .int .i64 (z : Nat))]) (m := []) (S' := RS rp L ts1 none :: .cells b (flG cD l ++ rest) :: R) e_ rfl w_) ?_
  have hlt1 : ∀ d1 : De,z < (l.set z d1).length := fun d1 => by rw [List.length_set]; exact hlt
  have hfind : l.findIdx? (relB s) = some z := find_some hlt (i2 rfl) (hd' ▸ hqs)
  have hlen : ∀ (m : List De),m.length = l.length → ∀ j,j < 6 → z * 6 + j < (flG cD m ++ rest).length := fun m hm j hj => by rw [List.length_append,flG_len cD_len,hm]; omega
  cases w with
  | true =>
   repeat refine rg_ ?_
   refine AW_region tab_ok ?_
   repeat first|refine gr_ ?_|intro _
   repeat (first | refine known_true (b := true) rfl ?_ | refine known_false (b := false) rfl ?_ | refine gr_ ?_ | intro _)
   refine at_msl z (z * 6) rfl hlt (by show 0 + z * 6 = _; omega) ?_
   repeat first|refine go_ ?_|intro _
   refine load_one (.bool d.inp) rfl rfl (hget 3 _ (by decide) rfl) ?_
   repeat first|refine go_ ?_|intro _
   by_cases hfl : d.inp = true
   ·refine known_true (b := d.inp) (by exact hfl) ?_
    repeat first|refine ga_ ?_|intro _
    refine Or.inl ⟨⟨_,Tryz.func59,rfl,rfl⟩,ACall.mono ?_ (ACall_upd 0 rfl (fail_ok rp L ts1 none hq1.nz 40 n))⟩
    rintro _ S1 ⟨rfl,hS1⟩
    subst S1
    repeat first|refine go_ ?_|intro _
    refine ⟨.tup [],RS rp L ts1 (failE none (40,n)) :: .cells b (flG cD l ++ rest) :: R,AVle.refl _,SLe.rfl,rfl,⟨d0 :: l0,b,cap,rest,k1,k2⟩,ts1,failE none (40,n),by rw [hS0]; rfl,rfl,rfl,?_⟩
    show RQ ts e (markB true (d0 :: l0) ts) (d0 :: l0) ts1 (failE none (40,n))
    rw [← hle]
    refine hq1.bind ((RQ.fail l (40,n) hq1.nz (by show (40 : Int) ≠ 0; decide)).of fun he => ?_)
    rw [← hn]
    rw [markI_some hlt hfind]
    exact (if_pos (by rw [← hd']; exact hfl)).symm
   have hfi : d.inp = false := by simpa using hfl
   replace hfl : ¬ flag true l[z] = true := by rw [← hd']; exact hfl
   refine known_false (b := d.inp) (by exact hfi) ?_
   repeat (first | refine known_true (b := true) rfl ?_ | refine known_false (b := false) rfl ?_ | refine gr_ ?_ | intro _)
   refine AW_false (b := false) rfl (by first | rfl | (simp; done) | (simp; omega) | decide) ?_
   refine AW_skip ?_
   refine AW_weak (weak_of (l := [(0, .ptr rp 0),(1, .msl b 0 l.length cap),(2, .bool true),(6, .int .i64 n),(7, .str s),(8, .int .i64 (z : Nat))]) (m := []) (S' := RS rp L ts1 none :: .cells b (flG cD l ++ rest) :: R) e_ rfl w_) ?_
   repeat first|refine go_ ?_|intro _
   refine at_msl z (z * 6) rfl hlt (by show 0 + z * 6 = _; omega) ?_
   repeat first|refine go_ ?_|intro _
   refine load_one (.bool d.inp) rfl rfl (hget 3 _ (by decide) rfl) ?_
   repeat first|refine go_ ?_|intro _
   refine known_false (b := d.inp) (by exact hfi) ?_
   repeat first|refine go_ ?_|intro _
   refine at_msl z (z * 6) rfl hlt (by show 0 + z * 6 = _; omega) ?_
   repeat first|refine go_ ?_|intro _
   refine store_one (.bool true) (flG cD (l.set z (setF true l[z])) ++ rest) rfl rfl (hlen l rfl 3 (by decide)) (put_flag hlt (by decide) (flag_set true l[z])) ?_
   repeat first|refine gr_ ?_|intro _
   refine AW_weak (weak_of (l := [(0, .ptr rp 0),(1, .msl b 0 l.length cap),(2, .bool true),(6, .int .i64 n),(7, .str s),(8, .int .i64 (z : Nat))]) (m := []) (S' := RS rp L ts1 none :: .cells b (flG cD (l.set z (setF true l[z])) ++ rest) :: R) e_ rfl w_) ?_
   repeat first|refine go_ ?_|intro _
   refine at_msl z (z * 6) rfl hlt (by show 0 + z * 6 = _; omega) ?_
   repeat first|refine go_ ?_|intro _
   refine load_one (.bool d.out) rfl rfl (get_flag (hlt1 _) (by decide) (by rw [List.getElem_set_self,hd']; rfl)) ?_
   repeat first|refine go_ ?_|intro _
   have hm2 : ∀ x : Bool,d.out = x → (flG cD (l.set z (setF true l[z])) ++ rest).set (z * 6 + 4) (.bool x) = flG cD (l.set z (setF true l[z])) ++ rest := fun x hx => by
    rw [put_flag (hlt1 _) (by decide) (y := setF true l[z]) (by rw [List.getElem_set_self]; exact keep_out (hd' ▸ hx)),List.set_set]
   by_cases ho : d.out = true
   ·refine known_true (b := d.out) (by exact ho) ?_
    repeat first|refine ga_ ?_|intro _
    refine at_msl z (z * 6) rfl hlt (by show 0 + z * 6 = _; omega) ?_
    repeat first|refine go_ ?_|intro _
    refine store_one (.bool true) (flG cD (l.set z (setF true l[z])) ++ rest) rfl rfl (hlen _ (List.length_set ..) 4 (by decide)) (hm2 _ ho) ?_
    repeat first|refine go_ ?_|intro _
    refine AW_ret ?_
    have hsl : (l.set z (setF true l[z])) ≠ [] := by rw [ne_eq, ← List.length_eq_zero_iff,List.length_set]; omega
    obtain ⟨q1,q2⟩ := hpost ⟨l.set z (setF true l[z]),b,cap,rest,by rw [List.length_set]; exact h1,by rw [List.length_set]; exact h2⟩ rfl rfl hsl rfl (List.length_set ..)
    refine ⟨.tup [],RS rp L ts1 none :: .cells b (flG cD (l.set z (setF true l[z])) ++ rest) :: R,AVle.refl _,SLe.rfl,rfl,⟨l.set z (setF true l[z]),b,cap,rest,by rw [List.length_set]; exact h1,by rw [List.length_set]; exact h2⟩,ts1,none,by rw [q2]; rfl,q1,(List.length_set ..).trans (congrArg List.length hle),?_⟩
    show RQ ts e (markB true (d0 :: l0) ts) (l.set z (setF true l[z])) ts1 none
    rw [← hle]
    refine hq1.bind ((RQ.ok _ nz_none).of fun _ => ?_)
    rw [← hn,markI_some hlt hfind,if_neg hfl]
   ·have ho' : d.out = false := by simpa using ho
    refine known_false (b := d.out) (by exact ho') ?_
    repeat first|refine go_ ?_|intro _
    refine at_msl z (z * 6) rfl hlt (by show 0 + z * 6 = _; omega) ?_
    repeat first|refine go_ ?_|intro _
    refine store_one (.bool false) (flG cD (l.set z (setF true l[z])) ++ rest) rfl rfl (hlen _ (List.length_set ..) 4 (by decide)) (hm2 _ ho') ?_
    repeat first|refine go_ ?_|intro _
    refine AW_ret ?_
    have hsl : (l.set z (setF true l[z])) ≠ [] := by rw [ne_eq, ← List.length_eq_zero_iff,List.length_set]; omega
    obtain ⟨q1,q2⟩ := hpost ⟨l.set z (setF true l[z]),b,cap,rest,by rw [List.length_set]; exact h1,by rw [List.length_set]; exact h2⟩ rfl rfl hsl rfl (List.length_set ..)
    refine ⟨.tup [],RS rp L ts1 none :: .cells b (flG cD (l.set z (setF true l[z])) ++ rest) :: R,AVle.refl _,SLe.rfl,rfl,⟨l.set z (setF true l[z]),b,cap,rest,by rw [List.length_set]; exact h1,by rw [List.length_set]; exact h2⟩,ts1,none,by rw [q2]; rfl,q1,(List.length_set ..).trans (congrArg List.length hle),?_⟩
    show RQ ts e (markB true (d0 :: l0) ts) (l.set z (setF true l[z])) ts1 none
    rw [← hle]
    refine hq1.bind ((RQ.ok _ nz_none).of fun _ => ?_)
    rw [← hn,markI_some hlt hfind,if_neg hfl]
  | false =>
   repeat refine rg_ ?_
   refine AW_region tab_ok ?_
   repeat first|refine gr_ ?_|intro _
   repeat (first | refine known_true (b := true) rfl ?_ | refine known_false (b := false) rfl ?_ | refine gr_ ?_ | intro _)
   refine at_msl z (z * 6) rfl hlt (by show 0 + z * 6 = _; omega) ?_
   repeat first|refine go_ ?_|intro _
   refine load_one (.bool d.out) rfl rfl (hget 4 _ (by decide) rfl) ?_
   repeat (first | refine known_true (b := true) rfl ?_ | refine known_false (b := false) rfl ?_ | refine gr_ ?_ | intro _)
   by_cases hfl : d.out = true
   ·refine AW_true (b := d.out) rfl (by exact hfl) ?_
    repeat first|refine ga_ ?_|intro _
    refine Or.inl ⟨⟨_,Tryz.func59,rfl,rfl⟩,ACall.mono ?_ (ACall_upd 0 rfl (fail_ok rp L ts1 none hq1.nz 40 n))⟩
    rintro _ S1 ⟨rfl,hS1⟩
    subst S1
    repeat first|refine go_ ?_|intro _
    refine ⟨.tup [],RS rp L ts1 (failE none (40,n)) :: .cells b (flG cD l ++ rest) :: R,AVle.refl _,SLe.rfl,rfl,⟨d0 :: l0,b,cap,rest,k1,k2⟩,ts1,failE none (40,n),by rw [hS0]; rfl,rfl,rfl,?_⟩
    show RQ ts e (markB false (d0 :: l0) ts) (d0 :: l0) ts1 (failE none (40,n))
    rw [← hle]
    refine hq1.bind ((RQ.fail l (40,n) hq1.nz (by show (40 : Int) ≠ 0; decide)).of fun he => ?_)
    rw [← hn]
    rw [markI_some hlt hfind]
    exact (if_pos (by rw [← hd']; exact hfl)).symm
   have hfi : d.out = false := by simpa using hfl
   replace hfl : ¬ flag false l[z] = true := by rw [← hd']; exact hfl
   refine AW_false (b := d.out) rfl (by exact hfi) ?_
   refine AW_skip ?_
   refine AW_weak (weak_of (l := [(0, .ptr rp 0),(1, .msl b 0 l.length cap),(2, .bool false),(6, .int .i64 n),(7, .str s),(8, .int .i64 (z : Nat))]) (m := []) (S' := RS rp L ts1 none :: .cells b (flG cD l ++ rest) :: R) e_ rfl w_) ?_
   repeat first|refine go_ ?_|intro _
   refine at_msl z (z * 6) rfl hlt (by show 0 + z * 6 = _; omega) ?_
   repeat first|refine go_ ?_|intro _
   refine load_one (.bool d.inp) rfl rfl (hget 3 _ (by decide) rfl) ?_
   repeat first|refine go_ ?_|intro _
   have hm2 : ∀ x : Bool,d.inp = x → (flG cD l ++ rest).set (z * 6 + 3) (.bool x) = flG cD l ++ rest := fun x hx => by
    rw [put_flag hlt (by decide) (y := l[z]) (keep_in (hd' ▸ hx)),List.set_getElem_self]
   by_cases ho : d.inp = true
   ·refine known_true (b := d.inp) (by exact ho) ?_
    repeat (first | refine known_true (b := true) rfl ?_ | refine known_false (b := false) rfl ?_ | refine gr_ ?_ | intro _)
    refine at_msl z (z * 6) rfl hlt (by show 0 + z * 6 = _; omega) ?_
    repeat first|refine go_ ?_|intro _
    refine store_one (.bool true) (flG cD l ++ rest) rfl rfl (hlen l rfl 3 (by decide)) (hm2 _ ho) ?_
    repeat first|refine gr_ ?_|intro _
    refine AW_weak (weak_of (l := [(0, .ptr rp 0),(1, .msl b 0 l.length cap),(2, .bool false),(6, .int .i64 n),(7, .str s),(8, .int .i64 (z : Nat))]) (m := []) (S' := RS rp L ts1 none :: .cells b (flG cD l ++ rest) :: R) e_ rfl w_) ?_
    repeat first|refine go_ ?_|intro _
    refine at_msl z (z * 6) rfl hlt (by show 0 + z * 6 = _; omega) ?_
    repeat first|refine go_ ?_|intro _
    refine load_one (.bool d.out) rfl rfl (hget 4 _ (by decide) rfl) ?_
    repeat first|refine go_ ?_|intro _
    refine known_false (b := d.out) (by exact hfi) ?_
    repeat first|refine go_ ?_|intro _
    refine at_msl z (z * 6) rfl hlt (by show 0 + z * 6 = _; omega) ?_
    repeat first|refine go_ ?_|intro _
    refine store_one (.bool true) (flG cD (l.set z (setF false l[z])) ++ rest) rfl rfl (hlen l rfl 4 (by decide)) (put_flag hlt (by decide) (flag_set false l[z])) ?_
    repeat first|refine go_ ?_|intro _
    refine AW_ret ?_
    have hsl : (l.set z (setF false l[z])) ≠ [] := by rw [ne_eq, ← List.length_eq_zero_iff,List.length_set]; omega
    obtain ⟨q1,q2⟩ := hpost ⟨l.set z (setF false l[z]),b,cap,rest,by rw [List.length_set]; exact h1,by rw [List.length_set]; exact h2⟩ rfl rfl hsl rfl (List.length_set ..)
    refine ⟨.tup [],RS rp L ts1 none :: .cells b (flG cD (l.set z (setF false l[z])) ++ rest) :: R,AVle.refl _,SLe.rfl,rfl,⟨l.set z (setF false l[z]),b,cap,rest,by rw [List.length_set]; exact h1,by rw [List.length_set]; exact h2⟩,ts1,none,by rw [q2]; rfl,q1,(List.length_set ..).trans (congrArg List.length hle),?_⟩
    show RQ ts e (markB false (d0 :: l0) ts) (l.set z (setF false l[z])) ts1 none
    rw [← hle]
    refine hq1.bind ((RQ.ok _ nz_none).of fun _ => ?_)
    rw [← hn,markI_some hlt hfind,if_neg hfl]
   ·have ho' : d.inp = false := by simpa using ho
    refine known_false (b := d.inp) (by exact ho') ?_
    repeat (first | refine known_true (b := true) rfl ?_ | refine known_false (b := false) rfl ?_ | refine gr_ ?_ | intro _)
    refine at_msl z (z * 6) rfl hlt (by show 0 + z * 6 = _; omega) ?_
    repeat first|refine go_ ?_|intro _
    refine store_one (.bool false) (flG cD l ++ rest) rfl rfl (hlen l rfl 3 (by decide)) (hm2 _ ho') ?_
    repeat first|refine gr_ ?_|intro _
    refine AW_weak (weak_of (l := [(0, .ptr rp 0),(1, .msl b 0 l.length cap),(2, .bool false),(6, .int .i64 n),(7, .str s),(8, .int .i64 (z : Nat))]) (m := []) (S' := RS rp L ts1 none :: .cells b (flG cD l ++ rest) :: R) e_ rfl w_) ?_
    repeat first|refine go_ ?_|intro _
    refine at_msl z (z * 6) rfl hlt (by show 0 + z * 6 = _; omega) ?_
    repeat first|refine go_ ?_|intro _
    refine load_one (.bool d.out) rfl rfl (hget 4 _ (by decide) rfl) ?_
    repeat first|refine go_ ?_|intro _
    refine known_false (b := d.out) (by exact hfi) ?_
    repeat first|refine go_ ?_|intro _
    refine at_msl z (z * 6) rfl hlt (by show 0 + z * 6 = _; omega) ?_
    repeat first|refine go_ ?_|intro _
    refine store_one (.bool true) (flG cD (l.set z (setF false l[z])) ++ rest) rfl rfl (hlen l rfl 4 (by decide)) (put_flag hlt (by decide) (flag_set false l[z])) ?_
    repeat first|refine go_ ?_|intro _
    refine AW_ret ?_
    have hsl : (l.set z (setF false l[z])) ≠ [] := by rw [ne_eq, ← List.length_eq_zero_iff,List.length_set]; omega
    obtain ⟨q1,q2⟩ := hpost ⟨l.set z (setF false l[z]),b,cap,rest,by rw [List.length_set]; exact h1,by rw [List.length_set]; exact h2⟩ rfl rfl hsl rfl (List.length_set ..)
    refine ⟨.tup [],RS rp L ts1 none :: .cells b (flG cD (l.set z (setF false l[z])) ++ rest) :: R,AVle.refl _,SLe.rfl,rfl,⟨l.set z (setF false l[z]),b,cap,rest,by rw [List.length_set]; exact h1,by rw [List.length_set]; exact h2⟩,ts1,none,by rw [q2]; rfl,q1,(List.length_set ..).trans (congrArg List.length hle),?_⟩
    show RQ ts e (markB false (d0 :: l0) ts) (l.set z (setF false l[z])) ts1 none
    rw [← hle]
    refine hq1.bind ((RQ.ok _ nz_none).of fun _ => ?_)
    rw [← hn,markI_some hlt hfind,if_neg hfl]
end Go.Proofs.YtfeknkaioofljaaGreatDoor
