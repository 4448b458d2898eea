/-
 How many levels a term has: the book's. Own work.
-/
import Derived.Test.YtfeknkaioofljaaGreatDoorQ32
import Derived.Test.YtfeknkaioofljaaGreatDoorQ18
set_option linter.all false
set_option maxHeartbeats 4000000
set_option maxRecDepth 4000
namespace Go.Proofs.YtfeknkaioofljaaGreatDoor
open Go.Aw Go.RowKit Tree
theorem bHigh_ok : ∀ (n : Nat) (t : T),SizeOf.sizeOf t ≤ n → highT t ≤ 1000000 → ∀ (R : List En),ACall Tryz.prog 167 [encU t] R (fun r S => r = .int .i64 (highT t : Nat) ∧ S = R)
 | 0,t,hn,_,R => by cases t; simp at hn
 | n + 1,t,hn,hh,R => by
  have hs : ∀ x ∈ t.l,SizeOf.sizeOf x ≤ n := fun x hx => by
   cases t with
   | mk a b c l =>
    have := List.sizeOf_lt_of_mem (show x ∈ l from hx)
    simp at hn; omega
  have hte := highT_eq t
  have hb : ∀ x ∈ t.l,highT x ≤ 1000000 := fun x hx => by
   have := highs_ge hx
   omega
  refine ACall_sat fun hsat => ?_
  have hl : t.l.length ≤ 9223372036854775807 := by
   have := ((hsat _ (.head _)).agg (show AV.sl 4 (encTs t.l) .no ∈ cT t from .tail _ (.tail _ (.tail _ (.head _))))).sl
   rw [encTs_len] at this; exact this
  refine ACall_body tab_ok Tryz.func167 rfl rfl rfl (by kernel_rfl) (nb_ rfl) ?_
  repeat first|refine go_ ?_|intro _
  rename_i p
  refine AW_for (α := Nat × Nat) (fun z => ⟨[(1, .ptr p 0),(3, .int .i64 (z.2 : Nat)),(4, .int .i64 (z.1 : Nat))], []⟩) (fun z => .cells p (cT t) :: R) (fun z => t.l.length - z.1) (fun z => z.1 ≤ t.l.length ∧ highs t.l = max z.2 (highs (t.l.drop z.1))) ((0,0)) ?_ (weak_of ?_ rfl ?_) (fun z hz => ?_)
  ·refine ⟨Nat.zero_le _,?_⟩
   show highs t.l = max 0 (highs t.l); omega
  ·repeat (first | exact trivial | refine ⟨(AVle.eq (congrArg (AV.int .i64) (by simp))),?_⟩ | refine env_ ?_)
  ·exact l_
  obtain ⟨z,c⟩ := z
  obtain ⟨i1,i2⟩ : z ≤ t.l.length ∧ highs t.l = max c (highs (t.l.drop z)) := hz
  repeat first|refine go_ ?_|intro _
  refine AW_iff (z < t.l.length) rfl ib_ (fun h => ?_) (fun h => ?_)
  rotate_left
  ·have e : highs t.l = c := by rw [i2,List.drop_of_length_le (by omega),highs]; omega
   repeat first|refine ga_ ?_|intro _
   refine AW_ret ?_
   repeat refine mk_ ?_
   refine ⟨_,R,AVle.eq ?_,sle_,rfl,rfl⟩
   show AV.int .i64 (IntKind.i64.wrap ((c : Int) + 1)) = _
   rw [wrap_i64 (by omega),hte,e]; rfl
  have hlt := h
  obtain ⟨x,hx⟩ : ∃ x,x = t.l[z] := ⟨_,rfl⟩
  have hxm : x ∈ t.l := hx ▸ List.getElem_mem hlt
  rw [highs_drop hlt, ← hx] at i2
  have kx := fun R => bHigh_ok n x (hs x hxm) (hb x hxm) R
  repeat first|refine go_ ?_|intro _
  refine at_get (z) (encU x) (by first | rfl | omega | (rw [wrap_i64 (by omega)]; omega)) (by rw [hx]; exact encTs_get hlt) ?_
  repeat first|refine go_ ?_|intro _
  refine Or.inl ⟨⟨_,Tryz.func167,rfl,rfl⟩,ACall.mono ?_ (kx _)⟩
  rintro _ S1 ⟨rfl,hS1⟩
  subst S1
  repeat first|refine go_ ?_|intro _
  refine ⟨(z + 1,max c (highT x)),?_,?_,weak_of ?_ rfl ?_⟩
  ·exact Nat.sub_lt_sub_left hlt (Nat.lt_succ_self z)
  ·exact ⟨hlt,by show highs t.l = max (max c (highT x)) (highs (t.l.drop (z + 1))); omega⟩
  ·exact e_
  ·exact w_
theorem bExpr_ok (rp : Nat) (L : List Lx.Tok) (hL : L.length ≤ 20000) (hN : NumB L) (F : Nat) (hF : 20000 ≤ F) (ts : List Lx.Tok) (e : Option (Int × Int)) (hz : Nz e) (h : ts <:+ L) (R : List En) : ACall Tryz.prog 144 [.ptr rp 0] (RS rp L ts e :: R) (fun r S => ∃ x,S = x :: R ∧ BkQ rp L ts e encU (exprL F ts) noP r x) := by
 have hl := h.length_le
 refine ACall_body tab_ok Tryz.func144 rfl rfl rfl (by kernel_rfl) (nb_ rfl) ?_
 repeat first|refine go_ ?_|intro _
 rename_i b2
 refine Or.inl ⟨⟨_,Tryz.func57,rfl,rfl⟩,ACall.mono ?_ (ACall_same 1 rfl (here_ok rp L ts e 0 h hL (by decide)))⟩
 rintro _ S1 ⟨rfl,hS1⟩
 subst S1
 repeat first|refine go_ ?_|intro _
 refine Or.inl ⟨⟨_,Tryz.func166,rfl,rfl⟩,ACall.mono ?_ (ACall_at 1 rfl ((bSum_all rp L hL hN F).2 ts e _ hz h (by omega)))⟩
 rintro _ S1 ⟨x1,hS1,hq⟩
 subst S1
 obtain ⟨y,ts1,e1,rfl,rfl,hs1,hz1,hp1,hk1,hr1⟩ := hq.h
 have hb : highT y ≤ 1000000 := by unfold HP at hp1; omega
 repeat first|refine go_ ?_|intro _
 rename_i b4
 refine Or.inl ⟨⟨_,Tryz.func167,rfl,rfl⟩,ACall.mono ?_ (bHigh_ok _ y (Nat.le_refl _) hb _)⟩
 rintro _ S1 ⟨rfl,hS1⟩
 subst S1
 repeat first|refine go_ ?_|intro _
 by_cases hh : 20 < highT y
 ·refine AW_true (b := decide ((20 : Int) < (highT y : Nat))) rfl (by exact decide_eq_true (by omega)) ?_
  repeat first|refine go_ ?_|intro _
  refine Or.inl ⟨⟨_,Tryz.func59,rfl,rfl⟩,ACall.mono ?_ (ACall_upd 2 rfl (fail_ok rp L ts1 e1 hz1 41 (hd ts 0).line))⟩
  rintro _ S1 ⟨rfl,hS1⟩
  subst S1
  repeat first|refine go_ ?_|intro _
  refine AW_ret ?_
  refine ⟨rfl,1,_,rfl,⟨nb_ rfl,nb_ rfl⟩,encU y,RS rp L ts1 (failE e1 (41,(hd ts 0).line)) :: R,AVle.refl _,sle_,_,rfl,⟨y,ts1,_,rfl,rfl,hs1,nz_fail hz1 (by show (41 : Int) ≠ 0; decide),trivial,fun q hq => by rw [hk1 q hq]; rfl,fun he => ?_⟩⟩
  have h8 := hr1 he
  cases hp : sumL F ts with
  | error q =>
   rw [hp] at h8
   obtain rfl : e1 = some q := h8
   rw [exprL,hp]; rfl
  | ok w =>
   obtain ⟨y1,y2⟩ := w
   rw [hp] at h8
   obtain ⟨rfl,rfl,rfl⟩ : y = y1 ∧ ts1 = y2 ∧ e1 = none := h8
   rw [exprL,hp]; simp only [if_pos hh]; rfl
 ·refine AW_false (b := decide ((20 : Int) < (highT y : Nat))) rfl (by exact decide_eq_false (by omega)) ?_
  repeat first|refine go_ ?_|intro _
  refine AW_ret ?_
  refine ⟨rfl,1,_,rfl,⟨nb_ rfl,nb_ rfl⟩,encU y,RS rp L ts1 e1 :: R,AVle.refl _,sle_,_,rfl,⟨y,ts1,_,rfl,rfl,hs1,hz1,trivial,hk1,fun he => ?_⟩⟩
  have h8 := hr1 he
  cases hp : sumL F ts with
  | error q =>
   rw [hp] at h8
   obtain rfl : e1 = some q := h8
   rw [exprL,hp]
  | ok w =>
   obtain ⟨y1,y2⟩ := w
   rw [hp] at h8
   obtain ⟨rfl,rfl,rfl⟩ : y = y1 ∧ ts1 = y2 ∧ e1 = none := h8
   rw [exprL,hp]; simp only [if_neg hh]; exact ⟨trivial,trivial,trivial⟩
theorem bArg_ok (rp : Nat) (L : List Lx.Tok) (hL : L.length ≤ 20000) (hN : NumB L) (F : Nat) (hF : 20000 ≤ F) (ts : List Lx.Tok) (e : Option (Int × Int)) (hz : Nz e) (h : ts <:+ L) (R : List En) : ACall Tryz.prog 143 [.ptr rp 0] (RS rp L ts e :: R) (fun r S => ∃ x,S = x :: R ∧ BkQ rp L ts e encU (argL F ts) noP r x) := by
 refine ACall_body tab_ok Tryz.func143 rfl rfl rfl (by kernel_rfl) (nb_ rfl) ?_
 repeat first|refine go_ ?_|intro _
 rename_i b2
 refine Or.inl ⟨⟨_,Tryz.func61,rfl,rfl⟩,ACall.mono ?_ (ACall_upd 1 rfl (bTakes_ok rp L ts e hz 1 (by decide) [95] h hL))⟩
 rintro _ S1 ⟨rfl,hS1⟩
 subst S1
 repeat first|refine go_ ?_|intro _
 by_cases hs : isT ts 1 [95] e = true
 ·obtain ⟨hne,hk,hss,rfl⟩ := isT_ne hs (by decide)
  rw [if_pos hs]
  refine AW_true (b := isT ts 1 [95] none) rfl (by exact hs) ?_
  repeat first|refine go_ ?_|intro _
  refine AW_ret ?_
  refine ⟨rfl,0,_,rfl,⟨nb_ rfl,nb_ rfl⟩,encU (.mk 4 [] 0 []),RS rp L ts.tail none :: R,leU,sle_,_,rfl,bq_ok _ rfl tail_suf trivial ?_⟩
  rw [argL,if_pos ⟨hk,hss⟩]
 ·rw [if_neg hs]
  refine AW_false (b := isT ts 1 [95] e) rfl (by simpa using hs) ?_
  repeat first|refine go_ ?_|intro _
  refine Or.inl ⟨⟨_,Tryz.func144,rfl,rfl⟩,ACall.mono ?_ (ACall_at 1 rfl (bExpr_ok rp L hL hN F hF ts e hz h _))⟩
  rintro _ S1 ⟨x1,hS1,hq⟩
  subst S1
  obtain ⟨y,ts1,e1,rfl,rfl,hs1,hz1, -,hk1,hr1⟩ := hq.h
  repeat first|refine go_ ?_|intro _
  refine AW_ret ?_
  refine ⟨rfl,0,_,rfl,⟨nb_ rfl,nb_ rfl⟩,encU y,RS rp L ts1 e1 :: R,AVle.refl _,sle_,_,rfl,⟨y,ts1,e1,rfl,rfl,hs1,hz1,trivial,hk1,fun he => ?_⟩⟩
  have hno : ¬ ((hd ts 0).kind = 1 ∧ (hd ts 0).s = [95]) := fun hh => hs (by subst he; rw [isT,hh.1,hh.2]; rfl)
  rw [argL,if_neg hno]
  exact hr1 he
structure RQ {α : Type} (ts : List Lx.Tok) (e : Option (Int × Int)) (x : PR α) (v : α) (ts' : List Lx.Tok) (e' : Option (Int × Int)) : Prop where
 suf : ts' <:+ ts
 nz : Nz e'
 keep : ∀ q,e = some q → e' = some q
 res : e = none → match x with
  | .ok y => v = y.1 ∧ ts' = y.2 ∧ e' = none
  | .error q => e' = some q
def pbind {α β : Type} (x : PR α) (f : α → List Lx.Tok → PR β) : PR β := match x with
 | .error q => .error q
 | .ok (a,r) => f a r
theorem BkQ.rq {α : Type} {rp : Nat} {L ts : List Lx.Tok} {e : Option (Int × Int)} {enc : α → AV} {x : PR α} {P : α → List Lx.Tok → Prop} {r : AV} {st : En} (h : BkQ rp L ts e enc x P r st) : ∃ v ts' e',r = enc v ∧ st = RS rp L ts' e' ∧ P v ts' ∧ RQ ts e x v ts' e' := by
 obtain ⟨v,ts',e',h1,h2,h3,h4,h5,h6,h7⟩ := h.h
 exact ⟨v,ts',e',h1,h2,h5,h3,h4,h6,h7⟩
theorem RQ.bq {α : Type} {rp : Nat} {L ts ts' : List Lx.Tok} {e e' : Option (Int × Int)} {x : PR α} {v : α} {P : α → List Lx.Tok → Prop} (enc : α → AV) (h : RQ ts e x v ts' e') (hP : P v ts') : BkQ rp L ts e enc x P (enc v) (RS rp L ts' e') :=
 ⟨v,ts',e',rfl,rfl,h.suf,h.nz,hP,h.keep,h.res⟩
theorem RQ.ok {α : Type} {ts : List Lx.Tok} {e : Option (Int × Int)} (v : α) (hz : Nz e) : RQ ts e (.ok (v,ts)) v ts e :=
 ⟨List.suffix_refl _,hz,fun _ h => h,fun h => ⟨rfl,rfl,h⟩⟩
theorem RQ.fail {α : Type} {ts : List Lx.Tok} {e : Option (Int × Int)} (v : α) (q : Int × Int) (hz : Nz e) (hq : q.1 ≠ 0) : RQ ts e (.error q) v ts (failE e q) :=
 ⟨List.suffix_refl _,nz_fail hz hq,fun _ h => by subst h; rfl,fun h => by subst h; rfl⟩
theorem RQ.bind {α β : Type} {ts ts1 ts2 : List Lx.Tok} {e e1 e2 : Option (Int × Int)} {x : PR α} {v : α} {f : α → List Lx.Tok → PR β} {w : β} (h : RQ ts e x v ts1 e1) (k : RQ ts1 e1 (f v ts1) w ts2 e2) : RQ ts e (pbind x f) w ts2 e2 := by
 refine ⟨k.suf.trans h.suf,k.nz,fun q hq => k.keep q (h.keep q hq),fun he => ?_⟩
 have h8 := h.res he
 cases x with
 | error q => exact k.keep q h8
 | ok y =>
  obtain ⟨y1,y2⟩ := y
  obtain ⟨rfl,rfl,h9⟩ := h8
  exact k.res h9
theorem RQ.err {α β : Type} {ts ts1 ts2 : List Lx.Tok} {e1 e2 : Option (Int × Int)} {x : PR α} {v : α} {q : Int × Int} {y : PR β} {w : β} (h : RQ ts none (.error q : PR α) v ts1 e1) (k : RQ ts1 e1 y w ts2 e2) : RQ ts none (.error q) w ts2 e2 :=
 ⟨k.suf.trans h.suf,k.nz,nofun,fun _ => k.keep q (h.res rfl)⟩
theorem RQ.of {α : Type} {ts ts' : List Lx.Tok} {e e' : Option (Int × Int)} {x y : PR α} {v : α} (h : RQ ts e x v ts' e') (hx : e = none → x = y) : RQ ts e y v ts' e' :=
 ⟨h.suf,h.nz,h.keep,fun he => by rw [← hx he]; exact h.res he⟩
theorem RQ.must {ts : List Lx.Tok} {e : Option (Int × Int)} (s : List UInt8) (hz : Nz e) : RQ ts e (mustL s ts) () (mustR ts 4 s e) (mustE ts 4 s e) := by
 refine ⟨must_suf,must_nz hz,fun q h => by subst h; exact must_keep,fun h => ?_⟩
 subst h
 rw [mustL_of,mustR,mustE]
 by_cases hc : isT ts 4 s none = true
 ·rw [if_pos hc,if_pos hc,if_pos hc]; exact ⟨rfl,rfl,rfl⟩
 ·rw [if_neg hc,if_neg hc,if_neg hc]; rfl
theorem within_pb {α : Type} {o c : List UInt8} {what : List Lx.Tok → PR α} {ts : List Lx.Tok} : withinL o c what ts = pbind (mustL o ts) fun _ r => pbind (what r) fun x r' => pbind (mustL c r') fun _ r2 => .ok (x,r2) := by
 rw [withinL]
 cases mustL o ts with
 | error q => rfl
 | ok y =>
  show _ = pbind (what y.2) _
  simp only
  cases what y.2 with
  | error q => rfl
  | ok z =>
   show _ = pbind (mustL c z.2) _
   simp only
   cases mustL c z.2 with
   | error q => rfl
   | ok w => rfl
theorem RQ.within {α : Type} {o c : List UInt8} {what : List Lx.Tok → PR α} {ts ts2 : List Lx.Tok} {e e2 : Option (Int × Int)} {x : α} (hz : Nz e) (h : RQ (mustR ts 4 o e) (mustE ts 4 o e) (what (mustR ts 4 o e)) x ts2 e2) : RQ ts e (withinL o c what ts) x (mustR ts2 4 c e2) (mustE ts2 4 c e2) := by
 rw [within_pb]
 exact (RQ.must o hz).bind (h.bind ((RQ.must c h.nz).bind (RQ.ok x (must_nz h.nz))))
section
variable {α : Type}
structure LiB (one : α → List Lx.Tok → PR α) (len : α → Nat) (M : Nat) (x0 : α) (ts : List Lx.Tok) (e : Option (Int × Int)) (x : α) (ts2 : List Lx.Tok) (e2 : Option (Int × Int)) : Prop where
 suf : ts2 <:+ ts
 nz : Nz e2
 le : len x ≤ M
 keep : ∀ q,e = some q → e2 = some q
 head : e = none → e2 = none ∧ listGo one (M - len x) x ts2 = listGo one M x0 ts
variable {one : α → List Lx.Tok → PR α} {len : α → Nat} {M : Nat} {x0 x y : α} {ts ts2 ts3 : List Lx.Tok} {e e2 e3 : Option (Int × Int)}
theorem LiB.start (hz : Nz e) (h0 : len x0 = 0) : LiB one len M x0 ts e x0 ts e :=
 ⟨List.suffix_refl _,hz,by omega,fun _ h => h,fun h => ⟨h,by rw [h0,Nat.sub_zero]⟩⟩
theorem LiB.out {q : Int × Int} (h : LiB one len M x0 ts e x ts2 (some q)) : RQ ts e (listGo one M x0 ts) x ts2 (some q) :=
 ⟨h.suf,h.nz,h.keep,fun he => absurd (h.head he).1 (by simp)⟩
def fullE (len : α → Nat) (M : Nat) (x : α) (ts : List Lx.Tok) : Option (Int × Int) := if len x = M then some (21,(hd ts 0).line) else none
theorem full_nz : Nz (fullE len M x ts) := by
 rw [fullE]; split
 ·exact nz_some (by show (21 : Int) ≠ 0; decide)
 ·exact nz_none
theorem LiB.more (h : LiB one len M x0 ts e x ts2 none) (k : RQ ts2 (fullE len M x ts2) (one x ts2) y ts3 e3) (hy : len y = len x + 1) (hs : isT ts3 4 [44] e3 = true) : e3 = none ∧ LiB one len M x0 ts e y ts3.tail none := by
 obtain ⟨hne,hk,hss,rfl⟩ := isT_ne hs (by decide)
 have hle := h.le
 have hM : len x ≠ M := fun hM => by
  have := k.keep (21,(hd ts2 0).line) (by rw [fullE,if_pos hM])
  cases this
 have hf : fullE len M x ts2 = none := by rw [fullE,if_neg hM]
 refine ⟨rfl,tail_suf.trans (k.suf.trans h.suf),nz_none,by omega,fun q hq => absurd (h.keep q hq) (by simp),fun he => ⟨rfl,?_⟩⟩
 have hr := (h.head he).2
 have hk2 := k.res hf
 have e1 : M - len x = (M - len y) + 1 := by omega
 rw [e1,listGo] at hr
 cases hp : one x ts2 with
 | error q => rw [hp] at hk2; cases hk2
 | ok w =>
  obtain ⟨w1,w2⟩ := w
  rw [hp] at hk2 hr
  obtain ⟨rfl,rfl, -⟩ : y = w1 ∧ ts3 = w2 ∧ _ := hk2
  rw [← hr]
  simp only [takesL_of,if_pos hs]
theorem LiB.last (h : LiB one len M x0 ts e x ts2 none) (k : RQ ts2 (fullE len M x ts2) (one x ts2) y ts3 e3) (hs : isT ts3 4 [44] e3 = false) : RQ ts e (listGo one M x0 ts) y ts3 e3 := by
 refine ⟨k.suf.trans h.suf,k.nz,fun q hq => absurd (h.keep q hq) (by simp),fun he => ?_⟩
 have hr := (h.head he).2
 have hle := h.le
 rw [← hr]
 by_cases hM : len x = M
 ·have := k.keep (21,(hd ts2 0).line) (by rw [fullE,if_pos hM])
  rw [hM,Nat.sub_self,listGo]; exact this
 ·have hk2 := k.res (by rw [fullE,if_neg hM])
  have e1 : M - len x = (M - len x - 1) + 1 := by omega
  rw [e1,listGo]
  cases hp : one x ts2 with
  | error q => rw [hp] at hk2; exact hk2
  | ok w =>
   obtain ⟨w1,w2⟩ := w
   rw [hp] at hk2
   obtain ⟨rfl,rfl,rfl⟩ : y = w1 ∧ ts3 = w2 ∧ e3 = none := hk2
   have hn : ¬ isT ts3 4 [44] none = true := by rw [hs]; simp
   simp only [takesL_of,if_neg hn]
   exact ⟨trivial,trivial,trivial⟩
end
end Go.Proofs.YtfeknkaioofljaaGreatDoor
