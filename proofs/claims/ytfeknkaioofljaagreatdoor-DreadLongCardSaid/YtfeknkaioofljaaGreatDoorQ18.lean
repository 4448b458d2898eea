/-
 What stands between two signs; how high a term is; expressions; arguments. Own work.
-/
import Derived.Test.YtfeknkaioofljaaGreatDoorQ17
import Derived.Test.YtfeknkaioofljaaGreatDoorQ4
set_option linter.all false
set_option maxHeartbeats 4000000
set_option maxRecDepth 4000
namespace Go.Proofs.YtfeknkaioofljaaGreatDoor
open Go.Aw Go.RowKit Tree
open Lx (Tok)
section
variable {α β : Type}
def WhatOk (rp : Nat) (L : List Tok) (g : FuncId) (first cap : List AV) (what : List Tok → PR α) (pr : β → α) (st : β → List En) (b : β) : Prop := fnOk Tryz.prog g ∧ ∀ (ts : List Tok) (R : List En),ts <:+ L → NumG R →
 ACall Tryz.prog g (first ++ [] ++ cap) (RD rp L ts :: (st b ++ R)) (fun r S => ∃ b' ts' o,r = errO o ∧ S = RD rp L ts' :: (st b' ++ R) ∧ ts' <:+ L ∧ ResO (what ts) (pr b') ts' o)
theorem within_ok (rp : Nat) (L : List Tok) (hL : L.length ≤ 20000) (what : List Tok → PR α) (pr : β → α) (st : β → List En) (a c : List UInt8) (g : FuncId) (first cap : List AV) (b : β) (hg : WhatOk rp L g first cap what pr st b) (ts : List Tok) (R : List En) (hts : ts <:+ L) (hG : NumG R) :
  ACall Tryz.prog 93 [.ptr rp 0, .str a, .str c, .fn (.func g) first cap] (RD rp L ts :: (st b ++ R)) (fun r S => ∃ b' ts' o,r = errO o ∧ S = RD rp L ts' :: (st b' ++ R) ∧ ts' <:+ L ∧ ResO (withinL a c what ts) (pr b') ts' o) := by
 refine ACall_body tab_ok Tryz.func93 rfl rfl rfl (by kernel_rfl) (nb_ rfl) ?_
 repeat first|refine go_ ?_|intro _
 refine Or.inl ⟨⟨_,Tryz.func105,rfl,rfl⟩,ACall.mono ?_ (must_ok rp L ts a hts hL _)⟩
 rintro _ S1 ⟨e,hS1,hq⟩
 subst S1
 obtain ⟨ts1,o,rfl,hs1,rfl,ho⟩ := hq.cases (fun v r' h2 => (less_must h2).1.trans hts)
 cases o with
 | some q =>
  have ho : mustL a ts = .error q := ho
  repeat first|refine ga_ ?_|intro _
  refine AW_ret ?_
  exact ⟨_,RD rp L ts1 :: (st b ++ R),AVle.refl _,SLe.rfl,b,ts1,some q,rfl,rfl,hs1,by rw [withinL,ho]; rfl⟩
 | none =>
  obtain ⟨u,ho⟩ := ho
  repeat first|refine ga_ ?_|intro _
  refine Or.inl ⟨hg.1,ACall.mono ?_ (hg.2 ts1 R hs1 hG)⟩
  rintro _ S1 ⟨b',ts2,o,rfl,hS1,hs2,ho2⟩
  subst S1
  cases o with
  | some q =>
   have ho2 : what ts1 = .error q := ho2
   repeat first|refine ga_ ?_|intro _
   refine AW_ret ?_
   exact ⟨_,RD rp L ts2 :: (st b' ++ R),AVle.refl _,SLe.rfl,b',ts2,some q,rfl,rfl,hs2,by show withinL a c what ts = .error q; rw [withinL,ho]; show (match what ts1 with | .error e => _ | .ok (x,r') => _) = _; rw [ho2]⟩
  | none =>
   have ho2 : what ts1 = .ok (pr b',ts2) := ho2
   repeat first|refine ga_ ?_|intro _
   refine Or.inl ⟨⟨_,Tryz.func105,rfl,rfl⟩,ACall.mono ?_ (must_ok rp L ts2 c hs2 hL _)⟩
   rintro _ S1 ⟨e,hS1,hq⟩
   subst S1
   obtain ⟨ts3,o,rfl,hs3,rfl,ho3⟩ := hq.cases (fun v r' h2 => (less_must h2).1.trans hs2)
   repeat first|refine ga_ ?_|intro _
   refine AW_ret ?_
   refine ⟨_,RD rp L ts3 :: (st b' ++ R),AVle.refl _,SLe.rfl,b',ts3,o,rfl,rfl,hs3,?_⟩
   have e : withinL a c what ts = (match mustL c ts2 with | .error e => .error e | .ok (_,r2) => .ok (pr b',r2)) := by
    rw [withinL,ho]; show (match what ts1 with | .error e => _ | .ok (x,r') => _) = _; rw [ho2]; rfl
   rw [e]
   cases o with
   | some q => rw [show mustL c ts2 = .error q from ho3]; rfl
   | none => obtain ⟨u,hu⟩ := ho3; rw [hu]; rfl
end
theorem highT_eq (t : T) : highT t = highs t.l + 1 := by cases t; rw [highT]; rfl
theorem highs_ge {l : List T} {t : T} (h : t ∈ l) : highT t ≤ highs l := by
 induction l with
 | nil => cases h
 | cons a l ih =>
  rw [highs]
  cases h with
  | head => omega
  | tail _ h => have := ih h; omega
theorem highs_drop {l : List T} {z : Nat} (h : z < l.length) : highs (l.drop z) = max (highT l[z]) (highs (l.drop (z + 1))) := by
 rw [(List.getElem_cons_drop h).symm,highs]
theorem high_ok : ∀ (n : Nat) (t : T),SizeOf.sizeOf t ≤ n → highT t ≤ 1000000 → ∀ (R : List En),ACall Tryz.prog 164 [encU t] R (fun r S => r = .int .i64 (highT t : Nat) ∧ S = R)
 | 0,t,hn,_,R => by cases t; simp at hn
 | n + 1,t,hn,hh,R => by
  have hs : ∀ x ∈ t.l,SizeOf.sizeOf x ≤ n := fun x hx => by
   cases t with
   | mk a b c l =>
    have := List.sizeOf_lt_of_mem (show x ∈ l from hx)
    simp at hn; omega
  have hte := highT_eq t
  have hb : ∀ x ∈ t.l,highT x ≤ 1000000 := fun x hx => by
   have := highs_ge hx
   omega
  refine ACall_sat fun hsat => ?_
  have hl : t.l.length ≤ 9223372036854775807 := by
   have := ((hsat _ (.head _)).agg (show AV.sl 4 (encTs t.l) .no ∈ cT t from .tail _ (.tail _ (.tail _ (.head _))))).sl
   rw [encTs_len] at this; exact this
  refine ACall_body tab_ok Tryz.func164 rfl rfl rfl (by kernel_rfl) (nb_ rfl) ?_
  repeat first|refine go_ ?_|intro _
  rename_i p
  refine AW_for (α := Nat × Nat) (fun z => ⟨[(1, .ptr p 0),(3, .int .i64 (z.2 : Nat)),(7, .sl 4 (encTs t.l) .no),(8, .int .i64 (t.l.length : Nat)),(9, .int .i64 (z.1 : Nat))], []⟩) (fun z => .cells p (cT t) :: R) (fun z => t.l.length - z.1) (fun z => z.1 ≤ t.l.length ∧ highs t.l = max z.2 (highs (t.l.drop z.1))) ((0,0)) ?_ (weak_of ?_ rfl ?_) (fun z hz => ?_)
  ·refine ⟨Nat.zero_le _,?_⟩
   show highs t.l = max 0 (highs t.l); omega
  ·repeat (first | exact trivial | refine ⟨(AVle.eq (congrArg (AV.int .i64) (by simp))),?_⟩ | refine env_ ?_)
  ·exact l_
  obtain ⟨z,c⟩ := z
  obtain ⟨i1,i2⟩ : z ≤ t.l.length ∧ highs t.l = max c (highs (t.l.drop z)) := hz
  repeat first|refine go_ ?_|intro _
  refine AW_iff (z < t.l.length) rfl ib_ (fun h => ?_) (fun h => ?_)
  rotate_left
  ·have e : highs t.l = c := by rw [i2,List.drop_of_length_le (by omega),highs]; omega
   repeat first|refine ga_ ?_|intro _
   refine AW_ret ?_
   repeat refine mk_ ?_
   refine ⟨_,R,AVle.eq ?_,sle_,rfl,rfl⟩
   show AV.int .i64 (IntKind.i64.wrap ((c : Int) + 1)) = _
   rw [wrap_i64 (by omega),hte,e]; rfl
  have hlt := h
  obtain ⟨x,hx⟩ : ∃ x,x = t.l[z] := ⟨_,rfl⟩
  have hxm : x ∈ t.l := hx ▸ List.getElem_mem hlt
  rw [highs_drop hlt, ← hx] at i2
  have kx := fun R => high_ok n x (hs x hxm) (hb x hxm) R
  repeat first|refine go_ ?_|intro _
  refine at_get (z) (encU x) (by first | rfl | omega | (rw [wrap_i64 (by omega)]; omega)) (by rw [hx]; exact encTs_get hlt) ?_
  repeat first|refine go_ ?_|intro _
  refine Or.inl ⟨⟨_,Tryz.func164,rfl,rfl⟩,ACall.mono ?_ (kx _)⟩
  rintro _ S1 ⟨rfl,hS1⟩
  subst S1
  repeat first|refine go_ ?_|intro _
  refine ⟨(z + 1,max c (highT x)),?_,?_,weak_of ?_ rfl ?_⟩
  ·exact Nat.sub_lt_sub_left hlt (Nat.lt_succ_self z)
  ·exact ⟨hlt,by show highs t.l = max (max c (highT x)) (highs (t.l.drop (z + 1))); omega⟩
  ·exact e_
  ·exact w_
end Go.Proofs.YtfeknkaioofljaaGreatDoor
namespace Go.Proofs.YtfeknkaioofljaaGreatDoor
open Go.Aw Go.RowKit Tree
open Lx (Tok)
def Lows (part : List Tok → PR T) : Prop := ∀ ts x r,part ts = .ok (x,r) → highT x + r.length ≤ ts.length
theorem highT_leaf (a : Int) (s : List UInt8) (n : Int) : highT (.mk a s n []) = 1 := by rw [highT,highs]
theorem low_tail {ts : List Tok} (h : (hd ts 0).kind ≠ 0) : 1 + ts.tail.length ≤ ts.length := by have := tail_len h; omega
theorem low_go {part : List Tok → PR T} {ops : List UInt8 → Int} (hp : Lows part) : ∀ (k : Nat) (x : T) (ts : List Tok) (y : T) (r : List Tok),chainGo part ops k x ts = .ok (y,r) → highT y + r.length ≤ highT x + ts.length
 | 0,x,ts,y,r,h => by
  rw [chainGo] at h
  injection h with h; injection h with h1 h; subst h h1; omega
 | k + 1,x,ts,y,r,h => by
  rw [chainGo] at h
  split at h
  ·rename_i hk
   split at h
   ·cases h
   ·rename_i y' r' hr
    split at h
    ·cases h
    ·have h1 := low_go hp k _ r' y r h
     have h2 := hp _ _ _ hr
     have h3 := low_tail (ts := ts) (by rw [hk.1]; decide)
     rw [highT,highs,highs,highs] at h1
     omega
  ·injection h with h; injection h with h1 h; subst h h1; omega
theorem low_chain {part : List Tok → PR T} {ops : List UInt8 → Int} (hp : Lows part) : Lows (chainL part ops) := fun ts x r h => by
 rw [chainL] at h
 split at h
 ·cases h
 ·rename_i y r' hr
  have h1 := hp _ _ _ hr
  have h2 := low_go hp _ _ _ _ _ h
  omega
theorem low_num {z : Int} : Lows (numL z) := fun ts x r h => by
 rw [numL] at h
 split at h
 ·rename_i hn
  injection h with h; injection h with h1 h2; subst h1 h2
  rw [highT_leaf]; exact low_tail (by rw [hn]; decide)
 ·cases h
theorem low_thing : ∀ n,Lows (thingL n)
 | 0 => fun ts x r h => by rw [thingL] at h; cases h
 | n + 1 => fun ts x r h => by
  have hs : Lows (chainL (chainL (thingL n) opsP) opsS) := low_chain (low_chain (low_thing n))
  rw [thingL] at h
  split at h
  ·exact low_num _ _ _ h
  ·split at h
   ·rename_i hk
    injection h with h; injection h with h1 h; subst h h1
    rw [highT_leaf]; exact low_tail (by rw [hk]; decide)
   ·split at h
    ·rename_i hk
     injection h with h; injection h with h1 h; subst h h1
     rw [highT_leaf]; exact low_tail (by rw [name_kind hk]; decide)
    ·split at h
     ·rename_i r1 h1
      have := low_num _ _ _ h
      have := (less_takes h1).2
      omega
     ·split at h
      ·rename_i r1 h1
       rw [within1] at h
       split at h
       ·cases h
       ·rename_i y r2 h2
        split at h
        ·cases h
        ·rename_i u r3 h3
         injection h with h; injection h with h4 h; subst h h4
         have := hs _ _ _ h2
         have := (less_takes h1).2
         have := (less_must h3).2
         omega
      ·cases h
theorem low_sum (n : Nat) : Lows (sumL n) := low_chain (low_chain (low_thing n))
theorem expr_ok (rp : Nat) (L : List Tok) (hL : L.length ≤ 20000) (hN : NumT L) (F : Nat) (hF : L.length ≤ F) (ts : List Tok) (h : ts <:+ L) (R : List En) (hG : NumG R) : ACall Tryz.prog 138 [.ptr rp 0] (RD rp L ts :: R) (fun r S => ∃ e,S = e :: R ∧ QT rp L encU (exprL F ts) r e) := by
 refine ACall_body tab_ok Tryz.func138 rfl rfl rfl (by kernel_rfl) (nb_ rfl) ?_
 repeat first|refine go_ ?_|intro _
 rename_i b2
 refine Or.inl ⟨⟨_,Tryz.func51,rfl,rfl⟩,ACall.mono ?_ (ACall_same 1 rfl (ahead_ok rp L ts 0 h hL (by decide)))⟩
 rintro _ S1 ⟨rfl,hS1⟩
 subst S1
 repeat first|refine go_ ?_|intro _
 have hlen := h.length_le
 refine Or.inl ⟨⟨_,Tryz.func163,rfl,rfl⟩,ACall.mono ?_ (ACall_at 1 rfl ((sum_all rp L hL hN F).2 ts _ h (by omega) hG.cons))⟩
 rintro _ S1 ⟨e,hS1,hq⟩
 subst S1
 obtain ⟨x,ts1,o,rfl,hs1,rfl,ho⟩ := hq.cases (fun v r' h2 => (eats_sum F _ _ _ h2).1.trans h)
 repeat first|refine gr_ ?_|intro _
 rename_i b5
 refine AW_weak (weak_of (l := [(0, .ptr rp 0),(2, .ptr b2 0),(4, .int .i64 (hd ts 0).line),(5, .ptr b5 0),(6,errO o)]) (m := []) (S' := .cells b5 (cT x) :: .cells b2 [.int .i64 0, .str [], .int .i64 0, .sl 0 [] .full] :: RD rp L ts1 :: R) e_ rfl w_) ?_
 cases o with
 | some q =>
  have ho : sumL F ts = .error q := ho
  repeat first|refine ga_ ?_|intro _
  refine AW_ret ?_
  exact ⟨rfl,1,_,rfl,⟨nb_ rfl,nb_ rfl⟩, .tup [encU x,errO (some q)],RD rp L ts1 :: R,AVle.refl _,sle_,_,rfl,QT.of hs1 (by rw [exprL,ho]; rfl)⟩
 | none =>
  have ho : sumL F ts = .ok (x,ts1) := ho
  have hlow := low_sum F _ _ _ ho
  repeat first|refine ga_ ?_|intro _
  refine Or.inl ⟨⟨_,Tryz.func164,rfl,rfl⟩,ACall.mono ?_ (high_ok _ x (Nat.le_refl _) (by omega) _)⟩
  rintro _ S1 ⟨rfl,hS1⟩
  subst S1
  repeat first|refine go_ ?_|intro _
  by_cases hh : 20 < highT x
  ·refine AW_true (b := decide ((20 : Int) < (highT x : Nat))) rfl (by exact decide_eq_true (by omega)) ?_
   repeat first|refine ga_ ?_|intro _
   refine AW_ret ?_
   exact ⟨rfl,1,_,rfl,⟨nb_ rfl,nb_ rfl⟩, .tup [encU x,errO (some (41,(hd ts 0).line))],RD rp L ts1 :: R,AVle.refl _,sle_,_,rfl,QT.of hs1 (by rw [exprL,ho]; exact if_pos hh)⟩
  ·refine AW_false (b := decide ((20 : Int) < (highT x : Nat))) rfl (by exact decide_eq_false (by omega)) ?_
   repeat first|refine ga_ ?_|intro _
   refine AW_ret ?_
   exact ⟨rfl,1,_,rfl,⟨nb_ rfl,nb_ rfl⟩, .tup [encU x,errO none],RD rp L ts1 :: R,AVle.refl _,sle_,_,rfl,QT.of hs1 (by rw [exprL,ho]; exact if_neg hh)⟩
theorem arg_ok (rp : Nat) (L : List Tok) (hL : L.length ≤ 20000) (hN : NumT L) (F : Nat) (hF : L.length ≤ F) (ts : List Tok) (h : ts <:+ L) (R : List En) (hG : NumG R) : ACall Tryz.prog 136 [.ptr rp 0] (RD rp L ts :: R) (fun r S => ∃ e,S = e :: R ∧ QT rp L encU (argL F ts) r e) := by
 refine ACall_body tab_ok Tryz.func136 rfl rfl rfl (by kernel_rfl) (nb_ rfl) ?_
 repeat first|refine go_ ?_|intro _
 rename_i b2
 refine Or.inl ⟨⟨_,Tryz.func51,rfl,rfl⟩,ACall.mono ?_ (ACall_same 1 rfl (ahead_ok rp L ts 0 h hL (by decide)))⟩
 rintro _ S1 ⟨rfl,hS1⟩
 subst S1
 repeat first|refine gr_ ?_|intro _
 rename_i b4
 refine AW_weak (weak_of (l := [(0, .ptr rp 0),(2, .ptr b2 0),(4, .ptr b4 0)]) (m := []) (S' := .cells b4 [.int .i64 (hd ts 0).kind, .str (hd ts 0).s, .int .i64 (hd ts 0).line] :: .cells b2 [.int .i64 0, .str [], .int .i64 0, .sl 0 [] .full] :: RD rp L ts :: R) e_ rfl w_) ?_
 have hno : ¬ ((hd ts 0).kind = 1 ∧ (hd ts 0).s = [95]) → argL F ts = exprL F ts := fun hh => by rw [argL,if_neg hh]
 repeat first|refine go_ ?_|intro _
 by_cases hk : (hd ts 0).kind = 1
 ·refine known_true (b := decide ((hd ts 0).kind = 1)) (by exact decide_eq_true hk) ?_
  repeat first|refine go_ ?_|intro _
  by_cases hz : (hd ts 0).s = [95]
  ·have hne := hd_ne (ts := ts) (by rw [hk]; decide)
   refine AW_true (b := decide ((hd ts 0).s = [95])) rfl (by exact decide_eq_true hz) ?_
   repeat first|refine go_ ?_|intro _
   refine AW_ret ?_
   refine ⟨rfl,1,_,rfl,⟨nb_ rfl,nb_ rfl⟩, .tup [encU (.mk 4 [] 0 []), .nilif],RD rp L ts.tail :: R,le2 leU,SLe.tail (SLe.tail (SLe.of_eq (congrArg (· :: R) (RD_next h hne hL)))),_,rfl,?_⟩
   rw [argL,if_pos ⟨hk,hz⟩]; exact ⟨rfl,rfl⟩
  ·refine AW_false (b := decide ((hd ts 0).s = [95])) rfl (by exact decide_eq_false hz) ?_
   repeat first|refine ga_ ?_|intro _
   refine Or.inl ⟨⟨_,Tryz.func138,rfl,rfl⟩,ACall.mono ?_ (ACall_at 2 rfl (expr_ok rp L hL hN F hF ts h _ hG.cons.cons))⟩
   rintro _ S1 ⟨e,hS1,hq⟩
   subst S1
   obtain ⟨x,ts1,o,rfl,hs1,rfl,ho⟩ := hq.cases (fun v r' h2 => (eats_expr F _ _ _ h2).1.trans h)
   repeat first|refine go_ ?_|intro _
   refine AW_ret ?_
   exact ⟨rfl,1,_,rfl,⟨nb_ rfl,nb_ rfl⟩, .tup [encU x,errO o],RD rp L ts1 :: R,AVle.refl _,sle_,_,rfl,QT.of hs1 (by rw [hno (fun hh => hz hh.2)]; exact ho)⟩
 ·refine known_false (b := decide ((hd ts 0).kind = 1)) (by exact decide_eq_false hk) ?_
  repeat first|refine ga_ ?_|intro _
  refine Or.inl ⟨⟨_,Tryz.func138,rfl,rfl⟩,ACall.mono ?_ (ACall_at 2 rfl (expr_ok rp L hL hN F hF ts h _ hG.cons.cons))⟩
  rintro _ S1 ⟨e,hS1,hq⟩
  subst S1
  obtain ⟨x,ts1,o,rfl,hs1,rfl,ho⟩ := hq.cases (fun v r' h2 => (eats_expr F _ _ _ h2).1.trans h)
  repeat first|refine go_ ?_|intro _
  refine AW_ret ?_
  exact ⟨rfl,1,_,rfl,⟨nb_ rfl,nb_ rfl⟩, .tup [encU x,errO o],RD rp L ts1 :: R,AVle.refl _,sle_,_,rfl,QT.of hs1 (by rw [hno (fun hh => hk hh.1)]; exact ho)⟩
structure Gr (α : Type) (sz : Nat) where
 l : List α
 b : Nat
 cap : Nat
 rest : List AV
 h1 : l.length ≤ cap
 h2 : rest.length = (cap - l.length) * sz
def flG {α : Type} (c : α → List AV) (l : List α) : List AV := (l.map c).flatten
theorem flG_app {α : Type} {c : α → List AV} (l m : List α) : flG c (l ++ m) = flG c l ++ flG c m := by simp [flG]
theorem flG_one {α : Type} {c : α → List AV} (x : α) : flG c [x] = c x := by simp [flG]
theorem flG_len {α : Type} {c : α → List AV} {sz : Nat} (h : ∀ x,(c x).length = sz) : ∀ l : List α,(flG c l).length = l.length * sz
 | [] => by simp [flG]
 | x :: l => by
  have := flG_len h l
  rw [show x :: l = [x] ++ l from rfl,flG_app,flG_one,List.length_append,this,h]
  simp [Nat.add_mul]; omega
section
variable {α : Type} {sz : Nat}
def grL (g : Gr α sz) : AV := match g.l with
 | [] => .sl 0 [] .full
 | _ :: _ => .msl g.b 0 g.l.length g.cap
def grS (c : α → List AV) (g : Gr α sz) : List En := match g.l with
 | [] => []
 | _ :: _ => [.cells g.b (flG c g.l ++ g.rest)]
def grN : Gr α sz := ⟨[],0,0, [],Nat.le_refl _,by simp⟩
def grF (x : α) (b cap : Nat) (rest : List AV) (h1 : 1 ≤ cap) (h2 : rest.length = (cap - 1) * sz) : Gr α sz := ⟨[x],b,cap,rest,h1,h2⟩
def grI (g : Gr α sz) (x : α) (h : g.l.length + 1 ≤ g.cap) : Gr α sz := ⟨g.l ++ [x],g.b,g.cap,g.rest.drop sz,by simpa using h,by
 have : g.cap - g.l.length = (g.cap - (g.l.length + 1)) + 1 := by omega
 rw [List.length_drop,g.h2,List.length_append,List.length_singleton,this,Nat.add_mul]; omega⟩
def grA (g : Gr α sz) (x : α) (b cap : Nat) (rest : List AV) (h1 : g.l.length + 1 ≤ cap) (h2 : rest.length = (cap - (g.l.length + 1)) * sz) : Gr α sz := ⟨g.l ++ [x],b,cap,rest,by simpa using h1,by simpa using h2⟩
theorem grL_ne {g : Gr α sz} (h : g.l ≠ []) : grL g = .msl g.b 0 g.l.length g.cap := by
 unfold grL; cases hl : g.l with
 | nil => exact absurd hl h
 | cons a r => rfl
theorem grS_ne {c : α → List AV} {g : Gr α sz} (h : g.l ≠ []) : grS c g = [.cells g.b (flG c g.l ++ g.rest)] := by
 unfold grS; cases hl : g.l with
 | nil => exact absurd hl h
 | cons a r => rfl
variable {c : α → List AV}
theorem room_len (hc : ∀ x,(c x).length = sz) (g : Gr α sz) (h : g.l.length + 1 ≤ g.cap) : (flG c g.l ++ g.rest).length = g.cap * sz ∧ sz ≤ g.rest.length ∧ g.l.length * sz + sz ≤ g.cap * sz := by
 have e : g.cap - g.l.length = (g.cap - (g.l.length + 1)) + 1 := by omega
 have h3 := Nat.mul_le_mul_right sz h
 rw [Nat.add_mul,Nat.one_mul] at h3
 have h4 : (g.cap - g.l.length) * sz = g.cap * sz - g.l.length * sz := Nat.mul_sub_right_distrib ..
 rw [List.length_append,flG_len hc,g.h2]
 refine ⟨by omega,by omega,h3⟩
theorem put_in (hc : ∀ x,(c x).length = sz) (g : Gr α sz) (z : List AV) (hz : z.length = sz) : setCells (flG c g.l ++ g.rest) (0 + g.l.length * sz) z = flG c g.l ++ (z ++ g.rest.drop sz) := by
 rw [put_all (by rw [flG_len hc]; omega),hz]
theorem put_on (hc : ∀ x,(c x).length = sz) (l : List α) (x : α) (z rest : List AV) (hz : z.length = sz) (o : Nat) (ho : o = l.length * sz) : setCells (flG c l ++ (z ++ rest)) o (c x) = flG c (l ++ [x]) ++ rest := by
 rw [put_all (by rw [flG_len hc,ho]),flG_app,flG_one,List.append_assoc,hc]
 rw [List.drop_left' hz]
theorem put_on' (hc : ∀ x,(c x).length = sz) (l : List α) (x : α) (z rest : List AV) (hz : z.length = sz) (o : Nat) (ho : o = l.length * sz) : setCells ((flG c l ++ z) ++ rest) o (c x) = flG c (l ++ [x]) ++ rest := by
 rw [List.append_assoc]; exact put_on hc l x z rest hz o ho
theorem old_cells (hc : ∀ x,(c x).length = sz) (g : Gr α sz) (z : List AV) : ((flG c g.l ++ g.rest).drop 0).take (g.l.length * sz) ++ z = flG c g.l ++ z := by
 rw [List.drop_zero,List.take_left' (flG_len hc _)]
end
theorem cT_len (x : T) : (cT x).length = 4 := rfl
end Go.Proofs.YtfeknkaioofljaaGreatDoor
namespace Go.Proofs.YtfeknkaioofljaaGreatDoor
open Go.Aw Go.RowKit Tree
open Lx (Tok)
def stA (rp b1 b6 : Nat) (s : List UInt8) (g : Gr T 4) : List En := .cells b1 [.ptr rp 0] :: .cells b6 [.str s,grL g] :: grS cT g
def zT : List AV := [.int .i64 0, .str [], .int .i64 0, .sl 0 [] .full]
theorem argStep_ok (rp : Nat) (L : List Tok) (hL : L.length ≤ 20000) (hN : NumT L) (F : Nat) (hF : L.length ≤ F) (b1 b6 : Nat) (s : List UInt8) : OneOk rp L 135 [] [.ptr b1 0, .ptr b6 0] (argStep F) (fun g : Gr T 4 => g.l) (fun g => g.l.length) (stA rp b1 b6 s) := by
 refine ⟨⟨_,Tryz.func135,rfl,rfl⟩,?_⟩
 intro g ts R hts hG hbz
 show ACall Tryz.prog 135 [.ptr b1 0, .ptr b6 0] (RD rp L ts :: .cells b1 [.ptr rp 0] :: .cells b6 [.str s,grL g] :: (grS cT g ++ R)) _
 refine ACall_body tab_ok Tryz.func135 rfl rfl rfl (by kernel_rfl) (nb_ rfl) ?_
 repeat first|refine go_ ?_|intro _
 refine Or.inl ⟨⟨_,Tryz.func136,rfl,rfl⟩,ACall.mono ?_ (ACall_at 0 rfl (arg_ok rp L hL hN F hF ts hts _ (NumG.cons (NumG.cons (NumG.app hG)))))⟩
 rintro _ S1 ⟨e,hS1,hq⟩
 subst S1
 obtain ⟨x,ts1,o,rfl,hs1,rfl,ho⟩ := hq.cases (fun v r' h2 => (eats_arg F _ _ _ h2).1.trans hts)
 repeat first|refine gr_ ?_|intro _
 rename_i b3
 refine AW_weak (weak_of (l := [(0, .ptr b1 0),(1, .ptr b6 0),(3, .ptr b3 0),(4,errO o)]) (m := []) (S' := .cells b3 (cT x) :: RD rp L ts1 :: .cells b1 [.ptr rp 0] :: .cells b6 [.str s,grL g] :: (grS cT g ++ R)) e_ rfl w_) ?_
 refine AW_cut1 (α := Gr T 4) (fun z => ⟨[(4,errO o)], []⟩) (fun z => grS cT z ++ (RD rp L ts1 :: .cells b1 [.ptr rp 0] :: .cells b6 [.str s,grL z] :: R)) (fun z => z.l = g.l ++ [x]) ?_ (fun z hz => ?_)
 ·obtain ⟨l,b,cap,rest,h1,h2⟩ := g
  cases l with
  | nil =>
   show AW _ _ _ _ _ (.cells b3 (cT x) :: RD rp L ts1 :: .cells b1 [.ptr rp 0] :: .cells b6 [.str s, .sl 0 [] .full] :: R) _
   refine AW_drawT ([.cells b3 (cT x),RD rp L ts1, .cells b1 [.ptr rp 0], .cells b6 [.str s, .sl 0 [] .full]]) tab_ok mixed [0,1,2,3,4] (.one true 5 (.more true 6 (.more true 7 (.one true 8 (.one true 9 .leaf)) (.one true 8 (.more true 7 (.one true 9 .leaf) (.one true 9 (.one true 7 .leaf))))) (.one true 8 (.more true 6 (.more true 7 (.one true 9 .leaf) (.one true 9 (.one true 7 .leaf))) (.one true 9 (.one true 6 (.one true 7 .leaf))))))) (by first | rfl | kernel_rfl) ⟨_,List.Perm.refl _⟩ ?_
   repeat (first | refine det_stepX rfl ?_ | refine go_ ?_ | intro _)
   refine ⟨room (nb_ rfl) rfl, .inl rfl, .inr (.inr ⟨rfl,rfl,zT,1,rfl,rfl,fun b2 cap2 rest2 hc2 _ hr2 => ?_⟩)⟩
   show aT _ _ _ _ _ _ (.cells b2 (zT ++ rest2) :: .cells b3 (cT x) :: RD rp L ts1 :: .cells b1 [.ptr rp 0] :: .cells b6 [.str s, .sl 0 [] .full] :: R) _
   repeat' (first | refine go_ ?_ | intro _ | refine at_msl 0 0 rfl (by decide) rfl ?_ | refine And.intro ?_ ?_)
   all_goals refine ⟨grF x b2 cap2 rest2 hc2 hr2,rfl,weak_of ?_ rfl ?_⟩
   all_goals first | (repeat (first | exact trivial | refine env_ ?_)) | skip
   all_goals first | (refine SW.le ?_; repeat (first | exact SW.nil | refine sw_ ?_)) | skip
  | cons y r =>
   have hl : (y :: r).length ≤ 3000 := hbz
   show AW _ _ _ _ _ (.cells b3 (cT x) :: RD rp L ts1 :: .cells b1 [.ptr rp 0] :: .cells b6 [.str s, .msl b 0 (y :: r).length cap] :: .cells b (flG cT (y :: r) ++ rest) :: R) _
   refine AW_weak (weak_of (l := [(0, .ptr b1 0),(1, .ptr b6 0),(3, .ptr b3 0),(4,errO o)]) (m := []) (S' := .cells b (flG cT (y :: r) ++ rest) :: .cells b3 (cT x) :: RD rp L ts1 :: .cells b1 [.ptr rp 0] :: .cells b6 [.str s, .msl b 0 (y :: r).length cap] :: R) ?_ rfl ((fun w0 K w h => h.perm (List.perm_middle (l₁ := [_,_,_,_])).symm))) ?_
   ·exact e_
   have hle : ((y :: r) ++ [x]).length = (y :: r).length + 1 := by rw [List.length_append]; rfl
   have ho4 : 0 + (y :: r).length * 4 = (y :: r).length * 4 := by omega
   by_cases hroom : (y :: r).length + 1 ≤ cap
   ·obtain ⟨k1,k2,k3⟩ := room_len cT_len ⟨y :: r,b,cap,rest,h1,h2⟩ hroom
    have k1 : (flG cT (y :: r) ++ rest).length = cap * 4 := k1
    have k2 : 4 ≤ rest.length := k2
    have k3 : (y :: r).length * 4 + 4 ≤ cap * 4 := k3
    refine AW_drawT ([.cells b (flG cT (y :: r) ++ rest), .cells b3 (cT x),RD rp L ts1, .cells b1 [.ptr rp 0], .cells b6 [.str s, .msl b 0 (y :: r).length cap]]) tab_ok mixed [0,1,2,3,4] (.one true 5 (.more true 6 (.more true 7 (.one true 8 (.one true 9 .leaf)) (.one true 8 (.more true 7 (.one true 9 .leaf) (.one true 9 (.one true 7 .leaf))))) (.one true 8 (.more true 6 (.more true 7 (.one true 9 .leaf) (.one true 9 (.one true 7 .leaf))) (.one true 9 (.one true 6 (.one true 7 .leaf))))))) (by first | rfl | kernel_rfl) ⟨_,List.Perm.refl _⟩ ?_
    repeat (first | refine det_stepX rfl ?_ | refine go_ ?_ | intro _)
    refine ⟨1,0,_,room (by omega) rfl,rfl,by show 0 + (y :: r).length * 4 ≤ _; omega, .inl ⟨.inl ⟨_,rfl⟩,zT,⟨.inl rfl,rfl,rfl⟩,fun _ => ⟨by show 0 + ((y :: r).length + 1) * 4 ≤ _; omega,_,put_in cT_len ⟨y :: r,b,cap,rest,h1,h2⟩ zT rfl,?_⟩,fun hc => absurd hc (by omega)⟩⟩
    show aT _ _ _ _ _ _ (.cells b (flG cT (y :: r) ++ (zT ++ rest.drop 4)) :: .cells b3 (cT x) :: RD rp L ts1 :: .cells b1 [.ptr rp 0] :: .cells b6 [.str s, .msl b 0 (y :: r).length cap] :: R) _
    have hlen2 : (y :: r).length * 4 + 4 ≤ (flG cT (y :: r) ++ (zT ++ rest.drop 4)).length := by
     rw [List.length_append,flG_len cT_len,List.length_append,show zT.length = 4 from rfl]; omega
    repeat' (first | refine go_ ?_ | intro _ | refine at_msl (y :: r).length ((y :: r).length * 4) rfl (Nat.lt_succ_self _) ho4 ?_ | refine ⟨hlen2,_,put_on cT_len (y :: r) x zT (rest.drop 4) rfl _ rfl,?_⟩ | refine And.intro ?_ ?_)
    all_goals refine ⟨grI ⟨y :: r,b,cap,rest,h1,h2⟩ x hroom,rfl,weak_of ?_ rfl ?_⟩
    all_goals first | (repeat (first | exact trivial | refine env_ ?_)) | skip
    all_goals (show SLe _ (.cells b (flG cT ((y :: r) ++ [x]) ++ rest.drop 4) :: RD rp L ts1 :: .cells b1 [.ptr rp 0] :: .cells b6 [.str s, .msl b 0 ((y :: r) ++ [x]).length cap] :: R); rw [hle]; refine SW.le ?_; repeat (first | exact SW.nil | refine sw_ ?_))
   ·have k1 : (flG cT (y :: r) ++ rest).length = (y :: r).length * 4 + rest.length := by rw [List.length_append,flG_len cT_len]
    refine AW_drawT ([.cells b (flG cT (y :: r) ++ rest), .cells b3 (cT x),RD rp L ts1, .cells b1 [.ptr rp 0], .cells b6 [.str s, .msl b 0 (y :: r).length cap]]) tab_ok mixed [0,1,2,3,4] (.one true 5 (.more true 6 (.more true 7 (.one true 8 (.one true 9 .leaf)) (.one true 8 (.more true 7 (.one true 9 .leaf) (.one true 9 (.one true 7 .leaf))))) (.one true 8 (.more true 6 (.more true 7 (.one true 9 .leaf) (.one true 9 (.one true 7 .leaf))) (.one true 9 (.one true 6 (.one true 7 .leaf))))))) (by first | rfl | kernel_rfl) ⟨_,List.Perm.refl _⟩ ?_
    repeat (first | refine det_stepX rfl ?_ | refine go_ ?_ | intro _)
    refine ⟨1,0,_,room (by omega) rfl,rfl,by show 0 + (y :: r).length * 4 ≤ _; omega, .inl ⟨.inl ⟨_,rfl⟩,zT,⟨.inl rfl,rfl,rfl⟩,fun hc => absurd hc hroom,fun _ => ⟨_,old_cells cT_len ⟨y :: r,b,cap,rest,h1,h2⟩ zT,fun b2 cap2 rest2 hc2 hr2 => ?_⟩⟩⟩
    show aT _ _ _ _ _ _ (.cells b2 ((flG cT (y :: r) ++ zT) ++ rest2) :: .cells b (flG cT (y :: r) ++ rest) :: .cells b3 (cT x) :: RD rp L ts1 :: .cells b1 [.ptr rp 0] :: .cells b6 [.str s, .msl b 0 (y :: r).length cap] :: R) _
    have hlen2 : (y :: r).length * 4 + 4 ≤ ((flG cT (y :: r) ++ zT) ++ rest2).length := by
     rw [List.length_append,List.length_append,flG_len cT_len,show zT.length = 4 from rfl]; omega
    repeat' (first | refine go_ ?_ | intro _ | refine at_msl (y :: r).length ((y :: r).length * 4) rfl (Nat.lt_succ_self _) ho4 ?_ | refine ⟨hlen2,_,put_on' cT_len (y :: r) x zT rest2 rfl _ rfl,?_⟩ | refine And.intro ?_ ?_)
    all_goals refine ⟨grA ⟨y :: r,b,cap,rest,h1,h2⟩ x b2 cap2 rest2 hc2 hr2,rfl,weak_of ?_ rfl ?_⟩
    all_goals first | (repeat (first | exact trivial | refine env_ ?_)) | skip
    all_goals (show SLe _ (.cells b2 (flG cT ((y :: r) ++ [x]) ++ rest2) :: RD rp L ts1 :: .cells b1 [.ptr rp 0] :: .cells b6 [.str s, .msl b2 0 ((y :: r) ++ [x]).length cap2] :: R); rw [hle]; refine SW.le ?_; repeat (first | exact SW.nil | refine sw_ ?_))
 ·repeat first|refine go_ ?_|intro _
  refine AW_ret ?_
  refine ⟨errO o,RD rp L ts1 :: (stA rp b1 b6 s z ++ R),AVle.refl _,fun w0 K w h => h.perm (List.perm_append_comm_assoc [RD rp L ts1, .cells b1 [.ptr rp 0], .cells b6 [.str s,grL z]] (grS cT z) R),z,ts1,o,rfl,rfl,hs1,?_,?_⟩
  ·show ResO (argStep F g.l ts) z.l ts1 o
   rw [hz,argStep]
   cases o with
   | none => rw [show argL F ts = .ok (x,ts1) from ho]; rfl
   | some q => rw [show argL F ts = .error q from ho]; rfl
  ·show z.l.length ≤ g.l.length + 1
   rw [hz,List.length_append]; exact Nat.le_refl _
theorem perm_pick {e : En} {S' S : List En} (i : Nat) (h : S[i]? = some e) (hp : S'.Perm (S.eraseIdx i)) : (e :: S').Perm S := (hp.cons e).trans (erase_perm h)
theorem args_ok (rp : Nat) (L : List Tok) (hL : L.length ≤ 20000) (hN : NumT L) (F : Nat) (hF : L.length ≤ F) (b1 b6 : Nat) (s : List UInt8) : WhatOk rp L 134 [] [.ptr b1 0, .ptr b6 0] (listGo (argStep F) 8 []) (fun g : Gr T 4 => g.l) (stA rp b1 b6 s) grN := by
 refine ⟨⟨_,Tryz.func134,rfl,rfl⟩,?_⟩
 intro ts R hts hG
 show ACall Tryz.prog 134 [.ptr b1 0, .ptr b6 0] (RD rp L ts :: .cells b1 [.ptr rp 0] :: .cells b6 [.str s, .sl 0 [] .full] :: R) _
 refine ACall_body tab_ok Tryz.func134 rfl rfl rfl (by kernel_rfl) (nb_ rfl) ?_
 repeat first|refine go_ ?_|intro _
 refine Or.inl ⟨⟨_,Tryz.func95,rfl,rfl⟩,ACall.mono ?_ (list_ok rp L hL (argStep F) (fun g : Gr T 4 => g.l) (fun g => g.l.length) (stA rp b1 b6 s) 8 (by decide) _ _ _ (argStep_ok rp L hL hN F hF b1 b6 s) grN (Nat.zero_le _) ts R hts hG)⟩
 rintro _ S1 ⟨g',ts1,o,rfl,hS1,hs1,ho⟩
 subst S1
 repeat first|refine go_ ?_|intro _
 refine AW_ret ?_
 exact ⟨errO o,_,AVle.refl _,SLe.rfl,g',ts1,o,rfl,rfl,hs1,ho⟩
theorem AW_grown {N : Nat} {rd : Option Nat} {E : Env} {R : List En} {k : Kt} {c : Code} (b6 : Nat) (s : List UInt8) (g : Gr T 4) (h : AW Tryz.prog N rd c E (.cells b6 [.str s, .sl 4 (encTs g.l) .no] :: R) k) : AW Tryz.prog N rd c E (.cells b6 [.str s,grL g] :: (grS cT g ++ R)) k := by
 obtain ⟨l,b,cap,rest,h1,h2⟩ := g
 cases l with
 | nil =>
  exact AW_weak (fun w0 N K a w hE hS => ⟨K,Kle.refl K,hE,SW.le (SW.cells (cs := [.str s, .sl 0 [] .full]) (cs' := [.str s, .sl 4 (encTs []) .no]) ⟨AVle.refl _,AVle.nil,trivial⟩ rfl SW.nil) _ _ _ hS⟩) h
 | cons y r =>
  have hfl : Aw.flat (encTs (y :: r)) = flG cT (y :: r) := by rw [encTs_map,Aw.flat,flG,List.flatMap_map,List.flatMap]; rfl
  refine AW_weak (fun w0 N K a w hE hS => ⟨K,Kle.refl K,hE,hS.perm (List.Perm.swap _ _ _)⟩) (AW_freezeC (b := b) (q := b6) (off := 0) (n := (y :: r).length) (cap := cap) (sz := 4) (cs := flG cT (y :: r) ++ rest) (es := encTs (y :: r)) (qs := [.str s, .msl b 0 (y :: r).length cap]) (qs' := [.str s, .sl 4 (encTs (y :: r)) .no]) (encTs_len _) ?_ ?_ ⟨.inl rfl, .inr ⟨rfl,rfl⟩,trivial⟩ ?_ h)
  ·intro e he
   rw [encTs_map] at he
   obtain ⟨x,_,rfl⟩ := List.mem_map.1 he
   rfl
  ·rw [hfl,List.drop_zero,List.take_left' (flG_len cT_len _)]
  ·intro c hc
   simp only [List.mem_cons,List.not_mem_nil,or_false] at hc
   rcases hc with rfl | rfl <;> rfl
theorem leA {s : List UInt8} : AVle (.agg [.str s, .sl 0 [] .full]) (encA ⟨s, []⟩) := AVle.agg (bs := [.str s, .sl 4 [] .no]) ⟨AVle.refl _,AVle.nil,trivial⟩ (by intro c hc; simp only [List.mem_cons,List.not_mem_nil,or_false] at hc; rcases hc with rfl | rfl <;> rfl)
theorem atom_ok (rp : Nat) (L : List Tok) (hL : L.length ≤ 20000) (hN : NumT L) (F : Nat) (hF : L.length ≤ F) (ts : List Tok) (h : ts <:+ L) (R : List En) (hG : NumG R) : ACall Tryz.prog 100 [.ptr rp 0] (RD rp L ts :: R) (fun r S => ∃ e,S = e :: R ∧ QT rp L encA (atomL F ts) r e) := by
 refine ACall_body tab_ok Tryz.func100 rfl rfl rfl (by kernel_rfl) (nb_ rfl) ?_
 repeat first|refine go_ ?_|intro _
 rename_i b1 b2
 refine Or.inl ⟨⟨_,Tryz.func92,rfl,rfl⟩,ACall.mono ?_ (ACall_at 2 rfl (rName_ok rp L ts h hL _))⟩
 rintro _ S1 ⟨e,hS1,hq⟩
 subst S1
 obtain ⟨s,ts1,o,rfl,hs1,rfl,ho⟩ := hq.cases (fun v r' h2 => (less_name h2).1.1.trans h)
 repeat first|refine gr_ ?_|intro _
 refine AW_weak (weak_of (l := [(1, .ptr b1 0),(2, .ptr b2 0),(4, .str s),(5,errO o)]) (m := []) (S' := .cells b2 [.str [], .sl 0 [] .full] :: .cells b1 [.ptr rp 0] :: RD rp L ts1 :: R) e_ rfl w_) ?_
 cases o with
 | some q =>
  have ho : nameP ts = .error q := ho
  repeat first|refine ga_ ?_|intro _
  refine AW_ret ?_
  exact ⟨rfl,0,_,rfl,⟨nb_ rfl,nb_ rfl⟩, .tup [encA ⟨[], []⟩,errO (some q)],RD rp L ts1 :: R,le2 leA,sle_,_,rfl,QT.of hs1 (by rw [atomL,ho]; rfl)⟩
 | none =>
  have ho : nameP ts = .ok (s,ts1) := ho
  repeat refine rg_ ?_
  refine AW_region tab_ok ?_
  repeat first|refine gr_ ?_|intro _
  refine AW_false (b := false) rfl rfl ?_
  repeat refine rg_ ?_
  refine AW_region tab_ok ?_
  repeat first|refine gr_ ?_|intro _
  rename_i b6
  refine AW_weak (weak_of (l := [(1, .ptr b1 0),(2, .ptr b2 0),(6, .ptr b6 0)]) (m := []) (S' := RD rp L ts1 :: .cells b1 [.ptr rp 0] :: .cells b6 [.str s, .sl 0 [] .full] :: .cells b2 [.str [], .sl 0 [] .full] :: R) ?_ rfl (fun w0 K w h => h.perm (by repeat (first | exact List.Perm.refl _ | refine perm_pick 0 rfl ?_ | refine perm_pick 1 rfl ?_ | refine perm_pick 2 rfl ?_ | refine perm_pick 3 rfl ?_ | refine perm_pick 4 rfl ?_ | refine perm_pick 5 rfl ?_ | refine perm_pick 6 rfl ?_ | refine perm_pick 7 rfl ?_)))) ?_
  ·exact e_
  repeat first|refine go_ ?_|intro _
  refine Or.inl ⟨⟨_,Tryz.func93,rfl,rfl⟩,ACall.mono ?_ (within_ok rp L hL (listGo (argStep F) 8 []) (fun g : Gr T 4 => g.l) (stA rp b1 b6 s) [40] [41] _ _ _ grN (args_ok rp L hL hN F hF b1 b6 s) ts1 (.cells b2 [.str [], .sl 0 [] .full] :: R) hs1 (NumG.cons hG))⟩
  rintro _ S1 ⟨g',ts2,o,rfl,hS1,hs2,ho2⟩
  subst S1
  repeat first|refine gr_ ?_|intro _
  have hX : ∀ (e1 e2 : En),(e1 :: (grS cT g' ++ (.cells b2 [.str [], .sl 0 [] .full] :: e2 :: R))).Perm (e2 :: e1 :: (grS cT g' ++ (.cells b2 [.str [], .sl 0 [] .full] :: R))) := by
   intro e1 e2
   have := List.perm_middle (a := e2) (l₁ := grS cT g' ++ [.cells b2 [.str [], .sl 0 [] .full]]) (l₂ := R)
   exact (List.Perm.cons e1 (by simpa only [List.append_assoc,List.cons_append,List.nil_append] using this)).trans (List.Perm.swap _ _ _)
  refine AW_weak (weak_of (l := [(2, .ptr b2 0),(5,errO o),(6, .ptr b6 0)]) (m := []) (S' := .cells b6 [.str s,grL g'] :: (grS cT g' ++ (.cells b2 [.str [], .sl 0 [] .full] :: RD rp L ts2 :: R))) ?_ rfl ((fun w0 K w h => (h.sub (.cons_cons _ (.cons _ (List.Sublist.refl _)))).perm (hX _ _)))) ?_
  ·exact e_
  refine AW_grown b6 s g' ?_
  repeat first|refine go_ ?_|intro _
  refine AW_ret ?_
  refine ⟨rfl,1,_,rfl,⟨nb_ rfl,nb_ rfl⟩, .tup [encA ⟨s,g'.l⟩,errO o],RD rp L ts2 :: R,AVle.refl _,sle_,_,rfl,QT.of hs2 ?_⟩
  have e : atomL F ts = (match withinL [40] [41] (listGo (argStep F) 8 []) ts1 with | .error e => .error e | .ok (l,r') => .ok (⟨s,l⟩,r')) := by rw [atomL,ho]; rfl
  rw [e]
  cases o with
  | some q => rw [show withinL [40] [41] (listGo (argStep F) 8 []) ts1 = .error q from ho2]; rfl
  | none => rw [show withinL [40] [41] (listGo (argStep F) 8 []) ts1 = .ok (g'.l,ts2) from ho2]; rfl
end Go.Proofs.YtfeknkaioofljaaGreatDoor
