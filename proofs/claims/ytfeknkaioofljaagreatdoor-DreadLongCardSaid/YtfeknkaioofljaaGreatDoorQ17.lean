/-
 Expressions. Own work.
-/
import Derived.Test.YtfeknkaioofljaaGreatDoorQ16
import Derived.Test.YtfeknkaioofljaaGreatDoorA8
set_option linter.all false
set_option maxHeartbeats 4000000
set_option maxRecDepth 4000
namespace Go.Proofs.YtfeknkaioofljaaGreatDoor
open Go.Aw Go.RowKit Tree
open Lx (Tok)
theorem takes_yes (rp : Nat) (L ts r : List Tok) (s : List UInt8) (h : ts <:+ L) (hL : L.length ≤ 20000) (ht : takesL s ts = some r) (R : List En) : ACall Tryz.prog 102 [.ptr rp 0, .str s] (RD rp L ts :: R) (fun v S => ∃ e,S = e :: R ∧ (v = .bool true ∧ e = RD rp L r)) := by
 have := takes_ok rp L ts s h hL R
 rw [ht] at this
 exact ACall.mono (fun r S hh => ⟨_,hh.2,hh.1,rfl⟩) this
theorem takes_no (rp : Nat) (L ts : List Tok) (s : List UInt8) (h : ts <:+ L) (hL : L.length ≤ 20000) (ht : takesL s ts = none) (R : List En) : ACall Tryz.prog 102 [.ptr rp 0, .str s] (RD rp L ts :: R) (fun v S => ∃ e,S = e :: R ∧ (v = .bool false ∧ e = RD rp L ts)) := by
 have := takes_ok rp L ts s h hL R
 rw [ht] at this
 exact ACall.mono (fun r S hh => ⟨_,hh.2,hh.1,rfl⟩) this
theorem opsP_ok : OpsOk [([42], .int .i64 7)] opsP := fun s => by
 by_cases h : [42] = s
 ·subst h; exact ⟨true,rfl⟩
 ·exact ⟨false,by rw [mget,if_neg h,mget,opsP,if_neg (fun e => h e.symm)]⟩
theorem opsS_ok : OpsOk [([43], .int .i64 5),([45], .int .i64 6)] opsS := fun s => by
 by_cases h : [43] = s
 ·subst h; exact ⟨true,rfl⟩
 ·by_cases h2 : [45] = s
  ·subst h2; exact ⟨true,rfl⟩
  ·exact ⟨false,by rw [mget,if_neg h,mget,if_neg h2,mget,opsS,if_neg (fun e => h e.symm),if_neg (fun e => h2 e.symm)]⟩
theorem product_ok (rp : Nat) (L : List Tok) (hL : L.length ≤ 20000) (n : Nat) (hp : PartOk rp L 192 (thingL n) n) : PartOk rp L 179 (prodL n) n := by
 refine ⟨⟨_,Tryz.func179,rfl,rfl⟩,fun ts R h hn hG => ?_⟩
 have he := eats_thing n
 refine ACall_body tab_ok Tryz.func179 rfl rfl rfl (by kernel_rfl) (nb_ rfl) ?_
 repeat first|refine go_ ?_|intro _
 rename_i b2 b7
 refine ⟨_,_,0,_,rfl,rfl,rfl, [([42], .int .i64 7)],rfl,?_⟩
 repeat first|refine go_ ?_|intro _
 refine Or.inl ⟨⟨_,Tryz.func178,rfl,rfl⟩,ACall_drop (S' := RD rp L ts :: .map b7 (mkM [([42], .int .i64 7)]) :: .cells b2 [.int .i64 0, .str [], .int .i64 0, .sl 0 [] .full] :: R) (SLe.perm ((List.perm_append_comm (l₁ := [_]) (l₂ := [_,_])).append_right R)) (ACall.mono ?_ (chain_ok rp L hL _ _ n hp he _ _ opsP_ok b7 ts h hn _ hG.cons))⟩
 rintro _ S1 ⟨e,hS1,hq⟩
 subst S1
 obtain ⟨x,ts1,o,rfl,hs1,rfl,ho⟩ := hq.cases (fun v r h2 => (eats_chain he _ _ _ h2).1.trans h)
 repeat first|refine go_ ?_|intro _
 refine AW_ret ?_
 exact ⟨rfl,2,_,rfl,⟨nb_ rfl,nb_ rfl⟩, .tup [encU x,errO o],RD rp L ts1 :: R,AVle.refl _,SW.le (SW.cons (SW.drop (SW.drop SW.nil))),_,rfl,QT.of hs1 ho⟩
theorem sum_ok (rp : Nat) (L : List Tok) (hL : L.length ≤ 20000) (n : Nat) (hp : PartOk rp L 179 (prodL n) n) : PartOk rp L 163 (sumL n) n := by
 refine ⟨⟨_,Tryz.func163,rfl,rfl⟩,fun ts R h hn hG => ?_⟩
 have he := eats_prod n
 refine ACall_body tab_ok Tryz.func163 rfl rfl rfl (by kernel_rfl) (nb_ rfl) ?_
 repeat first|refine go_ ?_|intro _
 rename_i b2 b7
 refine ⟨_,_,0,_,rfl,rfl,rfl, [([43], .int .i64 5)],rfl,?_⟩
 repeat first|refine go_ ?_|intro _
 refine ⟨_,_,0,_,rfl,rfl,rfl, [([43], .int .i64 5),([45], .int .i64 6)],rfl,?_⟩
 repeat first|refine go_ ?_|intro _
 refine Or.inl ⟨⟨_,Tryz.func178,rfl,rfl⟩,ACall_drop (S' := RD rp L ts :: .map b7 (mkM [([43], .int .i64 5),([45], .int .i64 6)]) :: .cells b2 [.int .i64 0, .str [], .int .i64 0, .sl 0 [] .full] :: R) (SLe.perm ((List.perm_append_comm (l₁ := [_]) (l₂ := [_,_])).append_right R)) (ACall.mono ?_ (chain_ok rp L hL _ _ n hp he _ _ opsS_ok b7 ts h hn _ hG.cons))⟩
 rintro _ S1 ⟨e,hS1,hq⟩
 subst S1
 obtain ⟨x,ts1,o,rfl,hs1,rfl,ho⟩ := hq.cases (fun v r h2 => (eats_chain he _ _ _ h2).1.trans h)
 repeat first|refine go_ ?_|intro _
 refine AW_ret ?_
 exact ⟨rfl,2,_,rfl,⟨nb_ rfl,nb_ rfl⟩, .tup [encU x,errO o],RD rp L ts1 :: R,AVle.refl _,SW.le (SW.cons (SW.drop (SW.drop SW.nil))),_,rfl,QT.of hs1 ho⟩
def thingB (sum : List Tok → PR T) (ts : List Tok) : PR T := if (hd ts 0).kind = 2 then numL 1 ts else if (hd ts 0).kind = 3 then .ok (.mk 3 (hd ts 0).s 0 [],ts.tail) else if nameT (hd ts 0) = true then .ok (.mk 1 (hd ts 0).s 0 [],ts.tail) else (match takesL [45] ts with
  | some r => numL (-1) r
  | none => match takesL [40] ts with
   | some r => within1 sum r
   | none => stopE ts)
theorem thing_step (rp : Nat) (L : List Tok) (hL : L.length ≤ 20000) (hN : NumT L) (sum : List Tok → PR T) (heS : Eats sum) (ts : List Tok) (h : ts <:+ L) (hsum : ∀ (r : List Tok) (R : List En),Less r ts → r <:+ L → NumG R → ACall Tryz.prog 163 [.ptr rp 0] (RD rp L r :: R) (fun v S => ∃ e,S = e :: R ∧ QT rp L encU (sum r) v e)) (R : List En) (hG : NumG R) : ACall Tryz.prog 192 [.ptr rp 0] (RD rp L ts :: R) (fun r S => ∃ e,S = e :: R ∧ QT rp L encU (thingB sum ts) r e) := by
 refine ACall_body tab_ok Tryz.func192 rfl rfl rfl (by kernel_rfl) (nb_ rfl) ?_
 repeat first|refine go_ ?_|intro _
 rename_i b2
 refine Or.inl ⟨⟨_,Tryz.func51,rfl,rfl⟩,ACall.mono ?_ (ACall_same 1 rfl (ahead_ok rp L ts 0 h hL (by decide)))⟩
 rintro _ S1 ⟨rfl,hS1⟩
 subst S1
 repeat first|refine gr_ ?_|intro _
 rename_i b4
 refine AW_weak (weak_of (l := [(0, .ptr rp 0),(2, .ptr b2 0),(4, .ptr b4 0)]) (m := []) (S' := .cells b4 [.int .i64 (hd ts 0).kind, .str (hd ts 0).s, .int .i64 (hd ts 0).line] :: .cells b2 [.int .i64 0, .str [], .int .i64 0, .sl 0 [] .full] :: RD rp L ts :: R) e_ rfl w_) ?_
 repeat first|refine go_ ?_|intro _
 by_cases hk2 : (hd ts 0).kind = 2
 ·refine AW_true (b := decide ((hd ts 0).kind = 2)) rfl (by exact decide_eq_true hk2) ?_
  repeat first|refine go_ ?_|intro _
  refine Or.inl ⟨⟨_,Tryz.func204,rfl,rfl⟩,ACall.mono ?_ (ACall_at 2 rfl (rNum_ok rp L ts 1 h hL hN _ hG.cons.cons))⟩
  rintro _ S1 ⟨e,hS1,hq⟩
  subst S1
  obtain ⟨x,ts1,o,rfl,hs1,rfl,ho⟩ := hq.cases (fun v r h2 => (less_num h2).1.trans h)
  have ho : ResO (thingB sum ts) x ts1 o := by rw [thingB,if_pos hk2]; exact ho
  repeat first|refine go_ ?_|intro _
  refine AW_ret ?_
  exact ⟨rfl,1,_,rfl,⟨nb_ rfl,nb_ rfl⟩, .tup [encU x,errO o],RD rp L ts1 :: R,AVle.refl _,sle_,_,rfl,QT.of hs1 ho⟩
 refine AW_false (b := decide ((hd ts 0).kind = 2)) rfl (by exact decide_eq_false hk2) ?_
 repeat first|refine go_ ?_|intro _
 by_cases hk3 : (hd ts 0).kind = 3
 ·have hne := hd_ne (ts := ts) (by rw [hk3]; decide)
  refine AW_true (b := decide ((hd ts 0).kind = 3)) rfl (by exact decide_eq_true hk3) ?_
  repeat first|refine go_ ?_|intro _
  refine AW_ret ?_
  refine ⟨rfl,1,_,rfl,⟨nb_ rfl,nb_ rfl⟩, .tup [encU (.mk 3 (hd ts 0).s 0 []), .nilif],RD rp L ts.tail :: R,le2 leU,SLe.tail (SLe.tail (SLe.of_eq (congrArg (· :: R) (RD_next h hne hL)))),_,rfl,?_⟩
  rw [thingB,if_neg hk2,if_pos hk3]; exact ⟨rfl,rfl⟩
 refine AW_false (b := decide ((hd ts 0).kind = 3)) rfl (by exact decide_eq_false hk3) ?_
 repeat first|refine go_ ?_|intro _
 refine Or.inl ⟨⟨_,Tryz.func99,rfl,rfl⟩,ACall.mono ?_ (isName_ok (hd ts 0) _)⟩
 rintro _ S1 ⟨rfl,hS1⟩
 subst S1
 repeat first|refine go_ ?_|intro _
 by_cases hkn : nameT (hd ts 0) = true
 ·have hne := hd_ne (ts := ts) (by rw [name_kind hkn]; decide)
  refine AW_true (b := nameT (hd ts 0)) rfl (by exact hkn) ?_
  repeat first|refine go_ ?_|intro _
  refine AW_ret ?_
  refine ⟨rfl,1,_,rfl,⟨nb_ rfl,nb_ rfl⟩, .tup [encU (.mk 1 (hd ts 0).s 0 []), .nilif],RD rp L ts.tail :: R,le2 leU,SLe.tail (SLe.tail (SLe.of_eq (congrArg (· :: R) (RD_next h hne hL)))),_,rfl,?_⟩
  rw [thingB,if_neg hk2,if_neg hk3,if_pos hkn]; exact ⟨rfl,rfl⟩
 refine AW_false (b := nameT (hd ts 0)) rfl (by simpa using hkn) ?_
 have hB : thingB sum ts = (match takesL [45] ts with | some r => numL (-1) r | none => match takesL [40] ts with | some r => within1 sum r | none => stopE ts) := by
  rw [thingB,if_neg hk2,if_neg hk3,if_neg hkn]
 refine AW_weak (weak_of (l := [(0, .ptr rp 0),(2, .ptr b2 0),(4, .ptr b4 0)]) (m := []) (S' := .cells b4 [.int .i64 (hd ts 0).kind, .str (hd ts 0).s, .int .i64 (hd ts 0).line] :: .cells b2 [.int .i64 0, .str [], .int .i64 0, .sl 0 [] .full] :: RD rp L ts :: R) e_ rfl w_) ?_
 repeat first|refine go_ ?_|intro _
 cases ht1 : takesL [45] ts with
 | some r =>
  rw [ht1] at hB
  have hr := less_takes ht1
  refine Or.inl ⟨⟨_,Tryz.func102,rfl,rfl⟩,ACall.mono ?_ (ACall_at 2 rfl (takes_yes rp L ts r [45] h hL ht1 _))⟩
  rintro _ S1 ⟨e,hS1,rfl,rfl⟩
  subst S1
  repeat first|refine ga_ ?_|intro _
  refine Or.inl ⟨⟨_,Tryz.func204,rfl,rfl⟩,ACall.mono ?_ (ACall_at 2 rfl (rNum_ok rp L r (-1) (hr.1.trans h) hL hN _ hG.cons.cons))⟩
  rintro _ S1 ⟨e,hS1,hq⟩
  subst S1
  obtain ⟨x,ts1,o,rfl,hs1,rfl,ho⟩ := hq.cases (fun v r' h2 => (less_num h2).1.trans (hr.1.trans h))
  have ho : ResO (thingB sum ts) x ts1 o := by rw [hB]; exact ho
  repeat first|refine go_ ?_|intro _
  refine AW_ret ?_
  exact ⟨rfl,1,_,rfl,⟨nb_ rfl,nb_ rfl⟩, .tup [encU x,errO o],RD rp L ts1 :: R,AVle.refl _,sle_,_,rfl,QT.of hs1 ho⟩
 | none =>
  rw [ht1] at hB
  refine Or.inl ⟨⟨_,Tryz.func102,rfl,rfl⟩,ACall.mono ?_ (ACall_at 2 rfl (takes_no rp L ts [45] h hL ht1 _))⟩
  rintro _ S1 ⟨e,hS1,rfl,rfl⟩
  subst S1
  repeat first|refine ga_ ?_|intro _
  cases ht2 : takesL [40] ts with
  | none =>
   rw [ht2] at hB
   refine Or.inl ⟨⟨_,Tryz.func102,rfl,rfl⟩,ACall.mono ?_ (ACall_at 2 rfl (takes_no rp L ts [40] h hL ht2 _))⟩
   rintro _ S1 ⟨e,hS1,rfl,rfl⟩
   subst S1
   repeat first|refine ga_ ?_|intro _
   refine Or.inl ⟨⟨_,Tryz.func98,rfl,rfl⟩,ACall.mono ?_ (ACall_same 2 rfl (stop_ok rp L ts h hL))⟩
   rintro _ S1 ⟨rfl,hS1⟩
   subst S1
   repeat first|refine go_ ?_|intro _
   refine AW_ret ?_
   refine ⟨rfl,1,_,rfl,⟨nb_ rfl,nb_ rfl⟩, .tup [encU zeroT,faultE (40,(hd ts 0).line)],RD rp L ts :: R,le2 leU,sle_,_,rfl,?_⟩
   rw [hB]; exact ⟨zeroT,ts,rfl,h,rfl⟩
  | some r =>
   rw [ht2] at hB
   have hr := less_takes ht2
   have hrs := hr.1.trans h
   have hB : thingB sum ts = within1 sum r := hB
   refine Or.inl ⟨⟨_,Tryz.func102,rfl,rfl⟩,ACall.mono ?_ (ACall_at 2 rfl (takes_yes rp L ts r [40] h hL ht2 _))⟩
   rintro _ S1 ⟨e,hS1,rfl,rfl⟩
   subst S1
   repeat first|refine gr_ ?_|intro _
   refine AW_weak (weak_of (l := [(0, .ptr rp 0),(2, .ptr b2 0),(51, .bool true)]) (m := []) (S' := .cells b2 [.int .i64 0, .str [], .int .i64 0, .sl 0 [] .full] :: RD rp L r :: R) e_ rfl w_) ?_
   repeat first|refine ga_ ?_|intro _
   refine Or.inl ⟨⟨_,Tryz.func163,rfl,rfl⟩,ACall.mono ?_ (ACall_at 1 rfl (hsum r _ hr hrs hG.cons))⟩
   rintro _ S1 ⟨e,hS1,hq⟩
   subst S1
   obtain ⟨x,ts1,o,rfl,hs1,rfl,ho⟩ := hq.cases (fun v r' h2 => (heS _ _ _ h2).1.trans hrs)
   repeat first|refine gr_ ?_|intro _
   rename_i b5
   refine AW_weak (weak_of (l := [(0, .ptr rp 0),(2, .ptr b2 0),(5, .ptr b5 0),(6,errO o)]) (m := []) (S' := .cells b5 (cT x) :: .cells b2 [.int .i64 0, .str [], .int .i64 0, .sl 0 [] .full] :: RD rp L ts1 :: R) e_ rfl w_) ?_
   cases o with
   | some q =>
    have ho : sum r = .error q := ho
    repeat first|refine ga_ ?_|intro _
    refine AW_ret ?_
    exact ⟨rfl,1,_,rfl,⟨nb_ rfl,nb_ rfl⟩, .tup [encU x,errO (some q)],RD rp L ts1 :: R,AVle.refl _,sle_,_,rfl,QT.of hs1 (by rw [hB,within1,ho]; rfl)⟩
   | none =>
    have ho : sum r = .ok (x,ts1) := ho
    repeat first|refine ga_ ?_|intro _
    refine Or.inl ⟨⟨_,Tryz.func105,rfl,rfl⟩,ACall.mono ?_ (ACall_at 2 rfl (must_ok rp L ts1 [41] hs1 hL _))⟩
    rintro _ S1 ⟨e,hS1,hq⟩
    subst S1
    obtain ⟨ts2,o,rfl,hs2,rfl,ho2⟩ := hq.cases (fun v r' h2 => (less_must h2).1.trans hs1)
    repeat first|refine ga_ ?_|intro _
    refine AW_ret ?_
    refine ⟨rfl,1,_,rfl,⟨nb_ rfl,nb_ rfl⟩, .tup [encU x,errO o],RD rp L ts2 :: R,AVle.refl _,sle_,_,rfl,QT.of hs2 ?_⟩
    rw [hB,within1,ho]
    cases o with
    | none =>
     obtain ⟨u,hu⟩ := ho2
     show (match mustL [41] ts1 with | .error e => _ | .ok (_,r') => _) = _
     rw [hu]
    | some q =>
     have hu : mustL [41] ts1 = .error q := ho2
     show (match mustL [41] ts1 with | .error e => _ | .ok (_,r') => _) = _
     rw [hu]
theorem thing_ok (rp : Nat) (L : List Tok) (hL : L.length ≤ 20000) (hN : NumT L) : ∀ n,PartOk rp L 192 (thingL n) n
 | 0 => ⟨⟨_,Tryz.func192,rfl,rfl⟩,fun ts R h hn hG => by
  obtain rfl : ts = [] := List.length_eq_zero_iff.1 (by omega)
  have := thing_step rp L hL hN (sumL 0) (eats_sum 0) [] h (fun r R hl => absurd hl.2 (Nat.not_lt_zero _)) R hG
  exact this⟩
 | n + 1 => ⟨⟨_,Tryz.func192,rfl,rfl⟩,fun ts R h hn hG => by
  have hs := sum_ok rp L hL n (product_ok rp L hL n (thing_ok rp L hL hN n))
  exact thing_step rp L hL hN (sumL n) (eats_sum n) ts h (fun r R hl hr hG => hs.2 r R hr (by have := hl.2; omega) hG) R hG⟩
theorem sum_all (rp : Nat) (L : List Tok) (hL : L.length ≤ 20000) (hN : NumT L) (n : Nat) : PartOk rp L 163 (sumL n) n := sum_ok rp L hL n (product_ok rp L hL n (thing_ok rp L hL hN n))
theorem ACall_conv {f : FuncId} {args : List AV} {S S1 : List En} {k1 k : AV → List En → Prop} (h1 : S1.Perm S) (hc : ACall Tryz.prog f args S1 k1) (h2 : ∀ r S',k1 r S' → ∃ S2,S2.Perm S' ∧ k r S2) : ACall Tryz.prog f args S k := by
 unfold ACall at hc ⊢
 intro w0 K w vs hv hS
 refine CallsIn.mono (hc w0 K w vs hv (hS.perm h1)) ?_
 rintro x w' ⟨v1,K',av,S',g1,g2,g3,g4,g5⟩
 obtain ⟨S2,h3,h4⟩ := h2 _ _ g5
 exact ⟨v1,K',av,S2,g1,g2,g3,g4.perm h3,h4⟩
theorem places_ok (rp k : Nat) (R : List En) : ACall Tryz.prog 133 [.ptr rp 0, .int .i64 (k : Nat)] R (fun r S => ∃ b2 b3,r = .fn (.func 162) [] [.ptr b3 0, .ptr b2 0] ∧ S = .cells b3 [.int .i64 (k : Nat)] :: .cells b2 [.ptr rp 0] :: R) := by
 refine ACall_body tab_ok Tryz.func133 rfl rfl rfl (by kernel_rfl) (nb_ rfl) ?_
 repeat first|refine go_ ?_|intro _
 refine AW_ret ?_
 repeat refine mk_ ?_
 refine ⟨_,_,AVle.refl _,SLe.rfl,?_⟩
 exact ⟨_,_,rfl,rfl⟩
section
variable {α β : Type}
def LInv (L : List Tok) (one : α → List Tok → PR α) (pr : β → α) (sz : β → Nat) (c k : Nat) (T : PR α) (j : Nat) (z : β × List Tok) : Prop :=
 z.2 <:+ L ∧ ((∃ n,j = 2 * n ∧ n ≤ k ∧ sz z.1 ≤ c + n ∧ T = listGo one (k - n) (pr z.1) z.2) ∨
  ∃ n,j = 2 * n + 1 ∧ n < k ∧ sz z.1 ≤ c + n + 1 ∧ T = (match takesL [44] z.2 with | some r => listGo one (k - n - 1) (pr z.1) r | none => .ok (pr z.1,z.2)))
def LX (k : Nat) (j : Nat) (z : β × List Tok) (args : List AV) : Prop := ∃ n,j = 2 * n ∧ args = [if n = k then faultE (21,(hd z.2 0).line) else .nilif]
def LFin (j : Nat) (z : β × List Tok) : Prop := ∃ n,j = 2 * n + 1 ∧ takesL [44] z.2 = none
theorem places_gen (rp : Nat) (L : List Tok) (hL : L.length ≤ 20000) (one : α → List Tok → PR α) (pr : β → α) (sz : β → Nat) (c k : Nat) (hk : k ≤ 1000) (T : PR α) (tl : β → List En) (b2 b3 : Nat) :
  AGenX Tryz.prog (.fn (.func 162) [] [.ptr b3 0, .ptr b2 0]) [.cells b3 [.int .i64 (k : Nat)], .cells b2 [.ptr rp 0]] (fun _ (z : β × List Tok) => RD rp L z.2 :: tl z.1) (LInv L one pr sz c k T) (LX k) LFin := by
 intro l RL Z hY z0 h0
 refine ⟨⟨_,Tryz.func162,rfl,rfl⟩,?_⟩
 show ACall Tryz.prog 162 [.fn (.yield l) [] [], .ptr b3 0, .ptr b2 0] (.cells b3 [.int .i64 (k : Nat)] :: .cells b2 [.ptr rp 0] :: RD rp L z0.2 :: (tl z0.1 ++ RL)) _
 refine ACall_body tab_ok Tryz.func162 rfl rfl rfl (by kernel_rfl) (nb_ rfl) ?_
 repeat first|refine go_ ?_|intro _
 refine AW_for (α := Nat × β × List Tok) (fun z => ⟨[(0, .fn (.yield l) [] []),(1, .ptr b3 0),(2, .ptr b2 0),(4, .int .i64 (z.1 : Nat))], []⟩) (fun z => .cells b3 [.int .i64 (k : Nat)] :: .cells b2 [.ptr rp 0] :: RD rp L z.2.2 :: (tl z.2.1 ++ RL)) (fun z => k + 1 - z.1) (fun z => z.1 ≤ k ∧ LInv L one pr sz c k T (2 * z.1) z.2) ((0,z0)) ?_ (weak_of ?_ rfl ?_) (fun z hz => ?_)
 ·exact ⟨Nat.zero_le _,h0⟩
 ·exact e_
 ·exact l_
 obtain ⟨n,b,ts⟩ := z
 obtain ⟨i1,i2⟩ : n ≤ k ∧ LInv L one pr sz c k T (2 * n) (b,ts) := hz
 have hts : ts <:+ L := i2.1
 show AW _ _ _ _ ⟨[(0, .fn (.yield l) [] []),(1, .ptr b3 0),(2, .ptr b2 0),(4, .int .i64 (n : Nat))], []⟩ (.cells b3 [.int .i64 (k : Nat)] :: .cells b2 [.ptr rp 0] :: RD rp L ts :: (tl b ++ RL)) _
 have hsub : ∀ Sc : List En,SLe ([.cells b3 [.int .i64 (k : Nat)], .cells b2 [.ptr rp 0]] ++ Sc) Sc := fun Sc w0 K w h => h.sub (List.sublist_append_right _ _)
 by_cases hnk : n = k
 ·have hX : LX k (2 * n) (b,ts) [faultE (21,(hd ts 0).line)] := ⟨n,rfl,by rw [if_pos hnk]⟩
  repeat first|refine go_ ?_|intro _
  refine AW_true (b := decide ((n : Int) = (k : Nat))) rfl (by exact decide_eq_true (by omega)) ?_
  repeat first|refine go_ ?_|intro _
  refine Or.inl ⟨⟨_,Tryz.func51,rfl,rfl⟩,ACall.mono ?_ (ACall_same 2 rfl (ahead_ok rp L ts 0 hts hL (by decide)))⟩
  rintro _ S1 ⟨rfl,hS1⟩
  subst S1
  repeat first|refine go_ ?_|intro _
  refine AYield.mono ?_ (hY [.cells b3 [.int .i64 (k : Nat)], .cells b2 [.ptr rp 0]] (2 * n) (b,ts) _ hX i2)
  rintro _ S1 ⟨w,Sc1,rfl,rfl,hj,hz⟩
  cases w with
  | false =>
   repeat first|refine ga_ ?_|intro _
   refine AW_ret ?_
   exact ⟨.tup [],Sc1,AVle.refl _,hsub Sc1,Sc1,SLe.rfl, .inr (hz rfl)⟩
  | true =>
   obtain ⟨z',⟨_,h2⟩,_⟩ := hj rfl
   rcases h2 with ⟨m,hm,_⟩ | ⟨m,hm,hm2,_⟩
   ·omega
   ·omega
 ·have hX : LX k (2 * n) (b,ts) [.nilif] := ⟨n,rfl,by rw [if_neg hnk]⟩
  repeat first|refine go_ ?_|intro _
  refine AW_false (b := decide ((n : Int) = (k : Nat))) rfl (by exact decide_eq_false (by omega)) ?_
  repeat first|refine go_ ?_|intro _
  refine AYield.mono ?_ (hY [.cells b3 [.int .i64 (k : Nat)], .cells b2 [.ptr rp 0]] (2 * n) (b,ts) _ hX i2)
  rintro _ S1 ⟨w,Sc1,rfl,rfl,hj,hz⟩
  cases w with
  | false =>
   repeat first|refine ga_ ?_|intro _
   refine AW_ret ?_
   exact ⟨.tup [],Sc1,AVle.refl _,hsub Sc1,Sc1,SLe.rfl, .inr (hz rfl)⟩
  | true =>
   obtain ⟨⟨b',ts'⟩,hz',rfl⟩ := hj rfl
   have hts' : ts' <:+ L := hz'.1
   obtain ⟨m,hm,hm2,hsz,hT⟩ : ∃ m,2 * n + 1 = 2 * m + 1 ∧ m < k ∧ sz b' ≤ c + m + 1 ∧ T = (match takesL [44] ts' with | some r => listGo one (k - m - 1) (pr b') r | none => .ok (pr b',ts')) := by
    rcases hz'.2 with ⟨m,hm,_⟩ | hm
    ·omega
    ·exact hm
   obtain rfl : m = n := by omega
   repeat first|refine ga_ ?_|intro _
   cases ht : takesL [44] ts' with
   | some r =>
    rw [ht] at hT
    refine Or.inl ⟨⟨_,Tryz.func102,rfl,rfl⟩,ACall.mono ?_ (ACall_at 2 rfl (takes_yes rp L ts' r [44] hts' hL ht _))⟩
    rintro _ S1 ⟨e,hS1,rfl,rfl⟩
    subst S1
    repeat first|refine ga_ ?_|intro _
    refine ⟨((m + 1,b',r) : Nat × β × List Tok),?_,?_,weak_of ?_ rfl ?_⟩
    ·show k + 1 - (m + 1) < k + 1 - m; omega
    ·exact ⟨hm2,(less_takes ht).1.trans hts', .inl ⟨m + 1,rfl,hm2,by show sz b' ≤ c + (m + 1); omega,hT⟩⟩
    ·exact e_
    ·exact l_
   | none =>
    rw [ht] at hT
    refine Or.inl ⟨⟨_,Tryz.func102,rfl,rfl⟩,ACall.mono ?_ (ACall_at 2 rfl (takes_no rp L ts' [44] hts' hL ht _))⟩
    rintro _ S1 ⟨e,hS1,rfl,rfl⟩
    subst S1
    repeat first|refine ga_ ?_|intro _
    refine AW_ret ?_
    exact ⟨.tup [],_,AVle.refl _,hsub (RD rp L ts' :: (tl b' ++ RL)),_,SLe.rfl, .inl ⟨2 * m + 1,(b',ts'),⟨m,rfl,ht⟩,hz',rfl⟩⟩
def OneOk (rp : Nat) (L : List Tok) (g : FuncId) (first cap : List AV) (one : α → List Tok → PR α) (pr : β → α) (sz : β → Nat) (st : β → List En) : Prop := fnOk Tryz.prog g ∧ ∀ (b : β) (ts : List Tok) (R : List En),ts <:+ L → NumG R → sz b ≤ 3000 →
 ACall Tryz.prog g (first ++ [] ++ cap) (RD rp L ts :: (st b ++ R)) (fun r S => ∃ b' ts' o,r = errO o ∧ S = RD rp L ts' :: (st b' ++ R) ∧ ts' <:+ L ∧ ResO (one (pr b) ts) (pr b') ts' o ∧ sz b' ≤ sz b + 1)
end
end Go.Proofs.YtfeknkaioofljaaGreatDoor
namespace Go.Proofs.YtfeknkaioofljaaGreatDoor
open Go.Aw Go.RowKit Tree
open Lx (Tok)
theorem SLe.dups : ∀ {G S : List En},(∀ g ∈ G,g ∈ S ∧ g.blk = none) → SLe S (G ++ S)
 | [],_,_ => SLe.rfl
 | g :: G,S,h => (SLe.dups (G := G) fun x hx => h x (.tail _ hx)).trans (SLe.dup (List.mem_append_right _ (h g (.head _)).1) (h g (.head _)).2)
theorem globs {R : List En} (hG : NumG R) : ∃ G,NumG G ∧ ∀ g ∈ G,g ∈ R ∧ g.blk = none := by
 obtain ⟨h1,⟨t,v,h2⟩,t',v',h3⟩ := hG
 refine ⟨[_,_,_],⟨.head _,⟨t,v, .tail _ (.head _)⟩,t',v', .tail _ (.tail _ (.head _))⟩,?_⟩
 intro g hg
 simp only [List.mem_cons,List.not_mem_nil,or_false] at hg
 rcases hg with rfl | rfl | rfl
 ·exact ⟨h1,rfl⟩
 ·exact ⟨h2,rfl⟩
 ·exact ⟨h3,rfl⟩
theorem NumG.appL {A R : List En} (h : NumG A) : NumG (A ++ R) := by
 obtain ⟨h1,⟨t,v,h2⟩,t',v',h3⟩ := h
 exact ⟨List.mem_append_left _ h1,⟨t,v,List.mem_append_left _ h2⟩,t',v',List.mem_append_left _ h3⟩
section
variable {α β : Type}
theorem list_res {one : α → List Tok → PR α} {x x' : α} {k : Nat} {ts r : List Tok} (h : one x ts = .ok (x',r)) : listGo one (k + 1) x ts = (match takesL [44] r with | some r' => listGo one k x' r' | none => .ok (x',r)) := by
 rw [listGo,h]
 rfl
theorem list_err {one : α → List Tok → PR α} {x : α} {k : Nat} {ts : List Tok} {q : Int × Int} (h : one x ts = .error q) : listGo one (k + 1) x ts = .error q := by
 rw [listGo,h]
theorem list_ok (rp : Nat) (L : List Tok) (hL : L.length ≤ 20000) (one : α → List Tok → PR α) (pr : β → α) (sz : β → Nat) (st : β → List En) (k : Nat) (hk : k ≤ 1000) (g : FuncId) (first cap : List AV) (hg : OneOk rp L g first cap one pr sz st) (b : β) (hb : sz b ≤ 1000) (ts : List Tok) (R : List En) (hts : ts <:+ L) (hG : NumG R) :
  ACall Tryz.prog 95 [.ptr rp 0, .int .i64 (k : Nat), .fn (.func g) first cap] (RD rp L ts :: (st b ++ R)) (fun r S => ∃ b' ts' o,r = errO o ∧ S = RD rp L ts' :: (st b' ++ R) ∧ ts' <:+ L ∧ ResO (listGo one k (pr b) ts) (pr b') ts' o) := by
 obtain ⟨T,hT⟩ : ∃ T,T = listGo one k (pr b) ts := ⟨_,rfl⟩
 obtain ⟨G,gG,gR⟩ := globs hG
 rw [← hT]
 refine ACall_body tab_ok Tryz.func95 rfl rfl rfl (by kernel_rfl) (nb_ rfl) ?_
 repeat first|refine go_ ?_|intro _
 rename_i b5 b7
 refine Or.inl ⟨⟨_,Tryz.func133,rfl,rfl⟩,ACall.mono ?_ (places_ok rp k _)⟩
 rintro _ S1 ⟨b2,b3,rfl,hS1⟩
 subst S1
 repeat first|refine go_ ?_|intro _
 refine AW_weak (weak_of (l := [(5, .ptr b5 0),(7, .ptr b7 0),(11, .fn (.func 162) [] [.ptr b3 0, .ptr b2 0])]) (m := []) (S' := .cells b3 [.int .i64 (k : Nat)] :: .cells b2 [.ptr rp 0] :: .cells b7 [.nilif] :: .cells b5 [.fn (.func g) first cap] :: RD rp L ts :: (st b ++ R)) e_ rfl w_) ?_
 have hend : ∀ (b : β) (ts : List Tok) (v : AV) (d : Nat),SLe (RD rp L ts :: .cells b5 [.fn (.func g) first cap] :: .cells b7 [v] :: (st b ++ G) ++ .obj d (.deferred (some [])) :: R) (.cells b7 [v] :: .obj d (.deferred (some [])) :: RD rp L ts :: (st b ++ R)) := by
  intro b ts v d w0 K w h
  have h1 := h.sub (List.Sublist.cons_cons _ (List.Sublist.cons _ (List.Sublist.cons_cons _ (List.Sublist.append_right (List.sublist_append_left (st b) G) _))))
  refine h1.perm (List.Perm.symm ?_)
  refine (List.Perm.swap _ _ _).trans (List.Perm.cons _ ?_)
  exact (List.Perm.cons _ List.perm_middle).trans (List.Perm.swap _ _ _)
 refine AW_rangeOutX (α := β × List Tok) (st := fun _ z => RD rp L z.2 :: .cells b5 [.fn (.func g) first cap] :: .cells b7 [.nilif] :: (st z.1 ++ G)) (inv := LInv L one pr sz (sz b) k T) (X := LX k) (fin := LFin) (Q := fun x S => x = .exit 0 ∧ ∃ (z : β × List Tok) (q : Int × Int),z.2 <:+ L ∧ T = .error q ∧ S = RD rp L z.2 :: .cells b5 [.fn (.func g) first cap] :: .cells b7 [faultE q] :: (st z.1 ++ G)) [.cells b3 [.int .i64 (k : Nat)], .cells b2 [.ptr rp 0]] R (b,ts) rfl (places_gen rp L hL one pr sz (sz b) k hk T (fun b => .cells b5 [.fn (.func g) first cap] :: .cells b7 [.nilif] :: (st b ++ G)) b2 b3) ?_ ?_ ?_ ?_ ?_ ?_
 ·intro w0 K w h
  have h1 := (SLe.dups (G := G) (S := .cells b3 [.int .i64 (k : Nat)] :: .cells b2 [.ptr rp 0] :: .cells b7 [.nilif] :: .cells b5 [.fn (.func g) first cap] :: RD rp L ts :: (st b ++ R)) fun g hg => ⟨List.mem_cons_of_mem _ (List.mem_cons_of_mem _ (List.mem_cons_of_mem _ (List.mem_cons_of_mem _ (List.mem_cons_of_mem _ (List.mem_append_right _ (gR g hg).1))))),(gR g hg).2⟩) _ _ _ h
  refine h1.perm (List.Perm.symm ?_)
  refine List.perm_middle.trans (List.Perm.cons _ ?_)
  refine List.perm_middle.trans (List.Perm.cons _ ?_)
  refine (List.perm_append_comm_assoc G (.cells b7 [.nilif] :: .cells b5 [.fn (.func g) first cap] :: RD rp L ts :: st b) R).trans ?_
  refine (((List.Perm.swap _ _ _).trans (List.Perm.cons _ (List.Perm.swap _ _ _))).append_right _).trans ?_
  exact (List.Perm.cons _ (List.Perm.swap _ _ _)).trans (by simpa using List.perm_middle (a := RD rp L ts) (l₁ := [.cells b5 [.fn (.func g) first cap], .cells b7 [.nilif]]) (l₂ := st b ++ (G ++ R)))
 ·exact ⟨hts, .inl ⟨0,rfl,Nat.zero_le _,Nat.le_refl _,hT⟩⟩
 ·rintro i z args ⟨n,_,rfl⟩; rfl
 ·intro lp R1 i args z hl hX hz
  obtain ⟨n,rfl,rfl⟩ := hX
  obtain ⟨b1,ts1⟩ := z
  have hs1 : ts1 <:+ L := hz.1
  obtain ⟨hn,hbz,hT1⟩ : n ≤ k ∧ sz b1 ≤ sz b + n ∧ T = listGo one (k - n) (pr b1) ts1 := by
   rcases hz.2 with ⟨m,hm,h1,h2,h3⟩ | ⟨m,hm,_⟩
   ·obtain rfl : m = n := by omega
    exact ⟨h1,h2,h3⟩
   ·omega
  show AW _ _ _ _ _ (RD rp L ts1 :: .cells b5 [.fn (.func g) first cap] :: .cells b7 [.nilif] :: ((st b1 ++ G) ++ R1)) _
  by_cases hnk : n = k
  ·rw [if_pos hnk]
   have hT2 : T = .error (21,(hd ts1 0).line) := by rw [hT1,hnk,Nat.sub_self,listGo]
   repeat first|refine ga_ ?_|intro _
   refine ⟨RD rp L ts1 :: .cells b5 [.fn (.func g) first cap] :: .cells b7 [.nilif] :: (st b1 ++ G),rfl,fun R2 hl2 => ?_⟩
   repeat first|refine ga_ ?_|intro _
   exact ⟨_,⟨rfl,(b1,ts1),_,hs1,hT2,rfl⟩,SLe.of_eq rfl⟩
  ·rw [if_neg hnk]
   have hkn : k - n = (k - n - 1) + 1 := by omega
   repeat first|refine ga_ ?_|intro _
   refine ⟨RD rp L ts1 :: .cells b5 [.fn (.func g) first cap] :: .cells b7 [.nilif] :: (st b1 ++ G),rfl,fun R2 hl2 => ?_⟩
   have hp : ∀ (b : β) (ts : List Tok) (v : AV),(RD rp L ts :: (st b ++ (.cells b5 [.fn (.func g) first cap] :: .cells b7 [v] :: (G ++ R2)))).Perm (RD rp L ts :: .cells b5 [.fn (.func g) first cap] :: .cells b7 [v] :: ((st b ++ G) ++ R2)) := by
    intro b ts v
    refine List.Perm.cons _ ?_
    refine List.perm_middle.trans (List.Perm.cons _ ?_)
    refine List.perm_middle.trans (List.Perm.cons _ ?_)
    rw [List.append_assoc]
   repeat first|refine ga_ ?_|intro _
   refine Or.inl ⟨hg.1,ACall.mono ?_ (ACall_conv (k := fun r S => ∃ b' ts' o,r = errO o ∧ S = RD rp L ts' :: .cells b5 [.fn (.func g) first cap] :: .cells b7 [.nilif] :: ((st b' ++ G) ++ R2) ∧ ts' <:+ L ∧ ResO (one (pr b1) ts1) (pr b') ts' o ∧ sz b' ≤ sz b1 + 1) (hp b1 ts1 .nilif) (hg.2 b1 ts1 _ hs1 (NumG.cons (NumG.cons (NumG.appL gG))) (by omega)) ?_)⟩
   rotate_left
   ·rintro r _ ⟨b',ts',o,h1,rfl,h2,h3⟩
    exact ⟨_,(hp b' ts' .nilif).symm,b',ts',o,h1,rfl,h2,h3⟩
   rintro _ S1 ⟨b2,ts2,o,rfl,hS1,hs2,ho,hz2⟩
   subst S1
   cases o with
   | some q =>
    have ho : one (pr b1) ts1 = .error q := ho
    repeat first|refine ga_ ?_|intro _
    exact ⟨_,⟨rfl,(b2,ts2),q,hs2,by rw [hT1,hkn]; exact list_err ho,rfl⟩,SLe.of_eq rfl⟩
   | none =>
    have ho : one (pr b1) ts1 = .ok (pr b2,ts2) := ho
    repeat first|refine ga_ ?_|intro _
    exact ⟨(b2,ts2),⟨hs2, .inr ⟨n,rfl,by omega,by show sz b2 ≤ sz b + n + 1; omega,by rw [hT1,hkn]; exact list_res ho⟩⟩,SLe.of_eq rfl⟩
 ·intro d i z hf hz
  obtain ⟨b1,ts1⟩ := z
  have hs1 : ts1 <:+ L := hz.1
  obtain ⟨n,rfl,hn⟩ := hf
  have hT1 : T = .ok (pr b1,ts1) := by
   rcases hz.2 with ⟨m,hm,_⟩ | ⟨m,hm,_,_,h2⟩
   ·omega
   ·rw [h2]; show (match takesL [44] ts1 with | some r => _ | none => _) = _
    rw [show takesL [44] ts1 = none from hn]
  refine AW_weak (weak_of (l := [(5, .ptr b5 0),(7, .ptr b7 0)]) (m := [d]) (S' := .cells b7 [.nilif] :: .obj d (.deferred (some [])) :: RD rp L ts1 :: (st b1 ++ R)) ?_ rfl ?_) ?_
  ·exact e_
  ·exact hend b1 ts1 .nilif d
  repeat first|refine go_ ?_|intro _
  refine AW_ret ?_
  refine ⟨1,rfl,?_⟩
  exact ⟨_,RD rp L ts1 :: (st b1 ++ R),AVle.refl _,sle_,b1,ts1,none,rfl,rfl,hs1,hT1⟩
 ·rintro d _ Sc ⟨rfl,⟨b1,ts1⟩,q,hz,hT1,rfl⟩ hj
  refine AW_weak (weak_of (l := [(5, .ptr b5 0),(7, .ptr b7 0)]) (m := [d]) (S' := .cells b7 [faultE q] :: .obj d (.deferred (some [])) :: RD rp L ts1 :: (st b1 ++ R)) ?_ rfl ?_) ?_
  ·exact e_
  ·exact hend b1 ts1 (faultE q) d
  repeat first|refine go_ ?_|intro _
  refine AW_ret ?_
  refine ⟨1,rfl,?_⟩
  exact ⟨_,RD rp L ts1 :: (st b1 ++ R),AVle.refl _,sle_,b1,ts1,some q,rfl,rfl,hz,hT1⟩
end
end Go.Proofs.YtfeknkaioofljaaGreatDoor
