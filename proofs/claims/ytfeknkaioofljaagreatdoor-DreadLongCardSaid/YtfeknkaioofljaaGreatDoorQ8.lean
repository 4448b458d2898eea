/-
 All tokens: the generator. Own work.
-/
import Derived.Test.YtfeknkaioofljaaGreatDoorQ7
import Derived.Test.YtfeknkaioofljaaGreatDoorQ6
set_option linter.all false
set_option maxHeartbeats 4000000
set_option maxRecDepth 4000
namespace Go.Proofs.YtfeknkaioofljaaGreatDoor.Lx
open Go.Aw Go.RowKit
def goodY (N : Nat) (x : Nat × List UInt8 × Nat) : List AV := [encT (tokL N x), .nilif]
def badY (t : Tok) (line code : Int) : List AV := [encT t,wrongE line code]
def endY (N : Nat) (o : Option Nat) : List (List AV) := match o with
 | some q => [badY ⟨0, [],0⟩ ((1 + N - q : Nat) : Int) 20]
 | none => []
def itemsF (N n : Nat) (s : List UInt8) : List (List AV) := match (rawL s).1[20000 - n]? with
 | some x => ((rawL s).1.take (20000 - n)).map (goodY N) ++ [badY (tokL N x) ((1 + N - x.2.2 : Nat) : Int) 21]
 | none => (rawL s).1.map (goodY N) ++ endY N (rawL s).2
theorem itemsF_nil (N n : Nat) : itemsF N n [] = [] := by rw [itemsF,rawL_nil]; simp [endY]
theorem itemsF_none {N n : Nat} {s : List UInt8} (hs : s ≠ []) (h : oneT s = none) : itemsF N n s = [badY ⟨0, [],0⟩ ((1 + N - cnt s : Nat) : Int) 20] := by
 rw [itemsF,rawL_none hs h]; simp [endY]
theorem itemsF_long {N : Nat} {s : List UInt8} {q : Nat × List UInt8 × List UInt8} (h : oneT s = some q) : itemsF N 20000 s = [badY (tokL N (q.1,q.2.1,cnt s)) ((1 + N - cnt s : Nat) : Int) 21] := by
 obtain ⟨k,w,r⟩ := q
 rw [itemsF,rawL_some h]; simp
theorem itemsF_some {N n : Nat} {s w r : List UInt8} {k : Nat} (hn : n < 20000) (h : oneT s = some (k,w,r)) : itemsF N n s = goodY N (k,w,cnt s) :: itemsF N (n + 1) (skipL r) := by
 obtain ⟨m,hm⟩ : ∃ m,20000 - n = m + 1 := ⟨20000 - n - 1,by omega⟩
 have hm2 : 20000 - (n + 1) = m := by omega
 rw [itemsF,itemsF,rawL_some h,hm,hm2]
 simp only [List.getElem?_cons_succ,List.take_succ_cons,List.map_cons]
 cases (rawL (skipL r)).1[m]? <;> rfl
theorem _root_.Go.Proofs.YtfeknkaioofljaaGreatDoor.NumG.left {A R : List En} (h : NumG A) : NumG (A ++ R) := by
 obtain ⟨h1,⟨t,v,h2⟩,t',v',h3⟩ := h
 exact ⟨List.mem_append_left _ h1,⟨t,v,List.mem_append_left _ h2⟩,t',v',List.mem_append_left _ h3⟩
theorem ErrG.left {A R : List En} (h : ErrG A) : ErrG (A ++ R) := let ⟨b,o,h⟩ := h; ⟨b,o,List.mem_append_left _ h⟩
theorem suf_skip {r t s : List UInt8} {k : Nat} {w : List UInt8} (h : oneT t = some (k,w,r)) (hs : t <:+ s) : skipL r <:+ s := by
 have := oneT_txt h
 exact ((skipL_suf r).trans ⟨txt k w,this.symm⟩).trans hs
theorem tokens_gen (s : List UInt8) (p : Nat) (G : List En) (hG : NumG G) (hE : ErrG G) (hs : s.length ≤ 16777214) : AGen Tryz.prog (.fn (.func 44) [] [.ptr p 0]) (.cells p [.str s] :: G) (itemsF (cnt s) 0 (skipL s)) := by
 intro l J Z Sc hY h0
 refine ⟨⟨_,Tryz.func44,rfl,rfl⟩,?_⟩
 show ACall Tryz.prog 44 [.fn (.yield l) [] [], .ptr p 0] (.cells p [.str s] :: (G ++ Sc)) _
 have hcs := cnt_len s
 refine ACall_body tab_ok Tryz.func44 rfl rfl rfl (by kernel_rfl) (nb_ rfl) ?_
 repeat first|refine go_ ?_|intro _
 rename_i c
 refine Or.inl ⟨⟨_,Tryz.func45,rfl,rfl⟩,ACall_dropX (S' := .cells c (scn (1 + cnt s) s) :: .cells p [.str s] :: (G ++ Sc)) (SLe.of_eq (by rw [scn,Nat.add_sub_cancel]; rfl)) (ACall.mono ?_ (skips_ok (1 + cnt s) c s _ (by omega) (by omega) (by omega)))⟩
 rintro _ S1 rfl
 repeat first|refine go_ ?_|intro _
 refine AW_for (α := Nat × List UInt8 × List En) (fun z => ⟨[(0, .fn (.yield l) [] []),(3, .ptr c 0),(4, .int .i64 (z.1 : Nat))], []⟩) (fun z => .cells c (scn (1 + cnt s) z.2.1) :: .cells p [.str s] :: (G ++ z.2.2)) (fun z => z.2.1.length) (fun z => (itemsF (cnt s) 0 (skipL s)).drop z.1 = itemsF (cnt s) z.1 z.2.1 ∧ z.1 ≤ 20000 ∧ z.1 ≤ (itemsF (cnt s) 0 (skipL s)).length ∧ J z.1 z.2.2 ∧ z.2.1 <:+ s) ((0,skipL s,Sc)) ?_ (weak_of ?_ rfl ?_) (fun z hz => ?_)
 ·exact ⟨rfl,by simp,by simp,h0,skipL_suf s⟩
 ·exact e_
 ·exact l_
 obtain ⟨i,t,Sc'⟩ := z
 obtain ⟨h1,h2,hil,h3,h4⟩ : (itemsF (cnt s) 0 (skipL s)).drop i = itemsF (cnt s) i t ∧ i ≤ 20000 ∧ i ≤ (itemsF (cnt s) 0 (skipL s)).length ∧ J i Sc' ∧ t <:+ s := hz
 have htl := h4.length_le
 have htc := cnt_suf h4
 show AW _ _ _ _ ⟨[(0, .fn (.yield l) [] []),(3, .ptr c 0),(4, .int .i64 (i : Nat))], []⟩ (.cells c (scn (1 + cnt s) t) :: .cells p [.str s] :: (G ++ Sc')) _
 repeat first|refine go_ ?_|intro _
 by_cases ht : t = []
 ·subst ht
  rw [itemsF_nil] at h1
  have hi : i = (itemsF (cnt s) 0 (skipL s)).length := by
   have := congrArg List.length h1
   simp at this; omega
  refine AW_false (b := false) rfl (by first | rfl | (simp; done) | (simp; omega) | decide) ?_
  repeat first|refine go_ ?_|intro _
  refine ⟨.tup [],Sc',AVle.refl _,fun w0 K w h => h.sub ((List.sublist_append_right (_ :: _ :: G) Sc')),Sc',SLe.rfl, .inl ?_⟩
  rw [← hi]; exact h3
 refine AW_true (b := !decide (t = [])) rfl (by rw [decide_eq_false ht]; rfl) ?_
 repeat first|refine go_ ?_|intro _
 refine Or.inl ⟨⟨_,Tryz.func46,rfl,rfl⟩,ACall.mono ?_ (scanNext_ok (1 + cnt s) c t _ (hG.left (R := Sc')).cons (hE.left (R := Sc')).cons ht (by omega) (by omega) (by omega))⟩
 rintro r S1 hn
 cases hT : oneT t with
 | none =>
  rw [nextR,hT] at hn
  obtain ⟨rfl,hS1⟩ := hn
  subst S1
  rw [itemsF_none ht hT] at h1
  obtain ⟨g1,g2,g3⟩ := drop_head h1
  have he : (itemsF (cnt s) 0 (skipL s)).length = i + 1 := by
   have := congrArg List.length g2
   simp at this; omega
  repeat first|refine ga_ ?_|intro _
  rename_i b5 _
  refine AYield.mono ?_ (AYield_args (hY (.cells b5 [.int .i64 0, .str [], .int .i64 0] :: .cells c (scn (1 + cnt s) t) :: .cells p [.str s] :: G) i (badY ⟨0, [],0⟩ ((1 + cnt s - cnt t : Nat) : Int) 20) Sc' (by rw [g1]) h3) ⟨AVle.refl _,AVle.refl _,trivial⟩)
  rintro _ S1 ⟨w,Sc1,rfl,rfl,hj,hz⟩
  cases w with
  | false =>
   repeat first|refine ga_ ?_|intro _
   refine AW_ret ?_
   refine ⟨.tup [],Sc1,AVle.refl _,fun w0 K w h => h.sub (List.sublist_append_right (_ :: _ :: _ :: G) Sc1),Sc1,SLe.rfl, .inr (hz rfl)⟩
  | true =>
   repeat first|refine ga_ ?_|intro _
   refine AW_ret ?_
   refine ⟨.tup [],Sc1,AVle.refl _,fun w0 K w h => h.sub (List.sublist_append_right (_ :: _ :: _ :: G) Sc1),Sc1,SLe.rfl, .inl ?_⟩
   rw [he]; exact hj rfl
 | some q =>
  rw [nextR,hT] at hn
  obtain ⟨k,w,r⟩ := q
  obtain ⟨rfl,hS1⟩ := hn
  subst S1
  repeat first|refine ga_ ?_|intro _
  rename_i b5 _
  by_cases h20 : i = 20000
  ·subst h20
   rw [itemsF_long hT] at h1
   obtain ⟨g1,g2,g3⟩ := drop_head h1
   have he : (itemsF (cnt s) 0 (skipL s)).length = 20000 + 1 := by
    have := congrArg List.length g2
    simp at this; omega
   refine AW_true (b := decide (((20000 : Nat) : Int) = 20000)) rfl (by exact decide_eq_true rfl) ?_
   refine AW_region tab_ok ?_
   repeat first|refine gr_ ?_|intro _
   refine AW_freezeI 6 (p := 0) rfl rfl ?_
   repeat first|refine ga_ ?_|intro _
   refine AYield.mono ?_ (AYield_args (hY (.cells b5 (encT (tokL (cnt s) (k,w,cnt t))).cells :: .cells c (scn (1 + cnt s) r) :: .cells p [.str s] :: G) 20000 (badY (tokL (cnt s) (k,w,cnt t)) ((1 + cnt s - cnt t : Nat) : Int) 21) Sc' (by rw [g1]) h3) ⟨AVle.refl _,AVle.refl _,trivial⟩)
   rintro _ S1 ⟨w',Sc1,rfl,rfl,hj,hz⟩
   cases w' with
   | false =>
    repeat first|refine ga_ ?_|intro _
    refine AW_ret ?_
    refine ⟨.tup [],Sc1,AVle.refl _,fun w0 K w h => h.sub (List.sublist_append_right (_ :: _ :: _ :: G) Sc1),Sc1,SLe.rfl, .inr (hz rfl)⟩
   | true =>
    repeat first|refine ga_ ?_|intro _
    refine AW_ret ?_
    refine ⟨.tup [],Sc1,AVle.refl _,fun w0 K w h => h.sub (List.sublist_append_right (_ :: _ :: _ :: G) Sc1),Sc1,SLe.rfl, .inl ?_⟩
    rw [he]; exact hj rfl
  ·have hlt : i < 20000 := by omega
   rw [itemsF_some hlt hT] at h1
   obtain ⟨g1,g2,g3⟩ := drop_head h1
   have hsuf := suf_skip hT h4
   have hr0 : r <:+ t := ⟨txt k w,(oneT_txt hT).symm⟩
   have hr : r <:+ s := hr0.trans h4
   have hrl := hr.length_le
   have hrc := cnt_suf hr
   have hlen := oneT_len hT
   have hsl := skipL_len r
   refine AW_false (b := decide (((i : Nat) : Int) = 20000)) rfl (by exact decide_eq_false (by omega)) ?_
   repeat first|refine ga_ ?_|intro _
   refine AYield.mono ?_ (AYield_args (hY (.cells b5 (encT (tokL (cnt s) (k,w,cnt t))).cells :: .cells c (scn (1 + cnt s) r) :: .cells p [.str s] :: G) i (goodY (cnt s) (k,w,cnt t)) Sc' (by rw [g1]) h3) ⟨AVle.refl _,AVle.refl _,trivial⟩)
   rintro _ S1 ⟨w',Sc1,rfl,rfl,hj,hz⟩
   cases w' with
   | false =>
    repeat first|refine ga_ ?_|intro _
    refine AW_ret ?_
    refine ⟨.tup [],Sc1,AVle.refl _,fun w0 K w h => h.sub (List.sublist_append_right (_ :: _ :: _ :: G) Sc1),Sc1,SLe.rfl, .inr (hz rfl)⟩
   | true =>
    repeat first|refine ga_ ?_|intro _
    refine Or.inl ⟨⟨_,Tryz.func45,rfl,rfl⟩,ACall_dropX (S' := .cells c (scn (1 + cnt s) r) :: .cells p [.str s] :: (G ++ Sc1)) (SLe.tail SLe.rfl) (ACall.mono ?_ (skips_ok (1 + cnt s) c r _ (by omega) (by omega) (by omega)))⟩
    rintro _ S1 rfl
    repeat first|refine ga_ ?_|intro _
    refine ⟨((i + 1,skipL r,Sc1) : Nat × List UInt8 × List En),?_,?_,weak_of ?_ rfl ?_⟩
    ·show (skipL r).length < t.length; omega
    ·exact ⟨g2,by show i + 1 ≤ 20000; omega,by show i + 1 ≤ _; omega,hj rfl,hsuf⟩
    ·exact e_
    ·exact l_
theorem SLe.dups : ∀ {G S : List En},(∀ g ∈ G,g ∈ S ∧ g.blk = none) → SLe S (G ++ S)
 | [],_,_ => SLe.rfl
 | g :: G,S,h => (SLe.dups (G := G) fun x hx => h x (.tail _ hx)).trans (SLe.dup (List.mem_append_right _ (h g (.head _)).1) (h g (.head _)).2)
theorem globs {R : List En} (hG : NumG R) (hE : ErrG R) : ∃ G,NumG G ∧ ErrG G ∧ ∀ g ∈ G,g ∈ R ∧ g.blk = none := by
 obtain ⟨h1,⟨t,v,h2⟩,t',v',h3⟩ := hG
 obtain ⟨b,o,h4⟩ := hE
 refine ⟨[_,_,_,_],⟨.head _,⟨t,v, .tail _ (.head _)⟩,t',v', .tail _ (.tail _ (.head _))⟩,⟨b,o, .tail _ (.tail _ (.tail _ (.head _)))⟩,?_⟩
 intro g hg
 simp only [List.mem_cons,List.not_mem_nil,or_false] at hg
 rcases hg with rfl | rfl | rfl | rfl
 ·exact ⟨h1,rfl⟩
 ·exact ⟨h2,rfl⟩
 ·exact ⟨h3,rfl⟩
 ·exact ⟨h4,rfl⟩
theorem tokens_ok (s : List UInt8) (R : List En) : ACall Tryz.prog 19 [.str s] R (fun r S => ∃ p,r = .fn (.func 44) [] [.ptr p 0] ∧ S = .cells p [.str s] :: R) := by
 refine ACall_body tab_ok Tryz.func19 rfl rfl rfl (by kernel_rfl) (nb_ rfl) ?_
 repeat first|refine go_ ?_|intro _
 refine AW_ret ?_
 repeat refine mk_ ?_
 refine ⟨_,_,AVle.refl _,SLe.rfl,?_⟩
 exact ⟨_,rfl,rfl⟩
def lexAV (x : List Tok × Int × Int) : AV := .tup [.sl 3 (x.1.map encT) .no, .int .i64 x.2.1, .int .i64 x.2.2]
def tailB (B : Option (Tok × Int × Int)) : List (List AV) := match B with
 | some b => [badY b.1 b.2.1 b.2.2]
 | none => []
theorem lex_parts (s : List UInt8) (hs : ¬ 65536 < s.length) : ∃ (L : List (Nat × List UInt8 × Nat)) (B : Option (Tok × Int × Int)),itemsF (cnt s) 0 (skipL s) = L.map (goodY (cnt s)) ++ tailB B ∧ L.length ≤ s.length ∧ lexS s = match B with | some b => ([],b.2.1,b.2.2) | none => (L.map (tokL (cnt s)),0,0) := by
 have hl : (rawL (skipL s)).1.length ≤ s.length := by
  refine Nat.le_trans ?_ (skipL_len s)
  refine rawL_ind (Q := fun t => (rawL t).1.length ≤ t.length) ?_ ?_ ?_ (skipL s)
  ·rw [rawL_nil]; simp
  ·intro t h1 h2; rw [rawL_none h1 h2]; simp
  ·intro t k w r h1 h2
   rw [rawL_some h1]
   have a := oneT_len h1
   have b := skipL_len r
   simp only [List.length_cons]; omega
 rw [lexS,if_neg hs,itemsF]
 cases h : (rawL (skipL s)).1[20000]? with
 | some x => exact ⟨(rawL (skipL s)).1.take 20000,some (tokL (cnt s) x,_,21),rfl,Nat.le_trans (by rw [List.length_take]; omega) hl,rfl⟩
 | none =>
  cases h2 : (rawL (skipL s)).2 with
  | some q => exact ⟨(rawL (skipL s)).1,some (⟨0, [],0⟩,_,20),rfl,hl,rfl⟩
  | none => exact ⟨(rawL (skipL s)).1,none,rfl,hl,rfl⟩
theorem lex_ok (s : List UInt8) (R : List En) (hG : NumG R) (hE : ErrG R) (hA : AsG R) (hs : s.length ≤ 16777214) : ACall Tryz.prog 8 [.str s] R (fun r S => r = lexAV (lexS s) ∧ S = R) := by
 obtain ⟨G,gG,gE,gR⟩ := globs hG hE
 refine ACall_body tab_ok Tryz.func8 rfl rfl rfl (by kernel_rfl) (nb_ rfl) ?_
 repeat first|refine go_ ?_|intro _
 by_cases hlen : 65536 < s.length
 ·refine AW_true (b := decide ((65536 : Int) < s.length)) rfl (by exact decide_eq_true (by omega)) ?_
  repeat first|refine go_ ?_|intro _
  refine AW_ret ?_
  refine ⟨_,R,AVle.tup (bs := [.sl 3 [] .no, .int .i64 0, .int .i64 21]) ⟨AVle.nil,AVle.refl _,AVle.refl _,trivial⟩,SLe.rfl,?_,rfl⟩
  rw [lexS,if_pos hlen]; rfl
 obtain ⟨L,B,hxs,hL,hres⟩ := lex_parts s hlen
 rw [hres]
 have hgen := fun p => tokens_gen s p G gG gE hs
 rw [hxs] at hgen
 refine AW_false (b := decide ((65536 : Int) < s.length)) rfl (by exact decide_eq_false (by omega)) ?_
 repeat first|refine go_ ?_|intro _
 rename_i b5 b6
 refine Or.inl ⟨⟨_,Tryz.func19,rfl,rfl⟩,ACall.mono ?_ (tokens_ok s _)⟩
 rintro _ S1 ⟨q,rfl,hS1⟩
 subst S1
 repeat first|refine go_ ?_|intro _
 refine AW_rangeOut (xs := L.map (goodY (cnt s)) ++ tailB B) (α := Tk) (st := fun i z => [.cells b6 [.nilif], .cells b5 [.sl 3 (((L.take i).map (tokL (cnt s))).map encT) z], .grow z]) (inv := fun i z => i ≤ L.length) (Q := fun x Sc => x = .exit 0 ∧ ∃ t l c es tk tk',B = some (t,l,c) ∧ Sc = [.cells b6 [.ifc 110 (.ref [.sl 1 [wrongE l c] tk'])], .cells b5 [.sl 3 es tk], .grow tk]) (.cells q [.str s] :: G) (R) (.full) rfl (hgen q) ?_ ?_ ?_ ?_ ?_ ?_
 ·refine SLe.trans (SW.le (SW.cons (SW.cons (SW.cells (cs' := [.sl 3 [] .full]) ⟨AVle.nilFull,trivial⟩ rfl (SW.full SW.nil))))) ?_
  refine SLe.trans (SLe.dups (G := G) fun g hg => ⟨.tail _ (.tail _ (.tail _ (.tail _ (gR g hg).1))),(gR g hg).2⟩) ?_
  exact fun w0 K w h => h.perm (List.perm_middle (l₁ := G)).symm
 ·exact Nat.zero_le _
 ·intro i args h
  rcases List.mem_append.1 (List.mem_of_getElem? h) with h | h
  ·obtain ⟨x,_,rfl⟩ := List.mem_map.1 h; rfl
  ·unfold tailB at h
   split at h
   ·rw [List.mem_singleton.1 h]; rfl
   ·cases h
 ·intro lp R1 i args z hl hx hz
  replace hz : i ≤ L.length := hz
  by_cases hi : i < L.length
  ·obtain ⟨x,hx0⟩ : ∃ x,x = L[i] := ⟨_,rfl⟩
   have hxe : args = goodY (cnt s) x := by
    rw [List.getElem?_append_left (by simpa using hi),List.getElem?_map,List.getElem?_eq_getElem hi, ← hx0] at hx
    exact (Option.some.inj hx).symm
   subst hxe
   have e : ((L.take (i + 1)).map (tokL (cnt s))).map encT = ((L.take i).map (tokL (cnt s))).map encT ++ [encT (tokL (cnt s) x)] := by
    rw [List.take_succ_eq_append_getElem hi, ← hx0]; simp
   have elen : (((L.take i).map (tokL (cnt s))).map encT).length = i := by simp; omega
   repeat first|refine ga_ ?_|intro _
   rename_i b7
   refine ⟨[.cells b7 (encT (tokL (cnt s) x)).cells, .cells b6 [.nilif], .cells b5 [.sl 3 (((L.take i).map (tokL (cnt s))).map encT) z], .grow z],rfl,fun R' hl' => ?_⟩
   repeat first|refine ga_ ?_|intro _
   refine ⟨room (by first | omega | (simp; done) | (simp; omega) | (simp at *; done) | (simp at *; omega)) rfl, .inl rfl, .inr (.inl ⟨rfl,3,rfl,((L.take (i + 1)).map (tokL (cnt s))).map encT,e.symm,fun t1 => ?_⟩)⟩
   repeat first|refine ga_ ?_|intro _
   exact ⟨t1,hi,SLe.tail SLe.rfl⟩
  ·have hie : i = L.length := by omega
   rw [List.getElem?_append_right (by simpa using hi)] at hx
   cases B with
   | none => simp [tailB] at hx
   | some b =>
    obtain ⟨t,l,c⟩ := b
    have hxe : args = badY t l c := by
     have : i - (L.map (goodY (cnt s))).length = 0 := by simp; omega
     rw [this] at hx
     exact (Option.some.inj hx).symm
    subst hxe
    repeat first|refine ga_ ?_|intro _
    rename_i b7
    refine ⟨[.cells b7 (encT t).cells, .cells b6 [.nilif], .cells b5 [.sl 3 (((L.take i).map (tokL (cnt s))).map encT) z], .grow z],rfl,fun R' hl' => ?_⟩
    repeat first|refine ga_ ?_|intro _
    refine Or.inl ⟨⟨_,Tryz.func20,rfl,rfl⟩,ACall.mono ?_ (join1_ok (.ref [.int .i64 l, .int .i64 c]) .full ⟨rfl,rfl⟩ _)⟩
    rintro _ S1 ⟨tk',rfl,hS1⟩
    subst S1
    repeat first|refine ga_ ?_|intro _
    refine ⟨_,⟨rfl,t,l,c,_,z,tk',rfl,rfl⟩,SLe.tail SLe.rfl⟩
 ·intro d z hz
  have hB : B = none := by
   cases B with
   | none => rfl
   | some b =>
    replace hz : (L.map (goodY (cnt s)) ++ tailB (some b)).length ≤ L.length := hz
    simp only [tailB,List.length_append,List.length_map,List.length_cons,List.length_nil] at hz; omega
  subst hB
  have hlen2 : (L.map (goodY (cnt s)) ++ tailB none).length = L.length := by simp [tailB]
  show (fun i => AW _ _ _ _ _ ([.cells b6 [.nilif], .cells b5 [.sl 3 (((L.take i).map (tokL (cnt s))).map encT) z], .grow z] ++ _) _) (L.map (goodY (cnt s)) ++ tailB none).length
  rw [hlen2]
  show AW _ _ _ _ _ ([.cells b6 [.nilif], .cells b5 [.sl 3 (((L.take L.length).map (tokL (cnt s))).map encT) z], .grow z] ++ _) _
  rw [List.take_length]
  repeat first|refine ga_ ?_|intro _
  refine Or.inl ⟨⟨_,Tryz.func21,rfl,rfl⟩,ACall.mono ?_ (asNil_ok _ _)⟩
  rintro _ S1 ⟨rfl,hS1⟩
  subst S1
  repeat first|refine ga_ ?_|intro _
  refine AW_ret ?_
  refine ⟨4,rfl,?_⟩
  refine ⟨_,R,AVle.tup (bs := [.sl 3 ((L.map (tokL (cnt s))).map encT) .no, .int .i64 0, .int .i64 0]) ⟨AVle.tk,AVle.refl _,AVle.refl _,trivial⟩,SLe.tail (SLe.tail (SLe.tail (SLe.tail SLe.rfl))),rfl,rfl⟩
 ·rintro d x Sc ⟨rfl,t,l,c,es,tk,tk',rfl,rfl⟩ _
  repeat first|refine ga_ ?_|intro _
  rename_i b9
  refine Or.inl ⟨⟨_,Tryz.func21,rfl,rfl⟩,ACall.mono ?_ (as_ok b9 .nilp [.int .i64 l, .int .i64 c] tk' _ (show AsG _ from .tail _ (.tail _ (.tail _ (.tail _ hA)))))⟩
  rintro _ S1 ⟨rfl,hS1⟩
  subst S1
  repeat first|refine ga_ ?_|intro _
  refine AW_draw tab_ok mixed 11 (by first | rfl | kernel_rfl) ?_
  repeat first|refine ga_ ?_|intro _
  refine AW_ret ?_
  refine ⟨4,rfl,?_⟩
  refine ⟨_,R,AVle.tup (bs := [.sl 3 [] .no, .int .i64 l, .int .i64 c]) ⟨AVle.nil,AVle.refl _,AVle.refl _,trivial⟩,SLe.tail (SLe.tail (SLe.tail (SLe.tail SLe.rfl))),rfl,rfl⟩
theorem drop_one {s : List UInt8} {k : Nat} (h : k < s.length) : s.drop k = s[k] :: s.drop (k + 1) := List.drop_eq_getElem_cons h
theorem lexS_end {s : List UInt8} {L : List (Nat × List UInt8 × Nat)} (h0 : ¬ 65536 < s.length) (h1 : (rawL (skipL s)).1 = L) (h2 : (rawL (skipL s)).2 = none) (h3 : L.length ≤ 20000) : lexS s = (L.map (tokL (cnt s)),0,0) := by
 rw [lexS,if_neg h0,h1,h2,List.getElem?_eq_none h3]
theorem eqk_tok : EqK Tryz.prog 60 [.int .i64, .str, .int .i64] := ⟨⟨by kernel_rfl,by kernel_rfl,by kernel_rfl,by kernel_rfl⟩,by kernel_rfl⟩
theorem rawL_step {s w r t : List UInt8} {k : Nat} (h : oneT s = some (k,w,r)) (h2 : skipL r = t) : rawL s = ((k,w,cnt s) :: (rawL t).1,(rawL t).2) := by
 rw [rawL_some h,h2]
theorem skip_one {c d : UInt8} {r : List UInt8} (h : blankB c = true) (h2 : blankB d = false) (h3 : d.toNat ≠ 47) : skipL (c :: d :: r) = d :: r := by
 rw [skipL_blank h,skipL_stop h2 (fun x => h3 x.1)]
theorem skip_none {d : UInt8} {r : List UInt8} (h2 : blankB d = false) (h3 : d.toNat ≠ 47) : skipL (d :: r) = d :: r := skipL_stop h2 (fun x => h3 x.1)
def s1 : List UInt8 := [112,40,120,41,32,58,45,32,113,40,120,41,46,32,47,47,32,99]
def s2 : List UInt8 := [10,49,97]
def l1 : List Tok := [⟨1, [112],1⟩,⟨4, [40],1⟩,⟨1, [120],1⟩,⟨4, [41],1⟩,⟨4, [58,45],1⟩,⟨1, [113],1⟩,⟨4, [40],1⟩,⟨1, [120],1⟩,⟨4, [41],1⟩,⟨4, [46],1⟩]
theorem raw1 : rawL s1 = ([(1, [112],0),(4, [40],0),(1, [120],0),(4, [41],0),(4, [58,45],0),(1, [113],0),(4, [40],0),(1, [120],0),(4, [41],0),(4, [46],0)],none) := by
 unfold s1
 rw [rawL_step (k := 1) (w := [112]) (r := [40,120,41,32,58,45,32,113,40,120,41,46,32,47,47,32,99]) (by decide) (skip_none (by decide) (by decide))]
 rw [rawL_step (k := 4) (w := [40]) (r := [120,41,32,58,45,32,113,40,120,41,46,32,47,47,32,99]) (by decide) (skip_none (by decide) (by decide))]
 rw [rawL_step (k := 1) (w := [120]) (r := [41,32,58,45,32,113,40,120,41,46,32,47,47,32,99]) (by decide) (skip_none (by decide) (by decide))]
 rw [rawL_step (k := 4) (w := [41]) (r := [32,58,45,32,113,40,120,41,46,32,47,47,32,99]) (by decide) (skip_one (by decide) (by decide) (by decide))]
 rw [rawL_step (k := 4) (w := [58,45]) (r := [32,113,40,120,41,46,32,47,47,32,99]) (by decide) (skip_one (by decide) (by decide) (by decide))]
 rw [rawL_step (k := 1) (w := [113]) (r := [40,120,41,46,32,47,47,32,99]) (by decide) (skip_none (by decide) (by decide))]
 rw [rawL_step (k := 4) (w := [40]) (r := [120,41,46,32,47,47,32,99]) (by decide) (skip_none (by decide) (by decide))]
 rw [rawL_step (k := 1) (w := [120]) (r := [41,46,32,47,47,32,99]) (by decide) (skip_none (by decide) (by decide))]
 rw [rawL_step (k := 4) (w := [41]) (r := [46,32,47,47,32,99]) (by decide) (skip_none (by decide) (by decide))]
 rw [rawL_step (k := 4) (w := [46]) (r := [32,47,47,32,99]) (t := []) (by decide) (by rw [skipL_blank (by decide),skipL_comm]; exact skipL_nil)]
 rw [rawL_nil]
 rfl
theorem lex1 : lexS s1 = (l1,0,0) := by
 rw [lexS,if_neg (by decide),show skipL s1 = s1 from skip_none (by decide) (by decide),raw1]
 rfl
theorem pn1a : (pnL [49,97]).2 ≠ 0 := by
 intro h
 have := (pn_ok h).2
 obtain ⟨c,r,h1,_,h2⟩ := dd_cons (pnL [49,97]).1.toNat
 have h3 := dd_dig (pnL [49,97]).1.toNat
 have h4 : (97 : UInt8) ∈ Lib.itoa (pnL [49,97]).1 := by rw [this]; simp
 rw [Lib.itoa] at h4
 split at h4
 ·rcases List.mem_cons.1 h4 with h4 | h4
  ·revert h4; decide
  ·have := dd_dig _ _ h4
   revert this; decide
 ·have := dd_dig _ _ h4
  revert this; decide
theorem lex2 : lexS s2 = ([],2,20) := by
 have h1 : skipL s2 = [49,97] := by unfold s2; rw [skipL_blank (by decide)]; exact skip_none (by decide) (by decide)
 have h2 : oneT [49,97] = none := by
  rw [oneT,if_neg (by decide),if_pos (by decide),if_neg (show ¬ (pnL (List.takeWhile wordB [49,97])).2 = 0 from pn1a)]
 rw [lexS,if_neg (by decide),h1,rawL_none (by simp) h2]
 rfl
def LexG (R : List En) : Prop := NumG R ∧ ErrG R ∧ AsG R
theorem LexG.cons {R : List En} (h : LexG R) {e : En} : LexG (e :: R) := ⟨h.1.cons,h.2.1.cons, .tail _ h.2.2⟩
end Go.Proofs.YtfeknkaioofljaaGreatDoor.Lx
namespace Go.Proofs.YtfeknkaioofljaaGreatDoor.Lx
open Go.Aw
def kw (x : Nat × List UInt8 × Nat) : Nat × List UInt8 := (x.1,x.2.1)
def kws (s : List UInt8) : List (Nat × List UInt8) := (rawL (skipL s)).1.map kw
def okX (s : List UInt8) : Prop := (rawL (skipL s)).2 = none
theorem kws_congr {a b : List UInt8} (h : skipL a = skipL b) : kws a = kws b ∧ (okX a ↔ okX b) := by
 rw [kws,kws,okX,okX,h]; exact ⟨rfl,Iff.rfl⟩
theorem raw_len (s : List UInt8) : (rawL s).1.length ≤ s.length := by
 refine rawL_ind (Q := fun t => (rawL t).1.length ≤ t.length) ?_ ?_ ?_ s
 ·rw [rawL_nil]; simp
 ·intro t h1 h2; rw [rawL_none h1 h2]; simp
 ·intro t k w r h1 h2
  rw [rawL_some h1]
  have a := oneT_len h1
  have b := skipL_len r
  simp only [List.length_cons]; omega
theorem lex_ok_of {s : List UInt8} (hs : s.length ≤ 20000) (h : okX s) : lexS s = ((rawL (skipL s)).1.map (tokL (cnt s)),0,0) :=
 lexS_end (by omega) rfl h (Nat.le_trans (raw_len _) (Nat.le_trans (skipL_len s) hs))
def showT (l : List Tok) : List UInt8 := l.flatMap fun t => (if t.kind = 3 then quoteL t.s else t.s) ++ [32]
def isTok (x : Nat × List UInt8) : Prop := ∃ s r,oneT s = some (x.1,x.2,r)
theorem txt_head {x : Nat × List UInt8} (h : isTok x) : ∃ c r,txt x.1 x.2 = c :: r ∧ blankB c = false ∧ c.toNat ≠ 47 := by
 obtain ⟨s,r,h⟩ := h
 have hp := oneT_pos h
 obtain ⟨c,l,rfl,e,_,_,h3⟩ := oneT_cases h
 have hc : blankB c = false ∧ c.toNat ≠ 47 := by
  have lt : letterB c = true → blankB c = false ∧ c.toNat ≠ 47 := fun h => by
   simp [letterB] at h
   refine ⟨?_,by omega⟩
   simp [blankB]; omega
  have dg : digitB c = true → blankB c = false ∧ c.toNat ≠ 47 := fun h => by
   simp [digitB] at h
   refine ⟨?_,by omega⟩
   simp [blankB]; omega
  rcases h3 with ⟨h1,_⟩ | ⟨_,h1,_⟩ | ⟨rfl,_⟩ | ⟨rfl,_⟩ | ⟨_,_,_,_,_,h1,_⟩
  ·exact lt h1
  ·exact dg h1
  ·decide
  ·decide
  ·unfold signN at h1
   by_cases h2 : twoS c l = true
   ·rw [twoS_in,decide_eq_true_eq] at h2
    have : ∀ x ∈ twos,blankB (x.getD 0 0) = false ∧ (x.getD 0 0).toNat ≠ 47 := by decide
    have h4 := this _ h2
    cases l <;> exact h4
   ·rw [if_neg h2] at h1
    by_cases hs : c ∈ signs
    ·have : ∀ x ∈ signs,blankB x = false ∧ x.toNat ≠ 47 := by decide
     exact this _ hs
    ·rw [if_neg hs] at h1; exact absurd rfl h1
 cases ht : txt x.1 x.2 with
 | nil => rw [ht] at hp; simp at hp
 | cons d y =>
  rw [ht,List.cons_append] at e
  obtain ⟨rfl,_⟩ := List.cons.inj e
  exact ⟨c,y,rfl,hc⟩
theorem raw_isTok (s : List UInt8) : ∀ x ∈ (rawL s).1.map kw,isTok x := by
 refine rawL_ind (Q := fun s => ∀ x ∈ (rawL s).1.map kw,isTok x) ?_ ?_ ?_ s
 ·rw [rawL_nil]; intro x h; cases h
 ·intro t h1 h2; rw [rawL_none h1 h2]; intro x h; cases h
 ·intro t k w r h1 ih
  rw [rawL_some h1]
  intro x hx
  rcases List.mem_cons.1 hx with rfl | hx
  ·exact ⟨t,r,h1⟩
  ·exact ih x hx
end Go.Proofs.YtfeknkaioofljaaGreatDoor.Lx
