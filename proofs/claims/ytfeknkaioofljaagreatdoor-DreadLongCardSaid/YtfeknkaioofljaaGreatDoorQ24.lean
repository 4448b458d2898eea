/-
 What each law asks first. Own work.
-/
import Derived.Test.YtfeknkaioofljaaGreatDoorQ22
import Derived.Test.YtfeknkaioofljaaGreatDoorQ23
import Derived.Test.YtfeknkaioofljaaGreatDoorQ8
set_option linter.all false
set_option maxHeartbeats 4000000
set_option maxRecDepth 4000
namespace Go.Proofs.YtfeknkaioofljaaGreatDoor
open Go.Aw Go.RowKit Tree
open Lx (Tok)
theorem num_tok {x : Nat × List UInt8} (h : Lx.isTok x) (hk : x.1 = 2) : (pnL x.2).2 = 0 ∧ x.2.length ≤ 100 := by
 obtain ⟨s,r,h⟩ := h
 obtain ⟨c,l,_,_,_,_,h3⟩ := Lx.oneT_cases h
 have e : (pnL x.2).2 = 0 := by
  rcases h3 with ⟨_,h,_⟩ | ⟨_,_,_,_,_,h⟩ | ⟨_,h,_⟩ | ⟨_,h,_⟩ | ⟨_,_,_,_,h,_⟩
  ·omega
  ·exact h
  ·omega
  ·omega
  ·omega
 refine ⟨e,?_⟩
 obtain ⟨h1,h2⟩ := pn_ok e
 rw [← h2]
 have := itoa_len h1
 omega
theorem lex_toks (s : List UInt8) : ∀ t ∈ (Lx.lexS s).1, ∃ x : Nat × List UInt8,Lx.isTok x ∧ t.kind = (x.1 : Int) ∧ t.s = x.2 := by
 intro t ht
 rw [Lx.lexS] at ht
 split at ht
 ·cases ht
 ·split at ht
  ·cases ht
  ·split at ht
   ·cases ht
   ·obtain ⟨y,hy,rfl⟩ := List.mem_map.1 ht
    exact ⟨Lx.kw y,Lx.raw_isTok _ _ (List.mem_map_of_mem hy),rfl,rfl⟩
theorem num_lex (s : List UInt8) : NumT (Lx.lexS s).1 := by
 intro t ht hk
 obtain ⟨x,h1,h2,h3⟩ := lex_toks s t ht
 rw [h3]
 exact num_tok h1 (by omega)
def readV (s : List UInt8) : Pr × Int × Int := if (Lx.lexS s).2.2 ≠ 0 then (⟨[], []⟩,(Lx.lexS s).2.1,(Lx.lexS s).2.2) else parseL (Lx.lexS s).1
def ReadG (R : List En) : Prop := NumG R ∧ Lx.ErrG R ∧ AsG R ∧ Lx.AsG R
theorem ReadG.cons {R : List En} (h : ReadG R) {e : En} : ReadG (e :: R) := ⟨h.1.cons,h.2.1.cons, .tail _ h.2.2.1, .tail _ h.2.2.2⟩
theorem read_ok (s : List UInt8) (R : List En) (hs : s.length ≤ 16777214) (hG : ReadG R) : ACall Tryz.prog 15 [.str s] R (fun r S => r = resP (readV s) ∧ S = R) := by
 have hN := num_lex s
 have k1 := fun (R : List En) (hG : ReadG R) => Lx.lex_ok s R hG.1 hG.2.1 hG.2.2.2 hs
 unfold readV
 obtain ⟨x,hx⟩ : ∃ x,x = Lx.lexS s := ⟨_,rfl⟩
 rw [← hx] at k1 hN ⊢
 obtain ⟨l,i,e⟩ := x
 refine ACall_body tab_ok Tryz.func15 rfl rfl rfl (by kernel_rfl) (nb_ rfl) ?_
 repeat first|refine go_ ?_|intro _
 rename_i b2
 refine Or.inl ⟨⟨_,Tryz.func8,rfl,rfl⟩,ACall.mono ?_ (k1 _ hG.cons)⟩
 rintro _ S1 ⟨rfl,hS1⟩
 subst S1
 repeat first|refine ga_ ?_|intro _
 by_cases he : e = 0
 ·refine AW_false (b := !decide (e = 0)) rfl (by rw [decide_eq_true he]; rfl) ?_
  rw [if_neg (by simpa using he)]
  repeat first|refine ga_ ?_|intro _
  refine Or.inl ⟨⟨_,Tryz.func9,rfl,rfl⟩,ACall.mono ?_ (parse_ok l hN _ hG.cons.1 hG.cons.2.2.1)⟩
  rintro _ S1 ⟨rfl,hS1⟩
  subst S1
  repeat first|refine ga_ ?_|intro _
  refine AW_ret ?_
  exact ⟨rfl,0,_,rfl,⟨nb_ rfl,nb_ rfl⟩,resP (parseL l),R,AVle.refl _,sle_,rfl,rfl⟩
 ·refine AW_true (b := !decide (e = 0)) rfl (by rw [decide_eq_false he]; rfl) ?_
  rw [if_pos (by simpa using he)]
  repeat first|refine ga_ ?_|intro _
  refine AW_ret ?_
  exact ⟨rfl,0,_,rfl,⟨nb_ rfl,nb_ rfl⟩,resP (⟨[], []⟩,i,e),R,AVle.tup ⟨leP0,AVle.refl _,AVle.refl _,trivial⟩,sle_,rfl,rfl⟩
theorem itoa_two : Lib.itoa 2 = [50] := by
 have := Lib.itoa_nonneg 2
 rw [show (2 : Int) = ((2 : Nat) : Int) from rfl,this,Lib.decDigits_one (by decide)]; decide
theorem itoa_1 : Lib.itoa 1 = [49] := by
 have := Lib.itoa_nonneg 1
 rw [show (1 : Int) = ((1 : Nat) : Int) from rfl,this,Lib.decDigits_one (by decide)]; decide
theorem pn1 : pnL [49] = (1,0) := by rw [← itoa_1]; exact pn_itoa (by unfold inR64; omega)
theorem pn2 : pnL [50] = (2,0) := by rw [← itoa_two]; exact pn_itoa (by unfold inR64; omega)
theorem one_num {c : UInt8} {r : List UInt8} {n : Int} (h1 : letterB c = false) (h2 : digitB c = true) (h3 : (c :: r).takeWhile Lx.wordB = [c] ∧ (c :: r).dropWhile Lx.wordB = r) (h : pnL [c] = (n,0)) : Lx.oneT (c :: r) = some (2, [c],r) := by
 unfold Lx.oneT
 simp only []
 rw [if_neg (by rw [h1]; decide),if_pos h2,h3.1,h3.2,if_pos (by rw [h])]
def s1 : List UInt8 := [112,40,120,41,32,58,45,32,113,40,120,41,44,32,120,32,62,32,49,32,43,32,50,32,42,32,120,46]
def l1 : List Tok := [⟨1, [112],1⟩,⟨4, [40],1⟩,⟨1, [120],1⟩,⟨4, [41],1⟩,⟨4, [58,45],1⟩,⟨1, [113],1⟩,⟨4, [40],1⟩,⟨1, [120],1⟩,⟨4, [41],1⟩,⟨4, [44],1⟩,⟨1, [120],1⟩,⟨4, [62],1⟩,⟨2, [49],1⟩,⟨4, [43],1⟩,⟨2, [50],1⟩,⟨4, [42],1⟩,⟨1, [120],1⟩,⟨4, [46],1⟩]
theorem raw1 : Lx.rawL s1 = ([(1, [112],0),(4, [40],0),(1, [120],0),(4, [41],0),(4, [58,45],0),(1, [113],0),(4, [40],0),(1, [120],0),(4, [41],0),(4, [44],0),(1, [120],0),(4, [62],0),(2, [49],0),(4, [43],0),(2, [50],0),(4, [42],0),(1, [120],0),(4, [46],0)],none) := by
 unfold s1
 rw [Lx.rawL_step (k := 1) (w := [112]) (r := [40,120,41,32,58,45,32,113,40,120,41,44,32,120,32,62,32,49,32,43,32,50,32,42,32,120,46]) (t := [40,120,41,32,58,45,32,113,40,120,41,44,32,120,32,62,32,49,32,43,32,50,32,42,32,120,46]) (by decide) (Lx.skip_none (by decide) (by decide))]
 rw [Lx.rawL_step (k := 4) (w := [40]) (r := [120,41,32,58,45,32,113,40,120,41,44,32,120,32,62,32,49,32,43,32,50,32,42,32,120,46]) (t := [120,41,32,58,45,32,113,40,120,41,44,32,120,32,62,32,49,32,43,32,50,32,42,32,120,46]) (by decide) (Lx.skip_none (by decide) (by decide))]
 rw [Lx.rawL_step (k := 1) (w := [120]) (r := [41,32,58,45,32,113,40,120,41,44,32,120,32,62,32,49,32,43,32,50,32,42,32,120,46]) (t := [41,32,58,45,32,113,40,120,41,44,32,120,32,62,32,49,32,43,32,50,32,42,32,120,46]) (by decide) (Lx.skip_none (by decide) (by decide))]
 rw [Lx.rawL_step (k := 4) (w := [41]) (r := [32,58,45,32,113,40,120,41,44,32,120,32,62,32,49,32,43,32,50,32,42,32,120,46]) (t := [58,45,32,113,40,120,41,44,32,120,32,62,32,49,32,43,32,50,32,42,32,120,46]) (by decide) (Lx.skip_one (by decide) (by decide) (by decide))]
 rw [Lx.rawL_step (k := 4) (w := [58,45]) (r := [32,113,40,120,41,44,32,120,32,62,32,49,32,43,32,50,32,42,32,120,46]) (t := [113,40,120,41,44,32,120,32,62,32,49,32,43,32,50,32,42,32,120,46]) (by decide) (Lx.skip_one (by decide) (by decide) (by decide))]
 rw [Lx.rawL_step (k := 1) (w := [113]) (r := [40,120,41,44,32,120,32,62,32,49,32,43,32,50,32,42,32,120,46]) (t := [40,120,41,44,32,120,32,62,32,49,32,43,32,50,32,42,32,120,46]) (by decide) (Lx.skip_none (by decide) (by decide))]
 rw [Lx.rawL_step (k := 4) (w := [40]) (r := [120,41,44,32,120,32,62,32,49,32,43,32,50,32,42,32,120,46]) (t := [120,41,44,32,120,32,62,32,49,32,43,32,50,32,42,32,120,46]) (by decide) (Lx.skip_none (by decide) (by decide))]
 rw [Lx.rawL_step (k := 1) (w := [120]) (r := [41,44,32,120,32,62,32,49,32,43,32,50,32,42,32,120,46]) (t := [41,44,32,120,32,62,32,49,32,43,32,50,32,42,32,120,46]) (by decide) (Lx.skip_none (by decide) (by decide))]
 rw [Lx.rawL_step (k := 4) (w := [41]) (r := [44,32,120,32,62,32,49,32,43,32,50,32,42,32,120,46]) (t := [44,32,120,32,62,32,49,32,43,32,50,32,42,32,120,46]) (by decide) (Lx.skip_none (by decide) (by decide))]
 rw [Lx.rawL_step (k := 4) (w := [44]) (r := [32,120,32,62,32,49,32,43,32,50,32,42,32,120,46]) (t := [120,32,62,32,49,32,43,32,50,32,42,32,120,46]) (by decide) (Lx.skip_one (by decide) (by decide) (by decide))]
 rw [Lx.rawL_step (k := 1) (w := [120]) (r := [32,62,32,49,32,43,32,50,32,42,32,120,46]) (t := [62,32,49,32,43,32,50,32,42,32,120,46]) (by decide) (Lx.skip_one (by decide) (by decide) (by decide))]
 rw [Lx.rawL_step (k := 4) (w := [62]) (r := [32,49,32,43,32,50,32,42,32,120,46]) (t := [49,32,43,32,50,32,42,32,120,46]) (by decide) (Lx.skip_one (by decide) (by decide) (by decide))]
 rw [Lx.rawL_step (k := 2) (w := [49]) (r := [32,43,32,50,32,42,32,120,46]) (t := [43,32,50,32,42,32,120,46]) (one_num (r := [32,43,32,50,32,42,32,120,46]) (by decide) (by decide) (by decide) pn1) (Lx.skip_one (by decide) (by decide) (by decide))]
 rw [Lx.rawL_step (k := 4) (w := [43]) (r := [32,50,32,42,32,120,46]) (t := [50,32,42,32,120,46]) (by decide) (Lx.skip_one (by decide) (by decide) (by decide))]
 rw [Lx.rawL_step (k := 2) (w := [50]) (r := [32,42,32,120,46]) (t := [42,32,120,46]) (one_num (r := [32,42,32,120,46]) (by decide) (by decide) (by decide) pn2) (Lx.skip_one (by decide) (by decide) (by decide))]
 rw [Lx.rawL_step (k := 4) (w := [42]) (r := [32,120,46]) (t := [120,46]) (by decide) (Lx.skip_one (by decide) (by decide) (by decide))]
 rw [Lx.rawL_step (k := 1) (w := [120]) (r := [46]) (t := [46]) (by decide) (Lx.skip_none (by decide) (by decide))]
 rw [Lx.rawL_step (k := 4) (w := [46]) (r := []) (t := []) (by decide) Lx.skipL_nil]
 rw [Lx.rawL_nil]
 rfl
theorem lex1 : Lx.lexS s1 = (l1,0,0) := by
 rw [Lx.lexS,if_neg (by decide),show Lx.skipL s1 = s1 from Lx.skip_none (by decide) (by decide),raw1]
 rfl
def s2 : List UInt8 := [112,40,120,41,46]
def l2 : List Tok := [⟨1, [112],1⟩,⟨4, [40],1⟩,⟨1, [120],1⟩,⟨4, [41],1⟩,⟨4, [46],1⟩]
theorem raw2 : Lx.rawL s2 = ([(1, [112],0),(4, [40],0),(1, [120],0),(4, [41],0),(4, [46],0)],none) := by
 unfold s2
 rw [Lx.rawL_step (k := 1) (w := [112]) (r := [40,120,41,46]) (t := [40,120,41,46]) (by decide) (Lx.skip_none (by decide) (by decide))]
 rw [Lx.rawL_step (k := 4) (w := [40]) (r := [120,41,46]) (t := [120,41,46]) (by decide) (Lx.skip_none (by decide) (by decide))]
 rw [Lx.rawL_step (k := 1) (w := [120]) (r := [41,46]) (t := [41,46]) (by decide) (Lx.skip_none (by decide) (by decide))]
 rw [Lx.rawL_step (k := 4) (w := [41]) (r := [46]) (t := [46]) (by decide) (Lx.skip_none (by decide) (by decide))]
 rw [Lx.rawL_step (k := 4) (w := [46]) (r := []) (t := []) (by decide) Lx.skipL_nil]
 rw [Lx.rawL_nil]
 rfl
theorem lex2 : Lx.lexS s2 = (l2,0,0) := by
 rw [Lx.lexS,if_neg (by decide),show Lx.skipL s2 = s2 from Lx.skip_none (by decide) (by decide),raw2]
 rfl
theorem items1 (a b : List UInt8) : itemsGo 20001 20000 ⟨[], []⟩ [⟨1, [112],1⟩,⟨4, [40],1⟩,⟨1, [120],1⟩,⟨4, [41],1⟩,⟨4, [58,45],1⟩,⟨1, [113],1⟩,⟨4, [40],1⟩,⟨1, [120],1⟩,⟨4, [41],1⟩,⟨4, [44],1⟩,⟨1, [120],1⟩,⟨4, [62],1⟩,⟨2,a,1⟩,⟨4, [43],1⟩,⟨2,b,1⟩,⟨4, [42],1⟩,⟨1, [120],1⟩,⟨4, [46],1⟩] = .ok ⟨[], [⟨⟨[112], [.mk 1 [120] 0 []]⟩, [⟨1,⟨[113], [.mk 1 [120] 0 []]⟩,zeroT,zeroT⟩,⟨5,zeroA, .mk 5 [] 0 [.mk 2 [] (IntKind.i64.wrap (1 * (pnL a).1)) [], .mk 7 [] 0 [.mk 2 [] (IntKind.i64.wrap (1 * (pnL b).1)) [], .mk 1 [120] 0 []]], .mk 1 [120] 0 []⟩],1⟩]⟩ := rfl
def p1 : Pr := ⟨[], [⟨⟨[112], [.mk 1 [120] 0 []]⟩, [⟨1,⟨[113], [.mk 1 [120] 0 []]⟩,zeroT,zeroT⟩,⟨5,zeroA, .mk 5 [] 0 [.mk 2 [] 1 [], .mk 7 [] 0 [.mk 2 [] 2 [], .mk 1 [120] 0 []]], .mk 1 [120] 0 []⟩],1⟩]⟩
theorem read1 : readV s1 = (p1,0,0) := by
 rw [readV,lex1,if_neg (by decide)]
 refine parse_of (by decide) ((items1 [49] [50]).trans ?_)
 rw [pn1,pn2]; rfl
theorem items2 : itemsGo 20001 20000 ⟨[], []⟩ l2 = .error (40,1) := rfl
theorem read2 : readV s2 = (⟨[], []⟩,1,40) := by
 rw [readV,lex2,if_neg (by decide),parseL,if_neg (by decide)]
 rw [show itemsGo 20001 20000 ⟨[], []⟩ (l2,(0 : Int),(0 : Int)).1 = .error (40,1) from items2]
theorem right1 : rightP p1 = true := by decide
def t1T : List UInt8 := [112,40,120,41,32,58,45,32,113,40,120,41,44,32,40,49,32,43,32,40,50,32,42,32,120,41,41,32,60,32,120,46,10]
theorem text1 : showP p1 = t1T := by
 have e1 : showT (.mk 2 [] 1 []) = [49] := by rw [showT,if_neg (by decide),if_pos rfl,itoa_1]
 have e2 : showT (.mk 2 [] 2 []) = [50] := by rw [showT,if_neg (by decide),if_pos rfl,itoa_two]
 have ex : showT (.mk 1 [120] 0 []) = [120] := rfl
 have e3 : showT (.mk 7 [] 0 [.mk 2 [] 2 [], .mk 1 [120] 0 []]) = [40,50,32,42,32,120,41] := by rw [showT_two (.inr (.inr rfl)),e2,ex]; rfl
 have e4 : showT (.mk 5 [] 0 [.mk 2 [] 1 [], .mk 7 [] 0 [.mk 2 [] 2 [], .mk 1 [120] 0 []]]) = [40,49,32,43,32,40,50,32,42,32,120,41,41] := by rw [showT_two (.inl rfl),e1,e3]; rfl
 have ea : ∀ c : UInt8,showA ⟨[c], [.mk 1 [120] 0 []]⟩ = [c,40,120,41] := fun c => by
  rw [showA]
  show [c] ++ ([40] ++ (Lib.join [showT (.mk 1 [120] 0 [])] [44,32] ++ [41])) = _
  rw [ex,Lib.join_one]; rfl
 have l1 : showL ⟨1,⟨[113], [.mk 1 [120] 0 []]⟩,zeroT,zeroT⟩ = [113,40,120,41] := by rw [showL,if_pos rfl]; exact ea 113
 have l2 : showL ⟨5,zeroA, .mk 5 [] 0 [.mk 2 [] 1 [], .mk 7 [] 0 [.mk 2 [] 2 [], .mk 1 [120] 0 []]], .mk 1 [120] 0 []⟩ = [40,49,32,43,32,40,50,32,42,32,120,41,41,32,60,32,120] := by
  rw [showL,if_neg (by decide),if_neg (by decide),if_pos (by decide)]
  show showT (.mk 5 [] 0 [.mk 2 [] 1 [], .mk 7 [] 0 [.mk 2 [] 2 [], .mk 1 [120] 0 []]]) ++ (eqL 5 ++ showT (.mk 1 [120] 0 [])) = _
  rw [e4,ex]; rfl
 show ([] : List (List UInt8)).flatten ++ ([showA ⟨[112], [.mk 1 [120] 0 []]⟩ ++ (([32,58,45,32] ++ Lib.join [showL ⟨1,⟨[113], [.mk 1 [120] 0 []]⟩,zeroT,zeroT⟩,showL ⟨5,zeroA, .mk 5 [] 0 [.mk 2 [] 1 [], .mk 7 [] 0 [.mk 2 [] 2 [], .mk 1 [120] 0 []]], .mk 1 [120] 0 []⟩] [44,32]) ++ [46]) ++ [10]]).flatten = _
 rw [ea,l1,l2,join_cons2,Lib.join_one]; rfl
theorem okS1 : okS p1 := by
 refine ⟨fun d hd => ?_,fun r hr => ?_,by decide⟩
 ·cases hd
 ·obtain rfl := List.mem_singleton.1 hr
  refine ⟨?_,fun l hl => ?_⟩
  ·simp [okA,okTs,Tree.okT,inR64]
  ·simp only [List.mem_cons,List.not_mem_nil,or_false] at hl
   rcases hl with rfl | rfl <;> simp [okL,okA,okTs,Tree.okT,inR64,zeroT,zeroA]
def LawG (R : List En) : Prop := ReadG R ∧ ∃ b o,En.glob 1 [errE b o] ∈ R
theorem LawG.cons {R : List En} (h : LawG R) {e : En} : LawG (e :: R) := ⟨h.1.cons,let ⟨b,o,h⟩ := h.2; ⟨b,o, .tail _ h⟩⟩
theorem shown_ok (R : List En) (hG : LawG R) : ACall Tryz.prog 7 [] R (fun r S => r = .bool true ∧ S = R) := by
 obtain ⟨hG,b,o,hE⟩ := hG
 have k1 := fun R hG => read_ok s1 R (by decide) hG
 have k2 := fun R hG => read_ok s2 R (by decide) hG
 have k3 := fun R hE hG => showS_ok b o p1 R hE okS1 hG
 rw [read1] at k1
 rw [read2] at k2
 rw [shownP_t right1,text1] at k3
 refine ACall_body tab_ok Tryz.func7 rfl rfl rfl (by kernel_rfl) (nb_ rfl) ?_
 repeat first|refine go_ ?_|intro _
 refine Or.inl ⟨⟨_,Tryz.func15,rfl,rfl⟩,ACall.mono ?_ (k1 _ hG)⟩
 rintro _ S1 ⟨rfl,hS1⟩
 subst S1
 repeat first|refine go_ ?_|intro _
 refine Or.inl ⟨⟨_,Tryz.func15,rfl,rfl⟩,ACall.mono ?_ (k2 _ hG.cons)⟩
 rintro _ S1 ⟨rfl,hS1⟩
 subst S1
 repeat first|refine go_ ?_|intro _
 refine Or.inl ⟨⟨_,Tryz.func13,rfl,rfl⟩,ACall.mono ?_ (k3 _ (.tail _ (.tail _ hE)) hG.cons.cons.1)⟩
 rintro _ S1 ⟨rfl,hS1⟩
 subst S1
 repeat first|refine ga_ ?_|intro _
 refine AW_ret ?_
 repeat refine mk_ ?_
 refine ⟨_,R,AVle.eq ?_,sle_,rfl,rfl⟩
 rfl
structure TokOk (t : Tok) : Prop where
 name : t.kind = 1 → t.s ≠ [95] → nameB t.s = true
 num : t.kind = 2 → (pnL t.s).2 = 0 ∧ 0 ≤ (pnL t.s).1
def tlen (t : Tok) : Nat := if t.kind = 3 then (quoteL t.s).length else t.s.length
def tl (ts : List Tok) : Nat := (ts.map tlen).sum
def ToksOk (ts : List Tok) : Prop := ∀ t ∈ ts,TokOk t
theorem ToksOk.suf {ts r : List Tok} (h : ToksOk ts) (hs : r <:+ ts) : ToksOk r := fun t ht => h t (hs.subset ht)
theorem ToksOk.hd {ts : List Tok} (h : ToksOk ts) {n : Nat} (hn : n < ts.length) : TokOk (hd ts n) := by rw [hd_get hn]; exact h _ (List.getElem_mem hn)
mutual
def lo : T → Prop
 | .mk op _ n l => (op = 2 → n ≠ -9223372036854775808) ∧ los l
def los : List T → Prop
 | [] => True
 | t :: r => lo t ∧ los r
end
structure GT (t : T) (ts r : List Tok) : Prop where
 right : rightT t (highT t) = true
 num : nT t
 low : lo t
 op0 : t.op ≠ 0
 op4 : t.op ≠ 4
 cnt : r.length + cntT t ≤ ts.length
 len : 5 * tl r + (showT t).length ≤ 5 * tl ts
theorem GT.wide {t : T} {a b c d : List Tok} (h : GT t a b) (h1 : tl a + tl d ≤ tl c + tl b) (h2 : a.length + d.length ≤ c.length + b.length) : GT t c d :=
 ⟨h.right,h.num,h.low,h.op0,h.op4,by have := h.cnt; omega,by have := h.len; omega⟩
structure GA (t : T) (ts r : List Tok) : Prop where
 right : rightT t 20 = true
 num : nT t
 low : lo t
 cnt : r.length + cntT t ≤ ts.length
 len : 5 * tl r + (showT t).length ≤ 5 * tl ts
structure GAt (a : At) (ts r : List Tok) : Prop where
 right : rightA a = true
 num : nTs a.l
 low : los a.l
 suf : r <:+ ts
 cnt : r.length + cntTs a.l + 3 ≤ ts.length
 len : 5 * tl r + (showA a).length + 5 ≤ 5 * tl ts
def loL (l : Li) : Prop := los l.a.l ∧ lo l.x ∧ lo l.y
structure GL (l : Li) (ts r : List Tok) : Prop where
 right : rightL l = true
 num : nL l
 low : loL l
 suf : r <:+ ts
 cnt : r.length + cntL l ≤ ts.length
 len : 5 * tl r + (showL l).length ≤ 5 * tl ts
def loR (r : Ru) : Prop := los r.head.l ∧ ∀ l ∈ r.body,loL l
structure GR (x : Ru) (ts r : List Tok) : Prop where
 right : rightR x = true
 num : nR x
 low : loR x
 suf : r <:+ ts
 cnt : r.length + cntR x ≤ ts.length
 len : 5 * tl r + (showR x ++ [10]).length ≤ 5 * tl ts
structure GD (d : De) (ts r : List Tok) : Prop where
 right : rightD d = true
 ok : okDe d
 suf : r <:+ ts
 len : 5 * tl r + (showD d).length ≤ 5 * tl ts
end Go.Proofs.YtfeknkaioofljaaGreatDoor
