/-
 What each law asks first. Own work.
-/
import Derived.Test.YtfeknkaioofljaaGreatDoorQ22
import Derived.Test.YtfeknkaioofljaaGreatDoorQ23
import Derived.Test.YtfeknkaioofljaaGreatDoorQ8
set_option linter.all false
set_option maxHeartbeats 4000000
set_option maxRecDepth 4000
namespace Go.Proofs.YtfeknkaioofljaaGreatDoor
open Go.Aw Go.RowKit Tree
open Lx (Tok)
theorem num_tok {x : Nat × List UInt8} (h : Lx.isTok x) (hk : x.1 = 2) : (pnL x.2).2 = 0 ∧ x.2.length ≤ 100 := by
 obtain ⟨s,r,h⟩ := h
 obtain ⟨c,l,_,_,_,_,h3⟩ := Lx.oneT_cases h
 have e : (pnL x.2).2 = 0 := by
  rcases h3 with ⟨_,h,_⟩ | ⟨_,_,_,_,_,h⟩ | ⟨_,h,_⟩ | ⟨_,h,_⟩ | ⟨_,_,_,_,h,_⟩
  ·omega
  ·exact h
  ·omega
  ·omega
  ·omega
 refine ⟨e,?_⟩
 obtain ⟨h1,h2⟩ := pn_ok e
 rw [← h2]
 have := itoa_len h1
 omega
theorem lex_toks (s : List UInt8) : ∀ t ∈ (Lx.lexS s).1, ∃ x : Nat × List UInt8,Lx.isTok x ∧ t.kind = (x.1 : Int) ∧ t.s = x.2 := by
 intro t ht
 rw [Lx.lexS] at ht
 split at ht
 ·cases ht
 ·split at ht
  ·cases ht
  ·split at ht
   ·cases ht
   ·obtain ⟨y,hy,rfl⟩ := List.mem_map.1 ht
    exact ⟨Lx.kw y,Lx.raw_isTok _ _ (List.mem_map_of_mem hy),rfl,rfl⟩
theorem num_lex (s : List UInt8) : NumT (Lx.lexS s).1 := by
 intro t ht hk
 obtain ⟨x,h1,h2,h3⟩ := lex_toks s t ht
 rw [h3]
 exact num_tok h1 (by omega)
def readV (s : List UInt8) : Pr × Int × Int := if (Lx.lexS s).2.2 ≠ 0 then (⟨[], []⟩,(Lx.lexS s).2.1,(Lx.lexS s).2.2) else parseL (Lx.lexS s).1
def ReadG (R : List En) : Prop := NumG R ∧ Lx.ErrG R ∧ AsG R ∧ Lx.AsG R
theorem ReadG.cons {R : List En} (h : ReadG R) {e : En} : ReadG (e :: R) := ⟨h.1.cons,h.2.1.cons, .tail _ h.2.2.1, .tail _ h.2.2.2⟩
theorem read_ok (s : List UInt8) (R : List En) (hs : s.length ≤ 16777214) (hG : ReadG R) : ACall Tryz.prog 15 [.str s] R (fun r S => r = resP (readV s) ∧ S = R) := by
 have hN := num_lex s
 have k1 := fun (R : List En) (hG : ReadG R) => Lx.lex_ok s R hG.1 hG.2.1 hG.2.2.2 hs
 unfold readV
 obtain ⟨x,hx⟩ : ∃ x,x = Lx.lexS s := ⟨_,rfl⟩
 rw [← hx] at k1 hN ⊢
 obtain ⟨l,i,e⟩ := x
 refine ACall_body tab_ok Tryz.func15 rfl rfl rfl (by kernel_rfl) (Nat.le_of_ble_eq_true rfl) ?_
 repeat (first | refine go_ ?_ | intro _)
 rename_i b2
 refine Or.inl ⟨⟨_,Tryz.func8,rfl,rfl⟩,ACall.mono ?_ (k1 _ hG.cons)⟩
 rintro _ S1 ⟨rfl,hS1⟩
 subst S1
 repeat (first | refine ga_ ?_ | intro _)
 by_cases he : e = 0
 ·refine AW_false (b := !decide (e = 0)) rfl (by rw [decide_eq_true he]; rfl) ?_
  rw [if_neg (by simpa using he)]
  repeat (first | refine ga_ ?_ | intro _)
  refine Or.inl ⟨⟨_,Tryz.func9,rfl,rfl⟩,ACall.mono ?_ (parse_ok l hN _ hG.cons.1 hG.cons.2.2.1)⟩
  rintro _ S1 ⟨rfl,hS1⟩
  subst S1
  repeat (first | refine ga_ ?_ | intro _)
  refine AW_ret ?_
  exact ⟨rfl,0,_,rfl,⟨Nat.le_of_ble_eq_true rfl,Nat.le_of_ble_eq_true rfl⟩,resP (parseL l),R,AVle.refl _,sle_,rfl,rfl⟩
 ·refine AW_true (b := !decide (e = 0)) rfl (by rw [decide_eq_false he]; rfl) ?_
  rw [if_pos (by simpa using he)]
  repeat (first | refine ga_ ?_ | intro _)
  refine AW_ret ?_
  exact ⟨rfl,0,_,rfl,⟨Nat.le_of_ble_eq_true rfl,Nat.le_of_ble_eq_true rfl⟩,resP (⟨[], []⟩,i,e),R,AVle.tup ⟨leP0,AVle.refl _,AVle.refl _,trivial⟩,sle_,rfl,rfl⟩
theorem itoa_two : Lib.itoa 2 = [50] := by
 have := Lib.itoa_nonneg 2
 rw [show (2 : Int) = ((2 : Nat) : Int) from rfl,this,Lib.decDigits_one (by decide)]; decide
theorem itoa_1 : Lib.itoa 1 = [49] := by
 have := Lib.itoa_nonneg 1
 rw [show (1 : Int) = ((1 : Nat) : Int) from rfl,this,Lib.decDigits_one (by decide)]; decide
theorem pn1 : pnL [49] = (1,0) := by rw [← itoa_1]; exact pn_itoa (by unfold inR64; omega)
theorem pn2 : pnL [50] = (2,0) := by rw [← itoa_two]; exact pn_itoa (by unfold inR64; omega)
theorem one_num {c : UInt8} {r : List UInt8} {n : Int} (h1 : letterB c = false) (h2 : digitB c = true) (h3 : (c :: r).takeWhile Lx.wordB = [c] ∧ (c :: r).dropWhile Lx.wordB = r) (h : pnL [c] = (n,0)) : Lx.oneT (c :: r) = some (2, [c],r) := by
 unfold Lx.oneT
 simp only []
 rw [if_neg (by rw [h1]; decide),if_pos h2,h3.1,h3.2,if_pos (by rw [h])]
def s1 : List UInt8 := [112,40,120,41,32,58,45,32,113,40,120,41,44,32,120,32,62,32,49,32,43,32,50,32,42,32,120,46]
def l1 : List Tok := [⟨1, [112],1⟩,⟨4, [40],1⟩,⟨1, [120],1⟩,⟨4, [41],1⟩,⟨4, [58,45],1⟩,⟨1, [113],1⟩,⟨4, [40],1⟩,⟨1, [120],1⟩,⟨4, [41],1⟩,⟨4, [44],1⟩,⟨1, [120],1⟩,⟨4, [62],1⟩,⟨2, [49],1⟩,⟨4, [43],1⟩,⟨2, [50],1⟩,⟨4, [42],1⟩,⟨1, [120],1⟩,⟨4, [46],1⟩]
theorem raw1 : Lx.rawL s1 = ([(1, [112],0),(4, [40],0),(1, [120],0),(4, [41],0),(4, [58,45],0),(1, [113],0),(4, [40],0),(1, [120],0),(4, [41],0),(4, [44],0),(1, [120],0),(4, [62],0),(2, [49],0),(4, [43],0),(2, [50],0),(4, [42],0),(1, [120],0),(4, [46],0)],none) := by
 unfold s1
 rw [Lx.rawL_step (k := 1) (w := [112]) (r := [40,120,41,32,58,45,32,113,40,120,41,44,32,120,32,62,32,49,32,43,32,50,32,42,32,120,46]) (t := [40,120,41,32,58,45,32,113,40,120,41,44,32,120,32,62,32,49,32,43,32,50,32,42,32,120,46]) (by decide) (Lx.skip_none (by decide) (by decide))]
 rw [Lx.rawL_step (k := 4) (w := [40]) (r := [120,41,32,58,45,32,113,40,120,41,44,32,120,32,62,32,49,32,43,32,50,32,42,32,120,46]) (t := [120,41,32,58,45,32,113,40,120,41,44,32,120,32,62,32,49,32,43,32,50,32,42,32,120,46]) (by decide) (Lx.skip_none (by decide) (by decide))]
 rw [Lx.rawL_step (k := 1) (w := [120]) (r := [41,32,58,45,32,113,40,120,41,44,32,120,32,62,32,49,32,43,32,50,32,42,32,120,46]) (t := [41,32,58,45,32,113,40,120,41,44,32,120,32,62,32,49,32,43,32,50,32,42,32,120,46]) (by decide) (Lx.skip_none (by decide) (by decide))]
 rw [Lx.rawL_step (k := 4) (w := [41]) (r := [32,58,45,32,113,40,120,41,44,32,120,32,62,32,49,32,43,32,50,32,42,32,120,46]) (t := [58,45,32,113,40,120,41,44,32,120,32,62,32,49,32,43,32,50,32,42,32,120,46]) (by decide) (Lx.skip_one (by decide) (by decide) (by decide))]
 rw [Lx.rawL_step (k := 4) (w := [58,45]) (r := [32,113,40,120,41,44,32,120,32,62,32,49,32,43,32,50,32,42,32,120,46]) (t := [113,40,120,41,44,32,120,32,62,32,49,32,43,32,50,32,42,32,120,46]) (by decide) (Lx.skip_one (by decide) (by decide) (by decide))]
 rw [Lx.rawL_step (k := 1) (w := [113]) (r := [40,120,41,44,32,120,32,62,32,49,32,43,32,50,32,42,32,120,46]) (t := [40,120,41,44,32,120,32,62,32,49,32,43,32,50,32,42,32,120,46]) (by decide) (Lx.skip_none (by decide) (by decide))]
 rw [Lx.rawL_step (k := 4) (w := [40]) (r := [120,41,44,32,120,32,62,32,49,32,43,32,50,32,42,32,120,46]) (t := [120,41,44,32,120,32,62,32,49,32,43,32,50,32,42,32,120,46]) (by decide) (Lx.skip_none (by decide) (by decide))]
 rw [Lx.rawL_step (k := 1) (w := [120]) (r := [41,44,32,120,32,62,32,49,32,43,32,50,32,42,32,120,46]) (t := [41,44,32,120,32,62,32,49,32,43,32,50,32,42,32,120,46]) (by decide) (Lx.skip_none (by decide) (by decide))]
 rw [Lx.rawL_step (k := 4) (w := [41]) (r := [44,32,120,32,62,32,49,32,43,32,50,32,42,32,120,46]) (t := [44,32,120,32,62,32,49,32,43,32,50,32,42,32,120,46]) (by decide) (Lx.skip_none (by decide) (by decide))]
 rw [Lx.rawL_step (k := 4) (w := [44]) (r := [32,120,32,62,32,49,32,43,32,50,32,42,32,120,46]) (t := [120,32,62,32,49,32,43,32,50,32,42,32,120,46]) (by decide) (Lx.skip_one (by decide) (by decide) (by decide))]
 rw [Lx.rawL_step (k := 1) (w := [120]) (r := [32,62,32,49,32,43,32,50,32,42,32,120,46]) (t := [62,32,49,32,43,32,50,32,42,32,120,46]) (by decide) (Lx.skip_one (by decide) (by decide) (by decide))]
 rw [Lx.rawL_step (k := 4) (w := [62]) (r := [32,49,32,43,32,50,32,42,32,120,46]) (t := [49,32,43,32,50,32,42,32,120,46]) (by decide) (Lx.skip_one (by decide) (by decide) (by decide))]
 rw [Lx.rawL_step (k := 2) (w := [49]) (r := [32,43,32,50,32,42,32,120,46]) (t := [43,32,50,32,42,32,120,46]) (one_num (r := [32,43,32,50,32,42,32,120,46]) (by decide) (by decide) (by decide) pn1) (Lx.skip_one (by decide) (by decide) (by decide))]
 rw [Lx.rawL_step (k := 4) (w := [43]) (r := [32,50,32,42,32,120,46]) (t := [50,32,42,32,120,46]) (by decide) (Lx.skip_one (by decide) (by decide) (by decide))]
 rw [Lx.rawL_step (k := 2) (w := [50]) (r := [32,42,32,120,46]) (t := [42,32,120,46]) (one_num (r := [32,42,32,120,46]) (by decide) (by decide) (by decide) pn2) (Lx.skip_one (by decide) (by decide) (by decide))]
 rw [Lx.rawL_step (k := 4) (w := [42]) (r := [32,120,46]) (t := [120,46]) (by decide) (Lx.skip_one (by decide) (by decide) (by decide))]
 rw [Lx.rawL_step (k := 1) (w := [120]) (r := [46]) (t := [46]) (by decide) (Lx.skip_none (by decide) (by decide))]
 rw [Lx.rawL_step (k := 4) (w := [46]) (r := []) (t := []) (by decide) Lx.skipL_nil]
 rw [Lx.rawL_nil]
 rfl
theorem lex1 : Lx.lexS s1 = (l1,0,0) := by
 rw [Lx.lexS,if_neg (by decide),show Lx.skipL s1 = s1 from Lx.skip_none (by decide) (by decide),raw1]
 rfl
def s2 : List UInt8 := [112,40,120,41,46]
def l2 : List Tok := [⟨1, [112],1⟩,⟨4, [40],1⟩,⟨1, [120],1⟩,⟨4, [41],1⟩,⟨4, [46],1⟩]
theorem raw2 : Lx.rawL s2 = ([(1, [112],0),(4, [40],0),(1, [120],0),(4, [41],0),(4, [46],0)],none) := by
 unfold s2
 rw [Lx.rawL_step (k := 1) (w := [112]) (r := [40,120,41,46]) (t := [40,120,41,46]) (by decide) (Lx.skip_none (by decide) (by decide))]
 rw [Lx.rawL_step (k := 4) (w := [40]) (r := [120,41,46]) (t := [120,41,46]) (by decide) (Lx.skip_none (by decide) (by decide))]
 rw [Lx.rawL_step (k := 1) (w := [120]) (r := [41,46]) (t := [41,46]) (by decide) (Lx.skip_none (by decide) (by decide))]
 rw [Lx.rawL_step (k := 4) (w := [41]) (r := [46]) (t := [46]) (by decide) (Lx.skip_none (by decide) (by decide))]
 rw [Lx.rawL_step (k := 4) (w := [46]) (r := []) (t := []) (by decide) Lx.skipL_nil]
 rw [Lx.rawL_nil]
 rfl
theorem lex2 : Lx.lexS s2 = (l2,0,0) := by
 rw [Lx.lexS,if_neg (by decide),show Lx.skipL s2 = s2 from Lx.skip_none (by decide) (by decide),raw2]
 rfl
theorem items1 (a b : List UInt8) : itemsGo 20001 20000 ⟨[], []⟩ [⟨1, [112],1⟩,⟨4, [40],1⟩,⟨1, [120],1⟩,⟨4, [41],1⟩,⟨4, [58,45],1⟩,⟨1, [113],1⟩,⟨4, [40],1⟩,⟨1, [120],1⟩,⟨4, [41],1⟩,⟨4, [44],1⟩,⟨1, [120],1⟩,⟨4, [62],1⟩,⟨2,a,1⟩,⟨4, [43],1⟩,⟨2,b,1⟩,⟨4, [42],1⟩,⟨1, [120],1⟩,⟨4, [46],1⟩] = .ok ⟨[], [⟨⟨[112], [.mk 1 [120] 0 []]⟩, [⟨1,⟨[113], [.mk 1 [120] 0 []]⟩,zeroT,zeroT⟩,⟨5,zeroA, .mk 5 [] 0 [.mk 2 [] (IntKind.i64.wrap (1 * (pnL a).1)) [], .mk 7 [] 0 [.mk 2 [] (IntKind.i64.wrap (1 * (pnL b).1)) [], .mk 1 [120] 0 []]], .mk 1 [120] 0 []⟩],1⟩]⟩ := rfl
def p1 : Pr := ⟨[], [⟨⟨[112], [.mk 1 [120] 0 []]⟩, [⟨1,⟨[113], [.mk 1 [120] 0 []]⟩,zeroT,zeroT⟩,⟨5,zeroA, .mk 5 [] 0 [.mk 2 [] 1 [], .mk 7 [] 0 [.mk 2 [] 2 [], .mk 1 [120] 0 []]], .mk 1 [120] 0 []⟩],1⟩]⟩
theorem read1 : readV s1 = (p1,0,0) := by
 rw [readV,lex1,if_neg (by decide)]
 refine parse_of (by decide) ((items1 [49] [50]).trans ?_)
 rw [pn1,pn2]; rfl
theorem items2 : itemsGo 20001 20000 ⟨[], []⟩ l2 = .error (40,1) := rfl
theorem read2 : readV s2 = (⟨[], []⟩,1,40) := by
 rw [readV,lex2,if_neg (by decide),parseL,if_neg (by decide)]
 rw [show itemsGo 20001 20000 ⟨[], []⟩ (l2,(0 : Int),(0 : Int)).1 = .error (40,1) from items2]
theorem right1 : rightP p1 = true := by decide
def t1T : List UInt8 := [112,40,120,41,32,58,45,32,113,40,120,41,44,32,40,49,32,43,32,40,50,32,42,32,120,41,41,32,60,32,120,46,10]
theorem text1 : showP p1 = t1T := by
 have e1 : showT (.mk 2 [] 1 []) = [49] := by rw [showT,if_neg (by decide),if_pos rfl,itoa_1]
 have e2 : showT (.mk 2 [] 2 []) = [50] := by rw [showT,if_neg (by decide),if_pos rfl,itoa_two]
 have ex : showT (.mk 1 [120] 0 []) = [120] := rfl
 have e3 : showT (.mk 7 [] 0 [.mk 2 [] 2 [], .mk 1 [120] 0 []]) = [40,50,32,42,32,120,41] := by rw [showT_two (.inr (.inr rfl)),e2,ex]; rfl
 have e4 : showT (.mk 5 [] 0 [.mk 2 [] 1 [], .mk 7 [] 0 [.mk 2 [] 2 [], .mk 1 [120] 0 []]]) = [40,49,32,43,32,40,50,32,42,32,120,41,41] := by rw [showT_two (.inl rfl),e1,e3]; rfl
 have ea : ∀ c : UInt8,showA ⟨[c], [.mk 1 [120] 0 []]⟩ = [c,40,120,41] := fun c => by
  rw [showA]
  show [c] ++ ([40] ++ (Lib.join [showT (.mk 1 [120] 0 [])] [44,32] ++ [41])) = _
  rw [ex,Lib.join_one]; rfl
 have l1 : showL ⟨1,⟨[113], [.mk 1 [120] 0 []]⟩,zeroT,zeroT⟩ = [113,40,120,41] := by rw [showL,if_pos rfl]; exact ea 113
 have l2 : showL ⟨5,zeroA, .mk 5 [] 0 [.mk 2 [] 1 [], .mk 7 [] 0 [.mk 2 [] 2 [], .mk 1 [120] 0 []]], .mk 1 [120] 0 []⟩ = [40,49,32,43,32,40,50,32,42,32,120,41,41,32,60,32,120] := by
  rw [showL,if_neg (by decide),if_neg (by decide),if_pos (by decide)]
  show showT (.mk 5 [] 0 [.mk 2 [] 1 [], .mk 7 [] 0 [.mk 2 [] 2 [], .mk 1 [120] 0 []]]) ++ (eqL 5 ++ showT (.mk 1 [120] 0 [])) = _
  rw [e4,ex]; rfl
 show ([] : List (List UInt8)).flatten ++ ([showA ⟨[112], [.mk 1 [120] 0 []]⟩ ++ (([32,58,45,32] ++ Lib.join [showL ⟨1,⟨[113], [.mk 1 [120] 0 []]⟩,zeroT,zeroT⟩,showL ⟨5,zeroA, .mk 5 [] 0 [.mk 2 [] 1 [], .mk 7 [] 0 [.mk 2 [] 2 [], .mk 1 [120] 0 []]], .mk 1 [120] 0 []⟩] [44,32]) ++ [46]) ++ [10]]).flatten = _
 rw [ea,l1,l2,join_cons2,Lib.join_one]; rfl
theorem okS1 : okS p1 := by
 refine ⟨fun d hd => ?_,fun r hr => ?_,by decide⟩
 ·cases hd
 ·obtain rfl := List.mem_singleton.1 hr
  refine ⟨?_,fun l hl => ?_⟩
  ·simp [okA,okTs,Tree.okT,inR64]
  ·simp only [List.mem_cons,List.not_mem_nil,or_false] at hl
   rcases hl with rfl | rfl <;> simp [okL,okA,okTs,Tree.okT,inR64,zeroT,zeroA]
def LawG (R : List En) : Prop := ReadG R ∧ ∃ b o,En.glob 1 [errE b o] ∈ R
theorem LawG.cons {R : List En} (h : LawG R) {e : En} : LawG (e :: R) := ⟨h.1.cons,let ⟨b,o,h⟩ := h.2; ⟨b,o, .tail _ h⟩⟩
theorem shown_ok (R : List En) (hG : LawG R) : ACall Tryz.prog 7 [] R (fun r S => r = .bool true ∧ S = R) := by
 obtain ⟨hG,b,o,hE⟩ := hG
 have k1 := fun R hG => read_ok s1 R (by decide) hG
 have k2 := fun R hG => read_ok s2 R (by decide) hG
 have k3 := fun R hE hG => showS_ok b o p1 R hE okS1 hG
 rw [read1] at k1
 rw [read2] at k2
 rw [shownP_t right1,text1] at k3
 refine ACall_body tab_ok Tryz.func7 rfl rfl rfl (by kernel_rfl) (Nat.le_of_ble_eq_true rfl) ?_
 repeat (first | refine go_ ?_ | intro _)
 refine Or.inl ⟨⟨_,Tryz.func15,rfl,rfl⟩,ACall.mono ?_ (k1 _ hG)⟩
 rintro _ S1 ⟨rfl,hS1⟩
 subst S1
 repeat (first | refine go_ ?_ | intro _)
 refine Or.inl ⟨⟨_,Tryz.func15,rfl,rfl⟩,ACall.mono ?_ (k2 _ hG.cons)⟩
 rintro _ S1 ⟨rfl,hS1⟩
 subst S1
 repeat (first | refine go_ ?_ | intro _)
 refine Or.inl ⟨⟨_,Tryz.func13,rfl,rfl⟩,ACall.mono ?_ (k3 _ (.tail _ (.tail _ hE)) hG.cons.cons.1)⟩
 rintro _ S1 ⟨rfl,hS1⟩
 subst S1
 repeat (first | refine ga_ ?_ | intro _)
 refine AW_ret ?_
 repeat refine mk_ ?_
 refine ⟨_,R,AVle.eq ?_,sle_,rfl,rfl⟩
 rfl
end Go.Proofs.YtfeknkaioofljaaGreatDoor
namespace Go.Proofs.YtfeknkaioofljaaGreatDoor
open Go.Aw Go.RowKit Tree
open Lx (Tok)
structure TokOk (t : Tok) : Prop where
 name : t.kind = 1 → t.s ≠ [95] → nameB t.s = true
 num : t.kind = 2 → (pnL t.s).2 = 0 ∧ 0 ≤ (pnL t.s).1
def tlen (t : Tok) : Nat := if t.kind = 3 then (quoteL t.s).length else t.s.length
def tl (ts : List Tok) : Nat := (ts.map tlen).sum
theorem tl_cons (t : Tok) (ts : List Tok) : tl (t :: ts) = tlen t + tl ts := by rw [tl,List.map_cons,List.sum_cons]; rfl
theorem tl_nil : tl [] = 0 := rfl
theorem tl_tail {ts : List Tok} (h : ts ≠ []) : tl ts = tlen (hd ts 0) + tl ts.tail := by
 cases ts with
 | nil => exact absurd rfl h
 | cons t r => exact tl_cons t r
theorem len_tail {ts : List Tok} (h : ts ≠ []) : ts.length = ts.tail.length + 1 := by
 cases ts with
 | nil => exact absurd rfl h
 | cons t r => rfl
theorem tlen_of {t : Tok} (h : t.kind ≠ 3) : tlen t = t.s.length := if_neg h
theorem tl_takes {s : List UInt8} {ts r : List Tok} (h : takesL s ts = some r) : tl ts = s.length + tl r ∧ ts.length = r.length + 1 := by
 obtain ⟨hn,rfl,hs⟩ := takes_suf h
 obtain ⟨h1,h2⟩ := sign_kind hs
 rw [tl_tail hn,tlen_of (by rw [h1]; decide),h2]
 exact ⟨rfl,len_tail hn⟩
theorem tl_must {s : List UInt8} {ts r : List Tok} {u : Unit} (h : mustL s ts = .ok (u,r)) : tl ts = s.length + tl r ∧ ts.length = r.length + 1 := tl_takes (must_some h)
def ToksOk (ts : List Tok) : Prop := ∀ t ∈ ts,TokOk t
theorem ToksOk.suf {ts r : List Tok} (h : ToksOk ts) (hs : r <:+ ts) : ToksOk r := fun t ht => h t (hs.subset ht)
theorem ToksOk.hd {ts : List Tok} (h : ToksOk ts) {n : Nat} (hn : n < ts.length) : TokOk (hd ts n) := by rw [hd_get hn]; exact h _ (List.getElem_mem hn)
theorem nameT_ok {t : Tok} (h : TokOk t) (hn : nameT t = true) : nameB t.s = true ∧ t.kind = 1 := by
 rw [nameT,Bool.and_eq_true,decide_eq_true_eq,Bool.not_eq_true',decide_eq_false_iff_not] at hn
 exact ⟨h.name hn.1 hn.2,hn.1⟩
theorem tl_name {ts r : List Tok} {s : List UInt8} (hT : ToksOk ts) (h : nameP ts = .ok (s,r)) : nameB s = true ∧ tl ts = s.length + tl r ∧ ts.length = r.length + 1 ∧ r <:+ ts := by
 obtain ⟨h1,h2,rfl,rfl⟩ := less_name h
 have hk := name_kind h2
 have hn := ne_kind (ts := ts) (by rw [hk]; decide)
 refine ⟨(nameT_ok (hT.hd (List.length_pos_iff.2 hn)) h2).1,?_,len_tail hn,h1.1⟩
 rw [tl_tail hn,tlen_of (by rw [hk]; decide)]
theorem rightT_mono : ∀ (h : Nat) (t : T),rightT t h = true → ∀ h',h ≤ h' → rightT t h' = true
 | 0,t,hr,_,_ => by rw [rightT] at hr; cases hr
 | h + 1,t,hr,0,hh => by omega
 | h + 1,t,hr,k + 1,hh => by
  rw [rightT] at hr ⊢
  split at hr
  ·rename_i h1; rw [if_pos h1]; exact hr
  ·rename_i h1
   rw [if_neg h1]
   simp only [Bool.and_eq_true,List.all_eq_true] at hr ⊢
   refine ⟨hr.1,hr.2.1,hr.2.2.1,fun x hx => ?_⟩
   have := hr.2.2.2 x hx
   exact ⟨this.1,this.2.1,rightT_mono h x this.2.2 k (by omega)⟩
mutual
def lo : T → Prop
 | .mk op _ n l => (op = 2 → n ≠ -9223372036854775808) ∧ los l
def los : List T → Prop
 | [] => True
 | t :: r => lo t ∧ los r
end
theorem los_all : ∀ {l : List T},los l ↔ ∀ x ∈ l,lo x
 | [] => by rw [los]; simp
 | t :: r => by rw [los,los_all]; simp
theorem nTs_all : ∀ {l : List T},nTs l ↔ ∀ x ∈ l,nT x
 | [] => by rw [nTs]; simp
 | t :: r => by rw [nTs,nTs_all]; simp
structure GT (t : T) (ts r : List Tok) : Prop where
 right : rightT t (highT t) = true
 num : nT t
 low : lo t
 op0 : t.op ≠ 0
 op4 : t.op ≠ 4
 cnt : r.length + cntT t ≤ ts.length
 len : 5 * tl r + (showT t).length ≤ 5 * tl ts
theorem high_leaf (op : Int) (s : List UInt8) (n : Int) : highT (.mk op s n []) = 1 := by rw [highT,highs]
theorem leaf_right {op : Int} {s : List UInt8} {n : Int} (h2 : twoB op = false) (hb : bareB (.mk op s n []) = true) (h0 : op ≠ 0) : rightT (.mk op s n []) (highT (.mk op s n [])) = true := by
 rw [high_leaf,rightT,if_pos (show twoB (T.mk op s n []).op = false from h2),leafB,hb]
 simp [T.op,T.l,h0]
theorem cnt_leaf (op : Int) (s : List UInt8) (n : Int) : cntT (.mk op s n []) = 1 := by rw [cntT,cntTs]
theorem nT_leaf {op : Int} {s : List UInt8} {n : Int} (h : inR64 n) : nT (.mk op s n []) := by rw [nT,nTs]; exact ⟨h,trivial⟩
theorem lo_leaf {op : Int} {s : List UInt8} {n : Int} (h : op = 2 → n ≠ -9223372036854775808) : lo (.mk op s n []) := by rw [lo,los]; exact ⟨h,trivial⟩
theorem r64_0 : inR64 0 := by unfold inR64; omega
theorem show_num (s : List UInt8) (n : Int) (l : List T) : showT (.mk 2 s n l) = Lib.itoa n := by rw [showT]; rfl
theorem itoa_minus {n : Int} (h : 0 ≤ n) : (Lib.itoa (-n)).length ≤ (Lib.itoa n).length + 1 := by
 obtain ⟨u,rfl⟩ : ∃ u : Nat,n = u := ⟨n.toNat,by omega⟩
 rw [Lib.itoa_nonneg]
 by_cases hu : u = 0
 ·subst hu
  have : Lib.itoa (-((0 : Nat) : Int)) = Lib.decDigits 0 := Lib.itoa_nonneg 0
  rw [this]; omega
 ·rw [Lib.itoa_neg u (by omega),List.length_cons]; omega
theorem gt_num {z : Int} (hz : z = 1 ∨ z = -1) {ts0 ts r : List Tok} {x : T} (hT : ToksOk ts) (h : numL z ts = .ok (x,r)) (hl : 5 * tl ts + (if z = 1 then 0 else 1) ≤ 5 * tl ts0) (hc : ts.length ≤ ts0.length) : GT x ts0 r := by
 rw [numL] at h
 split at h
 ·rename_i hk
  have hn := ne_kind (ts := ts) (by rw [hk]; decide)
  obtain ⟨h1,h2⟩ := (hT.hd (List.length_pos_iff.2 hn)).num hk
  obtain ⟨h3,h4⟩ := pn_ok h1
  cases h
  have e1 := tl_tail hn
  have e2 := len_tail hn
  rw [tlen_of (by rw [hk]; decide), ← h4] at e1
  generalize (pnL (Go.Proofs.YtfeknkaioofljaaGreatDoor.hd ts 0).s).1 = v at h2 h3 e1
  have h3' := h3
  unfold inR64 at h3'
  have hw : IntKind.i64.wrap (z * v) = z * v := wrap_i64 (by rcases hz with rfl | rfl <;> omega)
  rw [hw]
  have hlen : (Lib.itoa (z * v)).length ≤ (Lib.itoa v).length + (if z = 1 then 0 else 1) := by
   rcases hz with rfl | rfl
   ·rw [Int.one_mul]; simp
   ·rw [Int.neg_one_mul]; have := itoa_minus h2; simpa using this
  refine ⟨leaf_right (by decide) (by simp [bareB,T.op,T.s]) (by decide),nT_leaf (by unfold inR64; rcases hz with rfl | rfl <;> omega),lo_leaf (fun _ => by rcases hz with rfl | rfl <;> omega),(show (2 : Int) ≠ 0 by decide),(show (2 : Int) ≠ 4 by decide),by rw [cnt_leaf]; omega,?_⟩
  rw [show_num]; omega
 ·cases h
theorem ops_len {s : List UInt8} (h : opsP s ≠ 0 ∨ opsS s ≠ 0) : s.length = 1 := by
 rcases h with h | h
 ·rw [opsP] at h
  split at h
  ·rename_i e; rw [e]; rfl
  ·exact absurd rfl h
 ·rw [opsS] at h
  split at h
  ·rename_i e; rw [e]; rfl
  ·split at h
   ·rename_i e; rw [e]; rfl
   ·exact absurd rfl h
def OpsIn (ops : List UInt8 → Int) : Prop := ∀ s,ops s ≠ 0 → s.length = 1 ∧ (ops s = 5 ∨ ops s = 6 ∨ ops s = 7)
theorem opsP_in : OpsIn opsP := fun s h => ⟨ops_len (.inl h),by
 rw [opsP] at h ⊢
 split at h
 ·rename_i e; rw [if_pos e]; omega
 ·exact absurd rfl h⟩
theorem opsS_in : OpsIn opsS := fun s h => ⟨ops_len (.inr h),by
 rw [opsS] at h ⊢
 split at h
 ·rename_i e; rw [if_pos e]; omega
 ·rename_i e1
  rw [if_neg e1]
  split at h
  ·rename_i e; rw [if_pos e]; omega
  ·exact absurd rfl h⟩
theorem gt_two {op : Int} {x y : T} {ts0 ts r r' : List Tok} (ho : op = 5 ∨ op = 6 ∨ op = 7) (hx : GT x ts0 ts) (hy : GT y r r') (h3 : x.op ≠ 3) (h3' : y.op ≠ 3) (hl : tl r + 1 ≤ tl ts) (hc : r.length + 1 ≤ ts.length) : GT (.mk op [] 0 [x,y]) ts0 r' := by
 have hh : highT (.mk op [] 0 [x,y]) = max (highT x) (max (highT y) 0) + 1 := by rw [highT,highs,highs,highs]
 refine ⟨?_,?_,?_,by show op ≠ 0; omega,by show op ≠ 4; omega,?_,?_⟩
 ·rw [hh,rightT,if_neg (by show ¬ twoB op = false; rcases ho with rfl | rfl | rfl <;> decide)]
  have a := rightT_mono _ x hx.right (max (highT x) (max (highT y) 0)) (by omega)
  have b := rightT_mono _ y hy.right (max (highT x) (max (highT y) 0)) (by omega)
  simp only [T.s,T.n,T.l,List.all_cons,List.all_nil,decide_eq_false h3,decide_eq_false h3',decide_eq_false hx.op4,decide_eq_false hy.op4,a,b]; rfl
 ·rw [nT,nTs,nTs,nTs]; exact ⟨r64_0,hx.num,hy.num,trivial⟩
 ·rw [lo,los,los,los]; exact ⟨fun h => by omega,hx.low,hy.low,trivial⟩
 ·have a := hx.cnt
  have b := hy.cnt
  rw [cntT,cntTs,cntTs,cntTs]; omega
 ·have a := hx.len
  have b := hy.len
  have hs : (signL op).length = 3 := by rw [signL]; split <;> (try split) <;> rfl
  rw [showT_two ho]
  simp only [List.length_cons,List.length_append,List.length_nil,hs]
  omega
theorem gt_chain {part : List Tok → PR T} {ops : List UInt8 → Int} (he : Eats part) (hp : ∀ ts x r,ToksOk ts → part ts = .ok (x,r) → GT x ts r) (ho : OpsIn ops) : ∀ (k : Nat) (x : T) (ts0 ts : List Tok) (y : T) (r : List Tok),ToksOk ts → GT x ts0 ts → chainGo part ops k x ts = .ok (y,r) → GT y ts0 r
 | 0,x,ts0,ts,y,r,_,hx,h => by rw [chainGo] at h; cases h; exact hx
 | k + 1,x,ts0,ts,y,r,hT,hx,h => by
  rw [chainGo] at h
  split at h
  ·rename_i hk
   split at h
   ·cases h
   ·rename_i y' r' hr
    split at h
    ·cases h
    ·rename_i h3
     have hn := ne_kind (ts := ts) (by rw [hk.1]; decide)
     obtain ⟨o1,o2⟩ := ho _ hk.2
     have e1 := tl_tail hn
     have e2 := len_tail hn
     rw [tlen_of (by rw [hk.1]; decide),o1] at e1
     exact gt_chain he hp ho k _ ts0 r' y r (hT.suf ((he _ _ _ hr).1.trans tail_suf)) (gt_two o2 hx (hp _ _ _ (hT.suf tail_suf) hr) (fun e => h3 (.inl e)) (fun e => h3 (.inr e)) (by omega) (by omega)) h
  ·cases h; exact hx
theorem gt_chainL {part : List Tok → PR T} {ops : List UInt8 → Int} (he : Eats part) (hp : ∀ ts x r,ToksOk ts → part ts = .ok (x,r) → GT x ts r) (ho : OpsIn ops) : ∀ ts x r,ToksOk ts → chainL part ops ts = .ok (x,r) → GT x ts r := fun ts x r hT h => by
 rw [chainL] at h
 split at h
 ·cases h
 ·rename_i y r' hr
  exact gt_chain he hp ho _ _ ts r' x r (hT.suf (he _ _ _ hr).1) (hp _ _ _ hT hr) h
theorem GT.wide {t : T} {a b c d : List Tok} (h : GT t a b) (h1 : tl a + tl d ≤ tl c + tl b) (h2 : a.length + d.length ≤ c.length + b.length) : GT t c d :=
 ⟨h.right,h.num,h.low,h.op0,h.op4,by have := h.cnt; omega,by have := h.len; omega⟩
theorem gt_thing : ∀ (n : Nat) (ts : List Tok) (x : T) (r : List Tok),ToksOk ts → thingL n ts = .ok (x,r) → GT x ts r
 | 0,ts,x,r,_,h => by rw [thingL] at h; cases h
 | n + 1,ts,x,r,hT,h => by
  have hS : ∀ ts x r,ToksOk ts → chainL (chainL (thingL n) opsP) opsS ts = .ok (x,r) → GT x ts r := gt_chainL (eats_chain (eats_thing n)) (gt_chainL (eats_thing n) (gt_thing n) opsP_in) opsS_in
  have hne := eats_ne (eats_thing (n + 1)) h
  have e1 := tl_tail hne
  have e2 := len_tail hne
  rw [thingL] at h
  split at h
  ·exact gt_num (.inl rfl) hT h (by simp) (Nat.le_refl _)
  ·split at h
   ·rename_i h1 h2
    cases h
    rw [tlen,if_pos h2] at e1
    refine ⟨leaf_right (by decide) (by simp [bareB,T.op,T.n]) (by decide),nT_leaf r64_0,lo_leaf (fun h => by cases h),(show (3 : Int) ≠ 0 by decide),(show (3 : Int) ≠ 4 by decide),by rw [cnt_leaf]; omega,?_⟩
    have : showT (.mk 3 (hd ts 0).s 0 []) = quoteL (hd ts 0).s := by rw [showT]; rfl
    rw [this]; omega
   ·split at h
    ·rename_i h1 h2 h3
     cases h
     obtain ⟨hb,hk⟩ := nameT_ok (hT.hd (List.length_pos_iff.2 hne)) h3
     rw [tlen_of h2] at e1
     refine ⟨leaf_right (by decide) (by simp [bareB,T.op,T.n,T.s,hb]) (by decide),nT_leaf r64_0,lo_leaf (fun h => by cases h),(show (1 : Int) ≠ 0 by decide),(show (1 : Int) ≠ 4 by decide),by rw [cnt_leaf]; omega,?_⟩
     have : showT (.mk 1 (hd ts 0).s 0 []) = (hd ts 0).s := by rw [showT]; rfl
     rw [this]; omega
    ·split at h
     ·rename_i r1 h4
      obtain ⟨a,b⟩ := tl_takes h4
      exact gt_num (.inr rfl) (hT.suf (less_takes h4).1) h (by rw [a]; simp; omega) (by omega)
     ·split at h
      ·rename_i r1 h5
       obtain ⟨a,b⟩ := tl_takes h5
       rw [within1] at h
       split at h
       ·cases h
       ·rename_i y r2 h6
        split at h
        ·cases h
        ·rename_i u r3 h7
         obtain ⟨c,d⟩ := tl_must h7
         cases h
         exact (hS _ _ _ (hT.suf (less_takes h5).1) h6).wide (by omega) (by omega)
      ·cases h
theorem gt_sum (F : Nat) : ∀ ts x r,ToksOk ts → sumL F ts = .ok (x,r) → GT x ts r := gt_chainL (eats_prod F) (gt_chainL (eats_thing F) (gt_thing F) opsP_in) opsS_in
structure GA (t : T) (ts r : List Tok) : Prop where
 right : rightT t 20 = true
 num : nT t
 low : lo t
 cnt : r.length + cntT t ≤ ts.length
 len : 5 * tl r + (showT t).length ≤ 5 * tl ts
theorem ga_expr (F : Nat) {ts r : List Tok} {x : T} (hT : ToksOk ts) (h : exprL F ts = .ok (x,r)) : GA x ts r ∧ x.op ≠ 4 ∧ x.op ≠ 0 := by
 rw [exprL] at h
 split at h
 ·cases h
 ·rename_i y r' hr
  split at h
  ·cases h
  ·rename_i h1
   cases h
   have g := gt_sum F _ _ _ hT hr
   exact ⟨⟨rightT_mono _ _ g.right 20 (by omega),g.num,g.low,g.cnt,g.len⟩,g.op4,g.op0⟩
theorem ga_arg (F : Nat) {ts r : List Tok} {x : T} (hT : ToksOk ts) (h : argL F ts = .ok (x,r)) : GA x ts r := by
 have hne := eats_ne (eats_arg F) h
 have e1 := tl_tail hne
 have e2 := len_tail hne
 rw [argL] at h
 split at h
 ·rename_i hk
  cases h
  rw [tlen_of (by rw [hk.1]; decide),hk.2] at e1
  have e3 : showT (.mk 4 [] 0 []) = [95] := by rw [showT]; rfl
  exact ⟨by decide,nT_leaf r64_0,lo_leaf (fun h => by cases h),by rw [cnt_leaf]; omega,by rw [e3]; simp at e1 ⊢; omega⟩
 ·exact (ga_expr F hT h).1
def lenS (l : List (List UInt8)) : Nat := (l.map fun x => x.length + 2).sum
theorem lenS_app (l : List (List UInt8)) (x : List UInt8) : lenS (l ++ [x]) = lenS l + (x.length + 2) := by simp [lenS]
theorem join_lenS (l : List (List UInt8)) : (Lib.join l [44,32]).length ≤ lenS l := by
 have := join_len l [44,32]
 have e : lenS l = (l.map List.length).sum + 2 * l.length := by
  unfold lenS
  induction l with
  | nil => rfl
  | cons a r ih =>
   have := ih (by have := join_len r [44,32]; exact this)
   simp only [List.map_cons,List.sum_cons,List.length_cons,this]; omega
 rw [e]; exact this
theorem cntTs_app (l : List T) (x : T) : cntTs (l ++ [x]) = cntTs l + cntT x := by
 induction l with
 | nil => rw [List.nil_append,cntTs,cntTs,cntTs]; omega
 | cons a r ih => rw [List.cons_append,cntTs,cntTs,ih]; omega
theorem list_inv {α : Type} {one : α → List Tok → PR α} (Q P : Nat → α → List Tok → Prop) (ho : ∀ n x ts x' r,Q n x ts → one x ts = .ok (x',r) → P (n + 1) x' r) (hc : ∀ n x r r',P n x r → takesL [44] r = some r' → Q n x r') :
  ∀ (k n : Nat) (x : α) (ts : List Tok) (y : α) (r : List Tok),Q n x ts → listGo one k x ts = .ok (y,r) → ∃ m,n < m ∧ m ≤ n + k ∧ P m y r
 | 0,n,x,ts,y,r,_,h => by rw [listGo] at h; cases h
 | k + 1,n,x,ts,y,r,hq,h => by
  rw [listGo] at h
  split at h
  ·cases h
  ·rename_i x' r1 h1
   have q1 := ho n x ts x' r1 hq h1
   split at h
   ·rename_i r2 h2
    obtain ⟨m,a,b,c⟩ := list_inv Q P ho hc k (n + 1) x' r2 y r (hc _ _ _ _ q1 h2) h
    exact ⟨m,by omega,by omega,c⟩
   ·cases h
    exact ⟨n + 1,by omega,by omega,q1⟩
def AQ (ts : List Tok) (c n : Nat) (l : List T) (r : List Tok) : Prop := l.length = n ∧ r <:+ ts ∧ (∀ x ∈ l,rightT x 20 = true ∧ nT x ∧ lo x) ∧ r.length + cntTs l ≤ ts.length ∧ 5 * tl r + lenS (l.map showT) ≤ 5 * tl ts + c
theorem gt_args (F : Nat) {ts r : List Tok} {l : List T} (hT : ToksOk ts) (h : listGo (argStep F) 8 [] ts = .ok (l,r)) : 1 ≤ l.length ∧ l.length ≤ 8 ∧ r <:+ ts ∧ (∀ x ∈ l,rightT x 20 = true ∧ nT x ∧ lo x) ∧ r.length + cntTs l ≤ ts.length ∧ 5 * tl r + lenS (l.map showT) ≤ 5 * tl ts + 2 := by
 have ho : ∀ n x ts1 x' r1,AQ ts 0 n x ts1 → argStep F x ts1 = .ok (x',r1) → AQ ts 2 (n + 1) x' r1 := by
  rintro n l ts1 l' r1 ⟨q1,q2,q3,q4,q5⟩ ha
  rw [argStep] at ha
  split at ha
  ·cases ha
  ·rename_i t r2 h1
   cases ha
   have g := ga_arg F (hT.suf q2) h1
   have g1 := g.cnt
   have g2 := g.len
   refine ⟨by rw [List.length_append,q1]; rfl,(eats_arg F _ _ _ h1).1.trans q2,fun x hx => ?_,by rw [cntTs_app]; omega,by rw [List.map_append,List.map_cons,List.map_nil,lenS_app]; omega⟩
   rcases List.mem_append.1 hx with hx | hx
   ·exact q3 x hx
   ·rcases List.mem_singleton.1 hx with rfl
    exact ⟨g.right,g.num,g.low⟩
 have hc : ∀ n x r1 r2,AQ ts 2 n x r1 → takesL [44] r1 = some r2 → AQ ts 0 n x r2 := by
  rintro n l r1 r2 ⟨q1,q2,q3,q4,q5⟩ hk
  obtain ⟨a,b⟩ := tl_takes hk
  simp only [List.length_cons,List.length_nil] at a
  exact ⟨q1,(less_takes hk).1.trans q2,q3,by omega,by omega⟩
 obtain ⟨m,h1,h2,h3,h4,h5⟩ := list_inv (AQ ts 0) (AQ ts 2) ho hc 8 0 [] ts l r ⟨rfl,List.suffix_refl _,fun x hx => (by cases hx),by rw [cntTs]; omega,by simp [lenS]⟩ h
 exact ⟨by omega,by omega,h4,h5⟩
structure GAt (a : At) (ts r : List Tok) : Prop where
 right : rightA a = true
 num : nTs a.l
 low : los a.l
 suf : r <:+ ts
 cnt : r.length + cntTs a.l + 3 ≤ ts.length
 len : 5 * tl r + (showA a).length + 5 ≤ 5 * tl ts
theorem showA_length (a : At) : (showA a).length = a.rel.length + ((Lib.join (a.l.map showT) [44,32]).length + 2) := by
 rw [showA]; simp only [List.length_append,List.length_cons,List.length_nil]; omega
theorem gt_atom (F : Nat) {ts r : List Tok} {a : At} (hT : ToksOk ts) (h : atomL F ts = .ok (a,r)) : GAt a ts r := by
 have hsuf := (eats_atom F _ _ _ h).1
 rw [atomL] at h
 split at h
 ·cases h
 ·rename_i s r1 h1
  obtain ⟨n1,n2,n3,n4⟩ := tl_name hT h1
  split at h
  ·cases h
  ·rename_i l r2 h2
   cases h
   rw [withinL] at h2
   split at h2
   ·cases h2
   ·rename_i u r3 h3
    obtain ⟨a1,a2⟩ := tl_must h3
    split at h2
    ·cases h2
    ·rename_i l' r4 h4
     split at h2
     ·cases h2
     ·rename_i u2 r5 h5
      obtain ⟨b1,b2⟩ := tl_must h5
      cases h2
      obtain ⟨c1,c2,c3,c4,c5,c6⟩ := gt_args F (hT.suf ((less_must h3).1.trans n4)) h4
      have hj := join_lenS (l.map showT)
      simp only [List.length_cons,List.length_nil] at a1 b1
      refine ⟨?_,nTs_all.2 fun x hx => (c4 x hx).2.1,los_all.2 fun x hx => (c4 x hx).2.2,hsuf,by show r.length + cntTs l + 3 ≤ _; omega,?_⟩
      ·rw [rightA,n1]
       simp only [Bool.true_and,Bool.and_eq_true,Bool.not_eq_true',decide_eq_false_iff_not,List.all_eq_true]
       exact ⟨by omega,by omega,fun x hx => (c4 x hx).1⟩
      ·rw [showA_length]
       show _ + (s.length + ((Lib.join (l.map showT) [44,32]).length + 2)) + 5 ≤ _
       omega
def loL (l : Li) : Prop := los l.a.l ∧ lo l.x ∧ lo l.y
structure GL (l : Li) (ts r : List Tok) : Prop where
 right : rightL l = true
 num : nL l
 low : loL l
 suf : r <:+ ts
 cnt : r.length + cntL l ≤ ts.length
 len : 5 * tl r + (showL l).length ≤ 5 * tl ts
theorem zero_all : nT zeroT ∧ lo zeroT ∧ cntT zeroT = 1 ∧ noT zeroT = true := ⟨nT_leaf r64_0,lo_leaf (fun h => by cases h),cnt_leaf _ _ _,by decide⟩
theorem zeroA_all : nTs zeroA.l ∧ los zeroA.l ∧ cntTs zeroA.l = 0 ∧ noA zeroA = true := ⟨by show nTs []; rw [nTs]; trivial,by show los []; rw [los]; trivial,by show cntTs [] = 0; rw [cntTs],by decide⟩
theorem gl_litA (F : Nat) {op : Int} (ho : op = 1 ∨ op = 2) {ts0 ts r : List Tok} {l : Li} (hT : ToksOk ts) (h : litA op (atomL F ts) = .ok (l,r)) (hs : ts <:+ ts0) (hl : 5 * tl ts ≤ 5 * tl ts0) (hc : ts.length ≤ ts0.length) : GL l ts0 r := by
 cases hx : atomL F ts with
 | error e => rw [hx] at h; cases h
 | ok q =>
  obtain ⟨a,r1⟩ := q
  rw [hx] at h
  cases h
  have g := gt_atom F hT hx
  have g1 := g.cnt
  have g2 := g.len
  obtain ⟨z1,z2,z3,z4⟩ := zero_all
  refine ⟨?_,⟨g.num,z1,z1⟩,⟨g.low,z2,z2⟩,g.suf.trans hs,by show _ + (cntTs a.l + cntT zeroT + cntT zeroT + 1) ≤ _; omega,?_⟩
  ·rw [rightL,if_pos ho]
   show (rightA a && (noT zeroT && noT zeroT)) = true
   rw [g.right,z4]; rfl
  ·rw [showL]
   rcases ho with rfl | rfl
   ·rw [if_pos rfl]; show _ + (showA a).length ≤ _; omega
   ·rw [if_neg (show ¬ (2 : Int) = 1 by decide),if_pos rfl,List.length_append]; show _ + ([33].length + (showA a).length) ≤ _; simp only [List.length_cons,List.length_nil]; omega
theorem tl_drop1 {ts : List Tok} {n : Nat} (h : n < ts.length) : tl (ts.drop n) = tlen (hd ts n) + tl (ts.drop (n + 1)) := by
 rw [List.drop_eq_getElem_cons h,tl_cons,hd_get h]
theorem how_parts {ts : List Tok} (h : howL' ts ≠ 0) : signB (hd ts 0) [61] = true ∧ (hd ts 1).kind = 1 ∧ howL' ts = aggOp (hd ts 1).s ∧ (aggOp (hd ts 1).s = 7 ∧ signB (hd ts 2) [58] = true ∨ 7 < aggOp (hd ts 1).s ∧ nameT (hd ts 2) = true ∧ signB (hd ts 3) [58] = true) := by
 rw [howL'] at h ⊢
 split at h
 ·rename_i h1
  split at h
  ·rename_i h2
   rw [if_pos h1,if_pos h2]
   exact ⟨h1.1,h1.2,rfl,h2⟩
  ·exact absurd rfl h
 ·exact absurd rfl h
theorem agg_s {s : List UInt8} (h : aggOp s ≠ 0) : 3 ≤ s.length ∧ (aggOp s = 7 → 5 ≤ s.length) ∧ (aggOp s = 7 ∨ aggOp s = 8 ∨ aggOp s = 9 ∨ aggOp s = 10) := by
 rw [aggOp] at h ⊢
 split at h
 ·rename_i e; rw [if_pos e,e]; simp
 ·rename_i e1
  rw [if_neg e1]
  split at h
  ·rename_i e; rw [if_pos e,e]; simp
  ·rename_i e2
   rw [if_neg e2]
   split at h
   ·rename_i e; rw [if_pos e,e]; simp
   ·rename_i e3
    rw [if_neg e3]
    split at h
    ·rename_i e; rw [if_pos e,e]; simp
    ·exact absurd rfl h
theorem gl_agg (F : Nat) {x : T} {ts0 ts r : List Tok} {l : Li} (hT : ToksOk ts) (hx : GA x ts0 ts) (hs : ts <:+ ts0) (hw : howL' ts ≠ 0) (h : aggL F (howL' ts) x ts = .ok (l,r)) : GL l ts0 r := by
 obtain ⟨w1,w2,w3,w4⟩ := how_parts hw
 have ha := agg_s (by rw [← w3]; exact hw)
 have hl := agg_len h
 obtain ⟨k0,_⟩ := sign_kind w1
 rw [w3] at h hl
 generalize ho : aggOp (hd ts 1).s = op at *
 have x1 := hx.cnt
 have x2 := hx.len
 rw [aggL] at h
 split at h
 ·cases h
 ·rename_i hxo
  split at h
  ·cases h
  ·rename_i a r1 h1
   cases h
   rw [withinL] at h1
   split at h1
   ·cases h1
   ·rename_i u r2 h2
    obtain ⟨a1,a2⟩ := tl_must h2
    split at h1
    ·cases h1
    ·rename_i a' r3 h3
     split at h1
     ·cases h1
     ·rename_i u2 r4 h4
      obtain ⟨b1,b2⟩ := tl_must h4
      cases h1
      have g := gt_atom F (hT.suf ((less_must h2).1.trans (List.drop_suffix _ _))) h3
      have g1 := g.cnt
      have g2 := g.len
      have hsuf : r <:+ ts0 := (less_must h4).1.trans (g.suf.trans ((less_must h2).1.trans ((List.drop_suffix _ _).trans hs)))
      simp only [List.length_cons,List.length_nil] at a1 b1
      obtain ⟨z1,z2,z3,z4⟩ := zero_all
      have hxX : isX x = true := by
       rw [isX]
       by_cases e1 : x.op = 1
       ·rw [decide_eq_true e1]; rfl
       ·by_cases e2 : x.op = 2
        ·rw [decide_eq_true e2,Bool.or_true]
        ·exact absurd ⟨e1,e2⟩ hxo
      have t0 : tl (ts.drop 0) = tlen (hd ts 0) + tl (ts.drop 1) := tl_drop1 (by omega)
      have t1 : tl (ts.drop 1) = tlen (hd ts 1) + tl (ts.drop 2) := tl_drop1 (by omega)
      have t2 : tl (ts.drop 2) = tlen (hd ts 2) + tl (ts.drop 3) := tl_drop1 (by omega)
      rw [List.drop_zero,tlen_of (by rw [k0]; decide),(sign_kind w1).2] at t0
      rw [tlen_of (by rw [w2]; decide)] at t1
      simp only [List.length_cons,List.length_nil,Nat.zero_add] at t0
      by_cases h7 : op = 7
      ·subst h7
       rw [if_pos rfl] at hl a1 a2 h2
       rw [if_pos rfl]
       rw [List.length_drop] at a2
       have := ha.2.1 rfl
       refine ⟨?_,⟨g.num,hx.num,z1⟩,⟨g.low,hx.low,z2⟩,hsuf,by show _ + (cntTs a.l + cntT x + cntT zeroT + 1) ≤ _; omega,?_⟩
       ·rw [rightL,if_neg (show ¬ ((7 : Int) = 1 ∨ (7 : Int) = 2) by decide),if_neg (show ¬ ((3 : Int) ≤ 7 ∧ (7 : Int) ≤ 6) by decide),if_pos rfl]
        show (rightA a && ((isX x && noT zeroT) && rightT x 20)) = true
        rw [g.right,hxX,z4,hx.right]; rfl
       ·rw [showL,if_neg (show ¬ (7 : Int) = 1 by decide),if_neg (show ¬ (7 : Int) = 2 by decide),if_neg (show ¬ (7 : Int) ≤ 6 by decide),howL,if_pos rfl]
        simp only [List.length_append,List.length_cons,List.length_nil]
        omega
      ·rw [if_neg h7] at hl a1 a2 h2
       rw [if_neg h7]
       rw [List.length_drop] at a2
       obtain ⟨v1,v2,v3⟩ : 7 < op ∧ nameT (hd ts 2) = true ∧ signB (hd ts 3) [58] = true := w4.resolve_left (fun h => h7 h.1)
       obtain ⟨y1,y2⟩ := nameT_ok (hT.hd (n := 2) (by omega)) v2
       have t3 : tl (ts.drop 3) = tlen (hd ts 3) + tl (ts.drop 4) := tl_drop1 (by omega)
       rw [tlen_of (by rw [y2]; decide)] at t2
       have hop : op = 8 ∨ op = 9 ∨ op = 10 := by have := ha.2.2; omega
       have hy : showT (.mk 1 (hd ts 2).s 0 []) = (hd ts 2).s := by rw [showT]; rfl
       have hyr : rightT (.mk 1 (hd ts 2).s 0 []) 20 = true := rightT_mono _ _ (leaf_right (op := 1) (s := (hd ts 2).s) (n := 0) (by decide) (by simp [bareB,T.op,T.n,T.s,y1]) (by decide)) 20 (by rw [high_leaf]; decide)
       refine ⟨?_,⟨g.num,hx.num,nT_leaf r64_0⟩,⟨g.low,hx.low,lo_leaf (fun h => by cases h)⟩,hsuf,by show _ + (cntTs a.l + cntT x + cntT (.mk 1 _ 0 []) + 1) ≤ _; rw [cnt_leaf]; omega,?_⟩
       ·rw [rightL,if_neg (by show ¬ (op = 1 ∨ op = 2); omega),if_neg (by show ¬ (3 ≤ op ∧ op ≤ 6); omega),if_neg h7,if_pos (by show 8 ≤ op ∧ op ≤ 10; omega)]
        show (rightA a && ((isX x && decide ((1 : Int) = 1)) && (rightT x 20 && rightT (.mk 1 (hd ts 2).s 0 []) 20))) = true
        rw [g.right,hxX,hx.right,hyr]; rfl
       ·have hh : (if op = 8 then [115,117,109,32] else if op = 9 then [109,105,110,32] else ([109,97,120,32] : List UInt8)).length = 4 := by split <;> (try split) <;> rfl
        rw [showL,if_neg (show ¬ op = 1 by omega),if_neg (show ¬ op = 2 by omega),if_neg (show ¬ op ≤ 6 by omega),howL,if_neg (show ¬ op = 7 from h7)]
        simp only [List.length_append,List.length_cons,List.length_nil,hh,hy]
        omega
theorem rel_s {s : List UInt8} (h : relOp s ≠ 0) : 1 ≤ s.length ∧ (relOp s = 4 → 2 ≤ s.length) ∧ (relOp s = 6 → 2 ≤ s.length) ∧ (relOp s = 3 ∨ relOp s = 4 ∨ relOp s = 5 ∨ relOp s = 6) := by
 rw [relOp] at h ⊢
 split at h
 ·rename_i e; rw [if_pos e,e]; simp
 ·rename_i e1
  rw [if_neg e1]
  split at h
  ·rename_i e; rw [if_pos e,e]; simp
  ·rename_i e2
   rw [if_neg e2]
   split at h
   ·rename_i e; rw [if_pos e]; rcases e with e | e <;> rw [e] <;> simp
   ·rename_i e3
    rw [if_neg e3]
    split at h
    ·rename_i e; rw [if_pos e]; rcases e with e | e <;> rw [e] <;> simp
    ·exact absurd rfl h
theorem gl_rel {op : Int} {x y : T} {ts0 ts ts1 r : List Tok} (ho : op = 3 ∨ op = 4 ∨ op = 5 ∨ op = 6) (hx : rightT x 20 = true ∧ nT x ∧ lo x ∧ x.op ≠ 4) (hy : rightT y 20 = true ∧ nT y ∧ lo y ∧ y.op ≠ 4) (hs : r <:+ ts0) (hc : r.length + cntT x + cntT y + 1 ≤ ts0.length) (hl : 5 * tl r + (showT x).length + (showT y).length + 4 ≤ 5 * tl ts0) : GL ⟨op,zeroA,x,y⟩ ts0 r := by
 obtain ⟨z1,z2,z3,z4⟩ := zeroA_all
 refine ⟨?_,⟨z1,hx.2.1,hy.2.1⟩,⟨z2,hx.2.2.1,hy.2.2.1⟩,hs,by show _ + (cntTs zeroA.l + cntT x + cntT y + 1) ≤ _; omega,?_⟩
 ·rw [rightL,if_neg (by show ¬ (op = 1 ∨ op = 2); omega),if_pos (by show 3 ≤ op ∧ op ≤ 6; omega)]
  show ((noA zeroA && (!decide (x.op = 4) && !decide (y.op = 4))) && (rightT x 20 && rightT y 20)) = true
  rw [z4,decide_eq_false hx.2.2.2,decide_eq_false hy.2.2.2,hx.1,hy.1]; rfl
 ·have hh : (eqL op).length ≤ 4 := by rw [eqL]; split <;> (try split) <;> (try split) <;> decide
  rw [showL,if_neg (show ¬ op = 1 by omega),if_neg (show ¬ op = 2 by omega),if_pos (show op ≤ 6 by omega)]
  simp only [List.length_append]
  omega
theorem gl_held (F : Nat) {x : T} {ts0 ts r : List Tok} {l : Li} (hT : ToksOk ts) (hx : GA x ts0 ts) (hx4 : x.op ≠ 4) (hs : ts <:+ ts0) (h : heldL F x ts = .ok (l,r)) : GL l ts0 r := by
 have x1 := hx.cnt
 have x2 := hx.len
 rw [heldL] at h
 split at h
 ·rename_i hk
  have hn := ne_kind (ts := ts) (by rw [hk.1]; decide)
  have e1 := tl_tail hn
  have e2 := len_tail hn
  rw [tlen_of (by rw [hk.1]; decide)] at e1
  obtain ⟨r1,r2,r3,r4⟩ := rel_s hk.2
  split at h
  ·cases h
  ·rename_i y r' hr
   obtain ⟨g,g4,_⟩ := ga_expr F (hT.suf tail_suf) hr
   have y1 := g.cnt
   have y2 := g.len
   have hsuf : r' <:+ ts0 := (eats_expr F _ _ _ hr).1.trans (tail_suf.trans hs)
   cases h
   split
   ·exact gl_rel (ts := ts) (ts1 := ts) r4 ⟨g.right,g.num,g.low,g4⟩ ⟨hx.right,hx.num,hx.low,hx4⟩ hsuf (by omega) (by omega)
   ·exact gl_rel (ts := ts) (ts1 := ts) r4 ⟨hx.right,hx.num,hx.low,hx4⟩ ⟨g.right,g.num,g.low,g4⟩ hsuf (by omega) (by omega)
 ·cases h
theorem gl_part (F : Nat) {ts r : List Tok} {l : Li} (hT : ToksOk ts) (h : partL' F ts = .ok (l,r)) : GL l ts r := by
 rw [partL'] at h
 split at h
 ·rename_i r1 h1
  obtain ⟨a,b⟩ := tl_takes h1
  have := gl_litA F (.inr rfl) (hT.suf (less_takes h1).1) h (less_takes h1).1 (by omega) (by omega)
  exact this
 ·split at h
  ·exact gl_litA F (.inl rfl) hT h (List.suffix_refl _) (Nat.le_refl _) (Nat.le_refl _)
  ·split at h
   ·cases h
   ·rename_i x r1 hx
    obtain ⟨g,g4,_⟩ := ga_expr F hT hx
    have hs := (eats_expr F _ _ _ hx).1
    split at h
    ·rename_i hw
     exact gl_agg F (hT.suf hs) g hs hw h
    ·exact gl_held F (hT.suf hs) g g4 hs h
theorem cntLs_app (l : List Li) (x : Li) : cntLs (l ++ [x]) = cntLs l + cntL x := by
 induction l with
 | nil => rw [List.nil_append,cntLs,cntLs,cntLs]; omega
 | cons a r ih => rw [List.cons_append,cntLs,cntLs,ih]; omega
def BQ (ts : List Tok) (c n : Nat) (l : List Li) (r : List Tok) : Prop := l.length = n ∧ r <:+ ts ∧ (∀ x ∈ l,rightL x = true ∧ nL x ∧ loL x) ∧ r.length + cntLs l ≤ ts.length ∧ 5 * tl r + lenS (l.map showL) ≤ 5 * tl ts + c
theorem gt_body (F : Nat) {ts r : List Tok} {l : List Li} (hT : ToksOk ts) (h : bodyP F ts = .ok (l,r)) : l.length ≤ 20 ∧ r <:+ ts ∧ (∀ x ∈ l,rightL x = true ∧ nL x ∧ loL x) ∧ r.length + cntLs l ≤ ts.length ∧ 5 * tl r + (bodyL l).length ≤ 5 * tl ts := by
 rw [bodyP] at h
 split at h
 ·rename_i r0 h0
  obtain ⟨a0,b0⟩ := tl_takes h0
  have hT0 := hT.suf (less_takes h0).1
  have ho : ∀ n x ts1 x' r1,BQ r0 0 n x ts1 → bodyStep F x ts1 = .ok (x',r1) → BQ r0 2 (n + 1) x' r1 := by
   rintro n l ts1 l' r1 ⟨q1,q2,q3,q4,q5⟩ ha
   rw [bodyStep] at ha
   split at ha
   ·cases ha
   ·rename_i t r2 h1
    cases ha
    have g := gl_part F (hT0.suf q2) h1
    have g1 := g.cnt
    have g2 := g.len
    refine ⟨by rw [List.length_append,q1]; rfl,g.suf.trans q2,fun x hx => ?_,by rw [cntLs_app]; omega,by rw [List.map_append,List.map_cons,List.map_nil,lenS_app]; omega⟩
    rcases List.mem_append.1 hx with hx | hx
    ·exact q3 x hx
    ·rcases List.mem_singleton.1 hx with rfl
     exact ⟨g.right,g.num,g.low⟩
  have hc : ∀ n x r1 r2,BQ r0 2 n x r1 → takesL [44] r1 = some r2 → BQ r0 0 n x r2 := by
   rintro n l r1 r2 ⟨q1,q2,q3,q4,q5⟩ hk
   obtain ⟨a,b⟩ := tl_takes hk
   simp only [List.length_cons,List.length_nil] at a
   exact ⟨q1,(less_takes hk).1.trans q2,q3,by omega,by omega⟩
  obtain ⟨m,h1,h2,h3,h4,h5,h6,h7⟩ := list_inv (BQ r0 0) (BQ r0 2) ho hc 20 0 [] r0 l r ⟨rfl,List.suffix_refl _,fun x hx => (by cases hx),by rw [cntLs]; omega,by simp [lenS]⟩ h
  have hj := join_lenS (l.map showL)
  simp only [List.length_cons,List.length_nil] at a0
  refine ⟨by omega,h4.trans (less_takes h0).1,h5,by omega,?_⟩
  rw [bodyL,if_neg (by omega),List.length_append]
  simp only [List.length_cons,List.length_nil]
  omega
 ·cases h
  exact ⟨by simp,List.suffix_refl _,fun x hx => (by cases hx),by rw [cntLs]; omega,by rw [bodyL,if_pos (by rfl)]; simp⟩
def loR (r : Ru) : Prop := los r.head.l ∧ ∀ l ∈ r.body,loL l
structure GR (x : Ru) (ts r : List Tok) : Prop where
 right : rightR x = true
 num : nR x
 low : loR x
 suf : r <:+ ts
 cnt : r.length + cntR x ≤ ts.length
 len : 5 * tl r + (showR x ++ [10]).length ≤ 5 * tl ts
theorem head_parts {a : At} {n : Nat} (h : headL a (decide (n = 0)) = true) : ∀ t ∈ a.l,headB n t = true := fun t ht => by
 rw [headL,List.all_eq_true] at h
 have := h t ht
 rw [headB]
 by_cases h1 : t.op = 1
 ·rw [if_pos h1,Bool.not_eq_true',decide_eq_false_iff_not] at this
  simp [h1,twoB]; omega
 ·rw [if_neg h1,Bool.or_eq_true,decide_eq_true_eq,decide_eq_true_eq] at this
  rcases this with h2 | h2 <;> simp [h2,twoB]
theorem gr_rule (F : Nat) {ts r : List Tok} {x : Ru} (hT : ToksOk ts) (h : ruleL F ts = .ok (x,r)) : GR x ts r := by
 rw [ruleL] at h
 split at h
 ·cases h
 ·rename_i a r1 h1
  have g := gt_atom F hT h1
  split at h
  ·cases h
  ·split at h
   ·cases h
   ·rename_i b r2 h2
    obtain ⟨c1,c2,c3,c4,c5⟩ := gt_body F (hT.suf g.suf) h2
    split at h
    ·cases h
    ·rename_i u r3 h3
     obtain ⟨d1,d2⟩ := tl_must h3
     split at h
     ·cases h
     ·rename_i h4
      cases h
      have g1 := g.cnt
      have g2 := g.len
      simp only [List.length_cons,List.length_nil] at d1
      have hh : headL a (decide (b.length = 0)) = true := by simpa using h4
      refine ⟨?_,⟨g.num,fun l hl => (c3 l hl).2.1⟩,⟨g.low,fun l hl => (c3 l hl).2.2⟩,(less_must h3).1.trans (c2.trans g.suf),by show _ + (cntTs a.l + cntLs b + 1) ≤ _; omega,?_⟩
      ·rw [rightR,partsL]
       simp only [List.all_cons,List.all_append,List.all_map,Bool.and_eq_true,List.all_eq_true,Function.comp,id,decide_eq_true_eq]
       exact ⟨g.right,c1,head_parts hh,fun l hl => (c3 l hl).1⟩
      ·rw [showR]
       simp only [List.length_append,List.length_cons,List.length_nil]
       omega
theorem kind_s {s : List UInt8} (h : kindT s ≠ 0) : s.length = 6 ∧ (kindT s = 1 ∨ kindT s = 2) := by
 rw [kindT] at h ⊢
 split at h
 ·rename_i e; rw [if_pos e,e]; simp
 ·rename_i e1
  rw [if_neg e1]
  split at h
  ·rename_i e; rw [if_pos e,e]; simp
  ·exact absurd rfl h
theorem zip_snoc {α β : Type} {a : List α} {b : List β} (x : α) (y : β) (h : a.length = b.length) : (a ++ [x]).zip (b ++ [y]) = a.zip b ++ [(x,y)] := by
 rw [List.zip_append h]; rfl
def CQ (ts : List Tok) (c n : Nat) (d : List (List UInt8) × List Int) (r : List Tok) : Prop := d.1.length = n ∧ d.2.length = n ∧ r <:+ ts ∧ (∀ x ∈ d.1.zip d.2,nameB x.1 = true ∧ typeB x.2 = true) ∧ (∀ x ∈ d.1,x.length ≤ 40) ∧ 5 * tl r + lenS ((d.1.zip d.2).map colD) ≤ 5 * tl ts + c
theorem gt_cols {ts r : List Tok} {d : List (List UInt8) × List Int} (hT : ToksOk ts) (h : listGo colStep 8 ([], []) ts = .ok (d,r)) : 1 ≤ d.1.length ∧ d.1.length ≤ 8 ∧ d.2.length = d.1.length ∧ r <:+ ts ∧ (∀ x ∈ d.1.zip d.2,nameB x.1 = true ∧ typeB x.2 = true) ∧ (∀ x ∈ d.1,x.length ≤ 40) ∧ 5 * tl r + lenS ((d.1.zip d.2).map colD) ≤ 5 * tl ts + 2 := by
 have ho : ∀ n x ts1 x' r1,CQ ts 0 n x ts1 → colStep x ts1 = .ok (x',r1) → CQ ts 2 (n + 1) x' r1 := by
  rintro n ⟨l1,l2⟩ ts1 d' r1 ⟨q1,q2,q3,q4,q5,q6⟩ ha
  simp only [] at q1 q2 q4 q5 q6
  rw [colStep] at ha
  split at ha
  ·cases ha
  ·rename_i s r2 h1
   obtain ⟨n1,n2,n3,n4⟩ := tl_name (hT.suf q3) h1
   split at ha
   ·cases ha
   ·rename_i u r3 h2
    obtain ⟨a1,a2⟩ := tl_must h2
    split at ha
    ·rename_i hk
     cases ha
     have hn := ne_kind (ts := r3) (by rw [hk.1]; decide)
     have e1 := tl_tail hn
     obtain ⟨k1,k2⟩ := kind_s hk.2
     rw [tlen_of (by rw [hk.1]; decide),k1] at e1
     simp only [List.length_cons,List.length_nil] at a1
     have hs40 : s.length ≤ 40 := by
      rw [nameB] at n1
      simp only [Bool.and_eq_true,decide_eq_true_eq] at n1
      exact n1.1.1.2
     refine ⟨by rw [List.length_append,q1]; rfl,by rw [List.length_append,q2]; rfl,tail_suf.trans ((less_must h2).1.trans (n4.trans q3)),fun x hx => ?_,fun x hx => ?_,?_⟩
     ·rw [zip_snoc _ _ (show l1.length = l2.length from q1.trans q2.symm)] at hx
      rcases List.mem_append.1 hx with hx | hx
      ·exact q4 x hx
      ·rcases List.mem_singleton.1 hx with rfl
       refine ⟨n1,?_⟩
       rw [typeB]
       rcases k2 with k | k <;> simp [k]
     ·rcases List.mem_append.1 hx with hx | hx
      ·exact q5 x hx
      ·rcases List.mem_singleton.1 hx with rfl
       exact hs40
     ·rw [zip_snoc _ _ (show l1.length = l2.length from q1.trans q2.symm),List.map_append,List.map_cons,List.map_nil,lenS_app,colD,List.length_append]
      have : (if kindT (hd r3 0).s = 1 then [58,32,110,117,109,98,101,114] else ([58,32,115,121,109,98,111,108] : List UInt8)).length = 8 := by split <;> rfl
      simp only [this]
      omega
    ·cases ha
 have hc : ∀ n x r1 r2,CQ ts 2 n x r1 → takesL [44] r1 = some r2 → CQ ts 0 n x r2 := by
  rintro n ⟨l1,l2⟩ r1 r2 ⟨q1,q2,q3,q4,q5,q6⟩ hk
  obtain ⟨a,b⟩ := tl_takes hk
  simp only [List.length_cons,List.length_nil] at a
  exact ⟨q1,q2,(less_takes hk).1.trans q3,q4,q5,by omega⟩
 obtain ⟨m,h1,h2,h3,h4,h5⟩ := list_inv (CQ ts 0) (CQ ts 2) ho hc 8 0 ([], []) ts d r ⟨rfl,rfl,List.suffix_refl _,fun x hx => (by cases hx),fun x hx => (by cases hx),by simp [lenS]⟩ h
 exact ⟨by omega,by omega,by omega,h5.1,h5.2⟩
structure GD (d : De) (ts r : List Tok) : Prop where
 right : rightD d = true
 ok : okDe d
 suf : r <:+ ts
 len : 5 * tl r + (showD d).length ≤ 5 * tl ts
theorem showD_length (d : De) : (showD d).length = d.rel.length + (Lib.join ((d.names.zip d.types).map colD) [44,32]).length + (if d.inp = true then d.rel.length + 8 else 0) + (if d.out = true then d.rel.length + 9 else 0) + 9 := by
 rw [showD,inD,outD]
 simp only [List.length_append,List.length_cons,List.length_nil]
 split <;> split <;> simp <;> omega
theorem gd_decl {ts r : List Tok} {d : De} (hT : ToksOk ts) (hw : wordT (hd ts 0) [46,100,101,99,108] = true) (h : declL ts = .ok (d,r)) : GD d ts r := by
 have hw' : (hd ts 0).kind = 5 ∧ (hd ts 0).s = [46,100,101,99,108] := by
  rw [wordT,Bool.and_eq_true,decide_eq_true_eq,decide_eq_true_eq] at hw; exact hw
 have hn := ne_kind (ts := ts) (by rw [hw'.1]; decide)
 have e1 := tl_tail hn
 rw [tlen_of (by rw [hw'.1]; decide),hw'.2] at e1
 have hsuf := (decl_suf h).1
 rw [declL] at h
 split at h
 ·cases h
 ·rename_i s r1 h1
  obtain ⟨n1,n2,n3,n4⟩ := tl_name (hT.suf tail_suf) h1
  split at h
  ·cases h
  ·rename_i x r2 h2
   cases h
   rw [withinL] at h2
   split at h2
   ·cases h2
   ·rename_i u r3 h3
    obtain ⟨a1,a2⟩ := tl_must h3
    split at h2
    ·cases h2
    ·rename_i l' r4 h4
     split at h2
     ·cases h2
     ·rename_i u2 r5 h5
      obtain ⟨b1,b2⟩ := tl_must h5
      cases h2
      obtain ⟨c1,c2,c3,c4,c5,c6,c7⟩ := gt_cols (hT.suf ((less_must h3).1.trans (n4.trans tail_suf))) h4
      have hj := join_lenS ((x.1.zip x.2).map colD)
      simp only [List.length_cons,List.length_nil] at a1 b1 e1
      have hs40 : s.length ≤ 40 := by
       have := n1
       rw [nameB] at this
       simp only [Bool.and_eq_true,decide_eq_true_eq] at this
       exact this.1.1.2
      refine ⟨?_,⟨by show s.length ≤ 1000; omega,fun y hy => by have := c6 y hy; omega⟩,hsuf,?_⟩
      ·rw [rightD]
       simp only [Bool.and_eq_true,Bool.not_eq_true',decide_eq_false_iff_not,decide_eq_true_eq,List.all_eq_true]
       exact ⟨n1,by omega,by omega,c3,fun y hy => c5 y hy⟩
      ·rw [showD_length]
       show _ + (s.length + (Lib.join ((x.1.zip x.2).map colD) [44,32]).length + 0 + 0 + 9) ≤ _
       omega
end Go.Proofs.YtfeknkaioofljaaGreatDoor
namespace Go.Proofs.YtfeknkaioofljaaGreatDoor
open Go.Aw Go.RowKit Tree
open Lx (Tok)
structure GP (p : Pr) (ts0 ts : List Tok) : Prop where
 suf : ts <:+ ts0
 decls : ∀ d ∈ p.decls,rightD d = true ∧ okDe d
 rules : ∀ r ∈ p.rules,rightR r = true ∧ nR r ∧ loR r
 cnt : ts.length + cntRs p.rules ≤ ts0.length
 len : 5 * tl ts + (showP p).length ≤ 5 * tl ts0
theorem cntRs_app (l : List Ru) (x : Ru) : cntRs (l ++ [x]) = cntRs l + cntR x := by
 induction l with
 | nil => rw [List.nil_append,cntRs,cntRs,cntRs]; omega
 | cons a r ih => rw [List.cons_append,cntRs,cntRs,ih]; omega
theorem showP_length (p : Pr) : (showP p).length = (showDs p.decls).length + (showRs p.rules).length := by rw [showP,List.length_append]
theorem showDs_app (l : List De) (d : De) : (showDs (l ++ [d])).length = (showDs l).length + (showD d).length := by
 rw [showDs,showDs,List.map_append,List.flatten_append,List.length_append]; simp
theorem showRs_app (l : List Ru) (r : Ru) : (showRs (l ++ [r])).length = (showRs l).length + (showR r ++ [10]).length := by
 rw [showRs,showRs,List.map_append,List.flatten_append,List.length_append]; simp
theorem showDs_set : ∀ (l : List De) (i : Nat) (d d' : De),l[i]? = some d → (showDs (l.set i d')).length + (showD d).length = (showDs l).length + (showD d').length
 | [],i,d,d',h => by simp at h
 | a :: l,0,d,d',h => by
  obtain rfl : a = d := by simpa using h
  show (showDs (d' :: l)).length + _ = _
  have : ∀ x,(showDs (x :: l)).length = (showD x).length + (showDs l).length := fun x => by rw [showDs,showDs,List.map_cons,List.flatten_cons,List.length_append]
  rw [this,this]; omega
 | a :: l,i + 1,d,d',h => by
  have ih := showDs_set l i d d' (by simpa using h)
  have : ∀ x m,(showDs (x :: m)).length = (showD x).length + (showDs m).length := fun x m => by rw [showDs,showDs,List.map_cons,List.flatten_cons,List.length_append]
  rw [List.set_cons_succ,this,this]; omega
theorem setF_right {w : Bool} {d : De} (h : rightD d = true ∧ okDe d) : rightD (setF w d) = true ∧ okDe (setF w d) := by cases w <;> exact h
theorem setF_len {w : Bool} {d : De} (h : flag w d = false) : (showD (setF w d)).length ≤ (showD d).length + d.rel.length + 9 := by
 rw [showD_length,showD_length]
 cases w with
 | true =>
  have h : d.inp = false := h
  show d.rel.length + (Lib.join ((d.names.zip d.types).map colD) [44,32]).length + (if True then d.rel.length + 8 else 0) + (if d.out = true then d.rel.length + 9 else 0) + 9 ≤ _
  rw [if_pos trivial,h]; simp; omega
 | false =>
  have h : d.out = false := h
  show d.rel.length + (Lib.join ((d.names.zip d.types).map colD) [44,32]).length + (if d.inp = true then d.rel.length + 8 else 0) + (if True then d.rel.length + 9 else 0) + 9 ≤ _
  rw [if_pos trivial,h]; simp; omega
theorem gp_mark {w : Bool} {ln : Nat} (hln : 6 ≤ ln) {l l' : List De} {ts r : List Tok} (hh : tlen (hd ts 0) = ln) (h : markL w l ts = .ok (l',r)) (hd' : ∀ d ∈ l,rightD d = true ∧ okDe d) : (∀ d ∈ l',rightD d = true ∧ okDe d) ∧ r <:+ ts ∧ r.length ≤ ts.length ∧ 5 * tl r + (showDs l').length ≤ 5 * tl ts + (showDs l).length := by
 have hs := (eats_mark w l h).1
 have hne := eats_ne (fun _ _ _ h => eats_mark w l h) h
 rw [markL] at h
 split at h
 ·rename_i hn
  have hk := name_kind hn
  have hn2 := ne_kind (ts := ts.tail) (by rw [hk]; decide)
  have e1 := tl_tail hne
  have e2 := tl_tail hn2
  rw [tlen_of (by rw [hk]; decide)] at e2
  split at h
  ·cases h
  ·rename_i i hi
   split at h
   ·cases h
   ·rename_i d hd2
    split at h
    ·cases h
    ·rename_i hf
     cases h
     obtain ⟨hil,g1,_⟩ := List.findIdx?_eq_some_iff_getElem.1 hi
     have hdi : d = l[i] := by rw [List.getElem?_eq_getElem hil] at hd2; exact (Option.some.inj hd2).symm
     have hrel : d.rel = (hd ts.tail 0).s := by rw [relB,decide_eq_true_eq, ← hdi] at g1; exact g1
     have h1 := showDs_set l i d (setF w d) hd2
     have h2 := setF_len (w := w) (d := d) (by simpa using hf)
     rw [hrel] at h2
     refine ⟨fun x hx => ?_,hs,hs.length_le,by omega⟩
     rcases List.mem_or_eq_of_mem_set hx with hx | rfl
     ·exact hd' x hx
     ·exact setF_right (hd' d (hdi ▸ List.getElem_mem hil))
 ·cases h
theorem word_parts {t : Tok} {s : List UInt8} (h : wordT t s = true) : tlen t = s.length := by
 rw [wordT,Bool.and_eq_true,decide_eq_true_eq,decide_eq_true_eq] at h
 rw [tlen_of (by rw [h.1]; decide),h.2]
theorem gp_item {F : Nat} {p p' : Pr} {ts0 ts r : List Tok} (hT : ToksOk ts0) (hg : GP p ts0 ts) (h : itemL F p ts = .ok (p',r)) : GP p' ts0 r := by
 have hTs := hT.suf hg.suf
 have gl := hg.len
 have gc := hg.cnt
 rw [showP_length] at gl
 rw [itemL] at h
 split at h
 ·rename_i hw
  split at h
  ·cases h
  ·split at h
   ·cases h
   ·rename_i d r1 h1
    cases h
    have g := gd_decl hTs hw h1
    have g1 := g.len
    have g2 := g.suf.length_le
    refine ⟨g.suf.trans hg.suf,fun x hx => ?_,hg.rules,by show _ + cntRs p.rules ≤ _; omega,?_⟩
    ·rcases List.mem_append.1 hx with hx | hx
     ·exact hg.decls x hx
     ·rcases List.mem_singleton.1 hx with rfl
      exact ⟨g.right,g.ok⟩
    ·rw [showP_length]
     show _ + ((showDs (p.decls ++ [d])).length + (showRs p.rules).length) ≤ _
     rw [showDs_app]; omega
 ·split at h
  ·rename_i hw
   split at h
   ·cases h
   ·rename_i l r1 hl
    cases h
    obtain ⟨a,b,c,e⟩ := gp_mark (ln := 6) (by decide) (word_parts hw) hl hg.decls
    refine ⟨b.trans hg.suf,a,hg.rules,by show _ + cntRs p.rules ≤ _; omega,?_⟩
    rw [showP_length]
    show _ + ((showDs l).length + (showRs p.rules).length) ≤ _
    omega
  ·split at h
   ·rename_i hw
    split at h
    ·cases h
    ·rename_i l r1 hl
     cases h
     obtain ⟨a,b,c,e⟩ := gp_mark (ln := 7) (by decide) (word_parts hw) hl hg.decls
     refine ⟨b.trans hg.suf,a,hg.rules,by show _ + cntRs p.rules ≤ _; omega,?_⟩
     rw [showP_length]
     show _ + ((showDs l).length + (showRs p.rules).length) ≤ _
     omega
   ·split at h
    ·cases h
    ·split at h
     ·cases h
     ·rename_i x r1 hx
      cases h
      have g := gr_rule F hTs hx
      have g1 := g.len
      have g2 := g.cnt
      refine ⟨g.suf.trans hg.suf,hg.decls,fun y hy => ?_,by show _ + cntRs (p.rules ++ [x]) ≤ _; rw [cntRs_app]; omega,?_⟩
      ·rcases List.mem_append.1 hy with hy | hy
       ·exact hg.rules y hy
       ·rcases List.mem_singleton.1 hy with rfl
        exact ⟨g.right,g.num,g.low⟩
      ·rw [showP_length]
       show _ + ((showDs p.decls).length + (showRs (p.rules ++ [x])).length) ≤ _
       rw [showRs_app]; omega
theorem gp_items {F : Nat} {ts0 : List Tok} (hT : ToksOk ts0) : ∀ (k : Nat) {p q : Pr} {ts : List Tok},GP p ts0 ts → p.decls.length ≤ 60 → p.rules.length ≤ 200 → ts.length ≤ k → itemsGo F k p ts = .ok q → GP q ts0 [] ∧ q.decls.length ≤ 60 ∧ q.rules.length ≤ 200
 | k,p,q, [],hg,h1,h2,_,h => by rw [items_nil] at h; cases h; exact ⟨hg,h1,h2⟩
 | 0,p,q,t :: a,_,_,_,hk,h => by simp at hk
 | k + 1,p,q,t :: a,hg,h1,h2,hk,h => by
  have hne : t :: a ≠ [] := by simp
  cases hi : itemL F p (t :: a) with
  | error e => rw [items_err hne hi] at h; cases h
  | ok y =>
   obtain ⟨p',r⟩ := y
   rw [items_step hne hi] at h
   have hc := item_cnt hi h1 h2
   have hlt := (eats_item F p _ _ _ hi).2
   simp only [List.length_cons] at hlt hk
   exact gp_items hT k (gp_item hT hg hi) hc.1 hc.2 (by omega) h
structure Read (p : Pr) (n m : Nat) : Prop where
 right : rightP p = true
 decls : ∀ d ∈ p.decls,rightD d = true ∧ okDe d
 rules : ∀ r ∈ p.rules,rightR r = true ∧ nR r ∧ loR r
 cnt : cntRs p.rules ≤ n
 len : (showP p).length ≤ 5 * m
 cntD : p.decls.length ≤ 60
 cntR : p.rules.length ≤ 200
theorem read_parse {L : List Tok} (hT : ToksOk L) (h : (parseL L).2.2 = 0) : Read (parseL L).1 L.length (tl L) := by
 obtain ⟨h1,_,h3⟩ := parse_zero h
 obtain ⟨g,g1,g2⟩ := gp_items hT 20000 (p := ⟨[], []⟩) (ts := L) ⟨List.suffix_refl _,fun d hd => (by cases hd),fun r hr => (by cases hr),by show _ + cntRs [] ≤ _; rw [cntRs]; omega,by rw [showP_length]; simp [showDs,showRs]⟩ (Nat.zero_le _) (Nat.zero_le _) h3 h1
 have gc := g.cnt
 have gl := g.len
 simp only [List.length_nil,Nat.zero_add,tl_nil] at gc gl
 refine ⟨?_,g.decls,g.rules,gc,by omega,g1,g2⟩
 rw [rightP]
 simp only [Bool.and_eq_true,Bool.not_eq_true',decide_eq_false_iff_not,List.all_eq_true]
 exact ⟨by omega,by omega,fun d hd => (g.decls d hd).1,fun r hr => (g.rules r hr).1⟩
theorem word_digits {c : UInt8} {l : List UInt8} (h : digitB c = true) {n : Int} (e : Lib.itoa n = c :: l) : 0 ≤ n := by
 by_cases hn : 0 ≤ n
 ·exact hn
 ·obtain ⟨u,rfl⟩ : ∃ u : Nat,n = -(u : Int) := ⟨(-n).toNat,by omega⟩
  rw [Lib.itoa_neg u (by omega)] at e
  obtain ⟨rfl,_⟩ := List.cons.inj e
  exact absurd h (by decide)
theorem name_word {s : List UInt8} {c : UInt8} {l : List UInt8} (e : s = c :: l) (hc : letterB c = true) (hw : ∀ x ∈ s,Lx.wordB x = true) (hl : s.length ≤ 40) (h : s ≠ [95]) : nameB s = true := by
 rw [nameB]
 simp only [Bool.and_eq_true,decide_eq_true_eq,Bool.not_eq_true',decide_eq_false_iff_not,List.all_eq_true,List.mem_range]
 refine ⟨⟨⟨by rw [e]; simp,hl⟩,h⟩,fun j hj => ?_⟩
 rw [get0 hj,okAt]
 by_cases h0 : j = 0
 ·subst h0
  have : s[0] = c := by simp [e]
  rw [this,hc]; rfl
 ·have := hw _ (List.getElem_mem hj)
  rw [Lx.wordB] at this
  rw [decide_eq_false h0]; simpa using this
theorem takeWhile_all {α : Type} {p : α → Bool} (l : List α) : ∀ x ∈ l.takeWhile p,p x = true := fun x hx => by
 have := List.all_takeWhile (p := p) (l := l)
 exact List.all_eq_true.1 this x hx
theorem tokOk_of {x : Nat × List UInt8} (h : Lx.isTok x) {t : Tok} (hk : t.kind = (x.1 : Int)) (hs : t.s = x.2) : TokOk t := by
 obtain ⟨s,r,h⟩ := h
 obtain ⟨c,l,e,_,_,_,h3⟩ := Lx.oneT_cases h
 refine ⟨fun hk1 hne => ?_,fun hk2 => ?_⟩
 ·rw [hs] at hne ⊢
  rcases h3 with ⟨a,b,w,_,d⟩ | ⟨_,_,b,_⟩ | ⟨_,b,_⟩ | ⟨_,b,_⟩ | ⟨_,_,_,_,b,_⟩
  ·have ew : x.2 = c :: l.takeWhile Lx.wordB := by rw [w,e,List.takeWhile_cons,if_pos (Lx.wordB_letter a)]
   exact name_word ew a (by rw [w]; exact takeWhile_all _) d hne
  ·omega
  ·omega
  ·omega
  ·omega
 ·rw [hs]
  rcases h3 with ⟨_,b,_⟩ | ⟨_,a,b,w,_,d⟩ | ⟨_,b,_⟩ | ⟨_,b,_⟩ | ⟨_,_,_,_,b,_⟩
  ·omega
  ·refine ⟨d,?_⟩
   have ew : x.2 = c :: l.takeWhile Lx.wordB := by rw [w,e,List.takeWhile_cons,if_pos (Lx.wordB_digit a)]
   exact word_digits a ((pn_ok d).2.trans ew)
  ·omega
  ·omega
  ·omega
theorem toks_lex (s : List UInt8) : ToksOk (Lx.lexS s).1 := fun t ht => by
 obtain ⟨x,h1,h2,h3⟩ := lex_toks s t ht
 exact tokOk_of h1 h2 h3
theorem tlen_tok (N : Nat) (y : Nat × List UInt8 × Nat) : tlen (Lx.tokL N y) = (Lx.txt y.1 y.2.1).length := by
 rw [tlen,Lx.txt]
 show (if ((y.1 : Nat) : Int) = 3 then (quoteL y.2.1).length else y.2.1.length) = _
 by_cases h : y.1 = 3
 ·rw [if_pos h,if_pos (by omega)]
 ·rw [if_neg h,if_neg (by omega)]
theorem tl_raw (N : Nat) (s : List UInt8) : tl ((Lx.rawL s).1.map (Lx.tokL N)) ≤ s.length := by
 refine Lx.rawL_ind (Q := fun s => tl ((Lx.rawL s).1.map (Lx.tokL N)) ≤ s.length) ?_ ?_ ?_ s
 ·rw [Lx.rawL_nil]; simp [tl]
 ·intro t h1 h2; rw [Lx.rawL_none h1 h2]; simp [tl]
 ·intro t k w r h1 ih
  have a := congrArg List.length (Lx.oneT_txt h1)
  have b := Lx.skipL_len r
  rw [List.length_append] at a
  rw [Lx.rawL_some h1,List.map_cons,tl_cons,tlen_tok]
  simp only []
  omega
theorem tl_lex (s : List UInt8) : tl (Lx.lexS s).1 ≤ s.length := by
 rw [Lx.lexS]
 split
 ·exact Nat.zero_le _
 ·split
  ·exact Nat.zero_le _
  ·split
   ·exact Nat.zero_le _
   ·have := tl_raw (Lx.cnt s) (Lx.skipL s)
    have := Lx.skipL_len s
    simp only []
    omega
end Go.Proofs.YtfeknkaioofljaaGreatDoor
