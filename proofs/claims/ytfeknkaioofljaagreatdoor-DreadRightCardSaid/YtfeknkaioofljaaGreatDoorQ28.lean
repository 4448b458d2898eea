/-
 What is shown is read so again: rules,relations,programs: plain. Own work.
-/
import Derived.Test.YtfeknkaioofljaaGreatDoorQ27
import Derived.Test.YtfeknkaioofljaaGreatDoorQ24
set_option linter.all false
namespace Go.Proofs.YtfeknkaioofljaaGreatDoor
open Go.Aw Go.RowKit Tree
open Lx (Tok)
def TokR (x : Ru) (K : List Kt) : Prop := ∃ h ks,TokAt x.head h ∧ ks.length = x.body.length ∧ (∀ (i : Nat) (hi : i < x.body.length) (hi' : i < ks.length),TokL x.body[i] ks[i]) ∧ K = h ++ ((if x.body = [] then [] else (4, [58,45]) :: joinK ks) ++ [(4, [46])])
theorem lex_rule {x : Ru} (hr : rightR x = true) (hn : nR x) (hl : loR x) : ∃ K,TokR x K ∧ LexA (showR x ++ [10]) K := by
 obtain ⟨h1,h2,h3⟩ := rightR_all hr
 obtain ⟨h,t1,l1⟩ := lex_atom h1 hn.1 hl.1
 have hdot : LexA ([46] ++ [10]) ([(4, [46])] ++ []) := lex_dot.appA ⟨10, [],rfl,by decide⟩ (lexA_blank (c := 10) (by decide))
 by_cases hb : x.body = []
 ·refine ⟨_,⟨h, [],t1,by rw [hb]; rfl,fun i hi => by rw [hb] at hi; simp at hi,rfl⟩,?_⟩
  rw [if_pos hb]
  exact (l1.app hdot).eq (by rw [showR,bodyL,if_pos (by rw [hb]; rfl)]; simp) (by simp)
 ·obtain ⟨ks,g1,g2,g3⟩ := lex_join (f := showL) (Q := TokL) x.body hb fun l hl' => lex_lit (h3 l hl') (hn.2 l hl') (hl.2 l hl')
  refine ⟨_,⟨h,ks,t1,g1,g2,rfl⟩,?_⟩
  rw [if_neg hb]
  have hne : ¬ x.body.length = 0 := by rw [List.length_eq_zero_iff]; exact hb
  have e := g3.appA (t := [46] ++ [10]) ⟨46,_,rfl,by decide⟩ hdot
  have f := (lex_sp (w := [58,45]) fun r => rfl).app e
  exact (l1.app f).eq (by rw [showR,bodyL,if_neg hne]; simp) (by simp)
theorem head_of {x : Ru} (hr : rightR x = true) : headL x.head false = true ∧ headL x.head (decide (x.body.length = 0)) = true := by
 have hr' := hr
 rw [rightR,partsL] at hr'
 simp only [List.all_cons,List.all_append,List.all_map,Bool.and_eq_true,List.all_eq_true,Function.comp,id,decide_eq_true_eq] at hr'
 have hh := hr'.2.2.1
 have ha := (rightA_all hr'.1).2.2
 have key : ∀ bare : Bool,(bare = true → x.body.length = 0) → headL x.head bare = true := fun bare hb => by
  rw [headL,List.all_eq_true]
  intro t ht
  have h1 := hh t ht
  have h2 := op_of (ha t ht)
  simp only [headB,twoB,Bool.and_eq_true,Bool.not_eq_true',decide_eq_false_iff_not,Bool.or_eq_true,Bool.or_eq_false_iff,decide_eq_true_eq] at h1
  by_cases e1 : t.op = 1
  ·rw [if_pos e1,Bool.not_eq_true']
   cases bare with
   | false => rfl
   | true =>
    have := hb rfl
    rcases h1.2.2 with h | h
    ·exact absurd e1 h
    ·omega
  ·rw [if_neg e1,Bool.or_eq_true,decide_eq_true_eq,decide_eq_true_eq]
   omega
 exact ⟨key false (by simp),key _ (by simp)⟩
theorem parse_rule {F : Nat} (hF : 20 ≤ F) {x : Ru} (hr : rightR x = true) {K : List Kt} (h : TokR x K) {ts r : List Tok} (hs : Sp ts K) : ruleL F (ts ++ r) = .ok (⟨x.head,x.body,(hd (ts ++ r) 0).line⟩,r) := by
 obtain ⟨h1,h2,h3⟩ := rightR_all hr
 obtain ⟨q1,q2⟩ := head_of hr
 obtain ⟨hk,ks,ta,g1,g2,rfl⟩ := h
 obtain ⟨m1,m2,rfl,s1,s2⟩ := hs.app
 obtain ⟨m3,m4,rfl,s3,s4⟩ := s2.app
 obtain ⟨u,m5,rfl,k1,k2,s5⟩ := s4.cons
 obtain rfl := s5.nil
 have pa := parse_atom hF h1 ta (r := m3 ++ [u] ++ r) s1
 have e : m1 ++ (m3 ++ [u]) ++ r = m1 ++ (m3 ++ [u] ++ r) := by simp
 have pb : bodyP F (m3 ++ [u] ++ r) = .ok (x.body,u :: r) := by
  rw [bodyP]
  by_cases hb : x.body = []
  ·rw [if_pos hb] at s3
   obtain rfl := s3.nil
   rw [List.nil_append,List.singleton_append,takes_ns fun _ => by rw [show u.s = [46] from k2]; decide]
   rw [hb]
  ·rw [if_neg hb] at s3
   obtain ⟨v,m6,rfl,k3,k4,s6⟩ := s3.cons
   have hl := parse_list (one := bodyStep F) (step := fun b x => b ++ [x]) (Q := fun l a => TokL l a ∧ rightL l = true) (c := [46]) (by decide) (fun b x a ts r hq hsp hf => by
    rw [bodyStep,parse_lit hF hq.2 hq.1 hsp hf]) x.body ks 20 [] m6 (u :: r) hb g1 (fun i hi hi' => ⟨g2 i hi hi',h3 _ (List.getElem_mem hi)⟩) h2 s6 ⟨u,r,rfl,k1,k2⟩
   rw [foldl_snoc,List.nil_append] at hl
   have e2 : v :: m6 ++ [u] ++ r = v :: (m6 ++ (u :: r)) := by simp
   rw [e2,takes_sg k3 k4]
   exact hl
 rw [e,ruleL,pa]
 simp only []
 rw [if_neg (by rw [q1]; decide),pb]
 simp only []
 rw [must_sg k1 k2]
 simp only []
 rw [if_neg (by rw [q2]; decide)]
def wNum : List UInt8 := [110,117,109,98,101,114]
def wSym : List UInt8 := [115,121,109,98,111,108]
def TokC (x : List UInt8 × Int) (K : List Kt) : Prop := (nameB x.1 = true ∧ (x.2 = 1 ∨ x.2 = 2)) ∧ K = [(1,x.1),(4, [58]),(1,if x.2 = 1 then wNum else wSym)]
theorem lex_col {x : List UInt8 × Int} (h : colOk x) : ∃ K,TokC x K ∧ Lex1 (colD x) K := by
 have h' : nameB x.1 = true ∧ (x.2 = 1 ∨ x.2 = 2) := h
 refine ⟨_,⟨h',rfl⟩,?_⟩
 have hc : LexA ([58] ++ [32]) [(4, [58])] := lexA_sp (w := [58]) fun r => rfl
 rw [colD]
 by_cases h1 : x.2 = 1
 ·rw [if_pos h1,if_pos h1]
  exact (lex_name h'.1).app ⟨58,_,rfl,by decide⟩ (hc.app1 (lex_word (s := wNum) (c := 110) (l := [117,109,98,101,114]) rfl (by decide) (by decide) (by decide)))
 ·rw [if_neg h1,if_neg h1]
  exact (lex_name h'.1).app ⟨58,_,rfl,by decide⟩ (hc.app1 (lex_word (s := wSym) (c := 115) (l := [121,109,98,111,108]) rfl (by decide) (by decide) (by decide)))
theorem parse_col {x : List UInt8 × Int} {K : List Kt} (h : TokC x K) (b : List (List UInt8) × List Int) {ts r : List Tok} (hs : Sp ts K) : colStep b (ts ++ r) = .ok ((b.1 ++ [x.1],b.2 ++ [x.2]),r) := by
 obtain ⟨⟨h1,h2⟩,rfl⟩ := h
 obtain ⟨u,m1,rfl,k1,k2,s1⟩ := hs.cons
 obtain ⟨u2,m2,rfl,k3,k4,s2⟩ := s1.cons
 obtain ⟨u3,m3,rfl,k5,k6,s3⟩ := s2.cons
 obtain rfl := s3.nil
 have k2 : u.s = x.1 := k2
 have hN : nameP ([u,u2,u3] ++ r) = .ok (x.1,u2 :: u3 :: r) := by
  simp only [List.cons_append,List.nil_append]
  rw [nameP,hd0,if_pos (name_first k1 k2 h1),k2]; rfl
 rw [colStep,hN]
 simp only []
 rw [must_sg k3 k4]
 simp only []
 have k5 : u3.kind = 1 := k5
 have k6 : u3.s = if x.2 = 1 then wNum else wSym := k6
 have hk : kindT u3.s = x.2 := by
  rw [k6]
  rcases h2 with h | h <;> rw [h] <;> decide
 rw [hd0,hk,if_pos ⟨k5,by omega⟩]
 rfl
def bare (d : De) (ln : Int) : De := ⟨d.rel,d.names,d.types,false,false,ln⟩
def TokD (d : De) (K : List Kt) : Prop := ∃ ks,ks.length = (d.names.zip d.types).length ∧ (∀ (i : Nat) (hi : i < (d.names.zip d.types).length) (hi' : i < ks.length),TokC (d.names.zip d.types)[i] ks[i]) ∧
 K = (5, [46,100,101,99,108]) :: (1,d.rel) :: (4, [40]) :: (joinK ks ++ [(4, [41])])
def inK (d : De) : List Kt := if d.inp = true then [(5, [46,105,110,112,117,116]),(1,d.rel)] else []
def outK (d : De) : List Kt := if d.out = true then [(5, [46,111,117,116,112,117,116]),(1,d.rel)] else []
theorem lex_marks {d : De} (hn : nameB d.rel = true) : LexA (inD d ++ outD d) (inK d ++ outK d) := by
 have ha : LexA (inD d) (inK d) := by
  rw [inD,inK]
  split
  ·exact ((lexA_key (w := [46,105,110,112,117,116]) fun r => rfl).app ((lex_name hn).appA ⟨10, [],rfl,by decide⟩ (lexA_blank (c := 10) (by decide)))).eq (by simp) (by simp)
  ·exact lexA_nil
 have hb : LexA (outD d) (outK d) := by
  rw [outD,outK]
  split
  ·exact ((lexA_key (w := [46,111,117,116,112,117,116]) fun r => rfl).app ((lex_name hn).appA ⟨10, [],rfl,by decide⟩ (lexA_blank (c := 10) (by decide)))).eq (by simp) (by simp)
  ·exact lexA_nil
 exact ha.app hb
theorem lex_decl {d : De} (hr : rightD d = true) : ∃ K,TokD d K ∧ LexA (showD d) (K ++ (inK d ++ outK d)) := by
 obtain ⟨h1,h2,h3,h4,h5⟩ := rightD_all hr
 have hne : d.names.zip d.types ≠ [] := by
  intro e
  have := congrArg List.length e
  rw [List.length_zip,h4,Nat.min_self,List.length_nil,List.length_eq_zero_iff] at this
  exact h2 this
 obtain ⟨ks,g1,g2,g3⟩ := lex_join (f := colD) (Q := TokC) (d.names.zip d.types) hne fun x hx => lex_col (h5 x hx)
 refine ⟨_,⟨ks,g1,g2,rfl⟩,?_⟩
 have e := (lex_close.app (lexA_blank (c := 10) (by decide))).app (lex_marks (d := d) h1)
 have f := g3.appA (t := [41] ++ [10] ++ (inD d ++ outD d)) ⟨41,_,rfl,by decide⟩ e
 have g := (lex_name h1).appA ⟨40,_,rfl,by decide⟩ (lex_open.app f)
 exact ((lexA_key (w := [46,100,101,99,108]) fun r => rfl).app g).eq (by rw [showD]; simp) (by simp)
theorem foldl_cols : ∀ (l : List (List UInt8 × Int)) (b : List (List UInt8) × List Int),l.foldl (fun b x => (b.1 ++ [x.1],b.2 ++ [x.2])) b = (b.1 ++ l.map Prod.fst,b.2 ++ l.map Prod.snd)
 | [],b => by simp
 | x :: l,b => by rw [List.foldl_cons,foldl_cols]; simp
theorem parse_decl {d : De} (hr : rightD d = true) {K : List Kt} (h : TokD d K) {ts r : List Tok} (hs : Sp ts K) : declL (ts ++ r) = .ok (bare d (hd (ts ++ r) 0).line,r) ∧ wordT (hd (ts ++ r) 0) [46,100,101,99,108] = true ∧ ts ≠ [] := by
 obtain ⟨h1,h2,h3,h4,h5⟩ := rightD_all hr
 obtain ⟨ks,g1,g2,rfl⟩ := h
 have hne : d.names.zip d.types ≠ [] := by
  intro e
  have := congrArg List.length e
  rw [List.length_zip,h4,Nat.min_self,List.length_nil,List.length_eq_zero_iff] at this
  exact h2 this
 have h8 : (d.names.zip d.types).length ≤ 8 := by rw [List.length_zip,h4,Nat.min_self]; exact h3
 obtain ⟨u,m1,rfl,k1,k2,s1⟩ := hs.cons
 obtain ⟨u2,m2,rfl,k3,k4,s2⟩ := s1.cons
 obtain ⟨u3,m3,rfl,k5,k6,s3⟩ := s2.cons
 obtain ⟨m4,m5,rfl,s4,s5⟩ := s3.app
 obtain ⟨u4,m6,rfl,k7,k8,s6⟩ := s5.cons
 obtain rfl := s6.nil
 have hl := parse_list (one := colStep) (step := fun b x => (b.1 ++ [x.1],b.2 ++ [x.2])) (Q := TokC) (c := [41]) (by decide) (fun b x a ts r hq hsp _ => parse_col hq b hsp) (d.names.zip d.types) ks 8 ([], []) m4 (u4 :: r) hne g1 g2 h8 s4 ⟨u4,r,rfl,k7,k8⟩
 rw [foldl_cols,List.map_fst_zip (by omega),List.map_snd_zip (by omega),List.nil_append,List.nil_append] at hl
 have k4 : u2.s = d.rel := k4
 have e : u :: u2 :: u3 :: (m4 ++ [u4]) ++ r = u :: u2 :: u3 :: (m4 ++ (u4 :: r)) := by simp
 rw [e]
 refine ⟨?_,by rw [hd0,wordT,show u.kind = 5 from k1,show u.s = [46,100,101,99,108] from k2]; rfl,by simp⟩
 have hN : nameP (u2 :: u3 :: (m4 ++ (u4 :: r))) = .ok (d.rel,u3 :: (m4 ++ (u4 :: r))) := by
  rw [nameP,hd0,if_pos (name_first k3 k4 h1),k4]; rfl
 rw [declL,List.tail_cons,hN]
 simp only []
 rw [withinL,must_sg k5 k6]
 simp only []
 rw [hl]
 simp only []
 rw [must_sg k7 k8]
 rfl
theorem mark_one {w : Bool} {D : List De} {d : De} {u v : Tok} {r : List Tok} (hn : nameB d.rel = true) (hk : v.kind = 1) (hv : v.s = d.rel) (hD : ∀ x ∈ rels D,x ≠ d.rel) (hf : flag w d = false) : markL w (D ++ [d]) (u :: v :: r) = .ok (D ++ [setF w d],r) := by
 have h1 : D.findIdx? (relB v.s) = none := by
  rw [List.findIdx?_eq_none_iff]
  intro x hx
  rw [relB,decide_eq_false_iff_not,hv]
  exact hD _ (List.mem_map_of_mem hx)
 have h2 : (D ++ [d]).findIdx? (relB v.s) = some D.length := by
  rw [List.findIdx?_append,h1,hv]
  simp [relB]
 have h3 : (D ++ [d])[D.length]? = some d := by simp
 rw [markL,List.tail_cons,hd0,if_pos (name_first hk hv hn),h2]
 simp only [h3]
 rw [if_neg (by rw [hf]; decide),List.set_append_right _ _ (Nat.le_refl _),Nat.sub_self]
 rfl
theorem item_go {F : Nat} {p p' : Pr} {ts r : List Tok} (h : itemL F p ts = .ok (p',r)) {k k' : Nat} (hk : ts.length ≤ k) (hk' : r.length ≤ k') : itemsGo F k p ts = itemsGo F k' p' r := by
 have hne := eats_ne (eats_item F p) h
 have hlt := (eats_item F p _ _ _ h).2
 obtain ⟨m,rfl⟩ : ∃ m,k = m + 1 := ⟨k - 1,by omega⟩
 rw [items_step hne h]
 exact items_fuel _ _ _ _ (by omega) hk'
theorem item_mark {F : Nat} {w : Bool} {D : List De} {d : De} {u v : Tok} {r : List Tok} (hn : nameB d.rel = true) (hu : u.kind = 5) (hus : u.s = if w = true then [46,105,110,112,117,116] else [46,111,117,116,112,117,116]) (hk : v.kind = 1) (hv : v.s = d.rel) (hD : ∀ x ∈ rels D,x ≠ d.rel) (hf : flag w d = false) : itemL F ⟨D ++ [d], []⟩ (u :: v :: r) = .ok (⟨D ++ [setF w d], []⟩,r) := by
 have hm := mark_one (u := u) (r := r) hn hk hv hD hf
 rw [itemL,hd0]
 cases w with
 | true =>
  have hus : u.s = [46,105,110,112,117,116] := hus
  rw [if_neg (by rw [wordT,hu,hus]; decide),if_pos (by rw [wordT,hu,hus]; rfl)]
  simp only [hm]
 | false =>
  have hus : u.s = [46,111,117,116,112,117,116] := hus
  rw [if_neg (by rw [wordT,hu,hus]; decide),if_neg (by rw [wordT,hu,hus]; decide),if_pos (by rw [wordT,hu,hus]; rfl)]
  simp only [hm]
theorem go_decl {F : Nat} {D : List De} {d : De} (hr : rightD d = true) (hD : ∀ x ∈ rels D,x ≠ d.rel) (hl : D.length < 60) {K : List Kt} (h : TokD d K) {ts r : List Tok} (hs : Sp ts (K ++ (inK d ++ outK d))) : ∃ d',likeD d' d ∧ ∀ k k',(ts ++ r).length ≤ k → r.length ≤ k' → itemsGo F k ⟨D, []⟩ (ts ++ r) = itemsGo F k' ⟨D ++ [d'], []⟩ r := by
 have hn := (rightD_all hr).1
 obtain ⟨m1,m2,rfl,s1,s2⟩ := hs.app
 obtain ⟨m3,m4,rfl,s3,s4⟩ := s2.app
 obtain ⟨p1,p2,p3⟩ := parse_decl hr h (r := m3 ++ m4 ++ r) s1
 obtain ⟨ln,hln⟩ : ∃ ln,ln = (hd (m1 ++ (m3 ++ m4 ++ r)) 0).line := ⟨_,rfl⟩
 rw [← hln] at p1
 have e : m1 ++ (m3 ++ m4) ++ r = m1 ++ (m3 ++ m4 ++ r) := by simp
 have i1 : itemL F ⟨D, []⟩ (m1 ++ (m3 ++ m4 ++ r)) = .ok (⟨D ++ [bare d ln], []⟩,m3 ++ m4 ++ r) := by
  rw [itemL,if_pos p2,if_neg (by show ¬ D.length = 60; omega),p1]
 -- what is read,or told
 have i2 : ∃ d1,(d1.rel = d.rel ∧ d1.names = d.names ∧ d1.types = d.types ∧ d1.inp = d.inp ∧ d1.out = false) ∧ ∀ k k',(m3 ++ m4 ++ r).length ≤ k → (m4 ++ r).length ≤ k' → itemsGo F k ⟨D ++ [bare d ln], []⟩ (m3 ++ m4 ++ r) = itemsGo F k' ⟨D ++ [d1], []⟩ (m4 ++ r) := by
  by_cases hi : d.inp = true
  ·rw [inK,if_pos hi] at s3
   obtain ⟨u,m5,rfl,k1,k2,s5⟩ := s3.cons
   obtain ⟨v,m6,rfl,k3,k4,s6⟩ := s5.cons
   obtain rfl := s6.nil
   refine ⟨setF true (bare d ln),⟨rfl,rfl,rfl,hi.symm,rfl⟩,fun k k' a b => ?_⟩
   exact item_go (item_mark (w := true) (d := bare d ln) (r := m4 ++ r) hn k1 k2 k3 k4 hD rfl) (by simpa using a) b
  ·rw [inK,if_neg hi] at s3
   obtain rfl := s3.nil
   exact ⟨bare d ln,⟨rfl,rfl,rfl,(by simpa using hi : d.inp = false).symm,rfl⟩,fun k k' a b => items_fuel _ _ _ _ (by simpa using a) b⟩
 obtain ⟨d1,hd1,g1⟩ := i2
 have i3 : ∃ d2,likeD d2 d ∧ ∀ k k',(m4 ++ r).length ≤ k → r.length ≤ k' → itemsGo F k ⟨D ++ [d1], []⟩ (m4 ++ r) = itemsGo F k' ⟨D ++ [d2], []⟩ r := by
  by_cases ho : d.out = true
  ·rw [outK,if_pos ho] at s4
   obtain ⟨u,m5,rfl,k1,k2,s5⟩ := s4.cons
   obtain ⟨v,m6,rfl,k3,k4,s6⟩ := s5.cons
   obtain rfl := s6.nil
   refine ⟨setF false d1,⟨hd1.1,hd1.2.1,hd1.2.2.1,hd1.2.2.2.1,ho.symm⟩,fun k k' a b => ?_⟩
   exact item_go (item_mark (w := false) (d := d1) (r := r) (by rw [hd1.1]; exact hn) k1 k2 k3 (by rw [hd1.1]; exact k4) (by rw [hd1.1]; exact hD) hd1.2.2.2.2) (by simpa using a) b
  ·rw [outK,if_neg ho] at s4
   obtain rfl := s4.nil
   exact ⟨d1,⟨hd1.1,hd1.2.1,hd1.2.2.1,hd1.2.2.2.1,hd1.2.2.2.2.trans (by simpa using ho : d.out = false).symm⟩,fun k k' a b => items_fuel _ _ _ _ (by simpa using a) b⟩
 obtain ⟨d2,hd2,g2⟩ := i3
 refine ⟨d2,hd2,fun k k' a b => ?_⟩
 rw [e] at a ⊢
 rw [item_go i1 a (Nat.le_refl _),g1 _ (m4 ++ r).length (Nat.le_refl _) (Nat.le_refl _)]
 exact g2 _ _ (Nat.le_refl _) b
theorem go_rule {F : Nat} (hF : 20 ≤ F) {D : List De} {R0 : List Ru} {x : Ru} (hr : rightR x = true) (hl : R0.length < 200) {K : List Kt} (h : TokR x K) {ts r : List Tok} (hs : Sp ts K) : ∃ x',likeR x' x ∧ ∀ k k',(ts ++ r).length ≤ k → r.length ≤ k' → itemsGo F k ⟨D,R0⟩ (ts ++ r) = itemsGo F k' ⟨D,R0 ++ [x']⟩ r := by
 have p := parse_rule hF hr h (r := r) hs
 refine ⟨⟨x.head,x.body,(hd (ts ++ r) 0).line⟩,⟨rfl,rfl⟩,fun k k' a b => item_go ?_ a b⟩
 have hk : (hd (ts ++ r) 0).kind = 1 := by
  obtain ⟨hk,ks,⟨ks2,_,_,rfl⟩,_,_,rfl⟩ := h
  obtain ⟨u,m,rfl,k1,_,_⟩ := hs.cons
  exact k1
 have hw : ∀ s, ¬ wordT (hd (ts ++ r) 0) s = true := fun s => by rw [wordT,hk]; simp
 rw [itemL,if_neg (hw _),if_neg (hw _),if_neg (hw _),if_neg (by show ¬ R0.length = 200; omega),p]
theorem go_decls {F : Nat} : ∀ (l : List De) (D : List De) (ks : List (List Kt)) (ts r : List Tok),(∀ d ∈ l,rightD d = true) → (rels (D ++ l)).Nodup → D.length + l.length ≤ 60 → ks.length = l.length → (∀ (i : Nat) (hi : i < l.length) (hi' : i < ks.length),TokD l[i] ks[i]) →
  Sp ts ((l.zip ks).flatMap fun x => x.2 ++ (inK x.1 ++ outK x.1)) → ∃ l',likeDs l' l ∧ ∀ k k',(ts ++ r).length ≤ k → r.length ≤ k' → itemsGo F k ⟨D, []⟩ (ts ++ r) = itemsGo F k' ⟨D ++ l', []⟩ r
 | [],D,ks,ts,r,_,_,_,_,_,hs => by
  obtain rfl := Sp.nil hs
  exact ⟨[],trivial,fun k k' a b => by rw [List.append_nil]; exact items_fuel _ _ _ _ (by simpa using a) b⟩
 | d :: l,D, [],ts,r,_,_,_,h,_,_ => by simp at h
 | d :: l,D,K :: ks,ts,r,hr,hn,hl,hk,hq,hs => by
  rw [List.zip_cons_cons,List.flatMap_cons] at hs
  obtain ⟨m1,m2,rfl,s1,s2⟩ := hs.app
  have hn' : (∀ x ∈ rels D,x ≠ d.rel) := by
   intro x hx e
   rw [rels,List.map_append,List.nodup_append] at hn
   exact hn.2.2 x hx d.rel (by simp) e
  simp only [List.length_cons] at hl
  obtain ⟨d',h1,h2⟩ := go_decl (F := F) (r := m2 ++ r) (hr d (.head _)) hn' (by omega) (hq 0 (by simp) (by simp)) s1
  have hrel : d'.rel = d.rel := h1.1
  obtain ⟨l',h3,h4⟩ := go_decls l (D ++ [d']) ks m2 r (fun x hx => hr x (.tail _ hx)) (by
   have : rels (D ++ [d'] ++ l) = rels (D ++ d :: l) := by simp [rels,hrel]
   rw [this]; exact hn) (by rw [List.length_append,List.length_singleton]; omega) (by simpa using hk) (fun i hi hi' => hq (i + 1) (by simpa using hi) (by simpa using hi')) s2
  refine ⟨d' :: l',⟨h1,h3⟩,fun k k' a b => ?_⟩
  rw [List.append_assoc] at a ⊢
  rw [h2 k (m2 ++ r).length a (Nat.le_refl _),h4 _ k' (Nat.le_refl _) b,List.append_assoc]; rfl
theorem go_rules {F : Nat} (hF : 20 ≤ F) {D : List De} : ∀ (l R0 : List Ru) (ks : List (List Kt)) (ts r : List Tok),(∀ d ∈ l,rightR d = true) → R0.length + l.length ≤ 200 → ks.length = l.length → (∀ (i : Nat) (hi : i < l.length) (hi' : i < ks.length),TokR l[i] ks[i]) →
  Sp ts ks.flatten → ∃ l',likeRs l' l ∧ ∀ k k',(ts ++ r).length ≤ k → r.length ≤ k' → itemsGo F k ⟨D,R0⟩ (ts ++ r) = itemsGo F k' ⟨D,R0 ++ l'⟩ r
 | [],R0,ks,ts,r,_,_,hk,_,hs => by
  obtain rfl := List.length_eq_zero_iff.1 hk
  obtain rfl := Sp.nil hs
  exact ⟨[],trivial,fun k k' a b => by rw [List.append_nil]; exact items_fuel _ _ _ _ (by simpa using a) b⟩
 | d :: l,R0, [],ts,r,_,_,h,_,_ => by simp at h
 | d :: l,R0,K :: ks,ts,r,hr,hl,hk,hq,hs => by
  rw [List.flatten_cons] at hs
  obtain ⟨m1,m2,rfl,s1,s2⟩ := hs.app
  simp only [List.length_cons] at hl
  obtain ⟨d',h1,h2⟩ := go_rule (F := F) (D := D) (R0 := R0) (r := m2 ++ r) hF (hr d (.head _)) (by omega) (hq 0 (by simp) (by simp)) s1
  obtain ⟨l',h3,h4⟩ := go_rules hF l (R0 ++ [d']) ks m2 r (fun x hx => hr x (.tail _ hx)) (by rw [List.length_append,List.length_singleton]; omega) (by simpa using hk) (fun i hi hi' => hq (i + 1) (by simpa using hi) (by simpa using hi')) s2
  refine ⟨d' :: l',⟨h1,h3⟩,fun k k' a b => ?_⟩
  rw [List.append_assoc] at a ⊢
  rw [h2 k (m2 ++ r).length a (Nat.le_refl _),h4 _ k' (Nat.le_refl _) b,List.append_assoc]; rfl
theorem lex_decls : ∀ (l : List De),(∀ d ∈ l,rightD d = true) → ∃ ks : List (List Kt),ks.length = l.length ∧ (∀ (i : Nat) (hi : i < l.length) (hi' : i < ks.length),TokD l[i] ks[i]) ∧ LexA (showDs l) ((l.zip ks).flatMap fun x => x.2 ++ (inK x.1 ++ outK x.1))
 | [],_ => ⟨[],rfl,fun i hi => by simp at hi,lexA_nil⟩
 | d :: l,h => by
  obtain ⟨K,k1,k2⟩ := lex_decl (h d (.head _))
  obtain ⟨ks,g1,g2,g3⟩ := lex_decls l fun x hx => h x (.tail _ hx)
  refine ⟨K :: ks,by simp [g1],fun i hi hi' => ?_,?_⟩
  ·cases i with
   | zero => exact k1
   | succ i => exact g2 i (by simpa using hi) (by simpa using hi')
  ·exact (k2.app g3).eq (by rw [showDs,showDs,List.map_cons,List.flatten_cons]) (by rw [List.zip_cons_cons,List.flatMap_cons])
theorem lex_rules : ∀ (l : List Ru),(∀ d ∈ l,rightR d = true ∧ nR d ∧ loR d) → ∃ ks : List (List Kt),ks.length = l.length ∧ (∀ (i : Nat) (hi : i < l.length) (hi' : i < ks.length),TokR l[i] ks[i]) ∧ LexA (showRs l) ks.flatten
 | [],_ => ⟨[],rfl,fun i hi => by simp at hi,lexA_nil⟩
 | d :: l,h => by
  obtain ⟨h1,h2,h3⟩ := h d (.head _)
  obtain ⟨K,k1,k2⟩ := lex_rule h1 h2 h3
  obtain ⟨ks,g1,g2,g3⟩ := lex_rules l fun x hx => h x (.tail _ hx)
  refine ⟨K :: ks,by simp [g1],fun i hi hi' => ?_,?_⟩
  ·cases i with
   | zero => exact k1
   | succ i => exact g2 i (by simpa using hi) (by simpa using hi')
  ·exact (k2.app g3).eq (by rw [showRs,showRs,List.map_cons,List.flatten_cons]) (by rw [List.flatten_cons])
theorem back_core {p : Pr} (hp : rightP p = true) (hr : ∀ r ∈ p.rules,nR r ∧ loR r) (hn : (rels p.decls).Nodup) (hl : (showP p).length ≤ 65536) (ht : (Lx.rawL (Lx.skipL (showP p))).1.length ≤ 20000) : (readV (showP p)).2 = (0,0) ∧ likeP (readV (showP p)).1 p := by
 obtain ⟨h1,h2,h3,h4⟩ := rightP_all hp
 obtain ⟨ks,k1,k2,k3⟩ := lex_decls p.decls h3
 obtain ⟨js,j1,j2,j3⟩ := lex_rules p.rules fun r hm => ⟨h4 r hm,hr r hm⟩
 obtain ⟨q1,q2⟩ := (k3.app j3) []
 have e0 : Lx.kws [] = [] := by rw [Lx.kws,Lx.skipL_nil,Lx.rawL_nil]; rfl
 have o0 : Lx.okX [] := by rw [Lx.okX,Lx.skipL_nil,Lx.rawL_nil]
 rw [List.append_nil,e0,List.append_nil] at q1
 rw [List.append_nil] at q2
 have hok := q2.2 o0
 have hL : Lx.lexS (showP p) = ((Lx.rawL (Lx.skipL (showP p))).1.map (Lx.tokL (Lx.cnt (showP p))),0,0) := Lx.lexS_end (by omega) rfl hok ht
 have hs : Sp (Lx.lexS (showP p)).1 (((p.decls.zip ks).flatMap fun x => x.2 ++ (inK x.1 ++ outK x.1)) ++ js.flatten) := by
  rw [hL,Sp]
  have := Lx.lex_kind (Lx.cnt (showP p)) (Lx.rawL (Lx.skipL (showP p))).1
  rw [show (Lx.rawL (Lx.skipL (showP p))).1.map Lx.kw = Lx.kws (showP p) from rfl,show showP p = showDs p.decls ++ showRs p.rules from rfl,q1] at this
  exact this
 have hc : (Lx.lexS (showP p)).1.length ≤ 20000 := by rw [hL,List.length_map]; exact ht
 have he : (Lx.lexS (showP p)).2.2 = 0 := by rw [hL]
 obtain ⟨L,hLe⟩ : ∃ L,L = (Lx.lexS (showP p)).1 := ⟨_,rfl⟩
 rw [← hLe] at hs hc
 obtain ⟨m1,m2,e,s1,s2⟩ := hs.app
 obtain ⟨l',a1,a2⟩ := go_decls (F := 20001) p.decls [] ks m1 m2 h3 (by rw [List.nil_append]; exact hn) (by simp; omega) k1 k2 s1
 obtain ⟨r',b1,b2⟩ := go_rules (F := 20001) (by decide) (D := [] ++ l') p.rules [] js m2 [] h4 (by simp; omega) j1 j2 s2
 have hgo : itemsGo 20001 20000 ⟨[], []⟩ L = .ok ⟨l',r'⟩ := by
  rw [e]
  rw [e] at hc
  rw [a2 20000 m2.length hc (Nat.le_refl _)]
  have := b2 m2.length 0 (by simp) (by simp)
  rw [List.append_nil] at this
  rw [this,List.nil_append,List.nil_append]; rfl
 have hv : readV (showP p) = (⟨l',r'⟩,0,0) := by
  rw [readV,if_neg (by rw [he]; simp), ← hLe]
  exact parse_of hc hgo
 rw [hv]
 exact ⟨rfl,a1,b1⟩
end Go.Proofs.YtfeknkaioofljaaGreatDoor
namespace Go.Proofs.YtfeknkaioofljaaGreatDoor
open Go.Aw Go.RowKit Tree
open Lx (Tok)
theorem likeDs_symm : ∀ {l m : List De},likeDs l m → likeDs m l
 | [], [],_ => trivial
 | [],_ :: _,h => h.elim
 | _ :: _, [],h => h.elim
 | d :: l,e :: m,h => ⟨⟨h.1.1.symm,h.1.2.1.symm,h.1.2.2.1.symm,h.1.2.2.2.1.symm,h.1.2.2.2.2.symm⟩,likeDs_symm h.2⟩
theorem likeRs_symm : ∀ {l m : List Ru},likeRs l m → likeRs m l
 | [], [],_ => trivial
 | [],_ :: _,h => h.elim
 | _ :: _, [],h => h.elim
 | d :: l,e :: m,h => ⟨⟨h.1.1.symm,h.1.2.symm⟩,likeRs_symm h.2⟩
theorem likeP_symm {p q : Pr} (h : likeP p q) : likeP q p := ⟨likeDs_symm h.1,likeRs_symm h.2⟩
theorem nodup_of {l : List De} (h : ∀ (i : Nat) (hi : i < l.length) (j : Nat) (hj : j < i),l[j].rel ≠ l[i].rel) : (rels l).Nodup := by
 rw [rels,List.Nodup,List.pairwise_map,List.pairwise_iff_getElem]
 intro i j hi hj hij
 exact h j hj i hij
theorem right_core {p : Pr} {n m : Nat} (h : Read p n m) (hm : m ≤ 3000) (hn : (rels p.decls).Nodup) : (readV (showP p)).2 = (0,0) ∧ likeP (readV (showP p)).1 p := by
 have hl := h.len
 refine back_core h.right (fun r hr => ⟨(h.rules r hr).2.1,(h.rules r hr).2.2⟩) hn (by omega) ?_
 have h1 := Lx.raw_len (Lx.skipL (showP p))
 have h2 := Lx.skipL_len (showP p)
 omega
mutual
theorem tx_show : ∀ (t : T) (h : Nat),rightT t h = true → (showT t).length ≤ 4000000 → tx t
 | .mk op s n l,0,hr,_ => by rw [rightT] at hr; cases hr
 | .mk op s n l,h + 1,hr,hl => by
  rw [tx]
  by_cases h1 : op = 1
  ·subst h1
   rw [rightT,if_pos (show twoB (T.mk 1 s n l).op = false from rfl),leafB,Bool.and_eq_true,Bool.and_eq_true,decide_eq_true_eq,List.length_eq_zero_iff] at hr
   have e : showT (.mk 1 s n l) = s := by rw [showT]; rfl
   rw [e] at hl
   have hl0 : l = [] := hr.2.2
   subst hl0
   exact ⟨hl,by rw [txs]; trivial⟩
  by_cases h2 : op = 2
  ·subst h2
   rw [rightT,if_pos (show twoB (T.mk 2 s n l).op = false from rfl)] at hr
   simp [leafB,bareB,T.op,T.s,T.n,T.l] at hr
   obtain ⟨hs0,hl0⟩ := hr
   obtain rfl := of_decide_eq_true hs0
   subst hl0
   exact ⟨by simp,by rw [txs]; trivial⟩
  by_cases h3 : op = 3
  ·subst h3
   rw [rightT,if_pos (show twoB (T.mk 3 s n l).op = false from rfl),leafB,Bool.and_eq_true,Bool.and_eq_true,decide_eq_true_eq,List.length_eq_zero_iff] at hr
   have e : showT (.mk 3 s n l) = quoteL s := by rw [showT]; rfl
   rw [e] at hl
   have hl0 : l = [] := hr.2.2
   subst hl0
   have := quoteL_ge s
   exact ⟨by omega,by rw [txs]; trivial⟩
  by_cases h4 : op = 4
  ·subst h4
   rw [rightT,if_pos (show twoB (T.mk 4 s n l).op = false from rfl)] at hr
   simp [leafB,bareB,T.op,T.s,T.n,T.l] at hr
   obtain ⟨⟨hs0,_⟩,hl0⟩ := hr
   obtain rfl := of_decide_eq_true hs0
   subst hl0
   exact ⟨by simp,by rw [txs]; trivial⟩
  obtain ⟨ho,rfl,rfl,x,y,rfl,rx,ry,_⟩ := two_parts hr h1 h2 h3 h4
  rw [showT_two ho] at hl
  simp only [List.length_cons,List.length_append,List.length_nil] at hl
  refine ⟨by simp,?_⟩
  rw [txs,txs,txs]
  exact ⟨tx_show x h rx (by omega),tx_show y h ry (by omega),trivial⟩
end
theorem txA_show {a : At} (hr : rightA a = true) (hl : (showA a).length ≤ 4000000) : txs a.l := txs_all fun x hx => by
 have := join_mem (sep := [44,32]) (List.mem_map_of_mem (f := showT) hx)
 rw [showA_length] at hl
 exact tx_show x 20 ((rightA_all hr).2.2 x hx) (by omega)
theorem tx_zero : tx zeroT := by show tx (.mk 0 [] 0 []); rw [tx,txs]; exact ⟨by simp,trivial⟩
theorem txL_show {l : Li} (hr : rightL l = true) (hl : (showL l).length ≤ 4000000) : txL l := by
 have hb := lit_bnd hr
 rcases rightL_cases hr with ⟨o,ra,ex,ey⟩ | ⟨o,ea,rx,ry⟩ | ⟨o,ra,rx,ey⟩ | ⟨o,ra,rx,ry⟩
 ·exact ⟨txA_show ra (Nat.le_trans (hb.1 ra) hl),by rw [ex]; exact tx_zero,by rw [ey]; exact tx_zero⟩
 ·exact ⟨by rw [ea]; rw [txs]; trivial,tx_show _ 20 rx (Nat.le_trans (hb.2.1 rx) hl),tx_show _ 20 ry (Nat.le_trans (hb.2.2 ry) hl)⟩
 ·exact ⟨txA_show ra (Nat.le_trans (hb.1 ra) hl),tx_show _ 20 rx (Nat.le_trans (hb.2.1 rx) hl),by rw [ey]; exact tx_zero⟩
 ·exact ⟨txA_show ra (Nat.le_trans (hb.1 ra) hl),tx_show _ 20 rx (Nat.le_trans (hb.2.1 rx) hl),tx_show _ 20 ry (Nat.le_trans (hb.2.2 ry) hl)⟩
theorem txR_show {r : Ru} (hr : rightR r = true) (hl : (showR r).length ≤ 4000000) : txR r := by
 obtain ⟨h1,h2,h3⟩ := rightR_all hr
 have e : (showR r).length = (showA r.head).length + ((bodyL r.body).length + 1) := by
  rw [showR]; simp only [List.length_append,List.length_cons,List.length_nil]
 refine ⟨txA_show h1 (by omega),fun l hl' => ?_⟩
 have hne : ¬ r.body.length = 0 := by intro h0; rw [List.length_eq_zero_iff.1 h0] at hl'; cases hl'
 rw [bodyL,if_neg hne,List.length_append] at e
 have := join_mem (sep := [44,32]) (List.mem_map_of_mem (f := showL) hl')
 exact txL_show (h3 l hl') (by omega)
theorem ok_read {p : Pr} {n m : Nat} (h : Read p n m) (hm : m ≤ 3000) (hn : n ≤ 3000) : ∀ r ∈ p.rules,okR r ∧ txR r := fun r hr => by
 have h1 := cntRs_at hr
 have h2 := h.cnt
 have h3 := h.len
 have h4 := showR_mem hr
 rw [showP_length] at h3
 exact ⟨okR_of (by omega),txR_show (h.rules r hr).1 (by omega)⟩
end Go.Proofs.YtfeknkaioofljaaGreatDoor
