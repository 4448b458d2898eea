/-
 A symbol's place,a symbol,a sign. Own work.
-/
import Derived.Test.YtfeknkaioofljaaGreatDoorQ5
set_option linter.all false
set_option maxHeartbeats 4000000
set_option maxRecDepth 4000
namespace Go.Proofs.YtfeknkaioofljaaGreatDoor.Lx
open Go.Aw Go.RowKit
theorem ACall_dropX {f : FuncId} {args : List AV} {S S' : List En} {k : AV → List En → Prop} (hS : SLe S S') (hc : ACall Tryz.prog f args S' k) : ACall Tryz.prog f args S k := by
 unfold ACall at hc ⊢
 exact fun w0 K w vs hv h => hc w0 K w vs hv (hS _ _ _ h)
def quoV (l : List UInt8) : Int := match quoR l with | some n => ((n + 1 : Nat) : Int) | none => 0
theorem quoted_ok (l : List UInt8) (R : List En) (hl : l.length ≤ 16777216) : ACall Tryz.prog 125 [.str (34 :: l)] R (fun r S => r = .int .i64 (quoV l) ∧ S = R) := by
 obtain ⟨s,hs⟩ : ∃ s,s = 34 :: l := ⟨_,rfl⟩
 have hsl : s.length = l.length + 1 := by rw [hs]; rfl
 rw [← hs]
 refine ACall_body tab_ok Tryz.func125 rfl rfl rfl (by kernel_rfl) (nb_ rfl) ?_
 repeat first|refine go_ ?_|intro _
 refine AW_for (α := Nat) (fun z => ⟨[(0, .str s),(3, .int .i64 (z : Nat))], []⟩) (fun z => R) (fun z => l.length + 2 - z) (fun z => 1 ≤ z ∧ z ≤ l.length + 2 ∧ quoR l = (quoR (s.drop z)).map (· + (z - 1))) (1) ?_ (weak_of ?_ rfl ?_) (fun z hz => ?_)
 ·refine ⟨by omega,by omega,?_⟩
  rw [hs]
  show quoR l = (quoR l).map _
  cases quoR l <;> rfl
 ·exact e_
 ·exact l_
 obtain ⟨i1,i2,i3⟩ := hz
 repeat first|refine go_ ?_|intro _
 refine gsplit (z < s.length) ib_ (fun h => ?_) (fun h => ?_)
 rotate_left
 ·have e : quoV l = 0 := by rw [quoV,i3,List.drop_of_length_le (by omega)]; rfl
  repeat first|refine ga_ ?_|intro _
  refine AW_ret ?_
  repeat refine mk_ ?_
  refine ⟨_,R,AVle.eq ?_,sle_,rfl,rfl⟩
  rw [e]; rfl
 have hlt := h
 have hd : s.drop z = s[z] :: s.drop (z + 1) := List.drop_eq_getElem_cons hlt
 obtain ⟨c,hc⟩ : ∃ c,c = s[z] := ⟨_,rfl⟩
 rw [hd, ← hc] at i3
 repeat first|refine ga_ ?_|intro _
 refine at_list z rfl hlt ?_
 rw [← hc]
 repeat first|refine ga_ ?_|intro _
 refine AW_iff (¬ c.toNat = 10) rfl ib_ (fun h => ?_) (fun h => ?_)
 rotate_left
 ·have e10 : c = 10 := UInt8.toNat_inj.1 (Decidable.not_not.1 h)
  have e : quoV l = 0 := by rw [quoV,i3,e10,quoR_nl]; rfl
  repeat first|refine go_ ?_|intro _
  refine AW_ret ?_
  repeat refine mk_ ?_
  refine ⟨_,R,AVle.eq ?_,sle_,rfl,rfl⟩
  rw [e]; rfl
 have h10 := h
 repeat first|refine go_ ?_|intro _
 refine at_list z rfl hlt ?_
 rw [← hc]
 repeat first|refine go_ ?_|intro _
 refine AW_iff (c.toNat = 92) rfl ib_ (fun h => ?_) (fun h => ?_)
 ·obtain rfl : c = 92 := UInt8.toNat_inj.1 h
  have e1 : IntKind.i64.wrap ((z : Int) + 1) = (z : Int) + 1 := wrap_i64 (by omega)
  have e2 : IntKind.i64.wrap (IntKind.i64.wrap ((z : Int) + 1) + 1) = ((z + 2 : Nat) : Int) := by rw [e1,wrap_i64 (by omega)]; omega
  repeat first|refine go_ ?_|intro _
  refine ⟨z + 2,?_,?_,weak_of ?_ rfl ?_⟩
  ·omega
  ·refine ⟨by omega,by omega,?_⟩
   by_cases hz2 : z + 1 < s.length
   ·rw [List.drop_eq_getElem_cons hz2,quoR_esc] at i3
    rw [i3]
    show _ = Option.map _ (quoR (s.drop (z + 1 + 1)))
    cases quoR (s.drop (z + 1 + 1)) with
    | none => rfl
    | some n => simp; omega
   ·rw [List.drop_of_length_le (by omega),quoR_esc1] at i3
    rw [i3,List.drop_of_length_le (by omega)]; rfl
  ·repeat (first | exact trivial | refine ⟨(AVle.eq (congrArg (AV.int .i64) e2)),?_⟩ | refine env_ ?_)
  ·exact l_
 have h92 := h
 repeat first|refine go_ ?_|intro _
 refine AW_iff (c.toNat = 34) rfl ib_ (fun h => ?_) (fun h => ?_)
 ·obtain rfl : c = 34 := UInt8.toNat_inj.1 h
  have e : quoV l = ((z + 1 : Nat) : Int) := by rw [quoV,i3,quoR_end]; simp; omega
  repeat first|refine go_ ?_|intro _
  refine AW_ret ?_
  repeat refine mk_ ?_
  refine ⟨_,R,AVle.eq ?_,sle_,rfl,rfl⟩
  rw [e]
  rw [← wrap_i64 (n := ((z + 1 : Nat) : Int)) (by omega)]; rfl
 ·have h34 := h
  rw [quoR_one _ h10 h34 h92] at i3
  repeat first|refine go_ ?_|intro _
  refine ⟨z + 1,?_,?_,weak_of ?_ rfl ?_⟩
  ·omega
  ·refine ⟨by omega,by omega,?_⟩
   rw [i3]
   cases quoR (s.drop (z + 1)) with
   | none => rfl
   | some n => simp; omega
  ·exact e_
  ·exact l_
def encT (t : Tok) : AV := .agg [.int .i64 t.kind, .str t.s, .int .i64 t.line]
def ErrG (R : List En) : Prop := ∃ b o,En.glob 2 [.ifc 263 (.ptr b o)] ∈ R
theorem ErrG.cons {R : List En} (h : ErrG R) {e : En} : ErrG (e :: R) := let ⟨b,o,h⟩ := h; ⟨b,o, .tail _ h⟩
theorem ErrG.app {A R : List En} (h : ErrG R) : ErrG (A ++ R) := let ⟨b,o,h⟩ := h; ⟨b,o,List.mem_append_right _ h⟩
theorem symbol_ok (M c : Nat) (l : List UInt8) (R : List En) (hE : ErrG R) (hl : l.length ≤ 16777215) (hM : cnt (34 :: l) ≤ M) (hM2 : M ≤ 33554432) :
  ACall Tryz.prog 87 [.ptr c 0] (.cells c (scn M (34 :: l)) :: R)
   (fun r S => match symR l with
    | some q => r = .tup [encT ⟨3,q.1,0⟩, .bool true] ∧ S = .cells c (scn M q.2) :: R
    | none => r = .tup [encT ⟨0, [],0⟩, .bool false] ∧ S = .cells c (scn M (34 :: l)) :: R) := by
 obtain ⟨bE,oE,hE'⟩ := hE
 cases hsy : symR l with
 | some q =>
  obtain ⟨t,r⟩ := q
  obtain ⟨g1,g2,g3,g4⟩ := sym_some hsy
  have hq := (quoteL_len t).1
  have hv : quoV l = (((quoteL t).length : Nat) : Int) := by rw [quoV,g1]; simp; omega
  have hlen : (quoteL t).length ≤ (34 :: l).length := by rw [g4,List.length_append]; omega
  have ku := unquote_ok bE oE (quoteL t)
  rw [unq_quote] at ku
  have kq := quoted_ok l
  rw [hv] at kq
  have hdr : (34 :: l).drop (quoteL t).length = r := by rw [g4,List.drop_left]
  simp only []
  refine ACall_body tab_ok Tryz.func87 rfl rfl rfl (by kernel_rfl) (nb_ rfl) ?_
  repeat first|refine go_ ?_|intro _
  rename_i b
  refine Or.inl ⟨⟨_,Tryz.func125,rfl,rfl⟩,ACall.mono ?_ (kq _ (by omega))⟩
  rintro _ S1 ⟨rfl,hS1⟩
  subst S1
  repeat first|refine go_ ?_|intro _
  refine at_ss 0 (quoteL t).length (quoteL t) rfl rfl (by omega) hlen (by simpa using g2) ?_
  repeat first|refine go_ ?_|intro _
  refine Or.inl ⟨⟨_,Tryz.func126,rfl,rfl⟩,ACall.mono ?_ (ku _ (.tail _ (.tail _ hE')) (by simp at hlen; omega))⟩
  rintro _ S1 ⟨rfl,hS1⟩
  subst S1
  repeat first|refine go_ ?_|intro _
  refine AW_false (b := false) rfl (by first | rfl | (simp; done) | (simp; omega) | decide) ?_
  repeat first|refine go_ ?_|intro _
  refine Or.inl ⟨⟨_,Tryz.func86,rfl,rfl⟩,ACall_dropX (S' := .cells c (scn M (34 :: l)) :: .cells b [.int .i64 0, .str [], .int .i64 0] :: R) (fun _ _ _ h => h.perm (List.Perm.swap _ _ _)) (ACall.mono ?_ (takes_ok M (quoteL t).length c (34 :: l) _ hlen (by simp; omega) hM hM2))⟩
  rintro _ S1 rfl
  repeat first|refine go_ ?_|intro _
  refine AW_ret ?_
  refine ⟨rfl,1,_,rfl,⟨nb_ rfl,nb_ rfl⟩,_, .cells c (scn M r) :: R,AVle.eq ?_,?_,rfl,rfl⟩
  ·rfl
  ·exact hdr ▸ (fun w0 K w h => (h.perm (List.Perm.swap _ _ _)).tail)
 | none =>
  simp only []
  cases hqr : quoR l with
  | none =>
   have hv : quoV l = 0 := by rw [quoV,hqr]
   have kq := quoted_ok l
   rw [hv] at kq
   have ku := unquote_ok bE oE []
   rw [show unqS [] = ([],10) from rfl] at ku
   refine ACall_body tab_ok Tryz.func87 rfl rfl rfl (by kernel_rfl) (nb_ rfl) ?_
   repeat first|refine go_ ?_|intro _
   rename_i b
   refine Or.inl ⟨⟨_,Tryz.func125,rfl,rfl⟩,ACall.mono ?_ (kq _ (by omega))⟩
   rintro _ S1 ⟨rfl,hS1⟩
   subst S1
   repeat first|refine go_ ?_|intro _
   refine at_ss 0 0 [] rfl rfl (by omega) (by simp) (by simp) ?_
   repeat first|refine go_ ?_|intro _
   refine Or.inl ⟨⟨_,Tryz.func126,rfl,rfl⟩,ACall.mono ?_ (ku _ (.tail _ (.tail _ hE')) (by simp))⟩
   rintro _ S1 ⟨rfl,hS1⟩
   subst S1
   repeat first|refine go_ ?_|intro _
   refine AW_true (b := true) rfl (by first | rfl | (simp; done) | (simp; omega) | decide) ?_
   repeat first|refine go_ ?_|intro _
   refine AW_ret ?_
   refine ⟨rfl,0,_,rfl,⟨nb_ rfl,nb_ rfl⟩,_, .cells c (scn M (34 :: l)) :: R,AVle.eq ?_,SLe.tail SLe.rfl,rfl,rfl⟩
   rfl
  | some n =>
   have hn := quoR_le l n hqr
   have hv : quoV l = ((n + 1 : Nat) : Int) := by rw [quoV,hqr]
   have kq := quoted_ok l
   rw [hv] at kq
   have ku := unquote_ok bE oE ((34 :: l).take (n + 1))
   rw [sym_none hsy hqr] at ku
   refine ACall_body tab_ok Tryz.func87 rfl rfl rfl (by kernel_rfl) (nb_ rfl) ?_
   repeat first|refine go_ ?_|intro _
   rename_i b
   refine Or.inl ⟨⟨_,Tryz.func125,rfl,rfl⟩,ACall.mono ?_ (kq _ (by omega))⟩
   rintro _ S1 ⟨rfl,hS1⟩
   subst S1
   repeat first|refine go_ ?_|intro _
   refine at_ss 0 (n + 1) ((34 :: l).take (n + 1)) rfl rfl (by omega) (by simp; omega) (by simp) ?_
   repeat first|refine go_ ?_|intro _
   refine Or.inl ⟨⟨_,Tryz.func126,rfl,rfl⟩,ACall.mono ?_ (ku _ (.tail _ (.tail _ hE')) (by rw [List.length_take]; simp; omega))⟩
   rintro _ S1 ⟨rfl,hS1⟩
   subst S1
   repeat first|refine go_ ?_|intro _
   refine AW_true (b := true) rfl (by first | rfl | (simp; done) | (simp; omega) | decide) ?_
   repeat first|refine go_ ?_|intro _
   refine AW_ret ?_
   refine ⟨rfl,0,_,rfl,⟨nb_ rfl,nb_ rfl⟩,_, .cells c (scn M (34 :: l)) :: R,AVle.eq ?_,SLe.tail SLe.rfl,rfl,rfl⟩
   rfl
def twos : List (List UInt8) := [[58,45], [33,61], [60,61], [62,61]]
theorem twos_two : ∀ x ∈ twos,x.length = 2 := by decide
theorem twoS_in (c : UInt8) (l : List UInt8) : twoS c l = decide ((c :: l).take 2 ∈ twos) := by
 have e : ∀ n : Nat,(hn : n < 256) → (c.toNat = n ↔ c = UInt8.ofNat n) := fun n hn => ⟨fun h => UInt8.toNat_inj.1 (by rw [h,UInt8.toNat_ofNat']; omega),fun h => by rw [h,UInt8.toNat_ofNat']; omega⟩
 rw [Bool.eq_iff_iff]
 cases l with
 | nil => simp [twoS,twos]
 | cons d l =>
  simp only [twoS,List.head?_cons,Option.some.injEq,Bool.or_eq_true,Bool.and_eq_true,decide_eq_true_eq,e 58 (by omega),e 33 (by omega),e 60 (by omega),e 62 (by omega),List.take_succ_cons,List.take_zero,twos,List.mem_cons,List.cons.injEq,and_true,List.not_mem_nil,or_false]
  constructor
  ·rintro (⟨h1,h2⟩ | ⟨(h1 | h1) | h1,h2⟩)
   ·exact .inl ⟨h1,h2⟩
   ·exact .inr (.inl ⟨h1,h2⟩)
   ·exact .inr (.inr (.inl ⟨h1,h2⟩))
   ·exact .inr (.inr (.inr ⟨h1,h2⟩))
  ·rintro (⟨h1,h2⟩ | ⟨h1,h2⟩ | ⟨h1,h2⟩ | ⟨h1,h2⟩)
   ·exact .inl ⟨h1,h2⟩
   ·exact .inr ⟨.inl (.inl h1),h2⟩
   ·exact .inr ⟨.inl (.inr h1),h2⟩
   ·exact .inr ⟨.inr h1,h2⟩
theorem idx_neg (l : List UInt8) (c : UInt8) : Lib.indexByte l c < 0 ↔ c ∉ l := by
 rw [idx_find]
 cases h : l.findIdx? (· == c) with
 | none =>
  have := List.findIdx?_eq_none_iff.1 h
  refine iff_of_true (by decide) fun hm => ?_
  have := this c hm
  simp at this
 | some n =>
  obtain ⟨h1,h2,_⟩ := List.findIdx?_eq_some_iff_getElem.1 h
  refine iff_of_false (by show ¬ ((n : Nat) : Int) < 0; omega) fun hm => hm ?_
  have h2' : l[n] = c := by simpa using h2
  exact h2' ▸ List.getElem_mem h1
theorem idxSigns_ok (l : List UInt8) (c : UInt8) (R : List En) (hl : l.length ≤ 1000) : ACall Tryz.prog 161 [.str l, .int .u8 c.toNat] R (fun r S => r = .int .i64 (Lib.indexByte l c) ∧ S = R) := by
 have k : ACall Tryz.prog 177 [.str l, .int .u8 c.toNat] R (fun r S => r = .int .i64 (Lib.indexByte l c) ∧ S = R) := by
  refine ACall_body tab_ok Tryz.func177 rfl rfl rfl (by kernel_rfl) (nb_ rfl) ?_
  repeat first|refine go_ ?_|intro _
  refine .inr (indexByteString_call ?_ hl)
  repeat first|refine go_ ?_|intro _
  refine AW_ret ?_
  repeat refine mk_ ?_
  refine ⟨_,R,AVle.eq ?_,sle_,rfl,rfl⟩
  rfl
 refine ACall_body tab_ok Tryz.func161 rfl rfl rfl (by kernel_rfl) (nb_ rfl) ?_
 repeat first|refine go_ ?_|intro _
 refine Or.inl ⟨⟨_,Tryz.func177,rfl,rfl⟩,ACall.mono ?_ (k)⟩
 rintro _ S1 ⟨rfl,hS1⟩
 subst S1
 repeat first|refine go_ ?_|intro _
 refine AW_ret ?_
 repeat refine mk_ ?_
 refine ⟨_,R,AVle.eq ?_,sle_,rfl,rfl⟩
 rfl
theorem sign_ok (c : UInt8) (l : List UInt8) (R : List En) (hl : l.length ≤ 16777216) : ACall Tryz.prog 132 [.str (c :: l)] R (fun r S => r = .int .i64 ((signN c l : Nat) : Int) ∧ S = R) := by
 refine ACall_body tab_ok Tryz.func132 rfl rfl rfl (by kernel_rfl) (nb_ rfl) ?_
 repeat first|refine go_ ?_|intro _
 refine AW_for (α := Nat) (fun z => ⟨[(0, .str (c :: l)),(5, .sl 1 (twos.map AV.str) .full),(6, .int .i64 (4 : Nat)),(7, .int .i64 (z : Nat))], []⟩) (fun z => R) (fun z => 4 - z) (fun z => z ≤ 4 ∧ ∀ (i : Nat) (hi : i < twos.length),i < z → ¬ (c :: l).take 2 = twos[i]) (0) ?_ (weak_of ?_ rfl ?_) (fun z hz => ?_)
 ·exact ⟨by omega,fun i hi h => by omega⟩
 ·exact e_
 ·exact l_
 obtain ⟨i1,i2⟩ := hz
 repeat first|refine go_ ?_|intro _
 refine AW_iff (z < 4) rfl ib_ (fun h => ?_) (fun h => ?_)
 ·have hlt : z < twos.length := h
  obtain ⟨x,hx⟩ : ∃ x,x = twos[z] := ⟨_,rfl⟩
  have hx2 : x.length = 2 := twos_two x (hx ▸ List.getElem_mem hlt)
  have kp := prefix_ok (c :: l) x
  rw [hx2] at kp
  repeat first|refine go_ ?_|intro _
  refine at_map (z) (by first | rfl | omega | (rw [wrap_i64 (by omega)]; omega)) (by first | assumption | omega) ?_
  rw [← hx]
  repeat first|refine go_ ?_|intro _
  refine Or.inl ⟨⟨_,Tryz.func84,rfl,rfl⟩,ACall.mono ?_ (kp _)⟩
  rintro _ S1 ⟨rfl,hS1⟩
  subst S1
  repeat first|refine go_ ?_|intro _
  refine AW_iff ((c :: l).take 2 = x) rfl (by exact decide_eq_true_iff) (fun h => ?_) (fun h => ?_)
  ·have e : signN c l = 2 := by rw [signN,if_pos (by rw [twoS_in,h,hx]; exact decide_eq_true (List.getElem_mem hlt))]
   repeat first|refine go_ ?_|intro _
   refine AW_ret ?_
   repeat refine mk_ ?_
   refine ⟨_,R,AVle.eq ?_,sle_,rfl,rfl⟩
   rw [e]; rfl
  ·have hn := h
   repeat first|refine go_ ?_|intro _
   refine ⟨z + 1,?_,?_,weak_of ?_ rfl ?_⟩
   ·omega
   ·refine ⟨by omega,fun i hi hiz => ?_⟩
    by_cases hc : i < z
    ·exact i2 i hi hc
    ·obtain rfl : i = z := by omega
     rw [← hx]; exact hn
   ·exact e_
   ·exact l_
 ·have hz4 : z = 4 := by omega
  subst hz4
  have h2 : ¬ twoS c l = true := by
   rw [twoS_in,decide_eq_true_eq]
   intro hm
   obtain ⟨i,hi,hie⟩ := List.mem_iff_getElem.1 hm
   exact i2 i hi hi hie.symm
  repeat first|refine go_ ?_|intro _
  refine at_list 0 rfl (by simp) ?_
  show (fun x : UInt8 => _) c
  repeat first|refine go_ ?_|intro _
  refine Or.inl ⟨⟨_,Tryz.func161,rfl,rfl⟩,ACall.mono ?_ (idxSigns_ok signs c _ (by decide))⟩
  rintro _ S1 ⟨rfl,hS1⟩
  subst S1
  repeat first|refine go_ ?_|intro _
  refine AW_iff (c ∉ signs) rfl (by exact decide_eq_true_iff.trans (idx_neg _ _)) (fun h => ?_) (fun h => ?_)
  ·have e : signN c l = 0 := by rw [signN,if_neg h2,if_neg h]
   repeat first|refine go_ ?_|intro _
   refine AW_ret ?_
   repeat refine mk_ ?_
   refine ⟨_,R,AVle.eq ?_,sle_,rfl,rfl⟩
   rw [e]; rfl
  ·have e : signN c l = 1 := by rw [signN,if_neg h2,if_pos (Decidable.not_not.1 h)]
   repeat first|refine go_ ?_|intro _
   refine AW_ret ?_
   repeat refine mk_ ?_
   refine ⟨_,R,AVle.eq ?_,sle_,rfl,rfl⟩
   rw [e]; rfl
def tokR (x : Option (Nat × List UInt8 × List UInt8)) (r : AV) : Prop := match x with
 | some q => r = .tup [encT ⟨q.1,q.2.1,0⟩, .bool true]
 | none => ∃ (k : Int) (w : List UInt8),r = .tup [encT ⟨k,w,0⟩, .bool false]
theorem tokR_of {k : Nat} {w r : List UInt8} {p : Prop} [Decidable p] {v : AV} (h : v = .tup [encT ⟨k,w,0⟩, .bool (decide p)]) : tokR (if p then some (k,w,r) else none) v := by
 by_cases hp : p
 ·rw [if_pos hp,h,decide_eq_true hp]; rfl
 ·rw [if_neg hp,h,decide_eq_false hp]; exact ⟨_,_,rfl⟩
theorem token_ok (M p : Nat) (c : UInt8) (l : List UInt8) (R : List En) (hG : NumG R) (hc : ¬ c.toNat = 34) (hl : l.length ≤ 16777215) :
  ACall Tryz.prog 88 [.ptr p 0] (.cells p (scn M (c :: l)) :: R) (fun r S => tokR (oneT (c :: l)) r ∧ S = .cells p (scn M (c :: l)) :: R) := by
 have hw := tw_len (p := wordB) (l := c :: l)
 have hs := tw_len (p := smallB) (l := l)
 have tw := take_tw (p := wordB) (c :: l)
 have ts := take_tw (p := smallB) l
 have hlc : (c :: l).length = l.length + 1 := rfl
 refine ACall_body tab_ok Tryz.func88 rfl rfl rfl (by kernel_rfl) (nb_ rfl) ?_
 repeat first|refine go_ ?_|intro _
 rename_i b
 refine Or.inl ⟨⟨_,Tryz.func82,rfl,rfl⟩,ACall.mono ?_ (run_ok isWord_ok (c :: l) _ (by omega))⟩
 rintro _ S1 ⟨rfl,hS1⟩
 subst S1
 repeat first|refine go_ ?_|intro _
 refine at_ss 1 (l.length + 1) l rfl rfl (by omega) (by simp) (by simp) ?_
 repeat first|refine go_ ?_|intro _
 refine Or.inl ⟨⟨_,Tryz.func82,rfl,rfl⟩,ACall.mono ?_ (run_ok isSmall_ok l _ (by omega))⟩
 rintro _ S1 ⟨rfl,hS1⟩
 subst S1
 repeat first|refine go_ ?_|intro _
 refine at_list 0 rfl (by simp) ?_
 show (fun x : UInt8 => _) c
 repeat first|refine gr_ ?_|intro _
 refine AW_weak (weak_of (l := [(0, .ptr p 0),(2, .ptr b 0),(4, .int .i64 (((c :: l).takeWhile wordB).length : Nat)),(5, .int .i64 ((l.takeWhile smallB).length : Nat)),(6, .int .u8 c.toNat)]) (m := []) (S' := .cells b [.int .i64 0, .str [], .int .i64 0] :: .cells p (scn M (c :: l)) :: R) e_ rfl w_) ?_
 repeat first|refine go_ ?_|intro _
 refine Or.inl ⟨⟨_,Tryz.func128,rfl,rfl⟩,ACall.mono ?_ (isLetter_ok c _)⟩
 rintro _ S1 ⟨rfl,hS1⟩
 subst S1
 repeat first|refine go_ ?_|intro _
 refine AW_cond (b := letterB c) rfl (fun h => ?_) (fun h => ?_)
 ·have e : oneT (c :: l) = if ((c :: l).takeWhile wordB).length ≤ 40 then some (1,(c :: l).takeWhile wordB,(c :: l).dropWhile wordB) else none := by
   rw [oneT,if_pos h]
  repeat first|refine go_ ?_|intro _
  refine at_ss 0 ((c :: l).takeWhile wordB).length ((c :: l).takeWhile wordB) rfl rfl (by omega) (by omega) (by simpa using tw) ?_
  repeat first|refine go_ ?_|intro _
  refine AW_ret ?_
  refine ⟨rfl,0,_,rfl,⟨nb_ rfl,nb_ rfl⟩,_, .cells p (scn M (c :: l)) :: R,AVle.refl _,SLe.tail SLe.rfl,?_,rfl⟩
  rw [e]
  exact tokR_of (k := 1) (congrArg (fun x => AV.tup [encT ⟨1,(c :: l).takeWhile wordB,0⟩, .bool x]) (decide_eq_decide.2 (by omega)))
 have h1 := h
 refine AW_weak (weak_of (l := [(0, .ptr p 0),(2, .ptr b 0),(4, .int .i64 (((c :: l).takeWhile wordB).length : Nat)),(5, .int .i64 ((l.takeWhile smallB).length : Nat)),(6, .int .u8 c.toNat)]) (m := []) (S' := .cells b [.int .i64 0, .str [], .int .i64 0] :: .cells p (scn M (c :: l)) :: R) e_ rfl w_) ?_
 repeat first|refine go_ ?_|intro _
 refine Or.inl ⟨⟨_,Tryz.func129,rfl,rfl⟩,ACall.mono ?_ (isDigit_ok c _)⟩
 rintro _ S1 ⟨rfl,hS1⟩
 subst S1
 repeat first|refine go_ ?_|intro _
 refine AW_cond (b := digitB c) rfl (fun h => ?_) (fun h => ?_)
 ·have e : oneT (c :: l) = if (pnL ((c :: l).takeWhile wordB)).2 = 0 then some (2,(c :: l).takeWhile wordB,(c :: l).dropWhile wordB) else none := by
   rw [oneT,if_neg (by rw [h1]; decide),if_pos h]
  repeat first|refine go_ ?_|intro _
  refine at_ss 0 ((c :: l).takeWhile wordB).length ((c :: l).takeWhile wordB) rfl rfl (by omega) (by omega) (by simpa using tw) ?_
  repeat first|refine go_ ?_|intro _
  refine Or.inl ⟨⟨_,Tryz.func131,rfl,rfl⟩,ACall.mono ?_ (parseNum_ok ((c :: l).takeWhile wordB) _ hG.cons.cons (by omega))⟩
  rintro _ S1 ⟨rfl,hS1⟩
  subst S1
  repeat first|refine go_ ?_|intro _
  refine at_ss 0 ((c :: l).takeWhile wordB).length ((c :: l).takeWhile wordB) rfl rfl (by omega) (by omega) (by simpa using tw) ?_
  repeat first|refine go_ ?_|intro _
  refine AW_ret ?_
  refine ⟨rfl,0,_,rfl,⟨nb_ rfl,nb_ rfl⟩,_, .cells p (scn M (c :: l)) :: R,AVle.refl _,SLe.tail SLe.rfl,?_,rfl⟩
  rw [e]
  exact tokR_of (k := 2) rfl
 have h2 := h
 refine AW_weak (weak_of (l := [(0, .ptr p 0),(2, .ptr b 0),(4, .int .i64 (((c :: l).takeWhile wordB).length : Nat)),(5, .int .i64 ((l.takeWhile smallB).length : Nat)),(6, .int .u8 c.toNat)]) (m := []) (S' := .cells b [.int .i64 0, .str [], .int .i64 0] :: .cells p (scn M (c :: l)) :: R) e_ rfl w_) ?_
 repeat first|refine go_ ?_|intro _
 have e : oneT (c :: l) = if c.toNat = 46 ∧ 0 < (l.takeWhile smallB).length then
   (if c :: l.takeWhile smallB = wDecl ∨ c :: l.takeWhile smallB = wIn ∨ c :: l.takeWhile smallB = wOut then some (5,c :: l.takeWhile smallB,l.dropWhile smallB) else none)
  else if signN c l = 0 then none else some (4,(c :: l).take (signN c l),(c :: l).drop (signN c l)) := by
  rw [oneT,if_neg (by rw [h1]; decide),if_neg (by rw [h2]; decide),if_neg hc]
 have hsg := signN_le c l
 obtain ⟨w,hw5⟩ : ∃ w,w = c :: l.takeWhile smallB := ⟨_,rfl⟩
 rw [← hw5] at e
 have hwt : (c :: l).take ((l.takeWhile smallB).length + 1) = w := by rw [List.take_succ_cons,ts,hw5]
 refine gsplit (c.toNat = 46) ib_ (fun h => ?_) (fun h => ?_)
 ·have h46 := h
  repeat first|refine ga_ ?_|intro _
  refine AW_iff (0 < (l.takeWhile smallB).length) rfl ib_ (fun h => ?_) (fun h => ?_)
  ·rw [if_pos ⟨h46,h⟩] at e
   refine AW_weak (weak_of (l := [(0, .ptr p 0),(2, .ptr b 0),(5, .int .i64 ((l.takeWhile smallB).length : Nat))]) (m := []) (S' := .cells b [.int .i64 0, .str [], .int .i64 0] :: .cells p (scn M (c :: l)) :: R) e_ rfl w_) ?_
   repeat first|refine go_ ?_|intro _
   refine at_ss 0 ((l.takeWhile smallB).length + 1) w rfl (by show IntKind.i64.wrap (((l.takeWhile smallB).length : Int) + 1) = _; rw [wrap_i64 (by omega)]; omega) (by omega) (by omega) (by rw [hwt]; rfl) ?_
   repeat first|refine gr_ ?_|intro _
   refine AW_weak (weak_of (l := [(2, .ptr b 0),(9, .str w)]) (m := []) (S' := .cells b [.int .i64 0, .str [], .int .i64 0] :: .cells p (scn M (c :: l)) :: R) e_ rfl w_) ?_
   repeat first|refine go_ ?_|intro _
   refine gsplit (w = wDecl) decide_eq_true_iff (fun h => ?_) (fun h => ?_)
   ·repeat first|refine ga_ ?_|intro _
    refine AW_ret ?_
    refine ⟨rfl,0,_,rfl,⟨nb_ rfl,nb_ rfl⟩,_, .cells p (scn M (c :: l)) :: R,AVle.refl _,SLe.tail SLe.rfl,?_,rfl⟩
    rw [e,if_pos (.inl h)]; rfl
   have n1 := h
   repeat first|refine ga_ ?_|intro _
   refine gsplit (w = wIn) decide_eq_true_iff (fun h => ?_) (fun h => ?_)
   ·repeat first|refine ga_ ?_|intro _
    refine AW_ret ?_
    refine ⟨rfl,0,_,rfl,⟨nb_ rfl,nb_ rfl⟩,_, .cells p (scn M (c :: l)) :: R,AVle.refl _,SLe.tail SLe.rfl,?_,rfl⟩
    rw [e,if_pos (.inr (.inl h))]; rfl
   have n2 := h
   repeat first|refine ga_ ?_|intro _
   refine AW_ret ?_
   refine ⟨rfl,0,_,rfl,⟨nb_ rfl,nb_ rfl⟩,_, .cells p (scn M (c :: l)) :: R,AVle.refl _,SLe.tail SLe.rfl,?_,rfl⟩
   rw [e]
   refine tokR_of (k := 5) ?_
   show AV.tup [encT ⟨5,w,0⟩, .bool (decide (w = wOut))] = _
   refine congrArg (fun x => AV.tup [encT ⟨5,w,0⟩, .bool x]) (decide_eq_decide.2 ?_)
   exact ⟨fun x => .inr (.inr x),fun x => by rcases x with x | x | x; exact absurd x n1; exact absurd x n2; exact x⟩
  ·rw [if_neg (fun x => h x.2)] at e
   repeat first|refine ga_ ?_|intro _
   refine Or.inl ⟨⟨_,Tryz.func132,rfl,rfl⟩,ACall.mono ?_ (sign_ok c l _ (by omega))⟩
   rintro _ S1 ⟨rfl,hS1⟩
   subst S1
   repeat first|refine go_ ?_|intro _
   refine at_ss 0 (signN c l) ((c :: l).take (signN c l)) rfl rfl (by omega) hsg (by simp) ?_
   repeat first|refine go_ ?_|intro _
   refine AW_ret ?_
   refine ⟨rfl,0,_,rfl,⟨nb_ rfl,nb_ rfl⟩,_, .cells p (scn M (c :: l)) :: R,AVle.refl _,SLe.tail SLe.rfl,?_,rfl⟩
   rw [e]
   by_cases h0 : signN c l = 0
   ·rw [if_pos h0,h0]; exact ⟨4,_,rfl⟩
   ·rw [if_neg h0]
    exact congrArg (fun x => AV.tup [encT ⟨4,(c :: l).take (signN c l),0⟩, .bool x]) (decide_eq_true (by omega))
 ·rw [if_neg (fun x => h x.1)] at e
  repeat first|refine ga_ ?_|intro _
  refine Or.inl ⟨⟨_,Tryz.func132,rfl,rfl⟩,ACall.mono ?_ (sign_ok c l _ (by omega))⟩
  rintro _ S1 ⟨rfl,hS1⟩
  subst S1
  repeat first|refine go_ ?_|intro _
  refine at_ss 0 (signN c l) ((c :: l).take (signN c l)) rfl rfl (by omega) hsg (by simp) ?_
  repeat first|refine go_ ?_|intro _
  refine AW_ret ?_
  refine ⟨rfl,0,_,rfl,⟨nb_ rfl,nb_ rfl⟩,_, .cells p (scn M (c :: l)) :: R,AVle.refl _,SLe.tail SLe.rfl,?_,rfl⟩
  rw [e]
  by_cases h0 : signN c l = 0
  ·rw [if_pos h0,h0]; exact ⟨4,_,rfl⟩
  ·rw [if_neg h0]
   exact congrArg (fun x => AV.tup [encT ⟨4,(c :: l).take (signN c l),0⟩, .bool x]) (decide_eq_true (by omega))
end Go.Proofs.YtfeknkaioofljaaGreatDoor.Lx
