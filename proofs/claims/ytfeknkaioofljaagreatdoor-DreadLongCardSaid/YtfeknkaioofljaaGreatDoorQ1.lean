/-
 Bytes: plain ones,letters,digits; one byte's text. Own work.
-/
import Derived.Test.YtfeknkaioofljaaGreatDoorBld
set_option linter.all false
set_option maxHeartbeats 4000000
set_option maxRecDepth 4000
namespace Go.Proofs.YtfeknkaioofljaaGreatDoor
open Go.Aw
def plainB (c : UInt8) : Bool := decide (32 ≤ c.toNat) && decide (c.toNat ≤ 126) && !decide (c.toNat = 34) && !decide (c.toNat = 92)
def letterB (c : UInt8) : Bool := decide (97 ≤ c.toNat) && decide (c.toNat ≤ 122) || decide (65 ≤ c.toNat) && decide (c.toNat ≤ 90) || decide (c.toNat = 95)
def digitB (c : UInt8) : Bool := decide (48 ≤ c.toNat) && decide (c.toNat ≤ 57)
theorem isPlain_ok (c : UInt8) (R : List En) : ACall Tryz.prog 170 [.int .u8 c.toNat] R (fun r S => r = .bool (plainB c) ∧ S = R) := by
 refine ACall_body tab_ok Tryz.func170 rfl rfl rfl (by kernel_rfl) (nb_ rfl) ?_
 all_goals (repeat first|refine ga_ ?_|intro _)
 all_goals (try (first | refine AW_cond rfl (fun h => ?_) (fun h => ?_) | refine ⟨fun h => ?_,fun h => ?_⟩))
 all_goals (try (repeat first|refine ga_ ?_|intro _))
 all_goals (try (first | refine AW_cond rfl (fun h => ?_) (fun h => ?_) | refine ⟨fun h => ?_,fun h => ?_⟩))
 all_goals (try (repeat first|refine ga_ ?_|intro _))
 all_goals (try (first | refine AW_cond rfl (fun h => ?_) (fun h => ?_) | refine ⟨fun h => ?_,fun h => ?_⟩))
 all_goals (try (repeat first|refine ga_ ?_|intro _))
 all_goals (try (first | refine AW_cond rfl (fun h => ?_) (fun h => ?_) | refine ⟨fun h => ?_,fun h => ?_⟩))
 all_goals (try (repeat first|refine ga_ ?_|intro _))
 all_goals (refine AW_ret ?_)
 all_goals (refine ⟨_,R,AVle.eq ?_,sle_,rfl,rfl⟩)
 all_goals (show AV.bool _ = AV.bool _; congr 1; rw [Bool.eq_iff_iff]; simp [plainB] at *; omega)
def hexs : List UInt8 := [48,49,50,51,52,53,54,55,56,57,97,98,99,100,101,102]
def hexd (n : Nat) : UInt8 := hexs.getD n 0
theorem at_hex {J : Int} {G : UInt8 → Prop} (i : Nat) (hj : J = (i : Int)) (h : i < 16) (hG : G (hexd i)) : 0 ≤ J ∧ ∃ v,hexs[J.toNat]? = some v ∧ G v := by
 subst hj
 refine ⟨by omega,hexd i,?_,hG⟩
 have h2 : i < hexs.length := h
 simp [hexd,List.getD_eq_getElem?_getD,h2]
theorem shr4 (c : UInt8) : Int.fdiv (c.toNat : Int) (2 ^ (min (Int.toNat 4) IntKind.u8.bits)) = ((c.toNat / 16 : Nat) : Int) := by
 have e3 : (2 : Int) ^ (min (Int.toNat 4) IntKind.u8.bits) = 16 := by simp [IntKind.bits]
 rw [e3,Int.fdiv_eq_ediv_of_nonneg _ (by omega)]; omega
theorem shr4_has (c : UInt8) : IntKind.u8.has (Int.fdiv (c.toNat : Int) (2 ^ (min (Int.toNat 4) IntKind.u8.bits))) := by
 rw [shr4]
 have := c.toNat_lt
 simp only [IntKind.has,IntKind.min,IntKind.max,IntKind.bits,IntKind.signed]; simp; omega
theorem and15 (c : UInt8) : IntKind.u8.wrap ((BitVec.ofInt IntKind.u8.bits (c.toNat : Int) &&& BitVec.ofInt IntKind.u8.bits 15).toNat : Int) = ((c.toNat % 16 : Nat) : Int) := by
 have hc := c.toNat_lt
 have e : (BitVec.ofInt IntKind.u8.bits (c.toNat : Int) &&& BitVec.ofInt IntKind.u8.bits 15).toNat = c.toNat % 16 := by
  rw [BitVec.toNat_and]
  have e1 : (BitVec.ofInt IntKind.u8.bits (c.toNat : Int)).toNat = c.toNat := by
   simp [IntKind.bits]
  have e2 : (BitVec.ofInt IntKind.u8.bits 15).toNat = 2 ^ 4 - 1 := by simp [IntKind.bits]
  rw [e1,e2,Nat.and_two_pow_sub_one_eq_mod]
 rw [e,wrap_has_eq]
 simp only [IntKind.has,IntKind.min,IntKind.max,IntKind.bits,IntKind.signed]
 have : c.toNat % 16 < 16 := Nat.mod_lt _ (by decide)
 simp; omega
def oneL (c : UInt8) : List UInt8 :=
 if c.toNat = 34 ∨ c.toNat = 92 then [92,c] else if c.toNat = 10 then [92,110] else if c.toNat < 32 ∨ 126 < c.toNat then [92,120,hexd (c.toNat / 16),hexd (c.toNat % 16)] else [c]
theorem oneL_len (c : UInt8) : 1 ≤ (oneL c).length ∧ (oneL c).length ≤ 4 := by
 unfold oneL; split
 ·simp
 ·split
  ·simp
  ·split <;> simp
def quoteL (s : List UInt8) : List UInt8 := 34 :: s.flatMap oneL ++ [34]
theorem flat_len (s : List UInt8) : (s.flatMap oneL).length ≤ 4 * s.length := by
 induction s with
 | nil => simp
 | cons a s ih => have := (oneL_len a).2; simp only [List.flatMap_cons,List.length_append,List.length_cons]; omega
theorem flat_take' (s : List UInt8) {i : Nat} (h : i < s.length) : (s.take (i + 1)).flatMap oneL = (s.take i).flatMap oneL ++ oneL s[i] := by
 rw [List.take_add_one,List.getElem?_eq_getElem h,Option.toList_some,List.flatMap_append]; simp
theorem quote_ok (s : List UInt8) (R : List En) (hs : s.length ≤ 4000000) : ACall Tryz.prog 150 [.str s] R (fun r S => r = .str (quoteL s) ∧ S = R) := by
 refine ACall_body tab_ok Tryz.func150 rfl rfl rfl (by kernel_rfl) (nb_ rfl) ?_
 repeat first|refine go_ ?_|intro _
 rename_i b
 refine Or.inl ⟨⟨_,Tryz.func159,rfl,rfl⟩,ACall.mono ?_ (writeByte_ok b false [] 0 0 [] 34 R (by simp) (by simp) (by simp))⟩
 rintro _ S1 ⟨rfl,bb,cap,rest,h1,h2,hS1⟩
 subst S1
 repeat first|refine go_ ?_|intro _
 refine AW_for (α := Nat × Nat × Nat × List AV) (fun z => ⟨[(0, .str s),(3, .ptr b 0),(8, .int .i64 (s.length : Nat)),(9, .int .i64 (z.1 : Nat))], []⟩) (fun z => Bld b true (34 :: (s.take z.1).flatMap oneL) z.2.1 z.2.2.1 z.2.2.2 R) (fun z => s.length - z.1) (fun z => z.1 ≤ s.length ∧ (34 :: (s.take z.1).flatMap oneL).length ≤ z.2.2.1 ∧ z.2.2.2.length = z.2.2.1 - (34 :: (s.take z.1).flatMap oneL).length) ((0,bb,cap,rest)) ?_ (weak_of ?_ rfl ?_) (fun z hz => ?_)
 ·exact ⟨by simp,h1,h2⟩
 ·exact e_
 ·exact l_
 clear h1 h2
 clear bb cap rest
 obtain ⟨z,bb,cap,rest⟩ := z
 obtain ⟨hi,h1,h2⟩ := hz
 replace hi : z ≤ s.length := hi
 replace h1 : (34 :: (s.take z).flatMap oneL).length ≤ cap := h1
 replace h2 : rest.length = cap - (34 :: (s.take z).flatMap oneL).length := h2
 have hf := flat_len (s.take z)
 have htl : (s.take z).length = z := by simp; omega
 rw [htl] at hf
 repeat first|refine go_ ?_|intro _
 refine AW_iff (z < s.length) rfl ib_ (fun h => ?_) (fun h => ?_)
 ·have hlt := h
  have e := flat_take' s hlt
  obtain ⟨c,hc⟩ : ∃ c,c = s[z] := ⟨_,rfl⟩
  rw [← hc] at e
  repeat first|refine go_ ?_|intro _
  refine at_list z rfl hlt ?_
  rw [← hc]
  repeat first|refine go_ ?_|intro _
  refine Or.inl ⟨⟨_,Tryz.func170,rfl,rfl⟩,ACall.mono ?_ (isPlain_ok c _)⟩
  rintro _ S1 ⟨rfl,hS1⟩
  subst S1
  repeat first|refine go_ ?_|intro _
  refine AW_cond (b := plainB c) rfl (fun h => ?_) (fun h => ?_)
  ·have ho : oneL c = [c] := by
    simp only [plainB,Bool.and_eq_true,decide_eq_true_eq,Bool.not_eq_true',decide_eq_false_iff_not] at h
    rw [oneL,if_neg (by omega),if_neg (by omega),if_neg (by omega)]
   have e' : (34 :: (s.take z).flatMap oneL) ++ [c] = 34 :: (s.take (z + 1)).flatMap oneL := by rw [e,ho]; rfl
   repeat first|refine go_ ?_|intro _
   refine Or.inl ⟨⟨_,Tryz.func159,rfl,rfl⟩,ACall.mono ?_ (writeByte_ok b true _ bb cap rest c R h1 h2 (by simp only [List.length_append,List.length_cons,List.length_nil]; omega))⟩
   rintro _ S1 ⟨rfl,bb,cap,rest,h1,h2,hS1⟩
   subst S1
   repeat first|refine go_ ?_|intro _
   refine ⟨((z + 1,bb,cap,rest) : Nat × Nat × Nat × List AV),?_,?_,weak_of ?_ rfl ?_⟩
   ·show s.length - (z + 1) < s.length - z; omega
   ·exact ⟨by show z + 1 ≤ _; omega,e' ▸ h1,e' ▸ h2⟩
   ·exact e_
   ·exact SLe.of_eq (congrArg (fun x => Bld b true x bb cap rest R) e')
  ·repeat first|refine go_ ?_|intro _
   refine AW_iff (c.toNat = 10) rfl ib_ (fun h => ?_) (fun h => ?_)
   ·have ho : oneL c = [92,110] := by rw [oneL,if_neg (by omega),if_pos (by omega)]
    have e' : (34 :: (s.take z).flatMap oneL) ++ [92,110] = 34 :: (s.take (z + 1)).flatMap oneL := by rw [e,ho]; rfl
    repeat first|refine go_ ?_|intro _
    refine Or.inl ⟨⟨_,Tryz.func28,rfl,rfl⟩,ACall.mono ?_ (writeString_ok b true _ bb cap rest [92,110] R h1 h2 (by simp only [List.length_append,List.length_cons,List.length_nil]; omega))⟩
    rintro _ S1 ⟨rfl,bb,cap,rest,h1,h2,hS1⟩
    subst S1
    repeat first|refine go_ ?_|intro _
    refine ⟨((z + 1,bb,cap,rest) : Nat × Nat × Nat × List AV),?_,?_,weak_of ?_ rfl ?_⟩
    ·show s.length - (z + 1) < s.length - z; omega
    ·exact ⟨by show z + 1 ≤ _; omega,e' ▸ h1,e' ▸ h2⟩
    ·exact e_
    ·exact SLe.of_eq (congrArg (fun x => Bld b true x bb cap rest R) e')
   ·have hn10 := h
    repeat first|refine go_ ?_|intro _
    refine gsplit (¬ c.toNat = 34) ib_ (fun h => ?_) (fun h => ?_)
    ·have hn34 := h
     repeat first|refine go_ ?_|intro _
     refine AW_iff (¬ c.toNat = 92) rfl ib_ (fun h => ?_) (fun h => ?_)
     ·have hp : c.toNat < 32 ∨ 126 < c.toNat := by
       have hq : plainB c = false := by assumption
       by_cases h3 : c.toNat < 32
       ·exact .inl h3
       ·by_cases h4 : 126 < c.toNat
        ·exact .inr h4
        ·exfalso
         rw [plainB,decide_eq_true (show 32 ≤ c.toNat by omega),decide_eq_true (show c.toNat ≤ 126 by omega),decide_eq_false hn34,decide_eq_false h] at hq
         cases hq
      have hlc := c.toNat_lt
      have ho : oneL c = [92,120,hexd (c.toNat / 16),hexd (c.toNat % 16)] := by rw [oneL,if_neg (by omega),if_neg (by omega),if_pos hp]
      have e' : ((34 :: (s.take z).flatMap oneL) ++ [92,120] ++ [hexd (c.toNat / 16)]) ++ [hexd (c.toNat % 16)] = 34 :: (s.take (z + 1)).flatMap oneL := by rw [e,ho]; simp
      repeat first|refine go_ ?_|intro _
      refine Or.inl ⟨⟨_,Tryz.func28,rfl,rfl⟩,ACall.mono ?_ (writeString_ok b true _ bb cap rest [92,120] R h1 h2 (by simp only [List.length_append,List.length_cons,List.length_nil]; omega))⟩
      rintro _ S1 ⟨rfl,bb,cap,rest,h1,h2,hS1⟩
      subst S1
      repeat first|refine go_ ?_|intro _
      refine ⟨by decide,shr4_has c,?_⟩
      repeat first|refine go_ ?_|intro _
      refine at_hex (c.toNat / 16) (shr4 c) (by omega) ?_
      repeat first|refine go_ ?_|intro _
      refine Or.inl ⟨⟨_,Tryz.func159,rfl,rfl⟩,ACall.mono ?_ (writeByte_ok b true _ bb cap rest (hexd (c.toNat / 16)) R h1 h2 (by simp only [List.length_append,List.length_cons,List.length_nil]; omega))⟩
      rintro _ S1 ⟨rfl,bb,cap,rest,h1,h2,hS1⟩
      subst S1
      repeat first|refine go_ ?_|intro _
      refine at_hex (c.toNat % 16) (and15 c) (by omega) ?_
      repeat first|refine go_ ?_|intro _
      refine Or.inl ⟨⟨_,Tryz.func159,rfl,rfl⟩,ACall.mono ?_ (writeByte_ok b true _ bb cap rest (hexd (c.toNat % 16)) R h1 h2 (by simp only [List.length_append,List.length_cons,List.length_nil]; omega))⟩
      rintro _ S1 ⟨rfl,bb,cap,rest,h1,h2,hS1⟩
      subst S1
      repeat first|refine go_ ?_|intro _
      refine ⟨((z + 1,bb,cap,rest) : Nat × Nat × Nat × List AV),?_,?_,weak_of ?_ rfl ?_⟩
      ·show s.length - (z + 1) < s.length - z; omega
      ·exact ⟨by show z + 1 ≤ _; omega,e' ▸ h1,e' ▸ h2⟩
      ·exact e_
      ·exact SLe.of_eq (congrArg (fun x => Bld b true x bb cap rest R) e')
     ·have ho : oneL c = [92,c] := by rw [oneL,if_pos (by omega)]
      have e' : ((34 :: (s.take z).flatMap oneL) ++ [92]) ++ [c] = 34 :: (s.take (z + 1)).flatMap oneL := by rw [e,ho]; simp
      repeat first|refine go_ ?_|intro _
      refine Or.inl ⟨⟨_,Tryz.func159,rfl,rfl⟩,ACall.mono ?_ (writeByte_ok b true _ bb cap rest 92 R h1 h2 (by simp only [List.length_append,List.length_cons,List.length_nil]; omega))⟩
      rintro _ S1 ⟨rfl,bb,cap,rest,h1,h2,hS1⟩
      subst S1
      repeat first|refine go_ ?_|intro _
      refine Or.inl ⟨⟨_,Tryz.func159,rfl,rfl⟩,ACall.mono ?_ (writeByte_ok b true _ bb cap rest c R h1 h2 (by simp only [List.length_append,List.length_cons,List.length_nil]; omega))⟩
      rintro _ S1 ⟨rfl,bb,cap,rest,h1,h2,hS1⟩
      subst S1
      repeat first|refine go_ ?_|intro _
      refine ⟨((z + 1,bb,cap,rest) : Nat × Nat × Nat × List AV),?_,?_,weak_of ?_ rfl ?_⟩
      ·show s.length - (z + 1) < s.length - z; omega
      ·exact ⟨by show z + 1 ≤ _; omega,e' ▸ h1,e' ▸ h2⟩
      ·exact e_
      ·exact SLe.of_eq (congrArg (fun x => Bld b true x bb cap rest R) e')
    ·have ho : oneL c = [92,c] := by rw [oneL,if_pos (by omega)]
     have e' : ((34 :: (s.take z).flatMap oneL) ++ [92]) ++ [c] = 34 :: (s.take (z + 1)).flatMap oneL := by rw [e,ho]; simp
     repeat first|refine go_ ?_|intro _
     refine AW_false (b := false) rfl (by first | rfl | (simp; done) | (simp; omega) | decide) ?_
     repeat first|refine go_ ?_|intro _
     refine Or.inl ⟨⟨_,Tryz.func159,rfl,rfl⟩,ACall.mono ?_ (writeByte_ok b true _ bb cap rest 92 R h1 h2 (by simp only [List.length_append,List.length_cons,List.length_nil]; omega))⟩
     rintro _ S1 ⟨rfl,bb,cap,rest,h1,h2,hS1⟩
     subst S1
     repeat first|refine go_ ?_|intro _
     refine Or.inl ⟨⟨_,Tryz.func159,rfl,rfl⟩,ACall.mono ?_ (writeByte_ok b true _ bb cap rest c R h1 h2 (by simp only [List.length_append,List.length_cons,List.length_nil]; omega))⟩
     rintro _ S1 ⟨rfl,bb,cap,rest,h1,h2,hS1⟩
     subst S1
     repeat first|refine go_ ?_|intro _
     refine ⟨((z + 1,bb,cap,rest) : Nat × Nat × Nat × List AV),?_,?_,weak_of ?_ rfl ?_⟩
     ·show s.length - (z + 1) < s.length - z; omega
     ·exact ⟨by show z + 1 ≤ _; omega,e' ▸ h1,e' ▸ h2⟩
     ·exact e_
     ·exact SLe.of_eq (congrArg (fun x => Bld b true x bb cap rest R) e')
 ·have hzl : z = s.length := by omega
  repeat first|refine go_ ?_|intro _
  refine Or.inl ⟨⟨_,Tryz.func159,rfl,rfl⟩,ACall.mono ?_ (writeByte_ok b true _ bb cap rest 34 R h1 h2 (by simp only [List.length_append,List.length_cons,List.length_nil]; omega))⟩
  rintro _ S1 ⟨rfl,bb,cap,rest,h1,h2,hS1⟩
  subst S1
  repeat first|refine go_ ?_|intro _
  refine Or.inl ⟨⟨_,Tryz.func31,rfl,rfl⟩,ACall.mono ?_ (bldString_ok b true _ bb cap rest R (by simp only [List.length_append,List.length_cons,List.length_nil]; omega))⟩
  rintro _ S1 ⟨rfl,hS1⟩
  subst S1
  repeat first|refine go_ ?_|intro _
  refine AW_ret ?_
  repeat refine mk_ ?_
  refine ⟨_,R,AVle.eq ?_,sle_,rfl,rfl⟩
  show AV.str _ = AV.str _
  rw [hzl,List.take_length]; rfl
def okAt (j : Nat) (c : UInt8) : Bool := letterB c || (!decide (j = 0) && digitB c)
def nameB (s : List UInt8) : Bool := decide (1 ≤ s.length) && decide (s.length ≤ 40) && !decide (s = [95]) && (List.range s.length).all fun j => okAt j (s.getD j 0)
theorem name_false_at {s : List UInt8} {j : Nat} (h : j < s.length) (hb : okAt j s[j] = false) : nameB s = false := by
 have : ((List.range s.length).all fun j => okAt j (s.getD j 0)) = false := by
  rw [List.all_eq_false]
  exact ⟨j,List.mem_range.2 h,by rw [List.getD_eq_getElem?_getD,List.getElem?_eq_getElem h]; simpa using hb⟩
 rw [nameB,this]; simp
theorem name_true {s : List UInt8} (h1 : 1 ≤ s.length) (h2 : s.length ≤ 40) (h3 : s ≠ [95]) (h : ∀ (j : Nat) (hj : j < s.length),okAt j s[j] = true) : nameB s = true := by
 have : ((List.range s.length).all fun j => okAt j (s.getD j 0)) = true := by
  rw [List.all_eq_true]
  intro j hj
  have hj' := List.mem_range.1 hj
  rw [List.getD_eq_getElem?_getD,List.getElem?_eq_getElem hj']; exact h j hj'
 rw [nameB,this]; simp [h1,h2,h3]
theorem name_out {s : List UInt8} (h : s.length < 1 ∨ 40 < s.length ∨ s = [95]) : nameB s = false := by
 rcases h with h | h | h
 ·simp [nameB,show ¬ 1 ≤ s.length by omega]
 ·simp [nameB,show ¬ s.length ≤ 40 by omega]
 ·simp [nameB,h]
def letN (c : Nat) : Bool := decide (97 ≤ c) && decide (c ≤ 122) || decide (65 ≤ c) && decide (c ≤ 90) || decide (c = 95)
def digN (c : Nat) : Bool := decide (48 ≤ c) && decide (c ≤ 57)
theorem name_ok (s : List UInt8) (R : List En) : ACall Tryz.prog 78 [.str s] R (fun r S => r = .bool (nameB s) ∧ S = R) := by
 refine ACall_body tab_ok Tryz.func78 rfl rfl rfl (by kernel_rfl) (nb_ rfl) ?_
 all_goals (repeat first|refine ga_ ?_|intro _)
 all_goals (try (first | refine AW_cond rfl (fun h => ?_) (fun h => ?_) | refine ⟨fun h => ?_,fun h => ?_⟩))
 all_goals (try (repeat first|refine ga_ ?_|intro _))
 all_goals (try (first | refine AW_cond rfl (fun h => ?_) (fun h => ?_) | refine ⟨fun h => ?_,fun h => ?_⟩))
 all_goals (try (repeat first|refine ga_ ?_|intro _))
 all_goals (try (first | refine AW_cond rfl (fun h => ?_) (fun h => ?_) | refine ⟨fun h => ?_,fun h => ?_⟩))
 all_goals (try (repeat first|refine ga_ ?_|intro _))
 ·refine AW_ret ?_
  repeat refine mk_ ?_
  refine ⟨_,R,AVle.eq ?_,sle_,rfl,rfl⟩
  have e : s = [] := by have := of_decide_eq_true h; simpa using this
  rw [name_out (.inl (by rw [e]; simp))]; rfl
 ·refine AW_ret ?_
  repeat refine mk_ ?_
  refine ⟨_,R,AVle.eq ?_,sle_,rfl,rfl⟩
  rw [name_out (.inr (.inr (of_decide_eq_true h)))]; rfl
 ·refine AW_ret ?_
  repeat refine mk_ ?_
  refine ⟨_,R,AVle.eq ?_,sle_,rfl,rfl⟩
  rw [name_out (.inr (.inl (by simp at h; omega)))]; rfl
 rename_i h1 h2 b
 have h1' : 1 ≤ s.length := by
  have : s ≠ [] := of_decide_eq_false h1
  exact List.length_pos_iff.2 this
 have h2' : s.length ≤ 40 := by simp at h; omega
 have h3' : s ≠ [95] := of_decide_eq_false h2
 refine AW_for (α := Nat) (fun z => ⟨[(0, .str s),(18, .ptr b 0)], []⟩) (fun z => .obj b (.stringIter ⟨s.toArray⟩ z) :: R) (fun z => s.length - z) (fun z => z ≤ s.length ∧ ∀ (j : Nat) (hj : j < s.length),j < z → okAt j s[j] = true) (0) ?_ (weak_of ?_ rfl ?_) (fun z hz => ?_)
 ·exact ⟨by omega,fun j _ h => absurd h (by simp)⟩
 ·exact e_
 ·exact l_
 obtain ⟨hz,hok⟩ := hz
 obtain ⟨i,hiz⟩ : ∃ i,i = z := ⟨z,rfl⟩
 subst hiz
 repeat first|refine go_ ?_|intro _
 refine ⟨0,s,i,rfl,hz,le_maxLen.2 (by omega),fun hlt c wd hc1 hc2 hw hcm => ?_,fun hze => ?_⟩
 ·have hnx : okAt i s[i] = true → ∀ (j : Nat) (hj : j < s.length),j < i + 1 → okAt j s[j] = true := fun ho j hj hjz => by
   by_cases e : j = i
   ·subst e; exact ho
   ·exact hok j hj (by omega)
  have hb : okAt i s[i] = (letN c || (!decide (i = 0) && digN c)) ∧ (okAt i s[i] = true → wd = 1) := by
   have e0 : okAt i s[i] = (letN s[i].toNat || (!decide (i = 0) && digN s[i].toNat)) := rfl
   by_cases h7 : s[i].toNat < 128
   ·obtain ⟨rfl,rfl⟩ := hc1 h7
    exact ⟨e0,fun _ => rfl⟩
   ·have hc := hc2 (by omega)
    have e1 : letN c = false := by simp [letN]; omega
    have e2 : digN c = false := by simp [digN]; omega
    have e3 : letN s[i].toNat = false := by simp [letN]; omega
    have e4 : digN s[i].toNat = false := by simp [digN]; omega
    rw [e0,e1,e2,e3,e4]
    exact ⟨by simp,fun h => by simp at h⟩
  obtain ⟨hb,hw1⟩ := hb
  clear hc1 hc2 h
  repeat first|refine go_ ?_|intro _
  refine AW_true (b := true) rfl (by first | rfl | (simp; done) | (simp; omega) | decide) ?_
  refine AW_skip ?_
  refine AW_block ?_
  refine AW_cut2 (α := Unit) (fun z => ⟨[(0, .str s),(3, .int .i64 (i : Nat)),(4, .int .i32 (c : Nat)),(5, .bool (letN c)),(18, .ptr b 0)], []⟩) (fun z => .obj b (.stringIter ⟨s.toArray⟩ (i + wd)) :: R) (fun z => True) ?_ (fun z hz => ?_)
  ·all_goals (repeat first|refine ga_ ?_|intro _)
   all_goals (try (first | refine AW_cond rfl (fun h => ?_) (fun h => ?_) | refine ⟨fun h => ?_,fun h => ?_⟩))
   all_goals (try (repeat first|refine ga_ ?_|intro _))
   all_goals (try (first | refine AW_cond rfl (fun h => ?_) (fun h => ?_) | refine ⟨fun h => ?_,fun h => ?_⟩))
   all_goals (try (repeat first|refine ga_ ?_|intro _))
   all_goals (try (first | refine AW_cond rfl (fun h => ?_) (fun h => ?_) | refine ⟨fun h => ?_,fun h => ?_⟩))
   all_goals (try (repeat first|refine ga_ ?_|intro _))
   all_goals (try (first | refine AW_cond rfl (fun h => ?_) (fun h => ?_) | refine ⟨fun h => ?_,fun h => ?_⟩))
   all_goals (try (repeat first|refine ga_ ?_|intro _))
   all_goals (try (first | refine AW_cond rfl (fun h => ?_) (fun h => ?_) | refine ⟨fun h => ?_,fun h => ?_⟩))
   all_goals (try (repeat first|refine ga_ ?_|intro _))
   all_goals (try (first | refine AW_cond rfl (fun h => ?_) (fun h => ?_) | refine ⟨fun h => ?_,fun h => ?_⟩))
   all_goals (try (repeat first|refine ga_ ?_|intro _))
   all_goals (try (first | refine AW_cond rfl (fun h => ?_) (fun h => ?_) | refine ⟨fun h => ?_,fun h => ?_⟩))
   all_goals (try (repeat first|refine ga_ ?_|intro _))
   all_goals (refine ⟨(),trivial,weak_of ?_ rfl SLe.rfl⟩)
   all_goals (refine ⟨AVle.refl _,AVle.refl _,AVle.refl _,AVle.eq (congrArg AV.bool ?_),AVle.refl _,trivial⟩)
   all_goals (rw [Bool.eq_iff_iff]; simp [letN] at *; omega)
  ·generalize letN c = lb at *
   clear hz
   all_goals (repeat first|refine ga_ ?_|intro _)
   all_goals (try (first | refine AW_cond rfl (fun h => ?_) (fun h => ?_) | refine ⟨fun h => ?_,fun h => ?_⟩))
   all_goals (try (repeat first|refine ga_ ?_|intro _))
   all_goals (try (first | refine AW_cond rfl (fun h => ?_) (fun h => ?_) | refine ⟨fun h => ?_,fun h => ?_⟩))
   all_goals (try (repeat first|refine ga_ ?_|intro _))
   all_goals (try (first | refine AW_cond rfl (fun h => ?_) (fun h => ?_) | refine ⟨fun h => ?_,fun h => ?_⟩))
   all_goals (try (repeat first|refine ga_ ?_|intro _))
   all_goals (try (first | refine AW_cond rfl (fun h => ?_) (fun h => ?_) | refine ⟨fun h => ?_,fun h => ?_⟩))
   all_goals (try (repeat first|refine ga_ ?_|intro _))
   all_goals (try (first | refine AW_cond rfl (fun h => ?_) (fun h => ?_) | refine ⟨fun h => ?_,fun h => ?_⟩))
   all_goals (try (repeat first|refine ga_ ?_|intro _))
   all_goals (try (first | refine AW_cond rfl (fun h => ?_) (fun h => ?_) | refine ⟨fun h => ?_,fun h => ?_⟩))
   all_goals (try (repeat first|refine ga_ ?_|intro _))
   all_goals (try (first | refine AW_cond rfl (fun h => ?_) (fun h => ?_) | refine ⟨fun h => ?_,fun h => ?_⟩))
   all_goals (try (repeat first|refine ga_ ?_|intro _))
   all_goals (try (refine AW_ret ?_; refine ⟨_,R,AVle.eq ?_,sle_,rfl,rfl⟩; (rw [name_false_at hlt (by rw [hb]; simp [digN] at *; first | done | omega | (simp [*]; done) | (simp [*]; omega))]; rfl)))
   all_goals (obtain rfl := hw1 (by rw [hb]; simp [digN] at *; first | done | omega | (simp [*]; done) | (simp [*]; omega)))
   all_goals (refine ⟨i + 1,(by first | omega | (simp; omega)),⟨by omega,hnx (by rw [hb]; simp [digN] at *; first | done | omega | (simp [*]; done) | (simp [*]; omega))⟩,weak_of (by repeat (first | exact trivial | refine env_ ?_)) rfl (by repeat (first | exact SLe.rfl | refine SLe.tail ?_ | refine SLe.full ?_))⟩)
 ·repeat first|refine go_ ?_|intro _
  refine AW_false (b := false) rfl (by first | rfl | (simp; done) | (simp; omega) | decide) ?_
  repeat first|refine go_ ?_|intro _
  refine AW_ret ?_
  repeat refine mk_ ?_
  refine ⟨_,R,AVle.eq ?_,sle_,rfl,rfl⟩
  rw [name_true h1' h2' h3' (fun j hj => hok j hj (by omega))]; rfl
end Go.Proofs.YtfeknkaioofljaaGreatDoor
