/-
 strings.Builder: what its methods do. Own work.
-/
import Derived.Test.YtfeknkaioofljaaGreatDoorTab
set_option linter.all false
namespace Go.Proofs.YtfeknkaioofljaaGreatDoor
open Go.Aw
set_option maxHeartbeats 4000000
set_option maxRecDepth 4000
theorem put_tail {A B rest : List AV} {o n : Nat} (hA : A.length = o) (hB : B.length = n) : setCells (A ++ rest) o (B.take n) = A ++ (B ++ rest.drop n) := by
 subst hA; subst hB
 simp only [setCells,List.take_length]
 rw [List.take_left',List.drop_append,List.drop_eq_nil_of_le (by omega)]
 ·simp
 ·rfl
theorem put_all {A B rest : List AV} {o : Nat} (hA : A.length = o) : setCells (A ++ rest) o B = A ++ (B ++ rest.drop B.length) := by
 have := put_tail (rest := rest) (B := B) hA rfl
 rwa [List.take_length] at this
theorem SLe.swap2 {A : List En} {c d : En} {R : List En} : SLe (A ++ c :: d :: R) (c :: d :: (A ++ R)) := fun _ _ _ h => h.perm (perm3 A [c,d] R).symm
def bldP (u : Bool) (b : Nat) : AV := bif u then .ptr b 0 else .nilp
def Bld (b : Nat) (u : Bool) (s : List UInt8) (bb cap : Nat) (rest : List AV) (R : List En) : List En := match s with
 | [] => .cells b [bldP u b, .nils] :: .ty b 86 :: R
 | c :: t => .cells b [bldP u b, .msl bb 0 (c :: t).length cap] :: .ty b 86 :: .cells bb (u8s (c :: t) ++ rest) :: .ty bb 5 :: R
theorem SLe.drop2 {a b c d e f : En} {R : List En} : SLe (a :: b :: c :: d :: e :: f :: R) (a :: b :: c :: d :: R) :=
 SLe.sub ((((List.sublist_append_right [e,f] R).cons_cons d).cons_cons c).cons_cons b |>.cons_cons a)
theorem bld_pos {b : Nat} {u : Bool} {s : List UInt8} {bb cap n : Nat} {rest : List AV} {R : List En} (h : s ≠ []) (hn : s.length = n) : Bld b u s bb cap rest R = .cells b [bldP u b, .msl bb 0 n cap] :: .ty b 86 :: .cells bb (u8s s ++ rest) :: .ty bb 5 :: R := by
 subst hn
 cases s with
 | nil => exact absurd rfl h
 | cons => rfl
theorem noEscape_call {v : AV} {S : List En} {k : AV → List En → Prop} (hk : k v S) : AExt Tryz.prog 112 [v] S k :=
 ⟨Tryz.f112,Extern.AbiNoEscape.same,Tryz.func112,by kernel_rfl,rfl,by kernel_rfl,by kernel_rfl,fun w0 K w vs hv hS => by
  obtain ⟨x,r,rfl,hx,hr⟩ := hv.cons_inv
  obtain rfl := hr.nil_inv
  exact ⟨x,w,K,v,S,Lib.run_noEscape w x,Kle.refl K,hx,hS,hk⟩⟩
theorem copyCheck_ok (b : Nat) (u : Bool) (x : AV) (R : List En) :
  ACall Tryz.prog 68 [.ptr b 0] (.cells b [bldP u b,x] :: .ty b 86 :: R) (fun _ S => S = .cells b [.ptr b 0,x] :: .ty b 86 :: R) := by
 cases u with
 | false =>
  refine ACall_body tab_ok Tryz.func68 rfl rfl rfl (by kernel_rfl) (nb_ rfl) ?_
  repeat first|refine go_ ?_|intro _
  refine AW_true (b := true) rfl (by first | rfl | (simp; done) | (simp; omega) | decide) ?_
  repeat first|refine go_ ?_|intro _
  refine .inr (noEscape_call ?_)
  repeat first|refine go_ ?_|intro _
  refine ⟨0,_,86,rfl,by simp,by kernel_rfl,?_⟩
  repeat first|refine go_ ?_|intro _
  exact ⟨.tup [],_,AVle.refl _,SLe.rfl,rfl⟩
 | true =>
  refine ACall_body tab_ok Tryz.func68 rfl rfl rfl (by kernel_rfl) (nb_ rfl) ?_
  repeat first|refine go_ ?_|intro _
  refine AW_false (b := false) rfl (by first | rfl | (simp; done) | (simp; omega) | decide) ?_
  repeat first|refine go_ ?_|intro _
  refine AW_false (b := false) rfl (by first | rfl | (simp; done) | (simp; omega) | decide) ?_
  repeat first|refine go_ ?_|intro _
  exact ⟨.tup [],_,AVle.refl _,SLe.rfl,rfl⟩
theorem write_in {s l : List UInt8} {rest : List AV} : setCells (u8s s ++ rest) (0 + s.length * 1) (u8s l) = u8s (s ++ l) ++ rest.drop l.length := by
 rw [Nat.zero_add,Nat.mul_one,put_all (u8s_len s),u8s_len,u8s_app,List.append_assoc]
theorem write_old {s l : List UInt8} {rest : List AV} : ((u8s s ++ rest).drop 0).take (s.length * 1) ++ u8s l = u8s (s ++ l) := by
 rw [List.drop_zero,Nat.mul_one,List.take_left' (u8s_len s),u8s_app]
theorem writeByte_ok (b : Nat) (u : Bool) (s : List UInt8) (bb cap : Nat) (rest : List AV) (c : UInt8) (R : List En) (h1 : s.length ≤ cap) (h2 : rest.length = cap - s.length) (hs : s.length ≤ 16777216) :
  ACall Tryz.prog 159 [.ptr b 0, .int .u8 c.toNat] (Bld b u s bb cap rest R)
   (fun r S => r = .nilif ∧ ∃ bb' cap' rest',(s ++ [c]).length ≤ cap' ∧ rest'.length = cap' - (s ++ [c]).length ∧ S = Bld b true (s ++ [c]) bb' cap' rest' R) := by
 by_cases hs0 : s = []
 ·subst hs0
  refine ACall_body tab_ok Tryz.func159 rfl rfl rfl (by kernel_rfl) (nb_ rfl) ?_
  repeat first|refine go_ ?_|intro _
  refine Or.inl ⟨⟨_,Tryz.func68,rfl,rfl⟩,ACall.mono ?_ (copyCheck_ok b u .nils R)⟩
  rintro _ S1 hS1
  subst S1
  repeat first|refine go_ ?_|intro _
  refine ⟨1, [.int .u8 c.toNat],room (by omega) rfl, .inl ⟨_,rfl⟩,⟨.inl rfl,rfl,rfl⟩,fun h => absurd h (by decide),fun _ b1 cap1 rest1 hc1 hr1 => ?_⟩
  repeat first|refine go_ ?_|intro _
  exact AW_ret ⟨.nilif,_,AVle.refl _,SLe.swap2 (A := [_,_]),rfl,b1,cap1,rest1,hc1,hr1.trans (Nat.mul_one _),rfl⟩
 ·rw [bld_pos hs0 rfl]
  refine ACall_body tab_ok Tryz.func159 rfl rfl rfl (by kernel_rfl) (nb_ rfl) ?_
  repeat first|refine go_ ?_|intro _
  refine Or.inl ⟨⟨_,Tryz.func68,rfl,rfl⟩,ACall.mono ?_ (copyCheck_ok b u (.msl bb 0 s.length cap) _)⟩
  rintro _ S1 hS1
  subst S1
  repeat first|refine go_ ?_|intro _
  refine ⟨1,2,_,room (by omega) rfl,rfl,(by show 0 + s.length * 1 ≤ _; simp [u8s_len]), .inl ⟨.inl ⟨_,rfl⟩, [.int .u8 c.toNat],⟨.inl rfl,rfl,rfl⟩,fun hc => ⟨(by show 0 + (s.length + 1) * 1 ≤ _; simp [u8s_len,h2]; omega),_,write_in (l := [c]),?_⟩,fun hc => ⟨_,write_old (l := [c]),fun b1 cap1 rest1 hc1 hr1 => ?_⟩⟩⟩
  ·repeat first|refine go_ ?_|intro _
   exact AW_ret ⟨.nilif,_,AVle.refl _,SLe.of_eq (bld_pos (b := b) (u := true) (s := s ++ [c]) (bb := bb) (cap := cap) (rest := rest.drop 1) (R := R) (n := s.length + 1) (by simp) (by simp)).symm,rfl,bb,cap,rest.drop 1,by simpa using hc,by simp; omega,rfl⟩
  ·repeat first|refine go_ ?_|intro _
   exact AW_ret ⟨.nilif,_,AVle.refl _,SLe.trans (SLe.swap2 (A := [_,_])) (SLe.trans SLe.drop2 (SLe.of_eq (bld_pos (b := b) (u := true) (s := s ++ [c]) (bb := b1) (cap := cap1) (rest := rest1) (R := R) (n := s.length + 1) (by simp) (by simp)).symm)),rfl,b1,cap1,rest1,by simpa using hc1,hr1.trans ((Nat.mul_one _).trans (by simp)),rfl⟩
theorem writeString_ok (b : Nat) (u : Bool) (s : List UInt8) (bb cap : Nat) (rest : List AV) (l : List UInt8) (R : List En) (h1 : s.length ≤ cap) (h2 : rest.length = cap - s.length) (hs : s.length + l.length ≤ 16777217) :
  ACall Tryz.prog 28 [.ptr b 0, .str l] (Bld b u s bb cap rest R)
   (fun r S => r = .tup [.int .i64 (l.length : Nat), .nilif] ∧ ∃ bb' cap' rest',(s ++ l).length ≤ cap' ∧ rest'.length = cap' - (s ++ l).length ∧ S = Bld b true (s ++ l) bb' cap' rest' R) := by
 by_cases hs0 : s = []
 ·subst hs0
  refine ACall_body tab_ok Tryz.func28 rfl rfl rfl (by kernel_rfl) (nb_ rfl) ?_
  repeat first|refine go_ ?_|intro _
  refine Or.inl ⟨⟨_,Tryz.func68,rfl,rfl⟩,ACall.mono ?_ (copyCheck_ok b u .nils R)⟩
  rintro _ S1 hS1
  subst S1
  repeat first|refine go_ ?_|intro _
  refine ⟨l.length,u8s l,room (by omega) rfl, .inr rfl,⟨rfl,rfl,rfl⟩,fun h => ?_,fun h b1 cap1 rest1 hc1 hr1 => ?_⟩
  ·obtain rfl : l = [] := List.length_eq_zero_iff.1 h
   repeat first|refine go_ ?_|intro _
   exact AW_ret ⟨_,_,AVle.refl _,SLe.rfl,rfl,0,0, [],by simp,by simp,rfl⟩
  ·repeat first|refine go_ ?_|intro _
   have hl : l ≠ [] := by intro e; subst e; exact absurd h (by simp)
   refine AW_ret ⟨.tup [.int .i64 (l.length : Nat), .nilif],Bld b true l b1 cap1 rest1 R,AVle.refl _,SLe.trans (SLe.swap2 (A := [_,_])) (SLe.of_eq ?_),rfl,b1,cap1,rest1,hc1,hr1.trans (Nat.mul_one _),rfl⟩
   rw [bld_pos hl rfl]
   rfl
 ·rw [bld_pos hs0 rfl]
  refine ACall_body tab_ok Tryz.func28 rfl rfl rfl (by kernel_rfl) (nb_ rfl) ?_
  repeat first|refine go_ ?_|intro _
  refine Or.inl ⟨⟨_,Tryz.func68,rfl,rfl⟩,ACall.mono ?_ (copyCheck_ok b u (.msl bb 0 s.length cap) _)⟩
  rintro _ S1 hS1
  subst S1
  repeat first|refine go_ ?_|intro _
  refine ⟨l.length,2,_,room (by omega) rfl,rfl,(by show 0 + s.length * 1 ≤ _; simp [u8s_len]), .inl ⟨.inr rfl,u8s l,⟨rfl,rfl,rfl⟩,fun hc => ⟨(by show 0 + (s.length + l.length) * 1 ≤ _; simp [u8s_len,h2]; omega),_,write_in (l := l),?_⟩,fun hc => ⟨_,write_old (l := l),fun b1 cap1 rest1 hc1 hr1 => ?_⟩⟩⟩
  ·repeat first|refine go_ ?_|intro _
   exact AW_ret ⟨_,_,AVle.refl _,SLe.of_eq (bld_pos (b := b) (u := true) (s := s ++ l) (bb := bb) (cap := cap) (rest := rest.drop l.length) (R := R) (n := s.length + l.length) (by simp [hs0]) (by simp)).symm,rfl,bb,cap,rest.drop l.length,by simpa using hc,by simp; omega,rfl⟩
  ·repeat first|refine go_ ?_|intro _
   exact AW_ret ⟨_,_,AVle.refl _,SLe.trans (SLe.swap2 (A := [_,_])) (SLe.trans SLe.drop2 (SLe.of_eq (bld_pos (b := b) (u := true) (s := s ++ l) (bb := b1) (cap := cap1) (rest := rest1) (R := R) (n := s.length + l.length) (by simp [hs0]) (by simp)).symm)),rfl,b1,cap1,rest1,by simpa using hc1,hr1.trans ((Nat.mul_one _).trans (by simp)),rfl⟩
theorem bldString_ok (b : Nat) (u : Bool) (s : List UInt8) (bb cap : Nat) (rest : List AV) (R : List En) (hs : s.length ≤ 16777217) :
  ACall Tryz.prog 31 [.ptr b 0] (Bld b u s bb cap rest R) (fun r S => r = .str s ∧ S = R) := by
 by_cases hs0 : s = []
 ·subst hs0
  refine ACall_body tab_ok Tryz.func31 rfl rfl rfl (by kernel_rfl) (nb_ rfl) ?_
  repeat first|refine go_ ?_|intro _
  refine AW_draw tab_ok mixed 10 (by first | rfl | kernel_rfl) ?_
  repeat first|refine go_ ?_|intro _
  refine AW_ret ?_
  repeat refine mk_ ?_
  refine ⟨_,R,AVle.eq ?_,sle_,rfl,rfl⟩
  rfl
 ·rw [bld_pos hs0 rfl]
  have hpos : 0 < s.length := List.length_pos_iff.2 hs0
  refine ACall_body tab_ok Tryz.func31 rfl rfl rfl (by kernel_rfl) (nb_ rfl) ?_
  repeat first|refine go_ ?_|intro _
  refine AW_draw tab_ok mixed 10 (by first | rfl | kernel_rfl) ?_
  repeat first|refine go_ ?_|intro _
  refine ⟨hpos,?_⟩
  repeat first|refine go_ ?_|intro _
  refine ⟨s,2,_,hs0,rfl,rfl,by simp,List.take_left' (u8s_len s),?_⟩
  repeat first|refine go_ ?_|intro _
  exact AW_ret ⟨.str s,R,AVle.refl _,SLe.rfl.tail.tail.tail,rfl,rfl⟩
end Go.Proofs.YtfeknkaioofljaaGreatDoor
