/-
 errors.Is at sentinels of errors.New's make. Own work (the walks after the kit's worked SentryIs).
-/
import Derived.Test.YtfeknkaioofljaaGreatDoorQ2
import Derived.Test.YtfeknkaioofljaaGreatDoorChecked
import Derived.LaidEql
import Derived.Stop.Asserts
import Derived.RowKitTokens
import Derived.Lib.Bytealg
set_option linter.all false
set_option maxHeartbeats 4000000
set_option maxRecDepth 4000
namespace Go.Proofs.YtfeknkaioofljaaGreatDoor
open Go.RowKit Go.Extern.Stop Go.Stop Go.Extern
theorem isTypeOf (v : Value) (w : World) : (Extern.ReflectliteType.typeOf #[.iface 263 v]).run Tryz.prog w = .ok (.iface 162 (.agg #[.pointer (some ⟨9,263,none⟩)])) w := by kernel_rfl
noncomputable def cmpE : Array Value → Sem Value := (Extern.find Tryz.f241).getD fun _ => stuck ""
theorem isComparable (w : World) : (cmpE #[.agg #[.pointer (some ⟨9,263,none⟩)]]).run Tryz.prog w = .ok (.bool true) w := by kernel_rfl
theorem isMethodComparable (v : Value) (w : World) : (Go.method 395 162 v "Comparable").run Tryz.prog w = .ok (241, v) w := by kernel_rfl
theorem isComp : ((Tryz.prog).info? 263).map (·.comparable) = some true := by kernel_rfl
theorem isSize : ((Tryz.prog).info? 265).map (·.size) = some 1 := by kernel_rfl
set_option maxHeartbeats 1000000 in
theorem is_same (a : Addr) (w : World) :
  Calls Tryz.prog 81 #[.iface 263 (.pointer (some a)), .iface 263 (.pointer (some a))] w fun e w' => e = .returned (.bool true) ∧ w' = w := by
 obtain ⟨i,hi,hcmp⟩ := Option.map_eq_some_iff.1 isComp
 obtain ⟨j,hj,hjs⟩ := Option.map_eq_some_iff.1 isSize
 have h8 := @run_callFunc_extern Tryz.prog 89 _ Extern.ReflectliteType.typeOf Tryz.func89 (by kernel_rfl) (by kernel_rfl) (by kernel_rfl) (by kernel_rfl)
 have h32 := @run_callFunc_extern Tryz.prog 241 _ cmpE Tryz.func241 (by kernel_rfl) (by kernel_rfl) (by kernel_rfl) (by kernel_rfl)
 have tT := isTypeOf
 have cT := isComparable
 have mR := isMethodComparable
 have heq := run_eql_iface_ptr_same (P := Tryz.prog) w a Tryz.underlying55 Tryz.underlying263 hi hcmp hj
 go_enter Tryz.func81,Tryz.ntmps81
 go_wp2
 refine wp_loop_rounds 1 ?_
 rw [rounds_succ]
 go_wp2
 go_ret
 exact ⟨rfl,rfl⟩
set_option maxHeartbeats 1000000 in
theorem is_nil (b : Addr) (w : World) :
  Calls Tryz.prog 81 #[.nilIface, .iface 263 (.pointer (some b))] w fun e w' => e = .returned (.bool false) ∧ w' = w := by
 have hn := run_eql_iface_nil_left (P := Tryz.prog) w 263 (.pointer (some b)) Tryz.underlying55
 go_enter Tryz.func81,Tryz.ntmps81
 go_wp2
 go_ret
 exact ⟨rfl,rfl⟩
end Go.Proofs.YtfeknkaioofljaaGreatDoor
namespace Go.Proofs.YtfeknkaioofljaaGreatDoor
open Go.Aw Go.RowKit
theorem errIs_same (b o : Nat) (R : List En) : ACall Tryz.prog 81 [.ifc 263 (.ptr b o), .ifc 263 (.ptr b o)] R (fun r S => r = .bool true ∧ S = R) := by
 refine ACall_pure fun w0 K w vs hv hS => ?_
 obtain ⟨x,r,rfl,hx,hr⟩ := hv.cons_inv
 obtain ⟨y,r',rfl,hy,hr'⟩ := hr.cons_inv
 obtain rfl := hr'.nil_inv
 cases hx with
 | ifc _ hx => cases hx; cases hy with
  | ifc _ hy =>
   cases hy
   refine (is_same ⟨b,o,none⟩ w).mono ?_
   rintro e w' ⟨rfl,rfl⟩
   exact ⟨_,rfl, .bool _,Below.refl _ _⟩
theorem errIs_nil (b o : Nat) (R : List En) : ACall Tryz.prog 81 [.nilif, .ifc 263 (.ptr b o)] R (fun r S => r = .bool false ∧ S = R) := by
 refine ACall_pure fun w0 K w vs hv hS => ?_
 obtain ⟨x,r,rfl,hx,hr⟩ := hv.cons_inv
 obtain ⟨y,r',rfl,hy,hr'⟩ := hr.cons_inv
 obtain rfl := hr'.nil_inv
 cases hx; cases hy with
 | ifc _ hy =>
  cases hy
  refine (is_nil ⟨b,o,none⟩ w).mono ?_
  rintro e w' ⟨rfl,rfl⟩
  exact ⟨_,rfl, .bool _,Below.refl _ _⟩
theorem idx_find : ∀ (l : List UInt8) (c : UInt8),Lib.indexByte l c = match l.findIdx? (· == c) with | some n => ((n : Nat) : Int) | none => -1
 | [],_ => rfl
 | a :: l,c => by
  have ih := idx_find l c
  rw [Lib.indexByte,List.findIdx?_cons]
  by_cases h : a == c
  ·rw [if_pos h,if_pos h]; rfl
  ·rw [if_neg h,if_neg h,ih]
   cases l.findIdx? (· == c) with
   | none => rfl
   | some n => first | (simp; done) | (simp; omega)
def hexV (c : UInt8) : Int := match hexI c with | some n => (n : Nat) | none => -1
theorem hexV_some {c : UInt8} {i : Nat} (h : hexI c = some i) : hexV c = (i : Nat) := by rw [hexV,h]
theorem hexV_none {c : UInt8} (h : hexI c = none) : hexV c = -1 := by rw [hexV,h]
theorem idx_hex' (c : UInt8) : Lib.indexByte hexs c = hexV c := by
 rw [idx_find,hexV]
 show _ = match hexs.findIdx? (· == c) with | some n => ((n : Nat) : Int) | none => -1
 cases hexs.findIdx? (· == c) <;> rfl
theorem idx_le (l : List UInt8) (c : UInt8) : Lib.indexByte l c ≤ l.length := by
 induction l with
 | nil => simp [Lib.indexByte]
 | cons a l ih =>
  simp only [Lib.indexByte,List.length_cons]
  split
  ·omega
  ·split <;> omega
theorem indexByteString_call {l : List UInt8} {c : UInt8} {S : List En} {k : AV → List En → Prop} (hk : k (.int .i64 (Lib.indexByte l c)) S) (hl : l.length ≤ 1000) : AExt Tryz.prog 191 [.str l, .int .u8 c.toNat] S k :=
 ⟨Tryz.f191,Extern.BytealgIndexByte.indexByte,Tryz.func191,by kernel_rfl,rfl,by kernel_rfl,by kernel_rfl,fun w0 K w vs hv hS => by
  obtain ⟨x,r,rfl,hx,hr⟩ := hv.cons_inv
  obtain ⟨y,r',rfl,hy,hr'⟩ := hr.cons_inv
  obtain rfl := hr'.nil_inv
  cases hx; cases hy
  have h := Lib.run_indexByteString (P := Tryz.prog) ⟨l.toArray⟩ (c.toNat : Int) w
  have e : ((c.toNat : Int)).toNat.toUInt8 = c := by simp
  rw [e] at h
  have hle := idx_le l c
  have hge := Lib.indexByte_ge l c
  exact ⟨_,w,K, .int .i64 (Lib.indexByte l c),S,h,Kle.refl K, .int _ _ (has_i64 (by show -9223372036854775808 ≤ Lib.indexByte l c ∧ Lib.indexByte l c ≤ 9223372036854775807; omega)),hS,hk⟩⟩
theorem indexByte_ok (c : UInt8) (R : List En) : ACall Tryz.prog 161 [.str hexs, .int .u8 c.toNat] R (fun r S => r = .int .i64 (hexV c) ∧ S = R) := by
 have k : ACall Tryz.prog 177 [.str hexs, .int .u8 c.toNat] R (fun r S => r = .int .i64 (Lib.indexByte hexs c) ∧ S = R) := by
  refine ACall_body tab_ok Tryz.func177 rfl rfl rfl (by kernel_rfl) (nb_ rfl) ?_
  repeat first|refine go_ ?_|intro _
  refine .inr (indexByteString_call ?_ (by decide))
  repeat first|refine go_ ?_|intro _
  refine AW_ret ?_
  repeat refine mk_ ?_
  refine ⟨_,R,AVle.eq ?_,sle_,rfl,rfl⟩
  rfl
 rw [idx_hex'] at k
 refine ACall_body tab_ok Tryz.func161 rfl rfl rfl (by kernel_rfl) (nb_ rfl) ?_
 repeat first|refine go_ ?_|intro _
 refine Or.inl ⟨⟨_,Tryz.func177,rfl,rfl⟩,ACall.mono ?_ (k)⟩
 rintro _ S1 ⟨rfl,hS1⟩
 subst S1
 repeat first|refine go_ ?_|intro _
 refine AW_ret ?_
 repeat refine mk_ ?_
 refine ⟨_,R,AVle.eq ?_,sle_,rfl,rfl⟩
 rfl
def escAV (E : AV) (l : List UInt8) : AV := match dec1 (92 :: l) with
 | some (c,r) => .tup [.int .u8 c.toNat, .int .i64 ((l.length - r.length : Nat) : Int), .nilif]
 | none => .tup [.int .u8 0, .int .i64 0,E]
theorem esc_one {E : AV} {d : UInt8} {r : List UInt8} (h : d.toNat = 92 ∨ d.toNat = 34) : escAV E (d :: r) = .tup [.int .u8 d.toNat, .int .i64 (1 : Nat), .nilif] := by
 have : dec1 (92 :: d :: r) = some (d,r) := by
  unfold dec1
  simp only []
  rw [if_pos (by decide)]
  try simp only []
  rw [if_pos h]
 rw [escAV,this]; simp
theorem esc_n {E : AV} {r : List UInt8} : escAV E (110 :: r) = .tup [.int .u8 (10 : Nat), .int .i64 (1 : Nat), .nilif] := by
 have : dec1 (92 :: 110 :: r) = some (10,r) := by
  unfold dec1
  simp only []
  rw [if_pos (by decide)]
  try simp only []
  rw [if_neg (by decide),if_pos (by decide)]
 rw [escAV,this]; simp
theorem esc_bad {E : AV} {d : UInt8} {r : List UInt8} (h : d.toNat ≠ 92 ∧ d.toNat ≠ 34 ∧ d.toNat ≠ 110 ∧ d.toNat ≠ 120) : escAV E (d :: r) = .tup [.int .u8 (0 : Nat), .int .i64 (0 : Nat),E] := by
 have : dec1 (92 :: d :: r) = none := by
  unfold dec1
  simp only []
  rw [if_pos (by decide)]
  try simp only []
  rw [if_neg (by omega),if_neg (by omega),if_neg (by omega)]
 rw [escAV,this]; rfl
theorem esc_x {E : AV} {r : List UInt8} : escAV E (120 :: r) = match r with
  | x :: y :: _ => match hexI x,hexI y with
   | some i,some j => if plainB (UInt8.ofNat (16 * i + j)) = true ∨ 16 * i + j = 10 ∨ 16 * i + j = 34 ∨ 16 * i + j = 92 then .tup [.int .u8 (0 : Nat), .int .i64 (0 : Nat),E] else .tup [.int .u8 (UInt8.ofNat (16 * i + j)).toNat, .int .i64 (3 : Nat), .nilif]
   | _,_ => .tup [.int .u8 (0 : Nat), .int .i64 (0 : Nat),E]
  | _ => .tup [.int .u8 (0 : Nat), .int .i64 (0 : Nat),E] := by
 unfold escAV dec1
 simp only []
 rw [if_pos (by decide)]
 try simp only []
 rw [if_neg (by decide),if_neg (by decide),if_pos (by decide)]
 match r with
 | [] => rfl
 | [_] => rfl
 | x :: y :: r =>
  simp only []
  cases hexI x with
  | none => rfl
  | some i =>
   cases hexI y with
   | none => rfl
   | some j =>
    simp only []
    by_cases h : plainB (UInt8.ofNat (16 * i + j)) = true ∨ 16 * i + j = 10 ∨ 16 * i + j = 34 ∨ 16 * i + j = 92
    ·simp only [if_pos h]; rfl
    ·simp only [if_neg h]
     have e : (120 :: x :: y :: r).length - r.length = 3 := by simp only [List.length_cons]; omega
     rw [e]
theorem hex_val : ∀ i,i < 16 → ∀ j,j < 16 → IntKind.u8.wrap (IntKind.i64.wrap ((BitVec.ofInt IntKind.i64.bits (IntKind.i64.wrap ((i : Nat) * 2 ^ (min (Int.toNat 4) IntKind.i64.bits))) ||| BitVec.ofInt IntKind.i64.bits (j : Nat)).toNat : Int)) = ((UInt8.ofNat (16 * i + j)).toNat : Int) := by decide +kernel
theorem escaped_ok (E : AV) (l : List UInt8) (R : List En) (hE : En.glob 2 [E] ∈ R) : ACall Tryz.prog 174 [.str l] R (fun r S => r = escAV E l ∧ S = R) := by
 by_cases hl : l = []
 ·subst hl
  refine ACall_body tab_ok Tryz.func174 rfl rfl rfl (by kernel_rfl) (nb_ rfl) ?_
  repeat first|refine ga_ ?_|intro _
  refine AW_draw tab_ok mixed 4 (by first | rfl | kernel_rfl) ?_
  repeat first|refine ga_ ?_|intro _
  refine ⟨[E],hE,⟨Nat.le_refl 1,Nat.le_refl 1⟩,_,rfl,?_⟩
  repeat first|refine ga_ ?_|intro _
  refine AW_ret ?_
  repeat refine mk_ ?_
  refine ⟨_,R,AVle.eq ?_,sle_,rfl,rfl⟩
  rfl
 ·obtain ⟨d,r,rfl⟩ : ∃ d r,l = d :: r := by cases l with | nil => exact absurd rfl hl | cons d r => exact ⟨d,r,rfl⟩
  refine ACall_body tab_ok Tryz.func174 rfl rfl rfl (by kernel_rfl) (nb_ rfl) ?_
  repeat first|refine go_ ?_|intro _
  refine AW_false (b := decide (d :: r = [])) rfl (by exact decide_eq_false (by simp)) ?_
  repeat first|refine go_ ?_|intro _
  refine at_list 0 rfl (by simp) ?_
  show (fun x : UInt8 => _) d
  repeat first|refine go_ ?_|intro _
  refine AW_iff (d.toNat = 92) rfl ib_ (fun h => ?_) (fun h => ?_)
  ·repeat first|refine go_ ?_|intro _
   refine AW_ret ?_
   repeat refine mk_ ?_
   refine ⟨_,R,AVle.eq ?_,sle_,rfl,rfl⟩
   exact Eq.trans rfl (esc_one (.inl h)).symm
  have n1 := h
  repeat first|refine go_ ?_|intro _
  refine AW_iff (d.toNat = 34) rfl ib_ (fun h => ?_) (fun h => ?_)
  ·repeat first|refine go_ ?_|intro _
   refine AW_ret ?_
   repeat refine mk_ ?_
   refine ⟨_,R,AVle.eq ?_,sle_,rfl,rfl⟩
   exact Eq.trans rfl (esc_one (.inr h)).symm
  have n2 := h
  repeat first|refine go_ ?_|intro _
  refine AW_iff (d.toNat = 110) rfl ib_ (fun h => ?_) (fun h => ?_)
  ·obtain rfl : d = 110 := UInt8.toNat_inj.1 h
   repeat first|refine go_ ?_|intro _
   refine AW_ret ?_
   repeat refine mk_ ?_
   refine ⟨_,R,AVle.eq ?_,sle_,rfl,rfl⟩
   exact Eq.trans rfl esc_n.symm
  have n3 := h
  repeat first|refine go_ ?_|intro _
  refine AW_iff (d.toNat = 120) rfl ib_ (fun h => ?_) (fun h => ?_)
  rotate_left
  ·repeat first|refine go_ ?_|intro _
   refine AW_draw tab_ok mixed 4 (by first | rfl | kernel_rfl) ?_
   repeat first|refine go_ ?_|intro _
   refine ⟨[E],hE,⟨Nat.le_refl 1,Nat.le_refl 1⟩,_,rfl,?_⟩
   repeat first|refine go_ ?_|intro _
   refine AW_ret ?_
   repeat refine mk_ ?_
   refine ⟨_,R,AVle.eq ?_,sle_,rfl,rfl⟩
   exact Eq.trans rfl (esc_bad ⟨n1,n2,n3,h⟩).symm
  obtain rfl : d = 120 := UInt8.toNat_inj.1 h
  repeat first|refine go_ ?_|intro _
  refine AW_iff ((120 :: r).length < 3) rfl ib_ (fun h => ?_) (fun h => ?_)
  ·have e : escAV E (120 :: r) = .tup [.int .u8 (0 : Nat), .int .i64 (0 : Nat),E] := by
    rw [esc_x]
    match r,h with
    | [],_ => rfl
    | [_],_ => rfl
    | _ :: _ :: _,h => simp at h; omega
   repeat first|refine go_ ?_|intro _
   refine AW_draw tab_ok mixed 4 (by first | rfl | kernel_rfl) ?_
   repeat first|refine go_ ?_|intro _
   refine ⟨[E],hE,⟨Nat.le_refl 1,Nat.le_refl 1⟩,_,rfl,?_⟩
   repeat first|refine go_ ?_|intro _
   refine AW_ret ?_
   repeat refine mk_ ?_
   refine ⟨_,R,AVle.eq ?_,sle_,rfl,rfl⟩
   exact Eq.trans rfl e.symm
  obtain ⟨x,y,r,rfl⟩ : ∃ x y r',r = x :: y :: r' := by
   match r,h with
   | [],h => simp at h
   | [_],h => simp at h
   | x :: y :: r,_ => exact ⟨x,y,r,rfl⟩
  have hex := esc_x (E := E) (r := x :: y :: r)
  simp only [] at hex
  have kx := fun R => indexByte_ok x R
  have ky := fun R => indexByte_ok y R
  cases hx : hexI x with
  | none =>
   rw [hx] at hex
   rw [hexV_none hx] at kx
   repeat first|refine go_ ?_|intro _
   refine AW_draw tab_ok mixed 8 (by first | rfl | kernel_rfl) ?_
   repeat first|refine go_ ?_|intro _
   refine at_list 1 rfl (by simp) ?_
   repeat first|refine go_ ?_|intro _
   apply call_step
   ·rfl
   ·exact Or.inl ⟨⟨_,Tryz.func161,rfl,rfl⟩,kx R⟩
   repeat first|refine go_ ?_|intro _
   refine at_list 2 rfl (by simp) ?_
   repeat first|refine go_ ?_|intro _
   apply call_step
   ·rfl
   ·exact Or.inl ⟨⟨_,Tryz.func161,rfl,rfl⟩,ky R⟩
   repeat first|refine gr_ ?_|intro _
   refine AW_weak (weak_of (l := [(0, .str (120 :: x :: y :: r)),(6, .int .i64 (-1)),(7, .int .i64 (hexV y))]) (m := []) (S' := R) e_ rfl w_) ?_
   repeat first|refine go_ ?_|intro _
   refine ⟨(by decide),?_⟩
   repeat first|refine ga_ ?_|intro _
   refine AW_draw tab_ok mixed 4 (by first | rfl | kernel_rfl) ?_
   repeat first|refine ga_ ?_|intro _
   refine ⟨[E],hE,⟨Nat.le_refl 1,Nat.le_refl 1⟩,_,rfl,?_⟩
   repeat first|refine ga_ ?_|intro _
   refine AW_ret ?_
   repeat refine mk_ ?_
   refine ⟨_,R,AVle.eq ?_,sle_,rfl,rfl⟩
   exact Eq.trans rfl hex.symm
  | some i =>
   have hi := (hexI_some hx).1
   rw [hx] at hex
   rw [hexV_some hx] at kx
   cases hy : hexI y with
   | none =>
    rw [hy] at hex
    rw [hexV_none hy] at ky
    repeat first|refine go_ ?_|intro _
    refine AW_draw tab_ok mixed 8 (by first | rfl | kernel_rfl) ?_
    repeat first|refine go_ ?_|intro _
    refine at_list 1 rfl (by simp) ?_
    repeat first|refine go_ ?_|intro _
    apply call_step
    ·rfl
    ·exact Or.inl ⟨⟨_,Tryz.func161,rfl,rfl⟩,kx R⟩
    repeat first|refine go_ ?_|intro _
    refine at_list 2 rfl (by simp) ?_
    repeat first|refine go_ ?_|intro _
    apply call_step
    ·rfl
    ·exact Or.inl ⟨⟨_,Tryz.func161,rfl,rfl⟩,ky R⟩
    repeat first|refine gr_ ?_|intro _
    refine AW_weak (weak_of (l := [(0, .str (120 :: x :: y :: r)),(6, .int .i64 (i : Nat)),(7, .int .i64 (-1))]) (m := []) (S' := R) e_ rfl w_) ?_
    repeat first|refine go_ ?_|intro _
    refine ⟨(by decide),?_⟩
    repeat first|refine ga_ ?_|intro _
    refine AW_draw tab_ok mixed 4 (by first | rfl | kernel_rfl) ?_
    repeat first|refine ga_ ?_|intro _
    refine ⟨[E],hE,⟨Nat.le_refl 1,Nat.le_refl 1⟩,_,rfl,?_⟩
    repeat first|refine ga_ ?_|intro _
    refine AW_ret ?_
    repeat refine mk_ ?_
    refine ⟨_,R,AVle.eq ?_,sle_,rfl,rfl⟩
    exact Eq.trans rfl hex.symm
   | some j =>
    have hj := (hexI_some hy).1
    have hv := hex_val i hi j hj
    have ht : (UInt8.ofNat (16 * i + j)).toNat = 16 * i + j := by rw [UInt8.toNat_ofNat']; omega
    rw [hy] at hex
    rw [hexV_some hy] at ky
    repeat first|refine go_ ?_|intro _
    refine AW_draw tab_ok mixed 8 (by first | rfl | kernel_rfl) ?_
    repeat first|refine go_ ?_|intro _
    refine at_list 1 rfl (by simp) ?_
    repeat first|refine go_ ?_|intro _
    apply call_step
    ·rfl
    ·exact Or.inl ⟨⟨_,Tryz.func161,rfl,rfl⟩,kx R⟩
    repeat first|refine go_ ?_|intro _
    refine at_list 2 rfl (by simp) ?_
    repeat first|refine go_ ?_|intro _
    apply call_step
    ·rfl
    ·exact Or.inl ⟨⟨_,Tryz.func161,rfl,rfl⟩,ky R⟩
    repeat first|refine gr_ ?_|intro _
    refine AW_weak (weak_of (l := [(0, .str (120 :: x :: y :: r)),(6, .int .i64 (i : Nat)),(7, .int .i64 (j : Nat))]) (m := []) (S' := R) e_ rfl w_) ?_
    repeat first|refine go_ ?_|intro _
    refine ⟨(by decide),?_⟩
    repeat first|refine gr_ ?_|intro _
    refine AW_weak (weak_of (l := [(0, .str (120 :: x :: y :: r)),(6, .int .i64 (i : Nat)),(7, .int .i64 (j : Nat)),(8, .int .u8 ((UInt8.ofNat (16 * i + j)).toNat : Int))]) (m := []) (S' := R) ?_ rfl ?_) ?_
    ·repeat (first | exact trivial | refine ⟨(AVle.eq (congrArg (AV.int .u8) hv)),?_⟩ | refine env_ ?_)
    ·exact w_
    repeat first|refine ga_ ?_|intro _
    repeat first|refine go_ ?_|intro _
    refine Or.inl ⟨⟨_,Tryz.func170,rfl,rfl⟩,ACall.mono ?_ (isPlain_ok (UInt8.ofNat (16 * i + j)) _)⟩
    rintro _ S1 ⟨rfl,hS1⟩
    subst S1
    all_goals (repeat first|refine ga_ ?_|intro _)
    all_goals (try (first | refine AW_cond rfl (fun h => ?_) (fun h => ?_) | refine ⟨fun h => ?_,fun h => ?_⟩))
    all_goals (try (repeat first|refine ga_ ?_|intro _))
    all_goals (try (first | refine AW_cond rfl (fun h => ?_) (fun h => ?_) | refine ⟨fun h => ?_,fun h => ?_⟩))
    all_goals (try (repeat first|refine ga_ ?_|intro _))
    all_goals (try (first | refine AW_cond rfl (fun h => ?_) (fun h => ?_) | refine ⟨fun h => ?_,fun h => ?_⟩))
    all_goals (try (repeat first|refine ga_ ?_|intro _))
    all_goals (try (first | refine AW_cond rfl (fun h => ?_) (fun h => ?_) | refine ⟨fun h => ?_,fun h => ?_⟩))
    all_goals (try (repeat first|refine ga_ ?_|intro _))
    all_goals (try (first | refine AW_cond rfl (fun h => ?_) (fun h => ?_) | refine ⟨fun h => ?_,fun h => ?_⟩))
    all_goals (try (repeat first|refine ga_ ?_|intro _))
    ·simp only [] at hex
     rw [if_pos (.inl h)] at hex
     refine AW_draw tab_ok mixed 4 (by first | rfl | kernel_rfl) ?_
     repeat first|refine ga_ ?_|intro _
     refine ⟨[E],hE,⟨Nat.le_refl 1,Nat.le_refl 1⟩,_,rfl,?_⟩
     repeat first|refine ga_ ?_|intro _
     refine AW_ret ?_
     repeat refine mk_ ?_
     refine ⟨_,R,AVle.eq ?_,sle_,rfl,rfl⟩
     exact Eq.trans rfl hex.symm
    ·simp only [] at hex
     rw [if_pos (.inr (.inl (by have h' : (((UInt8.ofNat (16 * i + j)).toNat : Nat) : Int) = 10 := of_decide_eq_true h; omega)))] at hex
     refine AW_draw tab_ok mixed 4 (by first | rfl | kernel_rfl) ?_
     repeat first|refine ga_ ?_|intro _
     refine ⟨[E],hE,⟨Nat.le_refl 1,Nat.le_refl 1⟩,_,rfl,?_⟩
     repeat first|refine ga_ ?_|intro _
     refine AW_ret ?_
     repeat refine mk_ ?_
     refine ⟨_,R,AVle.eq ?_,sle_,rfl,rfl⟩
     exact Eq.trans rfl hex.symm
    ·simp only [] at hex
     rw [if_pos (.inr (.inr (.inl (by have h' : (((UInt8.ofNat (16 * i + j)).toNat : Nat) : Int) = 34 := of_decide_eq_true h; omega))))] at hex
     refine AW_draw tab_ok mixed 4 (by first | rfl | kernel_rfl) ?_
     repeat first|refine ga_ ?_|intro _
     refine ⟨[E],hE,⟨Nat.le_refl 1,Nat.le_refl 1⟩,_,rfl,?_⟩
     repeat first|refine ga_ ?_|intro _
     refine AW_ret ?_
     repeat refine mk_ ?_
     refine ⟨_,R,AVle.eq ?_,sle_,rfl,rfl⟩
     exact Eq.trans rfl hex.symm
    ·simp only [] at hex
     rw [if_pos (.inr (.inr (.inr (by have h' : (((UInt8.ofNat (16 * i + j)).toNat : Nat) : Int) = 92 := of_decide_eq_true h; omega))))] at hex
     refine AW_draw tab_ok mixed 4 (by first | rfl | kernel_rfl) ?_
     repeat first|refine ga_ ?_|intro _
     refine ⟨[E],hE,⟨Nat.le_refl 1,Nat.le_refl 1⟩,_,rfl,?_⟩
     repeat first|refine ga_ ?_|intro _
     refine AW_ret ?_
     repeat refine mk_ ?_
     refine ⟨_,R,AVle.eq ?_,sle_,rfl,rfl⟩
     exact Eq.trans rfl hex.symm
    ·rename_i a b c
     simp only [] at hex
     rw [if_neg] at hex
     ·refine AW_ret ?_
      repeat refine mk_ ?_
      refine ⟨_,R,AVle.eq ?_,sle_,rfl,rfl⟩
      exact Eq.trans rfl hex.symm
     ·have b' : ¬ (((UInt8.ofNat (16 * i + j)).toNat : Nat) : Int) = 10 := of_decide_eq_false b
      have c' : ¬ (((UInt8.ofNat (16 * i + j)).toNat : Nat) : Int) = 34 := of_decide_eq_false c
      have d' : ¬ (((UInt8.ofNat (16 * i + j)).toNat : Nat) : Int) = 92 := of_decide_eq_false h
      rintro (e | e | e | e)
      ·exact absurd (e.symm.trans a) (by decide)
      ·omega
      ·omega
      ·omega
theorem SLe.dup {S : List En} {e : En} (he : e ∈ S) (hb : e.blk = none) : SLe S (e :: S) := fun w0 K w h => by
 refine ⟨h.below,h.kcell,fun x hx => ?_,by have := h.apart; rw [List.filterMap_cons,hb]; exact this⟩
 rcases List.mem_cons.1 hx with rfl | hx
 ·exact h.ents _ he
 ·exact h.ents _ hx
theorem dec1_len {l r : List UInt8} {c : UInt8} (h : dec1 l = some (c,r)) : r.length < l.length := by
 have := (oneL_len c).1
 rw [dec1_some h,List.length_append]; omega
theorem dec1_drop {l r : List UInt8} {d : UInt8} (h : dec1 (92 :: l) = some (d,r)) : (92 :: l).drop (l.length - r.length + 1) = r := by
 have e := dec1_some h
 have hl := congrArg List.length e
 have h1 := (oneL_len d).1
 rw [List.length_append] at hl
 have : l.length - r.length + 1 = (oneL d).length := by simp at hl; omega
 rw [this,e,List.drop_left]
def bytL : List UInt8 → List (UInt8 × Bool)
 | [] => []
 | c :: r => match h : dec1 (c :: r) with
  | some (d,r') => (d,true) :: bytL r'
  | none => [(if c.toNat = 92 then 0 else c,false)]
termination_by l => l.length
decreasing_by exact dec1_len h
theorem bytL_some {l r : List UInt8} {d : UInt8} (h : dec1 l = some (d,r)) : bytL l = (d,true) :: bytL r := by
 cases l with
 | nil => simp [dec1] at h
 | cons c l =>
  rw [bytL]
  split
  ·rename_i d' r' h'
   rw [h] at h'; cases h'; rfl
  ·rename_i h'; rw [h] at h'; cases h'
theorem bytL_none {c : UInt8} {l : List UInt8} (h : dec1 (c :: l) = none) : bytL (c :: l) = [(if c.toNat = 92 then 0 else c,false)] := by
 rw [bytL]
 split
 ·rename_i d' r' h'
  rw [h] at h'; cases h'
 ·rfl
def encY (E : AV) (x : UInt8 × Bool) : List AV := [.int .u8 x.1.toNat,bif x.2 then .nilif else E]
theorem at_ss {lo hi : Int} {s : List UInt8} {F : List UInt8 → Prop} (l h : Nat) (r : List UInt8) (hl : lo = (l : Int)) (hh : hi = (h : Int)) (h1 : l ≤ h) (h2 : h ≤ s.length) (hr : (s.take h).drop l = r) (hk : F r) :
  0 ≤ lo ∧ lo ≤ hi ∧ hi ≤ (s.length : Int) ∧ ∃ r,(s.take hi.toNat).drop lo.toNat = r ∧ F r := by
 subst hl; subst hh
 exact ⟨by omega,by omega,by omega,r,by simpa using hr,hk⟩
theorem escAV_some {E : AV} {r r' : List UInt8} {d : UInt8} (h : dec1 (92 :: r) = some (d,r')) : escAV E r = .tup [.int .u8 d.toNat, .int .i64 ((r.length - r'.length : Nat) : Int), .nilif] := by rw [escAV,h]
theorem escAV_none {E : AV} {r : List UInt8} (h : dec1 (92 :: r) = none) : escAV E r = .tup [.int .u8 0, .int .i64 0,E] := by rw [escAV,h]
theorem bytes_gen (E : AV) (b o : Nat) (hEq : E = .ifc 263 (.ptr b o)) (s : List UInt8) (p : Nat) (hs : s.length ≤ 16777216) : AGen Tryz.prog (.fn (.func 173) [] [.ptr p 0]) [.cells p [.str s], .glob 2 [E]] ((bytL s).map (encY E)) := by
 subst hEq
 intro l J Z Sc hY h0
 refine ⟨⟨_,Tryz.func173,rfl,rfl⟩,?_⟩
 show ACall Tryz.prog 173 [.fn (.yield l) [] [], .ptr p 0] (.cells p [.str s] :: .glob 2 [.ifc 263 (.ptr b o)] :: Sc) _
 refine ACall_body tab_ok Tryz.func173 rfl rfl rfl (by kernel_rfl) (nb_ rfl) ?_
 repeat first|refine go_ ?_|intro _
 refine AW_for (α := Nat × List UInt8 × List En) (fun z => ⟨[(0, .fn (.yield l) [] []),(1, .ptr p 0)], []⟩) (fun z => .cells p [.str z.2.1] :: .glob 2 [.ifc 263 (.ptr b o)] :: z.2.2) (fun z => z.2.1.length) (fun z => (bytL s).drop z.1 = bytL z.2.1 ∧ z.1 ≤ (bytL s).length ∧ J z.1 z.2.2 ∧ z.2.1.length ≤ 16777216) ((0,s,Sc)) ?_ (weak_of ?_ rfl ?_) (fun z hz => ?_)
 ·exact ⟨rfl,by simp,h0,hs⟩
 ·exact e_
 ·exact l_
 obtain ⟨i,t,Sc'⟩ := z
 obtain ⟨h1,h2,h3,h4⟩ : (bytL s).drop i = bytL t ∧ i ≤ (bytL s).length ∧ J i Sc' ∧ t.length ≤ 16777216 := hz
 repeat first|refine go_ ?_|intro _
 refine AW_iff (0 < t.length) rfl ib_ (fun h => ?_) (fun h => ?_)
 rotate_left
 ·have : t = [] := by cases t with
   | nil => rfl
   | cons c r => simp at h
  subst this
  rw [bytL] at h1
  have hi : i = (bytL s).length := by
   have := congrArg List.length h1
   simp at this; omega
  repeat first|refine go_ ?_|intro _
  refine ⟨.tup [],Sc',AVle.refl _,SLe.tail (SLe.tail SLe.rfl),Sc',SLe.rfl, .inl ?_⟩
  subst hi
  rw [List.length_map]
  exact h3
 obtain ⟨c,r,rfl⟩ : ∃ c r,t = c :: r := by cases t with | nil => simp at h | cons c r => exact ⟨c,r,rfl⟩
 repeat first|refine go_ ?_|intro _
 refine at_list 0 rfl (by simp) ?_
 show (fun x : UInt8 => _) c
 repeat first|refine go_ ?_|intro _
 refine AW_iff (c.toNat = 92) rfl ib_ (fun h => ?_) (fun h => ?_)
 ·have hc := h
  obtain rfl : c = 92 := UInt8.toNat_inj.1 hc
  have ke := escaped_ok (.ifc 263 (.ptr b o)) r (.cells p [.str (92 :: r)] :: .glob 2 [.ifc 263 (.ptr b o)] :: Sc') (by simp)
  cases hd : dec1 (92 :: r) with
  | none =>
   rw [escAV_none hd] at ke
   rw [bytL_none hd] at h1
   obtain ⟨g1,g2,g3⟩ := drop_head h1
   repeat first|refine go_ ?_|intro _
   refine at_ss 1 (r.length + 1) r rfl rfl (by omega) (by simp) (by simp) ?_
   repeat first|refine go_ ?_|intro _
   refine Or.inl ⟨⟨_,Tryz.func174,rfl,rfl⟩,ACall.mono ?_ (ke)⟩
   rintro _ S1 ⟨rfl,hS1⟩
   subst S1
   repeat first|refine go_ ?_|intro _
   refine AYield.mono ?_ (hY [.cells p [.str _], .glob 2 [.ifc 263 (.ptr b o)]] i (encY (.ifc 263 (.ptr b o)) (0,false)) Sc' (by rw [List.getElem?_map,g1]; rfl) h3)
   rintro _ S1 ⟨w,Sc1,rfl,rfl,hj,hz⟩
   cases w with
   | false =>
    repeat first|refine ga_ ?_|intro _
    refine AW_ret ?_
    repeat refine mk_ ?_
    refine ⟨_,_,AVle.refl _,SLe.rfl,?_⟩
    exact ⟨Sc1,SLe.tail (SLe.tail SLe.rfl), .inr (hz rfl)⟩
   | true =>
    repeat first|refine ga_ ?_|intro _
    refine AW_ret ?_
    repeat refine mk_ ?_
    refine ⟨_,_,AVle.refl _,SLe.rfl,?_⟩
    refine ⟨Sc1,SLe.tail (SLe.tail SLe.rfl), .inl ?_⟩
    have he : (bytL s).length = i + 1 := by
     have := congrArg List.length g2
     simp at this; omega
    rw [List.length_map,he]
    exact hj rfl
  | some q =>
   obtain ⟨d,r'⟩ := q
   have hl := dec1_len hd
   rw [escAV_some hd] at ke
   rw [bytL_some hd] at h1
   obtain ⟨g1,g2,g3⟩ := drop_head h1
   repeat first|refine go_ ?_|intro _
   refine at_ss 1 (r.length + 1) r rfl rfl (by omega) (by simp) (by simp) ?_
   repeat first|refine go_ ?_|intro _
   refine Or.inl ⟨⟨_,Tryz.func174,rfl,rfl⟩,ACall.mono ?_ (ke)⟩
   rintro _ S1 ⟨rfl,hS1⟩
   subst S1
   repeat first|refine go_ ?_|intro _
   refine AYield.mono ?_ (hY [.cells p [.str _], .glob 2 [.ifc 263 (.ptr b o)]] i (encY (.ifc 263 (.ptr b o)) (d,true)) Sc' (by rw [List.getElem?_map,g1]; rfl) h3)
   rintro _ S1 ⟨w,Sc1,rfl,rfl,hj,hz⟩
   cases w with
   | false =>
    repeat first|refine ga_ ?_|intro _
    refine AW_ret ?_
    repeat refine mk_ ?_
    refine ⟨_,_,AVle.refl _,SLe.rfl,?_⟩
    exact ⟨Sc1,SLe.tail (SLe.tail SLe.rfl), .inr (hz rfl)⟩
   | true =>
    repeat first|refine ga_ ?_|intro _
    skip
    refine at_ss (r.length - r'.length + 1) (r.length + 1) r' (by show IntKind.i64.wrap (((r.length - r'.length : Nat) : Int) + 1) = _; rw [wrap_i64 (by simp at h4; omega)]; omega) rfl (by omega) (by simp) (by rw [List.take_of_length_le (by simp)]; exact dec1_drop hd) ?_
    repeat first|refine go_ ?_|intro _
    refine ⟨(i + 1,r',Sc1),?_,?_,weak_of ?_ rfl ?_⟩
    ·exact hl
    ·exact ⟨g2,by show i + 1 ≤ _; omega,hj rfl,by show r'.length ≤ _; omega⟩
    ·exact e_
    ·exact w_
 ·have hc := h
  repeat first|refine go_ ?_|intro _
  refine Or.inl ⟨⟨_,Tryz.func170,rfl,rfl⟩,ACall.mono ?_ (isPlain_ok c _)⟩
  rintro _ S1 ⟨rfl,hS1⟩
  subst S1
  repeat first|refine go_ ?_|intro _
  refine AW_cond (b := !plainB c) rfl (fun h => ?_) (fun h => ?_)
  ·have hd : dec1 (c :: r) = none := by
    unfold dec1
    simp only []
    rw [if_neg hc,if_neg (by simpa using h)]
   rw [bytL_none hd,if_neg hc] at h1
   obtain ⟨g1,g2,g3⟩ := drop_head h1
   repeat first|refine go_ ?_|intro _
   refine ⟨[.ifc 263 (.ptr b o)],(by simp),⟨Nat.le_refl 1,Nat.le_refl 1⟩,_,rfl,?_⟩
   repeat first|refine go_ ?_|intro _
   refine AYield.mono ?_ (hY [.cells p [.str _], .glob 2 [.ifc 263 (.ptr b o)]] i (encY (.ifc 263 (.ptr b o)) (c,false)) Sc' (by rw [List.getElem?_map,g1]; rfl) h3)
   rintro _ S1 ⟨w,Sc1,rfl,rfl,hj,hz⟩
   cases w with
   | false =>
    repeat first|refine ga_ ?_|intro _
    refine AW_ret ?_
    repeat refine mk_ ?_
    refine ⟨_,_,AVle.refl _,SLe.rfl,?_⟩
    exact ⟨Sc1,SLe.tail (SLe.tail SLe.rfl), .inr (hz rfl)⟩
   | true =>
    repeat first|refine ga_ ?_|intro _
    refine AW_ret ?_
    repeat refine mk_ ?_
    refine ⟨_,_,AVle.refl _,SLe.rfl,?_⟩
    refine ⟨Sc1,SLe.tail (SLe.tail SLe.rfl), .inl ?_⟩
    have he : (bytL s).length = i + 1 := by
     have := congrArg List.length g2
     simp at this; omega
    rw [List.length_map,he]
    exact hj rfl
  ·have hd : dec1 (c :: r) = some (c,r) := by
    unfold dec1
    simp only []
    rw [if_neg hc,if_pos (by simpa using h)]
   rw [bytL_some hd] at h1
   obtain ⟨g1,g2,g3⟩ := drop_head h1
   repeat first|refine go_ ?_|intro _
   refine AYield.mono ?_ (hY [.cells p [.str _], .glob 2 [.ifc 263 (.ptr b o)]] i (encY (.ifc 263 (.ptr b o)) (c,true)) Sc' (by rw [List.getElem?_map,g1]; rfl) h3)
   rintro _ S1 ⟨w,Sc1,rfl,rfl,hj,hz⟩
   cases w with
   | false =>
    repeat first|refine ga_ ?_|intro _
    refine AW_ret ?_
    repeat refine mk_ ?_
    refine ⟨_,_,AVle.refl _,SLe.rfl,?_⟩
    exact ⟨Sc1,SLe.tail (SLe.tail SLe.rfl), .inr (hz rfl)⟩
   | true =>
    repeat first|refine ga_ ?_|intro _
    skip
    refine at_ss 1 (r.length + 1) r rfl rfl (by omega) (by simp) (by simp) ?_
    repeat first|refine go_ ?_|intro _
    refine ⟨(i + 1,r,Sc1),?_,?_,weak_of ?_ rfl ?_⟩
    ·exact Nat.lt_succ_self _
    ·exact ⟨g2,by show i + 1 ≤ _; omega,hj rfl,by show r.length ≤ _; simp at h4; omega⟩
    ·exact e_
    ·exact w_
def unqL (l : List UInt8) : Option (List UInt8) := if (bytL l).all (·.2) then some ((bytL l).map (·.1)) else none
def unqS (s : List UInt8) : List UInt8 × Int := if s.length < 2 ∨ s.getD 0 0 ≠ 34 ∨ s.getD (s.length - 1) 0 ≠ 34 then ([],10) else
 match unqL ((s.take (s.length - 1)).drop 1) with
 | none => ([],10)
 | some t => (t,0)
def unqAV (p : List UInt8 × Int) : AV := .tup [.str p.1, .int .i64 p.2]
theorem bytL_len (l : List UInt8) : (bytL l).length ≤ l.length := by
 fun_induction bytL l with
 | case1 => simp
 | case2 c r d r' h ih => have := dec1_len h; simp at this; simp; omega
 | case3 => simp
theorem get0 {s : List UInt8} {i : Nat} (h : i < s.length) : s.getD i 0 = s[i] := by rw [List.getD_eq_getElem?_getD,List.getElem?_eq_getElem h]; rfl
theorem Bld_app {b : Nat} {u : Bool} {s : List UInt8} {bb cap : Nat} {rest : List AV} {A B : List En} : Bld b u s bb cap rest A ++ B = Bld b u s bb cap rest (A ++ B) := by cases s <;> rfl
theorem writeByte_app (b : Nat) (u : Bool) (s : List UInt8) (bb cap : Nat) (rest : List AV) (c : UInt8) (A B : List En) (h1 : s.length ≤ cap) (h2 : rest.length = cap - s.length) (hs : s.length ≤ 16777216) :
  ACall Tryz.prog 159 [.ptr b 0, .int .u8 c.toNat] (Bld b u s bb cap rest A ++ B)
   (fun r S => r = .nilif ∧ ∃ bb' cap' rest',(s ++ [c]).length ≤ cap' ∧ rest'.length = cap' - (s ++ [c]).length ∧ S = Bld b true (s ++ [c]) bb' cap' rest' A ++ B) := by
 have := writeByte_ok b u s bb cap rest c (A ++ B) h1 h2 hs
 simpa only [Bld_app] using this
theorem bytes_ok (s : List UInt8) (R : List En) :
  ACall Tryz.prog 158 [.str s] R (fun r S => ∃ p,r = .fn (.func 173) [] [.ptr p 0] ∧ S = .cells p [.str s] :: R) := by
 refine ACall_body tab_ok Tryz.func158 rfl rfl rfl (by kernel_rfl) (nb_ rfl) ?_
 repeat first|refine go_ ?_|intro _
 refine AW_ret ?_
 repeat refine mk_ ?_
 refine ⟨_,_,AVle.refl _,SLe.rfl,?_⟩
 exact ⟨_,rfl,rfl⟩
theorem unquote_ok (b o : Nat) (s : List UInt8) (R : List En) (hE : En.glob 2 [.ifc 263 (.ptr b o)] ∈ R) (hs : s.length ≤ 16777216) : ACall Tryz.prog 126 [.str s] R (fun r S => r = unqAV (unqS s) ∧ S = R) := by
 refine ACall_body tab_ok Tryz.func126 rfl rfl rfl (by kernel_rfl) (nb_ rfl) ?_
 repeat first|refine go_ ?_|intro _
 refine gsplit (s.length < 2) ib_ (fun h => ?_) (fun h => ?_)
 ·have e : unqS s = ([],10) := by rw [unqS,if_pos (.inl h)]
  repeat first|refine ga_ ?_|intro _
  refine AW_ret ?_
  repeat refine mk_ ?_
  refine ⟨_,R,AVle.eq ?_,sle_,rfl,rfl⟩
  rw [e]; rfl
 have h1 := h
 repeat first|refine ga_ ?_|intro _
 refine at_list 0 rfl (by omega) ?_
 refine ⟨rfl,?_⟩
 refine gsplit (s[0].toNat ≠ 34) ib_ (fun h => ?_) (fun h => ?_)
 ·have e : unqS s = ([],10) := by rw [unqS,if_pos (.inr (.inl (fun e => h (by rw [get0 (by omega)] at e; rw [e]; rfl))))]
  repeat first|refine ga_ ?_|intro _
  refine AW_ret ?_
  repeat refine mk_ ?_
  refine ⟨_,R,AVle.eq ?_,sle_,rfl,rfl⟩
  rw [e]; rfl
 have h2 : s[0].toNat = 34 := Decidable.not_not.1 h
 repeat first|refine ga_ ?_|intro _
 refine at_list (s.length - 1) (by rw [wrap_i64 (by omega)]; omega) (by omega) ?_
 repeat first|refine ga_ ?_|intro _
 refine AW_iff (s[s.length - 1].toNat ≠ 34) rfl ib_ (fun h => ?_) (fun h => ?_)
 ·have e : unqS s = ([],10) := by rw [unqS,if_pos (.inr (.inr (fun e => h (by rw [get0 (by omega)] at e; rw [e]; rfl))))]
  repeat first|refine ga_ ?_|intro _
  refine AW_ret ?_
  repeat refine mk_ ?_
  refine ⟨_,R,AVle.eq ?_,sle_,rfl,rfl⟩
  rw [e]; rfl
 have h3 : s[s.length - 1].toNat = 34 := Decidable.not_not.1 h
 have e : unqS s = match unqL ((s.take (s.length - 1)).drop 1) with
  | none => ([],10)
  | some t => (t,0) := by
  rw [unqS,if_neg]
  rintro (x | x | x)
  ·exact h1 x
  ·exact x (by rw [get0 (by omega)]; exact UInt8.toNat_inj.1 h2)
  ·exact x (by rw [get0 (by omega)]; exact UInt8.toNat_inj.1 h3)
 generalize hm : (s.take (s.length - 1)).drop 1 = m at e
 repeat first|refine go_ ?_|intro _
 rename_i b1 w
 have hml : m.length ≤ s.length := by rw [← hm]; simp; omega
 refine at_ss 1 (s.length - 1) m rfl (by show IntKind.i64.wrap ((s.length : Int) - 1) = _; rw [wrap_i64 (by omega)]; omega) (by omega) (by omega) hm ?_
 repeat first|refine go_ ?_|intro _
 refine Or.inl ⟨⟨_,Tryz.func158,rfl,rfl⟩,ACall.mono ?_ (bytes_ok m _)⟩
 rintro _ S1 ⟨p,rfl,hS1⟩
 subst S1
 repeat first|refine go_ ?_|intro _
 refine AW_rangeOut (xs := (bytL m).map (encY (.ifc 263 (.ptr b o)))) (α := Bool × Nat × Nat × List AV) (st := fun i z => Bld b1 z.1 (((bytL m).take i).map (·.1)) z.2.1 z.2.2.1 z.2.2.2 [.cells w [.nilif]]) (inv := fun i z => (((bytL m).take i).map (·.1)).length ≤ z.2.2.1 ∧ z.2.2.2.length = z.2.2.1 - (((bytL m).take i).map (·.1)).length ∧ ((bytL m).take i).all (·.2) = true) (Q := fun x Sc => x = .exit 0 ∧ unqL m = none ∧ ∃ u t bb cap rest,Sc = Bld b1 u t bb cap rest [.cells w [.ifc 263 (.ptr b o)]]) ([.cells p [.str m], .glob 2 [.ifc 263 (.ptr b o)]]) (R) ((false,0,0, [])) rfl (bytes_gen _ b o rfl m p (by omega)) ?_ ?_ ?_ ?_ ?_ ?_
 ·refine fun w0 K x h => ((SLe.dup (e := .glob 2 [.ifc 263 (.ptr b o)]) (List.mem_cons_of_mem _ (List.mem_cons_of_mem _ (List.mem_cons_of_mem _ (List.mem_cons_of_mem _ hE)))) rfl) w0 K x h).perm ?_
  exact (List.Perm.swap _ _ _).trans (((List.perm_middle (l₁ := [_,_])).cons _).cons _)
 ·exact ⟨by simp,by simp,by simp⟩
 ·intro i args h
  rw [List.getElem?_map] at h
  obtain ⟨x,_,rfl⟩ := Option.map_eq_some_iff.1 h
  rfl
 ·intro lp R1 i args z hl hx hz
  rw [List.getElem?_map] at hx
  obtain ⟨⟨c,ok⟩,hx2,rfl⟩ := Option.map_eq_some_iff.1 hx
  obtain ⟨hi,hx3⟩ := List.getElem?_eq_some_iff.1 hx2
  obtain ⟨u,bb,cap,rest⟩ := z
  have hbl := bytL_len m
  obtain ⟨z1,z2,z3⟩ : (((bytL m).take i).map (·.1)).length ≤ cap ∧ rest.length = cap - (((bytL m).take i).map (·.1)).length ∧ ((bytL m).take i).all (·.2) = true := hz
  have hs1 : ((bytL m).take (i + 1)).map (·.1) = ((bytL m).take i).map (·.1) ++ [c] := by rw [List.take_succ_eq_append_getElem hi,hx3]; simp
  have hs2 : ((bytL m).take (i + 1)).all (·.2) = (((bytL m).take i).all (·.2) && ok) := by rw [List.take_succ_eq_append_getElem hi,hx3]; simp
  generalize ht : ((bytL m).take i).map (·.1) = t at z1 z2 hs1
  have htl : t.length ≤ 16777216 := by rw [← ht]; simp; omega
  show AW _ _ _ _ _ (Bld b1 u (((bytL m).take i).map (·.1)) bb cap rest [.cells w [.nilif]] ++ R1) _
  rw [ht]
  cases ok with
  | true =>
   repeat first|refine ga_ ?_|intro _
   refine Or.inl ⟨⟨_,Tryz.func159,rfl,rfl⟩,ACall.mono ?_ (writeByte_app b1 u t bb cap rest c [.cells w [.nilif]] _ z1 z2 htl)⟩
   rintro _ S1 ⟨rfl,bb',cap',rest',y1,y2,hS1⟩
   subst S1
   repeat first|refine go_ ?_|intro _
   rw [← hs1] at y1 y2
   refine ⟨((true,bb',cap',rest') : Bool × Nat × Nat × List AV),⟨y1,y2,by rw [hs2,z3]; rfl⟩,SLe.of_eq ?_⟩
   show _ = Bld b1 true (((bytL m).take (i + 1)).map (·.1)) bb' cap' rest' [.cells w [.nilif]] ++ _
   rw [hs1]
  | false =>
   have hn : unqL m = none := by
    rw [unqL,if_neg]
    intro ha
    have := List.all_eq_true.1 ha _ (List.mem_of_getElem? hx2)
    cases this
   cases t with
   | nil =>
    repeat first|refine ga_ ?_|intro _
    refine ⟨_,⟨rfl,hn,u, [],bb,cap,rest,rfl⟩,SLe.rfl⟩
   | cons a t =>
    repeat first|refine ga_ ?_|intro _
    refine ⟨_,⟨rfl,hn,u,a :: t,bb,cap,rest,rfl⟩,SLe.rfl⟩
 ·intro d z hz
  simp only [List.length_map] at hz
  obtain ⟨u,bb,cap,rest⟩ := z
  obtain ⟨_,_,z3⟩ := hz
  rw [List.take_length] at z3
  have hn : unqL m = some ((bytL m).map (·.1)) := by rw [unqL,if_pos z3]
  rw [hn] at e
  simp only [] at e
  show (fun i => AW _ _ _ _ _ (Bld b1 u (((bytL m).take i).map (·.1)) bb cap rest [.cells w [.nilif]] ++ _) _) ((bytL m).map (encY (.ifc 263 (.ptr b o)))).length
  rw [List.length_map]
  show AW _ _ _ _ _ (Bld b1 u (((bytL m).take (bytL m).length).map (·.1)) bb cap rest [.cells w [.nilif]] ++ _) _
  have ht := congrArg (List.map (·.1)) (List.take_length (l := bytL m))
  have hbl := bytL_len m
  generalize ht2 : (bytL m).map (·.1) = t at ht e
  have htl : t.length ≤ 16777217 := by rw [← ht2]; simp; omega
  rw [ht]
  cases t with
  | nil =>
   repeat first|refine go_ ?_|intro _
   refine ⟨[.ifc 263 (.ptr b o)],(by simp [hE]),⟨Nat.le_refl 1,Nat.le_refl 1⟩,_,rfl,?_⟩
   repeat first|refine go_ ?_|intro _
   refine Or.inl ⟨⟨_,Tryz.func81,rfl,rfl⟩,ACall.mono ?_ (errIs_nil b o _)⟩
   rintro _ S1 ⟨rfl,hS1⟩
   subst S1
   repeat first|refine ga_ ?_|intro _
   refine Or.inl ⟨⟨_,Tryz.func31,rfl,rfl⟩,ACall.mono ?_ (bldString_ok b1 u [] bb cap rest _ htl)⟩
   rintro _ S1 ⟨rfl,hS1⟩
   subst S1
   repeat first|refine go_ ?_|intro _
   refine AW_ret ?_
   repeat refine mk_ ?_
   refine ⟨_,R,AVle.eq ?_,sle_,rfl,rfl⟩
   exact Eq.trans rfl (congrArg unqAV e).symm
  | cons a t =>
   repeat first|refine go_ ?_|intro _
   refine ⟨[.ifc 263 (.ptr b o)],(by simp [hE]),⟨Nat.le_refl 1,Nat.le_refl 1⟩,_,rfl,?_⟩
   repeat first|refine go_ ?_|intro _
   refine Or.inl ⟨⟨_,Tryz.func81,rfl,rfl⟩,ACall.mono ?_ (errIs_nil b o _)⟩
   rintro _ S1 ⟨rfl,hS1⟩
   subst S1
   repeat first|refine ga_ ?_|intro _
   refine Or.inl ⟨⟨_,Tryz.func31,rfl,rfl⟩,ACall.mono ?_ (bldString_ok b1 u (a :: t) bb cap rest _ htl)⟩
   rintro _ S1 ⟨rfl,hS1⟩
   subst S1
   repeat first|refine go_ ?_|intro _
   refine AW_ret ?_
   repeat refine mk_ ?_
   refine ⟨_,R,AVle.eq ?_,sle_,rfl,rfl⟩
   exact Eq.trans rfl (congrArg unqAV e).symm
 ·rintro d x Sc ⟨rfl,hn,u,t,bb,cap,rest,rfl⟩ _
  rw [hn] at e
  simp only [] at e
  cases t with
  | nil =>
   repeat first|refine ga_ ?_|intro _
   refine ⟨[.ifc 263 (.ptr b o)],(by simp [hE]),⟨Nat.le_refl 1,Nat.le_refl 1⟩,_,rfl,?_⟩
   repeat first|refine go_ ?_|intro _
   refine Or.inl ⟨⟨_,Tryz.func81,rfl,rfl⟩,ACall.mono ?_ (errIs_same b o _)⟩
   rintro _ S1 ⟨rfl,hS1⟩
   subst S1
   repeat first|refine ga_ ?_|intro _
   refine AW_ret ?_
   repeat refine mk_ ?_
   refine ⟨_,R,AVle.eq ?_,sle_,rfl,rfl⟩
   exact Eq.trans rfl (congrArg unqAV e).symm
  | cons a t =>
   repeat first|refine ga_ ?_|intro _
   refine ⟨[.ifc 263 (.ptr b o)],(by simp [hE]),⟨Nat.le_refl 1,Nat.le_refl 1⟩,_,rfl,?_⟩
   repeat first|refine go_ ?_|intro _
   refine Or.inl ⟨⟨_,Tryz.func81,rfl,rfl⟩,ACall.mono ?_ (errIs_same b o _)⟩
   rintro _ S1 ⟨rfl,hS1⟩
   subst S1
   repeat first|refine ga_ ?_|intro _
   refine AW_ret ?_
   repeat refine mk_ ?_
   refine ⟨_,R,AVle.eq ?_,sle_,rfl,rfl⟩
   exact Eq.trans rfl (congrArg unqAV e).symm
theorem unqL_nil : unqL [] = some [] := by simp [unqL,bytL]
theorem unqL_some {l r : List UInt8} {d : UInt8} (h : dec1 l = some (d,r)) : unqL l = (unqL r).map (d :: ·) := by
 unfold unqL
 rw [bytL_some h]
 simp only [List.all_cons,Bool.true_and,List.map_cons]
 split <;> rfl
theorem unqL_none {l : List UInt8} (hl : l ≠ []) (h : dec1 l = none) : unqL l = none := by
 cases l with
 | nil => exact absurd rfl hl
 | cons c l => unfold unqL; rw [bytL_none h]; rfl
end Go.Proofs.YtfeknkaioofljaaGreatDoor
