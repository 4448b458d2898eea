/-
 Numbers' texts: strconv.FormatInt and strconv.ParseInt,by the library's contracts. Own work.
-/
import Derived.Test.YtfeknkaioofljaaGreatDoorBld
import Derived.Test.YtfeknkaioofljaaGreatDoorShp
import Derived.Lib.ParseIntBTie
import Derived.Lib.ItoaMem
import Derived.Lib.ItoaLen
import Derived.Lib.AtoiErrMem
import Derived.WalkSmall
import Derived.Shelf.Strings.OnBuilder
import Derived.Test.YtfeknkaioofljaaGreatDoorQ1
set_option linter.all false
set_option maxHeartbeats 4000000
set_option maxRecDepth 4000
namespace Go.Proofs.YtfeknkaioofljaaGreatDoor
open Go.Aw Go.RowKit
theorem below_more {w : World} {k : Nat} {os : Array Obj} : Below w.heap.size w (Sort.grow (w.drewN k) os) := by
 refine (below_drewN (Below.refl _ w) k).trans ⟨rfl,rfl,rfl,by simp,fun i hi => ?_⟩
 exact Array.getElem?_append_left (xs := (w.drewN k).heap) hi
theorem ACall_pure {P : Program} {f : FuncId} {args : List AV} {S : List En} {av : AV}
  (h : ∀ (w0 : World) (K : Kn) (w : World) (vs : List Value),RelL K args vs → RelS w0 K S w → Calls P f vs.toArray w fun e w' => ∃ v,e = .returned v ∧ Rel K av v ∧ Below w.heap.size w w') : ACall P f args S (fun r S' => r = av ∧ S' = S) := by
 unfold ACall
 intro w0 K w vs hv hS
 rw [callsIn_wide]
 refine (h w0 K w vs hv hS).mono ?_
 rintro e w' ⟨v,rfl,h1,h2⟩
 exact ⟨v,K,av,S,rfl,Kle.refl K,h1,hS.grown h2,rfl,rfl⟩
def NumG (R : List En) : Prop := En.glob 6 (Lib.pow10Tab.map (AV.int .u64)) ∈ R ∧ (∃ t v,En.glob 4 [.ifc t v] ∈ R) ∧ ∃ t v,En.glob 5 [.ifc t v] ∈ R
theorem NumG.cons {R : List En} (h : NumG R) {e : En} : NumG (e :: R) := by
 obtain ⟨h1,⟨t,v,h2⟩,t',v',h3⟩ := h
 exact ⟨List.mem_cons_of_mem _ h1,⟨t,v,List.mem_cons_of_mem _ h2⟩,t',v',List.mem_cons_of_mem _ h3⟩
theorem NumG.app {A R : List En} (h : NumG R) : NumG (A ++ R) := by
 induction A with
 | nil => exact h
 | cons a A ih => exact ih.cons
theorem glob_ifc {w0 w : World} {K : Kn} {S : List En} (hS : RelS w0 K S w) {g : Nat} {t : TypeId} {v : AV} (h : En.glob g [.ifc t v] ∈ S) : ∃ x,w.cell? ⟨g,0,none⟩ = some (.iface t x) := by
 obtain ⟨_,_,vs,T,fr,hh,hr,hk⟩ := hS.ents _ h
 obtain ⟨x,hx,hxr⟩ := hr.get (i := 0) rfl
 cases hxr with
 | @ifc _ _ y hy => exact ⟨y,hS.kcell _ _ _ (hk 0 _ hx)⟩
theorem tab_vals {K : Kn} : ∀ {zs : List Int} {vs : List Value},RelL K (zs.map (AV.int .u64)) vs → vs = zs.map (Value.int .u64)
 | [],vs,h => h.nil_inv
 | z :: zs,vs,h => by
  obtain ⟨v,r,rfl,h1,h2⟩ := h.cons_inv
  cases h1
  rw [tab_vals h2]; rfl
theorem glob_tab {w0 w : World} {K : Kn} {S : List En} (hS : RelS w0 K S w) {g : Nat} {zs : List Int} (h : En.glob g (zs.map (AV.int .u64)) ∈ S) {name : String} (hg : (Tryz.prog).globalNamed name = some g) : Lib.TabIs Tryz.prog w name .u64 zs := by
 obtain ⟨_,_,vs,T,fr,hh,hr,hk⟩ := hS.ents _ h
 unfold Lib.TabIs World.var?
 rw [hg]
 simp only [Option.bind_some,hh]
 have := tab_vals hr
 rw [← this]
theorem formatInt_ok (n : Int) (R : List En) (hG : NumG R) : ACall Tryz.prog 169 [.int .i64 n, .int .i64 10] R (fun r S => r = .str (Lib.itoa n) ∧ S = R) := by
 refine ACall_pure fun w0 K w vs hv hS => ?_
 obtain ⟨x,r,rfl,hx,hr⟩ := hv.cons_inv
 obtain ⟨y,r',rfl,hy,hr'⟩ := hr.cons_inv
 obtain rfl := hr'.nil_inv
 cases hx with
 | int _ _ hn =>
  cases hy
  have hn' := i64_of hn
  refine (Any.strconv_FormatInt_10 Tryz.lays173 n hn'.1 hn'.2 w (glob_tab hS hG.1 (by kernel_rfl))).mono ?_
  rintro e w' ⟨rfl,k,os,rfl⟩
  exact ⟨_,rfl, .str _ (le_maxLen.2 (Nat.le_trans (Lib.itoa_length_le n hn'.1 hn'.2) (by decide))),below_more⟩
def piAV (s : List UInt8) : AV := match Lib.parseIntB 64 s with
 | .ok v => .tup [.int .i64 v, .nilif]
 | .range => .tup [.int .i64 (Lib.intSat 64 s), .ifc 242 .junk]
 | _ => .tup [.int .i64 0, .ifc 242 .junk]
theorem parseInt_ok (s : List UInt8) (R : List En) (hG : NumG R) (hs : s.length ≤ 281474976710656) : ACall Tryz.prog 160 [.str s, .int .i64 10, .int .i64 64] R (fun r S => r = piAV s ∧ S = R) := by
 refine ACall_pure fun w0 K w vs hv hS => ?_
 obtain ⟨x,r,rfl,hx,hr⟩ := hv.cons_inv
 obtain ⟨y,r',rfl,hy,hr'⟩ := hr.cons_inv
 obtain ⟨z,r'',rfl,hz,hr''⟩ := hr'.cons_inv
 obtain rfl := hr''.nil_inv
 cases hx; cases hy; cases hz
 have hsz : (ByteArray.mk s.toArray).size = s.length := by simp [ByteArray.size]
 obtain ⟨hG1,⟨t1,v1,hs1⟩,t2,v2,hs2⟩ := hG
 obtain ⟨x1,hc1⟩ := glob_ifc hS hs1
 obtain ⟨x2,hc2⟩ := glob_ifc hS hs2
 unfold piAV
 have hi0 : ∀ {K : Kn},Rel K (.int .i64 0) (.int .i64 0) := fun {K} => .int _ _ (has_i64 (by omega))
 cases hp : Lib.parseIntB 64 s with
 | ok v =>
  refine (Any.strconv_ParseInt_10_at64_ok Tryz.lays174 ⟨s.toArray⟩ (by rw [hsz]; omega) v hp w).mono ?_
  rintro e w' ⟨rfl,hw⟩
  have hb := Lib.parseIntB_bounds hp
  have hv : Rel K (.int .i64 v) (.int .i64 v) := .int _ _ (has_i64 (by simp at hb; omega))
  have hr := RelL.cons hv (RelL.cons .nilif RelL.nil)
  refine ⟨_,rfl, .tup hr.1 hr.2,?_⟩
  rcases hw with rfl | ⟨t,rfl⟩
  ·exact Below.refl _ _
  ·exact Lib.bytesWorld_below _ _ _
 | range =>
  refine (Any.strconv_ParseInt_10_at64_range Tryz.lays174 ⟨s.toArray⟩ (by rw [hsz]; exact hs) hp _ w hc2 (.inr ⟨_,_,rfl⟩)).mono ?_
  rintro e w' ⟨N,rfl,_,_,hb⟩
  have hv : Rel K (.int .i64 (Lib.intSat 64 s)) (.int .i64 (Lib.intSat 64 s)) := .int _ _ (has_i64 (by unfold Lib.intSat; split <;> simp))
  have hr := RelL.cons hv (RelL.cons (.ifc 242 (.junk (.pointer (some ⟨N,0,none⟩)))) RelL.nil)
  exact ⟨_,rfl, .tup hr.1 hr.2,hb⟩
 | _ =>
  refine (Any.strconv_ParseInt_10_at64_syntax Tryz.lays174 ⟨s.toArray⟩ (by rw [hsz]; exact hs) hp _ w hc1 (.inr ⟨_,_,rfl⟩)).mono ?_
  rintro e w' ⟨N,rfl,_,_,hb⟩
  have hr := RelL.cons (hi0 (K := K)) (RelL.cons (.ifc 242 (.junk (.pointer (some ⟨N,0,none⟩)))) RelL.nil)
  exact ⟨_,rfl, .tup hr.1 hr.2,hb⟩
end Go.Proofs.YtfeknkaioofljaaGreatDoor
namespace Go.Proofs.YtfeknkaioofljaaGreatDoor
open Go.Aw Go.RowKit Go.Shelf
theorem join_extra : Builder.Extra Tryz.prog Tryz.lays156_ren := {
 sizeBuilder := by kernel_rfl
 liesBuilder := by kernel_rfl
 t5 := Tryz.underlying5
 a5 := fun w => Tryz.isAgg5 w
 z5 := fun w => Tryz.sizeOf5 w
 v5 := fun w => Tryz.zeroValue5 w
 infoByte := by kernel_rfl
 cellsByte := by kernel_rfl
 sizeByte := by kernel_rfl
 neB5 := by decide }
theorem flat_strs : ∀ xs : List (List UInt8),flat (xs.map AV.str) = xs.map AV.str
 | [] => rfl
 | x :: xs => by
  have := flat_strs xs
  unfold flat at this ⊢
  rw [List.map_cons,List.flatMap_cons,this]; rfl
theorem join_ok (xs : List (List UInt8)) (sep : List UInt8) (tk : Tk) (R : List En) (hn : xs.length ≤ 140737488355328) (hl : (Lib.join xs sep).length ≤ 140737488355328) : ACall Tryz.prog 69 [.sl 1 (xs.map AV.str) tk, .str sep] R (fun r S => r = .str (Lib.join xs sep) ∧ S = R) := by
 refine ACall_pure fun w0 K w vs hv hS => ?_
 obtain ⟨x,r,rfl,hx,hr⟩ := hv.cons_inv
 obtain ⟨y,r',rfl,hy,hr'⟩ := hr.cons_inv
 obtain rfl := hr'.nil_inv
 cases hy with
 | str _ hsep =>
  have fin : ∀ e : Ending, ∀ w',(e = .returned (.string ⟨(Lib.join xs sep).toArray⟩) ∧ Below w.heap.size w w') → ∃ v,e = .returned v ∧ Rel K (.str (Lib.join xs sep)) v ∧ Below w.heap.size w w' := fun e w' h => ⟨_,h.1, .str _ (le_maxLen.2 (by omega)),h.2⟩
  by_cases h0 : xs = []
  ·subst h0
   have hj : Lib.join ([] : List (List UInt8)) sep = [] := rfl
   have none : ∀ (a : Option Addr) (c : Nat),Calls Tryz.prog 69 #[.slice a 0 c, .string ⟨sep.toArray⟩] w fun e w' => ∃ v,e = .returned v ∧ Rel K (.str (Lib.join [] sep)) v ∧ Below w.heap.size w w' := fun a c =>
    (Any.strings_Join_none Tryz.lays156 join_extra a c ⟨sep.toArray⟩ w).mono fun e w' h => fin e w' ⟨h.1,h.2 ▸ Below.refl _ _⟩
   generalize he : ([] : List (List UInt8)).map AV.str = es at hx
   cases hx with
   | sl hcap hmax hsz hone hvl hrel hk htk => subst he; exact none _ _
   | slnil => exact none _ _
  ·generalize he : xs.map AV.str = es at hx
   cases hx with
   | slnil => exact absurd (List.map_eq_nil_iff.1 he) h0
   | @sl _ _ _ b off cap vs hcap hmax hsz hone hvl hrel hk htk =>
    have hf : flat es = es := by rw [← he]; exact flat_strs xs
    rw [hf] at hvl hrel
    have hlen : es.length = xs.length := by subst he; simp
    have hv' : ∀ (j : Nat) (x : List UInt8),xs[j]? = some x → vs[j]? = some (.string ⟨x.toArray⟩) := fun j x hj => by
     have h1 : es[j]? = some (.str x) := by rw [← he,List.getElem?_map,hj]; rfl
     have hjl : j < vs.length := by have := (List.getElem?_eq_some_iff.1 h1).1; omega
     have h2 := hrel j _ _ h1 (List.getElem?_eq_getElem hjl)
     rw [List.getElem?_eq_getElem hjl]
     generalize vs[j] = y at h2
     cases h2; rfl
    have hcell : ∀ (j : Nat) (x : List UInt8),xs[j]? = some x → w.cell? ⟨b,off + j,none⟩ = some (.string ⟨x.toArray⟩) := fun j x hj => hS.kcell _ _ _ (hk j _ (hv' j x hj))
    have hbk : b < w.heap.size := by
     obtain ⟨x,hx⟩ : ∃ x,xs[0]? = some x := by cases xs with | nil => exact absurd rfl h0 | cons a r => exact ⟨a,rfl⟩
     have := hcell 0 x hx
     unfold World.cell? at this
     split at this
     ·rename_i hh; exact (Array.getElem?_eq_some_iff.1 hh).1
     ·cases this
    have em : (xs.map fun x => (⟨x.toArray⟩ : ByteArray)).map (·.data.toList) = xs := by rw [List.map_map]; simp [Function.comp_def]
    have k := Any.strings_Join Tryz.lays156 join_extra b off cap (xs.map fun x => (⟨x.toArray⟩ : ByteArray)) ⟨sep.toArray⟩ w (fun j x hj => by
     rw [List.getElem?_map] at hj
     obtain ⟨y,hy,rfl⟩ := Option.map_eq_some_iff.1 hj
     exact hcell j y hy) hbk (by simpa using hn) (by simpa using (by omega : xs.length ≤ cap)) (by rw [em]; exact hl)
    rw [em,List.length_map] at k
    rw [hlen]
    exact k.mono fin
end Go.Proofs.YtfeknkaioofljaaGreatDoor
namespace Go.Proofs.YtfeknkaioofljaaGreatDoor
open Go.Aw
theorem dd_step {m : Nat} (h : 0 < m / 10) : Lib.decDigits m = Lib.decDigits (m / 10) ++ [UInt8.ofNat (48 + m % 10)] := by
 rw [Lib.decDigits,dif_neg (by omega)]
theorem dd_last {m : Nat} (h : m / 10 = 0) : Lib.decDigits m = [UInt8.ofNat (48 + m % 10)] := by
 have : m < 10 := by omega
 rw [Lib.decDigits,dif_pos this,Nat.mod_eq_of_lt this]
theorem num_ok (n : Int) (R : List En) (hG : NumG R) : ACall Tryz.prog 149 [.int .i64 n] R (fun r S => r = .str (Lib.itoa n) ∧ S = R) := by
 refine ACall_body tab_ok Tryz.func149 rfl rfl rfl (by kernel_rfl) (nb_ rfl) ?_
 repeat first|refine go_ ?_|intro _
 refine Or.inl ⟨⟨_,Tryz.func169,rfl,rfl⟩,ACall.mono ?_ (formatInt_ok n R hG)⟩
 rintro _ S1 ⟨rfl,hS1⟩
 subst S1
 repeat first|refine go_ ?_|intro _
 refine AW_ret ?_
 repeat refine mk_ ?_
 refine ⟨_,R,AVle.eq ?_,sle_,rfl,rfl⟩
 rfl
def pnL (s : List UInt8) : Int × Int := match Lib.parseIntB 64 s with
 | .ok v => if Lib.itoa v = s then (v,0) else (0,10)
 | _ => (0,10)
def pnAV (x : Int × Int) : AV := .tup [.int .i64 x.1, .int .i64 x.2]
theorem parseNum_ok (s : List UInt8) (R : List En) (hG : NumG R) (hs : s.length ≤ 281474976710656) : ACall Tryz.prog 131 [.str s] R (fun r S => r = pnAV (pnL s) ∧ S = R) := by
 have k := parseInt_ok s R hG hs
 unfold piAV at k
 cases hp : Lib.parseIntB 64 s with
 | ok v =>
  simp only [hp] at k
  have hpn : pnL s = if Lib.itoa v = s then (v,0) else (0,10) := by simp [pnL,hp]
  refine ACall_body tab_ok Tryz.func131 rfl rfl rfl (by kernel_rfl) (nb_ rfl) ?_
  repeat first|refine go_ ?_|intro _
  refine Or.inl ⟨⟨_,Tryz.func160,rfl,rfl⟩,ACall.mono ?_ (k)⟩
  rintro _ S1 ⟨rfl,hS1⟩
  subst S1
  repeat first|refine ga_ ?_|intro _
  refine Or.inl ⟨⟨_,Tryz.func149,rfl,rfl⟩,ACall.mono ?_ (num_ok v R hG)⟩
  rintro _ S1 ⟨rfl,hS1⟩
  subst S1
  repeat first|refine ga_ ?_|intro _
  refine AW_iff (¬ Lib.itoa v = s) rfl ib_ (fun h => ?_) (fun h => ?_)
  ·rw [if_neg h] at hpn
   repeat first|refine go_ ?_|intro _
   refine AW_ret ?_
   repeat refine mk_ ?_
   refine ⟨_,R,AVle.eq ?_,sle_,rfl,rfl⟩
   exact Eq.trans rfl (congrArg pnAV hpn).symm
  ·rw [if_pos (Classical.not_not.1 h)] at hpn
   repeat first|refine go_ ?_|intro _
   refine AW_ret ?_
   repeat refine mk_ ?_
   refine ⟨_,R,AVle.eq ?_,sle_,rfl,rfl⟩
   exact Eq.trans rfl (congrArg pnAV hpn).symm
 | range =>
  simp only [hp] at k
  have hpn : pnL s = (0,10) := by simp [pnL,hp]
  refine ACall_body tab_ok Tryz.func131 rfl rfl rfl (by kernel_rfl) (nb_ rfl) ?_
  repeat first|refine go_ ?_|intro _
  refine Or.inl ⟨⟨_,Tryz.func160,rfl,rfl⟩,ACall.mono ?_ (k)⟩
  rintro _ S1 ⟨rfl,hS1⟩
  subst S1
  repeat first|refine ga_ ?_|intro _
  refine AW_ret ?_
  repeat refine mk_ ?_
  refine ⟨_,R,AVle.eq ?_,sle_,rfl,rfl⟩
  exact Eq.trans rfl (congrArg pnAV hpn).symm
 | _ =>
  simp only [hp] at k
  have hpn : pnL s = (0,10) := by simp [pnL,hp]
  refine ACall_body tab_ok Tryz.func131 rfl rfl rfl (by kernel_rfl) (nb_ rfl) ?_
  repeat first|refine go_ ?_|intro _
  refine Or.inl ⟨⟨_,Tryz.func160,rfl,rfl⟩,ACall.mono ?_ (k)⟩
  rintro _ S1 ⟨rfl,hS1⟩
  subst S1
  repeat first|refine ga_ ?_|intro _
  refine AW_ret ?_
  repeat refine mk_ ?_
  refine ⟨_,R,AVle.eq ?_,sle_,rfl,rfl⟩
  exact Eq.trans rfl (congrArg pnAV hpn).symm
def inR64 (n : Int) : Prop := -9223372036854775808 ≤ n ∧ n ≤ 9223372036854775807
theorem dig_toNat (m : Nat) : (UInt8.ofNat (48 + m % 10)).toNat = 48 + m % 10 := by
 have h : m % 10 < 10 := Nat.mod_lt _ (by decide)
 rw [UInt8.toNat_ofNat']; omega
theorem dd_ind {Q : Nat → List UInt8 → Prop} (h0 : ∀ u,u < 10 → Q u [UInt8.ofNat (48 + u % 10)]) (h1 : ∀ u,10 ≤ u → Q (u / 10) (Lib.decDigits (u / 10)) → Q u (Lib.decDigits (u / 10) ++ [UInt8.ofNat (48 + u % 10)])) : ∀ u,Q u (Lib.decDigits u) := by
 intro u
 induction u using Nat.strongRecOn with
 | _ u ih =>
  by_cases h : u < 10
  ·rw [dd_last (by omega)]; exact h0 u h
  ·rw [dd_step (by omega)]
   exact h1 u (by omega) (ih _ (by omega))
theorem dd_dig : ∀ u, ∀ c ∈ Lib.decDigits u,48 ≤ c.toNat ∧ c.toNat ≤ 57 := by
 refine dd_ind (Q := fun _ l => ∀ c ∈ l,48 ≤ c.toNat ∧ c.toNat ≤ 57) (fun u hu c hc => ?_) (fun u hu ih c hc => ?_)
 ·rw [List.mem_singleton] at hc
  subst hc
  rw [dig_toNat]; omega
 ·rcases List.mem_append.1 hc with hc | hc
  ·exact ih c hc
  ·rw [List.mem_singleton] at hc
   subst hc
   rw [dig_toNat]; omega
theorem dd_pos (u : Nat) : Lib.decDigits u ≠ [] := by
 refine dd_ind (Q := fun _ l => l ≠ []) (fun u _ => by simp) (fun u _ _ => by simp) u
theorem dd_len : ∀ u (k : Nat),u < 10 ^ (k + 1) → (Lib.decDigits u).length ≤ k + 1 := by
 refine dd_ind (Q := fun u l => ∀ k : Nat,u < 10 ^ (k + 1) → l.length ≤ k + 1) (fun u _ k _ => by simp) (fun u hu ih k hk => ?_)
 cases k with
 | zero => simp at hk; omega
 | succ k =>
  have : u / 10 < 10 ^ (k + 1) := by rw [Nat.div_lt_iff_lt_mul (by decide)]; rw [Nat.pow_succ] at hk; exact hk
  have := ih k this
  simp only [List.length_append,List.length_singleton]; omega
theorem parseM_snoc (M : Nat) : ∀ (l : List UInt8) (acc : Nat) (a : Nat) (d : UInt8),Lib.parseUintM M acc l = .ok a → Lib.parseUintM M acc (l ++ [d]) = Lib.parseUintM M a [d]
 | [],acc,a,d,h => by
  simp only [Lib.parseUintM,Lib.NumEnd.ok.injEq] at h
  subst h; rfl
 | c :: l,acc,a,d,h => by
  simp only [List.cons_append,Lib.parseUintM] at h ⊢
  split at h
  ·split at h
   ·cases h
   ·split at h
    ·cases h
    ·rename_i h1 h2 h3
     rw [if_pos h1,if_neg h2,if_neg h3]
     have := parseM_snoc M l _ a d h
     rw [this]; simp only [Lib.parseUintM]
  ·cases h
theorem parseM_dd : ∀ u,u ≤ 18446744073709551615 → Lib.parseUintM 18446744073709551615 0 (Lib.decDigits u) = .ok u := by
 refine dd_ind (Q := fun u l => u ≤ 18446744073709551615 → Lib.parseUintM 18446744073709551615 0 l = .ok u) (fun u hu _ => ?_) (fun u hu ih hb => ?_)
 ·have hm : u % 10 = u := Nat.mod_eq_of_lt hu
  rw [Lib.parseUintM,dig_toNat,if_pos (by omega),if_neg (by omega),if_neg (by omega),Lib.parseUintM]
  congr 1; omega
 ·rw [parseM_snoc _ _ _ _ _ (ih (by omega)),Lib.parseUintM,dig_toNat,if_pos (by omega),if_neg (by omega),if_neg (by omega),Lib.parseUintM]
  congr 1; omega
theorem dd_cons (u : Nat) : ∃ c r,Lib.decDigits u = c :: r ∧ 48 ≤ c.toNat ∧ c.toNat ≤ 57 := by
 cases h : Lib.decDigits u with
 | nil => exact absurd h (dd_pos u)
 | cons c r => exact ⟨c,r,rfl,dd_dig u c (by rw [h]; simp)⟩
theorem parseU_dd (u : Nat) (h : u ≤ 18446744073709551615) : Lib.parseUintB 64 (Lib.decDigits u) = .ok u := by
 rw [Lib.parseUintB,if_neg (dd_pos u)]
 exact parseM_dd u h
theorem parse_itoa {n : Int} (hn : inR64 n) : Lib.parseIntB 64 (Lib.itoa n) = .ok n := by
 obtain ⟨h1,h2⟩ := hn
 by_cases h : n < 0
 ·rw [Lib.itoa,if_pos h,Lib.parseIntB]
  have e : (45 : UInt8).toNat = 45 := rfl
  simp only [e,or_true,if_true,parseU_dd n.natAbs (by omega)]
  rw [if_neg (by simp),if_neg (by simp; omega)]
  simp; omega
 ·rw [Lib.itoa,if_neg h]
  obtain ⟨c,r,hc,h3,h4⟩ := dd_cons n.toNat
  have hp := parseU_dd n.toNat (by omega)
  rw [hc] at hp ⊢
  rw [Lib.parseIntB]
  have e1 : ¬ (c.toNat = 43 ∨ c.toNat = 45) := by omega
  have e2 : ¬ c.toNat = 45 := by omega
  simp only [if_neg e1,hp]
  rw [if_neg (by simp; omega),if_neg (by simp [e2])]
  simp [e2]; omega
theorem itoa_len {n : Int} (hn : inR64 n) : (Lib.itoa n).length ≤ 20 := by
 obtain ⟨h1,h2⟩ := hn
 rw [Lib.itoa]
 split
 ·have := dd_len n.natAbs 18 (by omega)
  simp only [List.length_cons]; omega
 ·have := dd_len n.toNat 18 (by omega)
  omega
theorem pn_itoa {n : Int} (hn : inR64 n) : pnL (Lib.itoa n) = (n,0) := by
 rw [pnL,parse_itoa hn]; simp
theorem pn_ok {s : List UInt8} (h : (pnL s).2 = 0) : inR64 (pnL s).1 ∧ Lib.itoa (pnL s).1 = s := by
 unfold pnL at h ⊢
 cases hp : Lib.parseIntB 64 s with
 | ok v =>
  rw [hp] at h
  have hb := Lib.parseIntB_bounds hp
  by_cases e : Lib.itoa v = s
  ·simp only [if_pos e]
   exact ⟨⟨by simp at hb; omega,by simp at hb; omega⟩,e⟩
  ·simp [e] at h
 | range => rw [hp] at h; simp at h
 | _ => rw [hp] at h; simp at h
def hexI (c : UInt8) : Option Nat := hexs.findIdx? (· == c)
def dec1 : List UInt8 → Option (UInt8 × List UInt8)
 | [] => none
 | c :: r => if c.toNat = 92 then
   match r with
   | [] => none
   | d :: r' => if d.toNat = 92 ∨ d.toNat = 34 then some (d,r') else if d.toNat = 110 then some (10,r') else if d.toNat = 120 then
     match r' with
     | x :: y :: r'' => match hexI x,hexI y with
      | some i,some j => if plainB (UInt8.ofNat (16 * i + j)) = true ∨ 16 * i + j = 10 ∨ 16 * i + j = 34 ∨ 16 * i + j = 92 then none else some (UInt8.ofNat (16 * i + j),r'')
      | _,_ => none
     | _ => none
    else none
  else if plainB c = true then some (c,r) else none
theorem hexI_hexd : ∀ i,i < 16 → hexI (hexd i) = some i := by decide
theorem hexI_some {c : UInt8} {i : Nat} (h : hexI c = some i) : i < 16 ∧ hexd i = c := by
 unfold hexI at h
 obtain ⟨h1,h2,_⟩ := List.findIdx?_eq_some_iff_getElem.1 h
 refine ⟨h1,?_⟩
 have : hexs[i] = c := by simpa using h2
 rw [hexd,List.getD_eq_getElem?_getD,List.getElem?_eq_getElem h1]; exact this
theorem ofNat_toNat (c : UInt8) : UInt8.ofNat c.toNat = c := UInt8.ofNat_toNat
theorem plainB_iff {c : UInt8} : plainB c = true ↔ 32 ≤ c.toNat ∧ c.toNat ≤ 126 ∧ c.toNat ≠ 34 ∧ c.toNat ≠ 92 := by
 simp [plainB,and_assoc]
theorem dec1_one (c : UInt8) (r : List UInt8) : dec1 (oneL c ++ r) = some (c,r) := by
 have hc := c.toNat_lt
 unfold oneL
 split
 ·rename_i h
  show dec1 (92 :: c :: r) = _
  unfold dec1
  simp only []
  rw [if_pos (by decide)]
  try simp only []
  rw [if_pos (by omega)]
 ·split
  ·rename_i h1 h2
   show dec1 (92 :: 110 :: r) = _
   unfold dec1
   simp only []
   rw [if_pos (by decide)]
   try simp only []
   rw [if_neg (by decide),if_pos (by decide)]
   have : c = 10 := UInt8.toNat_inj.1 h2
   rw [this]
  ·split
   ·rename_i h1 h2 h3
    show dec1 (92 :: 120 :: hexd (c.toNat / 16) :: hexd (c.toNat % 16) :: r) = _
    unfold dec1
    simp only []
    rw [if_pos (by decide)]
    try simp only []
    rw [if_neg (by decide),if_neg (by decide),if_pos (by decide),hexI_hexd _ (by omega),hexI_hexd _ (Nat.mod_lt _ (by decide))]
    simp only []
    have e : 16 * (c.toNat / 16) + c.toNat % 16 = c.toNat := Nat.div_add_mod _ _
    rw [e,ofNat_toNat,if_neg]
    rw [plainB_iff]; omega
   ·rename_i h1 h2 h3
    show dec1 (c :: r) = _
    unfold dec1
    simp only []
    rw [if_neg (by omega),if_pos (plainB_iff.2 (by omega))]
theorem dec1_some {l r : List UInt8} {c : UInt8} (h : dec1 l = some (c,r)) : l = oneL c ++ r := by
 cases l with
 | nil => simp [dec1] at h
 | cons a l =>
  unfold dec1 at h
  simp only [] at h
  split at h
  ·rename_i ha
   have ha' : a = 92 := UInt8.toNat_inj.1 ha
   subst ha'
   cases l with
   | nil => simp at h
   | cons d l =>
    simp only [] at h
    split at h
    ·rename_i hd
     simp only [Option.some.injEq,Prod.mk.injEq] at h
     obtain ⟨rfl,rfl⟩ := h
     rw [oneL,if_pos (by omega)]; rfl
    ·split at h
     ·rename_i hd1 hd2
      simp only [Option.some.injEq,Prod.mk.injEq] at h
      obtain ⟨rfl,rfl⟩ := h
      have : d = 110 := UInt8.toNat_inj.1 hd2
      subst this; rfl
     ·split at h
      ·rename_i hd1 hd2 hd3
       have : d = 120 := UInt8.toNat_inj.1 hd3
       subst this
       match l,h with
       | [],h => simp at h
       | [_],h => simp at h
       | x :: y :: l,h =>
        simp only [] at h
        cases hx : hexI x with
        | none => rw [hx] at h; simp at h
        | some i =>
         cases hy : hexI y with
         | none => rw [hx,hy] at h; simp at h
         | some j =>
          rw [hx,hy] at h
          simp only [] at h
          obtain ⟨hi,hi'⟩ := hexI_some hx
          obtain ⟨hj,hj'⟩ := hexI_some hy
          split at h
          ·cases h
          ·rename_i hn
           simp only [Option.some.injEq,Prod.mk.injEq] at h
           obtain ⟨rfl,rfl⟩ := h
           have ht : (UInt8.ofNat (16 * i + j)).toNat = 16 * i + j := by rw [UInt8.toNat_ofNat']; omega
           rw [plainB_iff,ht] at hn
           rw [oneL,ht,if_neg (by omega),if_neg (by omega),if_pos (by omega)]
           have e1 : (16 * i + j) / 16 = i := by omega
           have e2 : (16 * i + j) % 16 = j := by omega
           rw [e1,e2,hi',hj']; rfl
      ·cases h
  ·split at h
   ·rename_i h1 h2
    simp only [Option.some.injEq,Prod.mk.injEq] at h
    obtain ⟨rfl,rfl⟩ := h
    have h2' := plainB_iff.1 h2
    rw [oneL,if_neg (by omega),if_neg (by omega),if_neg (by omega)]; rfl
   ·cases h
theorem quoteL_len (s : List UInt8) : 2 ≤ (quoteL s).length ∧ (quoteL s).length ≤ 4 * s.length + 2 := by
 have := flat_len s
 simp only [quoteL,List.length_append,List.length_cons,List.length_nil]
 omega
end Go.Proofs.YtfeknkaioofljaaGreatDoor
