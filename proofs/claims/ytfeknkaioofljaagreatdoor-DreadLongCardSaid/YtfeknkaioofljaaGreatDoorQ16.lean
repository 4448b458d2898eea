/-
 The reader's least steps. Own work.
-/
import Derived.Test.YtfeknkaioofljaaGreatDoorQ15
import Derived.Test.YtfeknkaioofljaaGreatDoorQ4
import Derived.Test.YtfeknkaioofljaaGreatDoorQ2
set_option linter.all false
set_option maxHeartbeats 4000000
set_option maxRecDepth 4000
namespace Go.Proofs.YtfeknkaioofljaaGreatDoor
open Go.Aw Go.RowKit Tree
open Lx (Tok)
theorem AVle.agg {es bs : List AV} (h : AVleL es bs) (h1 : ∀ c ∈ bs,c.one = true) : AVle (.agg es) (.agg bs) := by
 intro K v hv
 cases hv with
 | agg _ hl h' =>
  have := h.rel (K := K) ⟨hl,h'⟩
  exact .agg h1 this.1 this.2
theorem leU {op : Int} {s : List UInt8} {n : Int} {z : Nat} {t : Tk} : AVle (.agg [.int .i64 op, .str s, .int .i64 n, .sl z [] t]) (encU (.mk op s n [])) :=
 AVle.agg (bs := [.int .i64 op, .str s, .int .i64 n, .sl 4 [] .no]) ⟨AVle.refl _,AVle.refl _,AVle.refl _,AVle.nil,trivial⟩ (by intro c hc; simp only [List.mem_cons,List.not_mem_nil,or_false] at hc; rcases hc with rfl | rfl | rfl | rfl <;> rfl)
theorem le2 {a a' b : AV} (h : AVle a a') : AVle (.tup [a,b]) (.tup [a',b]) := AVle.tup ⟨h,AVle.refl _,trivial⟩
def RD (rp : Nat) (L ts : List Tok) : En := .cells rp [.sl 3 (L.map Lx.encT) .no, .int .i64 ((L.length - ts.length : Nat) : Int)]
def faultE (q : Int × Int) : AV := .ifc 73 (.agg [.int .i64 q.1, .int .i64 q.2])
def QT (rp : Nat) (L : List Tok) {α : Type} (enc : α → AV) (res : PR α) (r : AV) (e : En) : Prop := match res with
 | .ok (v,ts) => r = .tup [enc v, .nilif] ∧ e = RD rp L ts
 | .error q => ∃ v ts,r = .tup [enc v,faultE q] ∧ ts <:+ L ∧ e = RD rp L ts
def QE (rp : Nat) (L : List Tok) {α : Type} (res : PR α) (r : AV) (e : En) : Prop := match res with
 | .ok (_,ts) => r = .nilif ∧ e = RD rp L ts
 | .error q => ∃ ts,r = faultE q ∧ ts <:+ L ∧ e = RD rp L ts
theorem set_perm {α : Type} {l : List α} {i : Nat} {x y : α} (h : l[i]? = some x) : (y :: l.eraseIdx i).Perm (l.set i y) := by
 induction l generalizing i with
 | nil => simp at h
 | cons a l ih =>
  cases i with
  | zero => exact List.Perm.refl _
  | succ i =>
   rw [List.eraseIdx_cons_succ,List.set_cons_succ]
   exact (List.Perm.swap a y _).trans ((ih (by simpa using h)).cons a)
theorem ACall_drop {f : FuncId} {args : List AV} {S S' : List En} {k : AV → List En → Prop} (hS : SLe S S') (hc : ACall Tryz.prog f args S' k) : ACall Tryz.prog f args S k := by
 unfold ACall at hc ⊢
 exact fun w0 K w vs hv h => hc w0 K w vs hv (hS _ _ _ h)
theorem ACall_at {f : FuncId} {args : List AV} {S : List En} {e : En} {Q : AV → En → Prop} (p : Nat) (hp : S[p]? = some e) (hc : ACall Tryz.prog f args (e :: S.eraseIdx p) (fun r S' => ∃ e',S' = e' :: S.eraseIdx p ∧ Q r e')) : ACall Tryz.prog f args S (fun r S' => ∃ e',S' = S.set p e' ∧ Q r e') := by
 unfold ACall at hc ⊢
 intro w0 K w vs hv hS
 refine CallsIn.mono (hc w0 K w vs hv (hS.perm (erase_perm hp))) ?_
 rintro x w' ⟨v1,K',av,S',h1,h2,h3,h4,e',rfl,h5⟩
 exact ⟨v1,K',av,_,h1,h2,h3,h4.perm (set_perm hp).symm,e',rfl,h5⟩
theorem ACall_same {f : FuncId} {args : List AV} {S : List En} {e : En} {v : AV} (p : Nat) (hp : S[p]? = some e) (hc : ∀ R,ACall Tryz.prog f args (e :: R) (fun r S' => r = v ∧ S' = e :: R)) : ACall Tryz.prog f args S (fun r S' => r = v ∧ S' = S) := by
 have h := hc (S.eraseIdx p)
 unfold ACall at h ⊢
 intro w0 K w vs hv hS
 refine CallsIn.mono (h w0 K w vs hv (hS.perm (erase_perm hp))) ?_
 rintro x w' ⟨v1,K',av,S',h1,h2,h3,h4,rfl,rfl⟩
 exact ⟨v1,K',_,S,h1,h2,h3,h4.perm (erase_perm hp).symm,rfl,rfl⟩
theorem RD_get {L ts : List Tok} (h : ts <:+ L) (n : Nat) : L[L.length - ts.length + n]? = ts[n]? := by
 obtain ⟨p,rfl⟩ := h
 rw [List.length_append,Nat.add_sub_cancel,List.getElem?_append_right (by omega)]; congr 1; omega
theorem RD_tail {rp : Nat} {L ts : List Tok} (h : ts <:+ L) (hn : ts ≠ []) (hL : L.length ≤ 20000) : (.int .i64 (IntKind.i64.wrap (((L.length - ts.length : Nat) : Int) + 1)) : AV) = .int .i64 ((L.length - ts.tail.length : Nat) : Int) := by
 have := h.length_le
 have h0 : 0 < ts.length := List.length_pos_iff.2 hn
 rw [wrap_i64 (by omega),List.length_tail]; congr 1; omega
theorem isSign_ok (t : Tok) (s : List UInt8) (R : List En) : ACall Tryz.prog 137 [Lx.encT t, .str s] R (fun r S => r = .bool (signB t s) ∧ S = R) := by
 refine ACall_body tab_ok Tryz.func137 rfl rfl rfl (by kernel_rfl) (nb_ rfl) ?_
 repeat first|refine go_ ?_|intro _
 by_cases hk : t.kind = 4
 ·refine known_true (b := decide (t.kind = 4)) (by exact decide_eq_true hk) ?_
  repeat first|refine ga_ ?_|intro _
  refine AW_ret ?_
  repeat refine mk_ ?_
  refine ⟨_,R,AVle.eq ?_,sle_,rfl,rfl⟩
  rw [signB,decide_eq_true hk]; rfl
 ·refine known_false (b := decide (t.kind = 4)) (by exact decide_eq_false hk) ?_
  repeat first|refine ga_ ?_|intro _
  refine AW_ret ?_
  repeat refine mk_ ?_
  refine ⟨_,R,AVle.eq ?_,sle_,rfl,rfl⟩
  rw [signB,decide_eq_false hk]; rfl
theorem isName_ok (t : Tok) (R : List En) : ACall Tryz.prog 99 [Lx.encT t] R (fun r S => r = .bool (nameT t) ∧ S = R) := by
 refine ACall_body tab_ok Tryz.func99 rfl rfl rfl (by kernel_rfl) (nb_ rfl) ?_
 repeat first|refine go_ ?_|intro _
 by_cases hk : t.kind = 1
 ·refine known_true (b := decide (t.kind = 1)) (by exact decide_eq_true hk) ?_
  repeat first|refine ga_ ?_|intro _
  refine AW_ret ?_
  repeat refine mk_ ?_
  refine ⟨_,R,AVle.eq ?_,sle_,rfl,rfl⟩
  rw [nameT,decide_eq_true hk]; rfl
 ·refine known_false (b := decide (t.kind = 1)) (by exact decide_eq_false hk) ?_
  repeat first|refine ga_ ?_|intro _
  refine AW_ret ?_
  repeat refine mk_ ?_
  refine ⟨_,R,AVle.eq ?_,sle_,rfl,rfl⟩
  rw [nameT,decide_eq_false hk]; rfl
theorem ahead_ok (rp : Nat) (L ts : List Tok) (n : Nat) (h : ts <:+ L) (hL : L.length ≤ 20000) (hn : n ≤ 10) (R : List En) : ACall Tryz.prog 51 [.ptr rp 0, .int .i64 (n : Nat)] (RD rp L ts :: R) (fun r S => r = Lx.encT (hd ts n) ∧ S = RD rp L ts :: R) := by
 have hl := h.length_le
 have hg := RD_get h n
 have hw : IntKind.i64.wrap (((L.length - ts.length : Nat) : Int) + (n : Nat)) = ((L.length - ts.length + n : Nat) : Int) := by rw [wrap_i64 (by omega)]; omega
 unfold RD
 refine ACall_body tab_ok Tryz.func51 rfl rfl rfl (by kernel_rfl) (nb_ rfl) ?_
 repeat first|refine go_ ?_|intro _
 rename_i b4
 refine AW_draw tab_ok mixed 12 (by first | rfl | kernel_rfl) ?_
 repeat first|refine go_ ?_|intro _
 by_cases hlt : L.length - ts.length + n < L.length
 ·refine AW_true (b := decide (IntKind.i64.wrap (((L.length - ts.length : Nat) : Int) + (n : Nat)) < ((L.map Lx.encT).length : Nat))) rfl (by rw [hw,List.length_map]; exact decide_eq_true (by omega)) ?_
  have hgm : (L.map Lx.encT)[L.length - ts.length + n]? = some (Lx.encT (hd ts n)) := by
   rw [List.getElem?_map,hg,hd]
   rw [List.getElem?_eq_getElem hlt] at hg
   rw [← hg]; rfl
  repeat first|refine go_ ?_|intro _
  refine AW_draw tab_ok mixed 12 (by first | rfl | kernel_rfl) ?_
  repeat first|refine go_ ?_|intro _
  refine at_get (L.length - ts.length + n) (Lx.encT (hd ts n)) hw hgm ?_
  repeat first|refine go_ ?_|intro _
  refine AW_ret ?_
  repeat refine mk_ ?_
  refine ⟨rfl,0,_,rfl,⟨nb_ rfl,nb_ rfl⟩,_,RD rp L ts :: R,AVle.eq ?_,sle_,rfl,rfl⟩
  rfl
 ·refine AW_false (b := decide (IntKind.i64.wrap (((L.length - ts.length : Nat) : Int) + (n : Nat)) < ((L.map Lx.encT).length : Nat))) rfl (by rw [hw,List.length_map]; exact decide_eq_false (by omega)) ?_
  have hz : hd ts n = ⟨0, [],0⟩ := by
   rw [hd, ← hg,List.getElem?_eq_none (by omega)]; rfl
  repeat first|refine go_ ?_|intro _
  refine AW_ret ?_
  repeat refine mk_ ?_
  refine ⟨rfl,0,_,rfl,⟨nb_ rfl,nb_ rfl⟩,_,RD rp L ts :: R,AVle.eq ?_,sle_,rfl,rfl⟩
  rw [hz]; rfl
theorem RD_next {rp : Nat} {L ts : List Tok} (h : ts <:+ L) (hn : ts ≠ []) (hL : L.length ≤ 20000) : En.cells rp [.sl 3 (L.map Lx.encT) .no, .int .i64 (IntKind.i64.wrap (((L.length - ts.length : Nat) : Int) + 1))] = RD rp L ts.tail := by
 rw [RD,RD_tail (rp := rp) h hn hL]
theorem hd_ne {ts : List Tok} (h : (hd ts 0).kind ≠ 0) : ts ≠ [] := by rintro rfl; exact h rfl
theorem stop_ok (rp : Nat) (L ts : List Tok) (h : ts <:+ L) (hL : L.length ≤ 20000) (R : List En) : ACall Tryz.prog 98 [.ptr rp 0] (RD rp L ts :: R) (fun r S => r = faultE (40,(hd ts 0).line) ∧ S = RD rp L ts :: R) := by
 refine ACall_body tab_ok Tryz.func98 rfl rfl rfl (by kernel_rfl) (nb_ rfl) ?_
 repeat first|refine go_ ?_|intro _
 refine Or.inl ⟨⟨_,Tryz.func51,rfl,rfl⟩,ACall.mono ?_ (ACall_same 0 rfl (ahead_ok rp L ts 0 h hL (by decide)))⟩
 rintro _ S1 ⟨rfl,hS1⟩
 subst S1
 repeat first|refine go_ ?_|intro _
 refine AW_ret ?_
 repeat refine mk_ ?_
 refine ⟨_,RD rp L ts :: R,AVle.eq ?_,sle_,rfl,rfl⟩
 rfl
theorem takes_ok (rp : Nat) (L ts : List Tok) (s : List UInt8) (h : ts <:+ L) (hL : L.length ≤ 20000) (R : List En) : ACall Tryz.prog 102 [.ptr rp 0, .str s] (RD rp L ts :: R) (fun r S => r = .bool (takesL s ts).isSome ∧ S = RD rp L ((takesL s ts).getD ts) :: R) := by
 refine ACall_body tab_ok Tryz.func102 rfl rfl rfl (by kernel_rfl) (nb_ rfl) ?_
 repeat first|refine go_ ?_|intro _
 refine Or.inl ⟨⟨_,Tryz.func51,rfl,rfl⟩,ACall.mono ?_ (ACall_same 0 rfl (ahead_ok rp L ts 0 h hL (by decide)))⟩
 rintro _ S1 ⟨rfl,hS1⟩
 subst S1
 repeat first|refine go_ ?_|intro _
 refine Or.inl ⟨⟨_,Tryz.func137,rfl,rfl⟩,ACall.mono ?_ (isSign_ok (hd ts 0) s _)⟩
 rintro _ S1 ⟨rfl,hS1⟩
 subst S1
 repeat first|refine go_ ?_|intro _
 by_cases hs : signB (hd ts 0) s = true
 ·have hk : (hd ts 0).kind = 4 := by rw [signB,Bool.and_eq_true,decide_eq_true_eq] at hs; exact hs.1
  have hne := hd_ne (ts := ts) (by rw [hk]; decide)
  have ht : takesL s ts = some ts.tail := by
   cases ts with
   | nil => exact absurd rfl hne
   | cons t ts => exact if_pos hs
  refine AW_false (b := !signB (hd ts 0) s) rfl (by rw [hs]; rfl) ?_
  repeat first|refine go_ ?_|intro _
  refine AW_ret ?_
  refine ⟨_,RD rp L ts.tail :: R,AVle.refl _,SLe.of_eq (congrArg (· :: R) (RD_next h hne hL)),?_⟩
  rw [ht]; exact ⟨rfl,rfl⟩
 ·have hs' : signB (hd ts 0) s = false := by simpa using hs
  have ht : takesL s ts = none := by
   cases ts with
   | nil => rfl
   | cons t ts => exact if_neg hs
  refine AW_true (b := !signB (hd ts 0) s) rfl (by rw [hs']; rfl) ?_
  repeat first|refine go_ ?_|intro _
  refine AW_ret ?_
  refine ⟨_,RD rp L ts :: R,AVle.refl _,SLe.rfl,?_⟩
  rw [ht]; exact ⟨rfl,rfl⟩
theorem must_ok (rp : Nat) (L ts : List Tok) (s : List UInt8) (h : ts <:+ L) (hL : L.length ≤ 20000) (R : List En) : ACall Tryz.prog 105 [.ptr rp 0, .str s] (RD rp L ts :: R) (fun r S => ∃ e,S = e :: R ∧ QE rp L (mustL s ts) r e) := by
 refine ACall_body tab_ok Tryz.func105 rfl rfl rfl (by kernel_rfl) (nb_ rfl) ?_
 repeat first|refine go_ ?_|intro _
 refine Or.inl ⟨⟨_,Tryz.func102,rfl,rfl⟩,ACall.mono ?_ (takes_ok rp L ts s h hL R)⟩
 rintro _ S1 ⟨rfl,hS1⟩
 subst S1
 repeat first|refine go_ ?_|intro _
 cases ht : takesL s ts with
 | some r =>
  repeat first|refine ga_ ?_|intro _
  refine AW_ret ?_
  refine ⟨_,RD rp L r :: R,AVle.refl _,SLe.rfl,_,rfl,?_⟩
  rw [mustL,ht]; exact ⟨rfl,rfl⟩
 | none =>
  repeat first|refine ga_ ?_|intro _
  refine Or.inl ⟨⟨_,Tryz.func98,rfl,rfl⟩,ACall.mono ?_ (stop_ok rp L ts h hL R)⟩
  rintro _ S1 ⟨rfl,hS1⟩
  subst S1
  repeat first|refine go_ ?_|intro _
  refine AW_ret ?_
  refine ⟨_,RD rp L ts :: R,AVle.refl _,SLe.rfl,_,rfl,?_⟩
  rw [mustL,ht]; exact ⟨ts,rfl,h,rfl⟩
theorem rName_ok (rp : Nat) (L ts : List Tok) (h : ts <:+ L) (hL : L.length ≤ 20000) (R : List En) : ACall Tryz.prog 92 [.ptr rp 0] (RD rp L ts :: R) (fun r S => ∃ e,S = e :: R ∧ QT rp L AV.str (nameP ts) r e) := by
 refine ACall_body tab_ok Tryz.func92 rfl rfl rfl (by kernel_rfl) (nb_ rfl) ?_
 repeat first|refine go_ ?_|intro _
 refine Or.inl ⟨⟨_,Tryz.func51,rfl,rfl⟩,ACall.mono ?_ (ACall_same 0 rfl (ahead_ok rp L ts 0 h hL (by decide)))⟩
 rintro _ S1 ⟨rfl,hS1⟩
 subst S1
 repeat first|refine go_ ?_|intro _
 rename_i b4
 refine Or.inl ⟨⟨_,Tryz.func99,rfl,rfl⟩,ACall.mono ?_ (isName_ok (hd ts 0) _)⟩
 rintro _ S1 ⟨rfl,hS1⟩
 subst S1
 repeat first|refine go_ ?_|intro _
 by_cases hs : nameT (hd ts 0) = true
 ·have hne := hd_ne (ts := ts) (by rw [name_kind hs]; decide)
  refine AW_false (b := !nameT (hd ts 0)) rfl (by rw [hs]; rfl) ?_
  repeat first|refine go_ ?_|intro _
  refine AW_ret ?_
  refine ⟨_,RD rp L ts.tail :: R,AVle.refl _,SLe.tail (SLe.of_eq (congrArg (· :: R) (RD_next h hne hL))),_,rfl,?_⟩
  rw [nameP,if_pos hs]; exact ⟨rfl,rfl⟩
 ·have hs' : nameT (hd ts 0) = false := by simpa using hs
  refine AW_true (b := !nameT (hd ts 0)) rfl (by rw [hs']; rfl) ?_
  repeat first|refine go_ ?_|intro _
  refine Or.inl ⟨⟨_,Tryz.func98,rfl,rfl⟩,ACall.mono ?_ (ACall_same 1 rfl (stop_ok rp L ts h hL))⟩
  rintro _ S1 ⟨rfl,hS1⟩
  subst S1
  repeat first|refine go_ ?_|intro _
  refine AW_ret ?_
  refine ⟨_,RD rp L ts :: R,AVle.refl _,SLe.tail SLe.rfl,_,rfl,?_⟩
  rw [nameP,if_neg hs]; exact ⟨[],ts,rfl,h,rfl⟩
theorem pi_pn {s : List UInt8} (h : (pnL s).2 = 0) : piAV s = .tup [.int .i64 (pnL s).1, .nilif] := by
 unfold pnL at h ⊢
 unfold piAV
 cases hp : Lib.parseIntB 64 s with
 | ok n =>
  rw [hp] at h
  simp only [] at h ⊢
  split at h
  ·rename_i he
   rw [if_pos he]
  ·cases h
 | _ => rw [hp] at h; cases h
def NumT (L : List Tok) : Prop := ∀ t ∈ L,t.kind = 2 → (pnL t.s).2 = 0 ∧ t.s.length ≤ 100
theorem NumT.hd {L ts : List Tok} (h : NumT L) (hs : ts <:+ L) (hk : (hd ts 0).kind = 2) : (pnL (Go.Proofs.YtfeknkaioofljaaGreatDoor.hd ts 0).s).2 = 0 ∧ (Go.Proofs.YtfeknkaioofljaaGreatDoor.hd ts 0).s.length ≤ 100 := by
 have hl := hd_kind (ts := ts) (n := 0) (by rw [hk]; decide)
 have : Go.Proofs.YtfeknkaioofljaaGreatDoor.hd ts 0 ∈ L := by rw [hd_get hl]; exact hs.subset (List.getElem_mem hl)
 exact h _ this hk
theorem rNum_ok (rp : Nat) (L ts : List Tok) (z : Int) (h : ts <:+ L) (hL : L.length ≤ 20000) (hN : NumT L) (R : List En) (hG : NumG R) : ACall Tryz.prog 204 [.ptr rp 0, .int .i64 z] (RD rp L ts :: R) (fun r S => ∃ e,S = e :: R ∧ QT rp L encU (numL z ts) r e) := by
 refine ACall_body tab_ok Tryz.func204 rfl rfl rfl (by kernel_rfl) (nb_ rfl) ?_
 repeat first|refine go_ ?_|intro _
 rename_i b4
 refine Or.inl ⟨⟨_,Tryz.func51,rfl,rfl⟩,ACall.mono ?_ (ACall_same 1 rfl (ahead_ok rp L ts 0 h hL (by decide)))⟩
 rintro _ S1 ⟨rfl,hS1⟩
 subst S1
 repeat first|refine go_ ?_|intro _
 rename_i b6
 by_cases hk : (hd ts 0).kind = 2
 ·obtain ⟨hp,hpl⟩ := hN.hd h hk
  have hne := hd_ne (ts := ts) (by rw [hk]; decide)
  refine AW_false (b := !decide ((hd ts 0).kind = 2)) rfl (by rw [hk]; rfl) ?_
  repeat first|refine go_ ?_|intro _
  refine Or.inl ⟨⟨_,Tryz.func160,rfl,rfl⟩,ACall.mono ?_ (parseInt_ok (hd ts 0).s _ hG.cons.cons.cons (by omega))⟩
  rintro _ S1 ⟨rfl,hS1⟩
  subst S1
  rw [pi_pn hp]
  repeat first|refine go_ ?_|intro _
  refine AW_ret ?_
  refine ⟨rfl,1,_,rfl,⟨nb_ rfl,nb_ rfl⟩, .tup [encU (.mk 2 [] (IntKind.i64.wrap (z * (pnL (hd ts 0).s).1)) []), .nilif],RD rp L ts.tail :: R,le2 leU,SLe.tail (SLe.tail (SLe.of_eq (congrArg (· :: R) (RD_next h hne hL)))),_,rfl,?_⟩
  rw [numL,if_pos hk]; exact ⟨rfl,rfl⟩
 ·refine AW_true (b := !decide ((hd ts 0).kind = 2)) rfl (by rw [decide_eq_false hk]; rfl) ?_
  repeat first|refine go_ ?_|intro _
  refine Or.inl ⟨⟨_,Tryz.func98,rfl,rfl⟩,ACall.mono ?_ (ACall_same 2 rfl (stop_ok rp L ts h hL))⟩
  rintro _ S1 ⟨rfl,hS1⟩
  subst S1
  repeat first|refine go_ ?_|intro _
  refine AW_ret ?_
  refine ⟨rfl,1,_,rfl,⟨nb_ rfl,nb_ rfl⟩, .tup [encU zeroT,faultE (40,(hd ts 0).line)],RD rp L ts :: R,le2 leU,sle_,_,rfl,?_⟩
  rw [numL,if_neg hk]; exact ⟨zeroT,ts,rfl,h,rfl⟩
theorem zero_int : zeroIs Tryz.prog 3 (.int .i64 0) := by
 obtain ⟨x,h1,h2⟩ := Option.map_eq_some_iff.1 (show ((Tryz.prog).info? 3).map (·.zero) = some (some (.int .i64 0)) by kernel_rfl)
 exact ⟨by simp [IntKind.has,IntKind.min,IntKind.max,IntKind.bits,IntKind.signed],x,h1,h2⟩
def errO : Option (Int × Int) → AV
 | none => .nilif
 | some q => faultE q
def ResO {α : Type} (res : PR α) (v : α) (ts : List Tok) : Option (Int × Int) → Prop
 | none => res = .ok (v,ts)
 | some q => res = .error q
def muO (n : Nat) : Option (Int × Int) → Nat
 | none => n + 1
 | some _ => 0
theorem QT.cases {rp : Nat} {L : List Tok} {α : Type} {enc : α → AV} {res : PR α} {r : AV} {e : En} (h : QT rp L enc res r e) (hs : ∀ v ts,res = .ok (v,ts) → ts <:+ L) : ∃ v ts o,r = .tup [enc v,errO o] ∧ ts <:+ L ∧ e = RD rp L ts ∧ ResO res v ts o := by
 cases res with
 | error q =>
  obtain ⟨v,ts,h1,h2,h3⟩ := h
  exact ⟨v,ts,some q,h1,h2,h3,rfl⟩
 | ok x =>
  obtain ⟨v,ts⟩ := x
  obtain ⟨h1,h2⟩ := h
  exact ⟨v,ts,none,h1,hs v ts rfl,h2,rfl⟩
theorem QT.of {rp : Nat} {L : List Tok} {α : Type} {enc : α → AV} {res : PR α} {v : α} {ts : List Tok} {o : Option (Int × Int)} (hs : ts <:+ L) (h : ResO res v ts o) : QT rp L enc res (.tup [enc v,errO o]) (RD rp L ts) := by
 cases o with
 | none => rw [show res = .ok (v,ts) from h]; exact ⟨rfl,rfl⟩
 | some q => rw [show res = .error q from h]; exact ⟨v,ts,rfl,hs,rfl⟩
theorem QE.cases {rp : Nat} {L : List Tok} {α : Type} {res : PR α} {r : AV} {e : En} (h : QE rp L res r e) (hs : ∀ v ts,res = .ok (v,ts) → ts <:+ L) : ∃ ts o,r = errO o ∧ ts <:+ L ∧ e = RD rp L ts ∧ (match o with | none => ∃ v,res = .ok (v,ts) | some q => res = .error q) := by
 cases res with
 | error q =>
  obtain ⟨ts,h1,h2,h3⟩ := h
  exact ⟨ts,some q,h1,h2,h3,rfl⟩
 | ok x =>
  obtain ⟨v,ts⟩ := x
  obtain ⟨h1,h2⟩ := h
  exact ⟨ts,none,h1,hs v ts rfl,h2,v,rfl⟩
def PartOk (rp : Nat) (L : List Tok) (g : FuncId) (part : List Tok → PR T) (n : Nat) : Prop := fnOk Tryz.prog g ∧ ∀ (ts : List Tok) (R : List En),ts <:+ L → ts.length ≤ n → NumG R → ACall Tryz.prog g [.ptr rp 0] (RD rp L ts :: R) (fun r S => ∃ e,S = e :: R ∧ QT rp L encU (part ts) r e)
def OpsOk (M : List (List UInt8 × AV)) (ops : List UInt8 → Int) : Prop := ∀ s, ∃ b,mget s (.int .i64 0) M = (.int .i64 (ops s),b)
theorem leC {op : Int} {x y : T} : AVleL [.int .i64 op, .str [], .int .i64 0, .sl 4 [encU x,encU y] .full] (cT (.mk op [] 0 [x,y])) :=
 ⟨AVle.refl _,AVle.refl _,AVle.refl _,AVle.slEq (by show _ = encTs [x,y]; rw [encTs_map]; rfl),trivial⟩
def ChainI (n : Nat) (part : List Tok → PR T) (ops : List UInt8 → Int) (res : PR T) (x : T) (ts : List Tok) : Option (Int × Int) → Prop
 | none => ts.length ≤ n ∧ ∃ k,ts.length ≤ k ∧ res = chainGo part ops k x ts
 | some q => res = .error q
theorem chain_ok (rp : Nat) (L : List Tok) (hL : L.length ≤ 20000) (g : FuncId) (part : List Tok → PR T) (n : Nat) (hp : PartOk rp L g part n) (he : Eats part) (ops : List UInt8 → Int) (M : List (List UInt8 × AV)) (hM : OpsOk M ops) (mb : Nat) (ts : List Tok) (h : ts <:+ L) (hn : ts.length ≤ n) (R : List En) (hG : NumG R) :
  ACall Tryz.prog 178 [.ptr rp 0, .fn (.func g) [.ptr rp 0] [], .map mb] (RD rp L ts :: .map mb (mkM M) :: R) (fun r S => ∃ e,S = e :: .map mb (mkM M) :: R ∧ QT rp L encU (chainL part ops ts) r e) := by
 obtain ⟨hf,hp⟩ := hp
 have hsuf : ∀ ts',ts' <:+ L → ∀ v r,part ts' = .ok (v,r) → r <:+ L := fun ts' h1 v r h2 => (he _ _ _ h2).1.trans h1
 refine ACall_body tab_ok Tryz.func178 rfl rfl rfl (by kernel_rfl) (nb_ rfl) ?_
 repeat first|refine go_ ?_|intro _
 rename_i b6
 refine Or.inl ⟨hf,ACall.mono ?_ (ACall_at 1 rfl (hp ts _ h hn hG.cons.cons))⟩
 rintro _ S1 ⟨e,hS1,hq⟩
 subst S1
 obtain ⟨x,ts1,o,rfl,hs1,rfl,ho⟩ := hq.cases (hsuf ts h)
 repeat first|refine go_ ?_|intro _
 rename_i b8
 refine AW_for (α := T × List Tok × Option (Int × Int)) (fun z => ⟨[(0, .ptr rp 0),(1, .fn (.func g) [.ptr rp 0] []),(2, .map mb),(6, .ptr b6 0),(8, .ptr b8 0),(9,errO z.2.2)], []⟩) (fun z => .cells b8 (cT z.1) :: .cells b6 [.int .i64 0, .str [], .int .i64 0, .sl 0 [] .full] :: RD rp L z.2.1 :: .map mb (mkM M) :: R) (fun z => muO z.2.1.length z.2.2) (fun z => z.2.1 <:+ L ∧ ChainI n part ops (chainL part ops ts) z.1 z.2.1 z.2.2) ((x,ts1,o)) ?_ (weak_of ?_ rfl ?_) (fun z hz => ?_)
 ·refine ⟨hs1,?_⟩
  cases o with
  | none =>
   have ho : part ts = .ok (x,ts1) := ho
   exact ⟨Nat.le_trans (Nat.le_of_lt (he _ _ _ ho).2) hn,ts1.length,Nat.le_refl _,by rw [chainL,ho]⟩
  | some q =>
   have ho : part ts = .error q := ho
   show chainL part ops ts = .error q
   rw [chainL,ho]
 ·exact e_
 ·exact l_
 obtain ⟨x,ts2,o⟩ := z
 obtain ⟨i1,i3⟩ : ts2 <:+ L ∧ ChainI n part ops (chainL part ops ts) x ts2 o := hz
 show AW _ _ _ _ ⟨[(0, .ptr rp 0),(1, .fn (.func g) [.ptr rp 0] []),(2, .map mb),(6, .ptr b6 0),(8, .ptr b8 0),(9,errO o)], []⟩ (.cells b8 (cT x) :: .cells b6 [.int .i64 0, .str [], .int .i64 0, .sl 0 [] .full] :: RD rp L ts2 :: .map mb (mkM M) :: R) _
 cases o with
 | some q =>
  have i3 : chainL part ops ts = .error q := i3
  repeat first|refine ga_ ?_|intro _
  refine AW_ret ?_
  refine ⟨rfl,1,_,rfl,⟨nb_ rfl,nb_ rfl⟩, .tup [encU zeroT,errO (some q)],RD rp L ts2 :: .map mb (mkM M) :: R,le2 leU,sle_,_,rfl,?_⟩
  exact QT.of (v := zeroT) (ts := ts2) (o := some q) i1 (by rw [i3]; rfl)
 | none =>
 obtain ⟨i2,k,hk,i3⟩ : ts2.length ≤ n ∧ ∃ k,ts2.length ≤ k ∧ chainL part ops ts = chainGo part ops k x ts2 := i3
 repeat first|refine ga_ ?_|intro _
 refine Or.inl ⟨⟨_,Tryz.func51,rfl,rfl⟩,ACall.mono ?_ (ACall_same 2 rfl (ahead_ok rp L ts2 0 i1 hL (by decide)))⟩
 rintro _ S1 ⟨rfl,hS1⟩
 subst S1
 repeat first|refine gr_ ?_|intro _
 rename_i b10
 obtain ⟨mbb,hmg⟩ := hM (hd ts2 0).s
 refine AW_weak (weak_of (l := [(0, .ptr rp 0),(1, .fn (.func g) [.ptr rp 0] []),(2, .map mb),(6, .ptr b6 0),(8, .ptr b8 0),(9, .nilif),(10, .ptr b10 0)]) (m := []) (S' := .cells b10 [.int .i64 (hd ts2 0).kind, .str (hd ts2 0).s, .int .i64 (hd ts2 0).line] :: .cells b8 (cT x) :: .cells b6 [.int .i64 0, .str [], .int .i64 0, .sl 0 [] .full] :: RD rp L ts2 :: .map mb (mkM M) :: R) e_ rfl w_) ?_
 repeat first|refine go_ ?_|intro _
 refine ⟨_,_,_,4,_,rfl,rfl,zero_int,rfl,(.int .i64 (ops (hd ts2 0).s),mbb),hmg,?_⟩
 repeat first|refine go_ ?_|intro _
 have hstop : ¬ ((hd ts2 0).kind = 4 ∧ ops (hd ts2 0).s ≠ 0) → chainGo part ops k x ts2 = .ok (x,ts2) := fun hno => by
  cases k with
  | zero => rfl
  | succ k => rw [chainGo,if_neg hno]
 by_cases hkind : (hd ts2 0).kind = 4
 rotate_left
 ·refine known_true (b := !decide ((hd ts2 0).kind = 4)) (by rw [decide_eq_false hkind]; rfl) ?_
  repeat first|refine ga_ ?_|intro _
  refine AW_ret ?_
  refine ⟨rfl,2,_,rfl,⟨nb_ rfl,nb_ rfl⟩, .tup [encU x,errO none],RD rp L ts2 :: .map mb (mkM M) :: R,AVle.refl _,sle_,_,rfl,?_⟩
  exact QT.of (o := none) i1 (by rw [i3]; exact hstop fun hh => hkind hh.1)
 refine known_false (b := !decide ((hd ts2 0).kind = 4)) (by rw [hkind]; rfl) ?_
 repeat first|refine ga_ ?_|intro _
 by_cases hop : ops (hd ts2 0).s = 0
 ·refine AW_true (b := decide (ops (hd ts2 0).s = 0)) rfl (by exact decide_eq_true hop) ?_
  repeat first|refine ga_ ?_|intro _
  refine AW_ret ?_
  refine ⟨rfl,2,_,rfl,⟨nb_ rfl,nb_ rfl⟩, .tup [encU x,errO none],RD rp L ts2 :: .map mb (mkM M) :: R,AVle.refl _,sle_,_,rfl,?_⟩
  exact QT.of (o := none) i1 (by rw [i3]; exact hstop fun hh => hh.2 hop)
 refine AW_false (b := decide (ops (hd ts2 0).s = 0)) rfl (by exact decide_eq_false hop) ?_
 have hne := hd_ne (ts := ts2) (by rw [hkind]; decide)
 have hgo : ∃ k',k = k' + 1 ∧ chainGo part ops k x ts2 = (match part ts2.tail with | .error e => .error e | .ok (y,r) => if x.op = 3 ∨ y.op = 3 then .error (40,(hd ts2 0).line) else chainGo part ops k' (.mk (ops (hd ts2 0).s) [] 0 [x,y]) r) := by
  cases k with
  | zero => exact absurd (List.length_eq_zero_iff.1 (Nat.le_zero.1 hk)) hne
  | succ k' => exact ⟨k',rfl,by rw [chainGo,if_pos ⟨hkind,hop⟩]; rfl⟩
 obtain ⟨k',hk',hgo⟩ := hgo
 rw [hgo] at i3
 have htl := tail_len (ts := ts2) (by rw [hkind]; decide)
 have hts : ts2.tail <:+ L := tail_suf.trans i1
 repeat refine rg_ ?_
 refine AW_region tab_ok ?_
 repeat first|refine gr_ ?_|intro _
 refine AW_weak (weak_of (l := [(0, .ptr rp 0),(1, .fn (.func g) [.ptr rp 0] []),(2, .map mb),(6, .ptr b6 0),(8, .ptr b8 0),(10, .ptr b10 0),(11, .int .i64 (ops (hd ts2 0).s))]) (m := []) (S' := .cells b10 [.int .i64 (hd ts2 0).kind, .str (hd ts2 0).s, .int .i64 (hd ts2 0).line] :: .cells b8 (cT x) :: .cells b6 [.int .i64 0, .str [], .int .i64 0, .sl 0 [] .full] :: RD rp L ts2.tail :: .map mb (mkM M) :: R) ?_ rfl (SLe.of_eq (congrArg (fun e => _ :: _ :: _ :: e :: _) (RD_next i1 hne hL)))) ?_
 ·exact e_
 repeat first|refine go_ ?_|intro _
 rename_i b12
 refine Or.inl ⟨hf,ACall.mono ?_ (ACall_at 4 rfl (hp ts2.tail _ hts (by omega) hG.cons.cons.cons.cons.cons))⟩
 rintro _ S1 ⟨e,hS1,hq⟩
 subst S1
 obtain ⟨y,ts3,o,rfl,hs3,rfl,ho⟩ := hq.cases (hsuf ts2.tail hts)
 repeat first|refine gr_ ?_|intro _
 refine AW_weak (weak_of (l := [(0, .ptr rp 0),(1, .fn (.func g) [.ptr rp 0] []),(2, .map mb),(6, .ptr b6 0),(8, .ptr b8 0),(9,errO o),(10, .ptr b10 0),(11, .int .i64 (ops (hd ts2 0).s)),(12, .ptr b12 0)]) (m := []) (S' := .cells b12 (cT y) :: .cells b10 [.int .i64 (hd ts2 0).kind, .str (hd ts2 0).s, .int .i64 (hd ts2 0).line] :: .cells b8 (cT x) :: .cells b6 [.int .i64 0, .str [], .int .i64 0, .sl 0 [] .full] :: RD rp L ts3 :: .map mb (mkM M) :: R) e_ rfl w_) ?_
 cases o with
 | some q =>
  have ho : part ts2.tail = .error q := ho
  rw [ho] at i3
  repeat first|refine ga_ ?_|intro _
  refine ⟨((.mk (ops (hd ts2 0).s) [] 0 [x,y],ts3,some q) : T × List Tok × Option (Int × Int)),?_,?_,weak_of ?_ rfl ?_⟩
  ·exact Nat.succ_pos _
  ·exact ⟨hs3,i3⟩
  ·exact e_
  ·exact SW.le (SW.drop (SW.drop (SW.cells leC rfl SW.nil)))
 | none =>
  have ho : part ts2.tail = .ok (y,ts3) := ho
  have hl3 := (he _ _ _ ho).2
  rw [ho] at i3
  simp only [] at i3
  by_cases hx : x.op = 3
  ·rw [if_pos (.inl hx)] at i3
   repeat first|refine ga_ ?_|intro _
   refine known_true (b := decide (x.op = 3)) (by exact decide_eq_true hx) ?_
   repeat first|refine ga_ ?_|intro _
   refine ⟨((.mk (ops (hd ts2 0).s) [] 0 [x,y],ts3,some (40,(hd ts2 0).line)) : T × List Tok × Option (Int × Int)),?_,?_,weak_of ?_ rfl ?_⟩
   ·exact Nat.succ_pos _
   ·exact ⟨hs3,i3⟩
   ·exact e_
   ·exact SW.le (SW.drop (SW.drop (SW.cells leC rfl SW.nil)))
  ·repeat first|refine ga_ ?_|intro _
   refine known_false (b := decide (x.op = 3)) (by exact decide_eq_false hx) ?_
   repeat first|refine ga_ ?_|intro _
   by_cases hy : y.op = 3
   ·rw [if_pos (.inr hy)] at i3
    refine AW_true (b := decide (y.op = 3)) rfl (by exact decide_eq_true hy) ?_
    repeat first|refine ga_ ?_|intro _
    refine ⟨((.mk (ops (hd ts2 0).s) [] 0 [x,y],ts3,some (40,(hd ts2 0).line)) : T × List Tok × Option (Int × Int)),?_,?_,weak_of ?_ rfl ?_⟩
    ·exact Nat.succ_pos _
    ·exact ⟨hs3,i3⟩
    ·exact e_
    ·exact SW.le (SW.drop (SW.drop (SW.cells leC rfl SW.nil)))
   ·rw [if_neg (by rintro (h | h); exact hx h; exact hy h)] at i3
    refine AW_false (b := decide (y.op = 3)) rfl (by exact decide_eq_false hy) ?_
    repeat first|refine ga_ ?_|intro _
    refine ⟨((.mk (ops (hd ts2 0).s) [] 0 [x,y],ts3,none) : T × List Tok × Option (Int × Int)),?_,?_,weak_of ?_ rfl ?_⟩
    ·show ts3.length + 1 < ts2.length + 1; omega
    ·exact ⟨hs3,(show ts3.length ≤ n by omega),k',(show ts3.length ≤ k' by omega),i3⟩
    ·exact e_
    ·exact SW.le (SW.drop (SW.drop (SW.cells leC rfl SW.nil)))
end Go.Proofs.YtfeknkaioofljaaGreatDoor
