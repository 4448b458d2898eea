/-
 The book's reader: its first error,the token next,signs,names,numbers. Own work.
-/
import Derived.Test.YtfeknkaioofljaaGreatDoorQ16
import Derived.Test.YtfeknkaioofljaaGreatDoorQ15
set_option linter.all false
set_option maxHeartbeats 4000000
set_option maxRecDepth 4000
namespace Go.Proofs.YtfeknkaioofljaaGreatDoor
open Go.Aw Go.RowKit Tree
open Lx (Tok)
def eI : Option (Int × Int) → Int × Int
 | none => (0,0)
 | some q => q
def RS (rp : Nat) (L ts : List Tok) (e : Option (Int × Int)) : En := .cells rp [.sl 3 (L.map Lx.encT) .no, .int .i64 ((L.length - ts.length : Nat) : Int), .int .i64 (eI e).1, .int .i64 (eI e).2]
def Nz (e : Option (Int × Int)) : Prop := ∀ q,e = some q → q.1 ≠ 0
def failE (e : Option (Int × Int)) (q : Int × Int) : Option (Int × Int) := match e with
 | some x => some x
 | none => some q
theorem nz_none : Nz none := fun _ h => nomatch h
theorem nz_some {q : Int × Int} (h : q.1 ≠ 0) : Nz (some q) := fun _ h' => by cases h'; exact h
theorem nz_fail {e : Option (Int × Int)} {q : Int × Int} (h : Nz e) (hq : q.1 ≠ 0) : Nz (failE e q) := by
 cases e with
 | none => exact nz_some hq
 | some x => exact h
theorem RS_next {rp : Nat} {L ts : List Tok} {e : Option (Int × Int)} (h : ts <:+ L) (hn : ts ≠ []) (hL : L.length ≤ 20000) : En.cells rp [.sl 3 (L.map Lx.encT) .no, .int .i64 (IntKind.i64.wrap (((L.length - ts.length : Nat) : Int) + 1)), .int .i64 (eI e).1, .int .i64 (eI e).2] = RS rp L ts.tail e := by
 rw [RS,RD_tail (rp := rp) h hn hL]
theorem fail_ok (rp : Nat) (L ts : List Tok) (e : Option (Int × Int)) (hz : Nz e) (c l : Int) (R : List En) : ACall Tryz.prog 59 [.ptr rp 0, .int .i64 c, .int .i64 l] (RS rp L ts e :: R) (fun r S => r = .tup [] ∧ S = RS rp L ts (failE e (c,l)) :: R) := by
 unfold RS
 cases e with
 | none =>
  show ACall _ _ _ (.cells rp [.sl 3 (L.map Lx.encT) .no, .int .i64 ((L.length - ts.length : Nat) : Int), .int .i64 0, .int .i64 0] :: R) _
  refine ACall_body tab_ok Tryz.func59 rfl rfl rfl (by kernel_rfl) (nb_ rfl) ?_
  repeat first|refine go_ ?_|intro _
  refine AW_true (b := decide ((0 : Int) = 0)) rfl (by rfl) ?_
  repeat first|refine go_ ?_|intro _
  refine ⟨.tup [],RS rp L ts (failE none (c,l)) :: R,AVle.refl _,SLe.rfl,rfl,rfl⟩
 | some q =>
  obtain ⟨q1,q2⟩ := q
  have := hz (q1,q2) rfl
  show ACall _ _ _ (.cells rp [.sl 3 (L.map Lx.encT) .no, .int .i64 ((L.length - ts.length : Nat) : Int), .int .i64 q1, .int .i64 q2] :: R) _
  refine ACall_body tab_ok Tryz.func59 rfl rfl rfl (by kernel_rfl) (nb_ rfl) ?_
  repeat first|refine go_ ?_|intro _
  refine AW_false (b := decide (q1 = 0)) rfl (by exact decide_eq_false this) ?_
  repeat first|refine go_ ?_|intro _
  refine ⟨.tup [],RS rp L ts (failE (some (q1,q2)) (c,l)) :: R,AVle.refl _,SLe.rfl,rfl,rfl⟩
theorem rIsName_ok (t : Tok) (R : List En) : ACall Tryz.prog 142 [Lx.encT t] R (fun r S => r = .bool (nameT t) ∧ S = R) := by
 refine ACall_body tab_ok Tryz.func142 rfl rfl rfl (by kernel_rfl) (nb_ rfl) ?_
 repeat first|refine go_ ?_|intro _
 by_cases hk : t.kind = 1
 ·refine known_true (b := decide (t.kind = 1)) (by exact decide_eq_true hk) ?_
  repeat first|refine ga_ ?_|intro _
  refine AW_ret ?_
  repeat refine mk_ ?_
  refine ⟨_,R,AVle.eq ?_,sle_,rfl,rfl⟩
  rw [nameT,decide_eq_true hk]; rfl
 ·refine known_false (b := decide (t.kind = 1)) (by exact decide_eq_false hk) ?_
  repeat first|refine ga_ ?_|intro _
  refine AW_ret ?_
  repeat refine mk_ ?_
  refine ⟨_,R,AVle.eq ?_,sle_,rfl,rfl⟩
  rw [nameT,decide_eq_false hk]; rfl
theorem here_ok (rp : Nat) (L ts : List Tok) (e : Option (Int × Int)) (n : Nat) (h : ts <:+ L) (hL : L.length ≤ 20000) (hn : n ≤ 10) (R : List En) : ACall Tryz.prog 57 [.ptr rp 0, .int .i64 (n : Nat)] (RS rp L ts e :: R) (fun r S => r = Lx.encT (hd ts n) ∧ S = RS rp L ts e :: R) := by
 have hl := h.length_le
 have hg := RD_get h n
 have hw : IntKind.i64.wrap (((L.length - ts.length : Nat) : Int) + (n : Nat)) = ((L.length - ts.length + n : Nat) : Int) := by rw [wrap_i64 (by omega)]; omega
 unfold RS
 refine ACall_body tab_ok Tryz.func57 rfl rfl rfl (by kernel_rfl) (nb_ rfl) ?_
 repeat first|refine go_ ?_|intro _
 rename_i b4
 refine AW_draw tab_ok mixed 12 (by first | rfl | kernel_rfl) ?_
 repeat first|refine go_ ?_|intro _
 by_cases hlt : L.length - ts.length + n < L.length
 ·refine AW_true (b := decide (IntKind.i64.wrap (((L.length - ts.length : Nat) : Int) + (n : Nat)) < ((L.map Lx.encT).length : Nat))) rfl (by rw [hw,List.length_map]; exact decide_eq_true (by omega)) ?_
  have hgm : (L.map Lx.encT)[L.length - ts.length + n]? = some (Lx.encT (hd ts n)) := by
   rw [List.getElem?_map,hg,hd]
   rw [List.getElem?_eq_getElem hlt] at hg
   rw [← hg]; rfl
  repeat first|refine go_ ?_|intro _
  refine AW_draw tab_ok mixed 12 (by first | rfl | kernel_rfl) ?_
  repeat first|refine go_ ?_|intro _
  refine at_get (L.length - ts.length + n) (Lx.encT (hd ts n)) hw hgm ?_
  repeat first|refine go_ ?_|intro _
  refine AW_ret ?_
  repeat refine mk_ ?_
  refine ⟨rfl,0,_,rfl,⟨nb_ rfl,nb_ rfl⟩,_,RS rp L ts e :: R,AVle.eq ?_,sle_,rfl,rfl⟩
  rfl
 ·refine AW_false (b := decide (IntKind.i64.wrap (((L.length - ts.length : Nat) : Int) + (n : Nat)) < ((L.map Lx.encT).length : Nat))) rfl (by rw [hw,List.length_map]; exact decide_eq_false (by omega)) ?_
  have hz : hd ts n = ⟨0, [],0⟩ := by
   rw [hd, ← hg,List.getElem?_eq_none (by omega)]; rfl
  repeat first|refine go_ ?_|intro _
  refine AW_ret ?_
  repeat refine mk_ ?_
  refine ⟨rfl,0,_,rfl,⟨nb_ rfl,nb_ rfl⟩,_,RS rp L ts e :: R,AVle.eq ?_,sle_,rfl,rfl⟩
  rw [hz]; rfl
def isT (ts : List Tok) (k : Int) (s : List UInt8) (e : Option (Int × Int)) : Bool := decide ((hd ts 0).kind = k) && decide ((hd ts 0).s = s) && e.isNone
theorem eI_none {e : Option (Int × Int)} (h : Nz e) : decide ((eI e).1 = 0) = e.isNone := by
 cases e with
 | none => rfl
 | some q => exact decide_eq_false (h q rfl)
theorem is_ok (rp : Nat) (L ts : List Tok) (e : Option (Int × Int)) (hz : Nz e) (k : Int) (s : List UInt8) (h : ts <:+ L) (hL : L.length ≤ 20000) (R : List En) : ACall Tryz.prog 58 [.ptr rp 0, .int .i64 k, .str s] (RS rp L ts e :: R) (fun r S => r = .bool (isT ts k s e) ∧ S = RS rp L ts e :: R) := by
 refine ACall_body tab_ok Tryz.func58 rfl rfl rfl (by kernel_rfl) (nb_ rfl) ?_
 repeat first|refine go_ ?_|intro _
 refine Or.inl ⟨⟨_,Tryz.func57,rfl,rfl⟩,ACall.mono ?_ (ACall_same 0 rfl (here_ok rp L ts e 0 h hL (by decide)))⟩
 rintro _ S1 ⟨rfl,hS1⟩
 subst S1
 repeat first|refine gr_ ?_|intro _
 rename_i b7
 obtain ⟨t,ht⟩ : ∃ t,t = hd ts 0 := ⟨_,rfl⟩
 have hi : isT ts k s e = (decide (t.kind = k) && decide (t.s = s) && e.isNone) := by rw [isT,ht]
 rw [← ht]
 refine AW_weak (weak_of (l := [(0, .ptr rp 0),(1, .int .i64 k),(2, .str s),(7, .ptr b7 0)]) (m := []) (S' := .cells b7 [.int .i64 t.kind, .str t.s, .int .i64 t.line] :: RS rp L ts e :: R) e_ rfl w_) ?_
 rw [hi]
 repeat first|refine go_ ?_|intro _
 by_cases h1 : t.kind = k
 rotate_left
 ·refine known_false (b := decide (t.kind = k)) (by exact decide_eq_false h1) ?_
  repeat first|refine ga_ ?_|intro _
  refine AW_ret ?_
  repeat refine mk_ ?_
  refine ⟨_,RS rp L ts e :: R,AVle.eq ?_,sle_,rfl,rfl⟩
  rw [decide_eq_false h1]; rfl
 refine known_true (b := decide (t.kind = k)) (by exact decide_eq_true h1) ?_
 repeat first|refine go_ ?_|intro _
 by_cases h2 : t.s = s
 rotate_left
 ·refine known_false (b := decide (t.s = s)) (by exact decide_eq_false h2) ?_
  repeat first|refine ga_ ?_|intro _
  refine AW_ret ?_
  repeat refine mk_ ?_
  refine ⟨_,RS rp L ts e :: R,AVle.eq ?_,sle_,rfl,rfl⟩
  rw [decide_eq_false h2,decide_eq_true h1]; rfl
 refine known_true (b := decide (t.s = s)) (by exact decide_eq_true h2) ?_
 repeat first|refine ga_ ?_|intro _
 refine AW_ret ?_
 repeat refine mk_ ?_
 refine ⟨_,RS rp L ts e :: R,AVle.eq ?_,sle_,rfl,rfl⟩
 rw [decide_eq_true h1,decide_eq_true h2]
 exact congrArg AV.bool (eI_none hz)
end Go.Proofs.YtfeknkaioofljaaGreatDoor
namespace Go.Proofs.YtfeknkaioofljaaGreatDoor
open Go.Aw Go.RowKit Tree
theorem isT_ne {ts : List Lx.Tok} {k : Int} {s : List UInt8} {e : Option (Int × Int)} (h : isT ts k s e = true) (hk : k ≠ 0) : ts ≠ [] ∧ (hd ts 0).kind = k ∧ (hd ts 0).s = s ∧ e = none := by
 rw [isT,Bool.and_eq_true,Bool.and_eq_true,decide_eq_true_eq,decide_eq_true_eq,Option.isNone_iff_eq_none] at h
 obtain ⟨⟨h1,h2⟩,h3⟩ := h
 exact ⟨hd_ne (by rw [h1]; exact hk),h1,h2,h3⟩
theorem bTakes_ok (rp : Nat) (L ts : List Lx.Tok) (e : Option (Int × Int)) (hz : Nz e) (k : Int) (hk : k ≠ 0) (s : List UInt8) (h : ts <:+ L) (hL : L.length ≤ 20000) (R : List En) : ACall Tryz.prog 61 [.ptr rp 0, .int .i64 k, .str s] (RS rp L ts e :: R) (fun r S => r = .bool (isT ts k s e) ∧ S = RS rp L (if isT ts k s e = true then ts.tail else ts) e :: R) := by
 refine ACall_body tab_ok Tryz.func61 rfl rfl rfl (by kernel_rfl) (nb_ rfl) ?_
 repeat first|refine go_ ?_|intro _
 refine Or.inl ⟨⟨_,Tryz.func58,rfl,rfl⟩,ACall.mono ?_ (is_ok rp L ts e hz k s h hL R)⟩
 rintro _ S1 ⟨rfl,hS1⟩
 subst S1
 repeat first|refine go_ ?_|intro _
 by_cases hs : isT ts k s e = true
 ·have hne := (isT_ne hs hk).1
  rw [if_pos hs]
  refine AW_true (b := isT ts k s e) rfl (by exact hs) ?_
  unfold RS
  repeat first|refine go_ ?_|intro _
  refine AW_ret ?_
  refine ⟨_,RS rp L ts.tail e :: R,AVle.refl _,SLe.of_eq (congrArg (· :: R) (RS_next h hne hL)),rfl,rfl⟩
 ·rw [if_neg hs]
  refine AW_false (b := isT ts k s e) rfl (by simpa using hs) ?_
  repeat first|refine go_ ?_|intro _
  refine AW_ret ?_
  repeat refine mk_ ?_
  refine ⟨_,RS rp L ts e :: R,AVle.eq ?_,sle_,rfl,rfl⟩
  rfl
def mustE (ts : List Lx.Tok) (k : Int) (s : List UInt8) (e : Option (Int × Int)) : Option (Int × Int) := if isT ts k s e = true then e else failE e (40,(hd ts 0).line)
def mustR (ts : List Lx.Tok) (k : Int) (s : List UInt8) (e : Option (Int × Int)) : List Lx.Tok := if isT ts k s e = true then ts.tail else ts
theorem bMust_ok (rp : Nat) (L ts : List Lx.Tok) (e : Option (Int × Int)) (hz : Nz e) (k : Int) (hk : k ≠ 0) (s : List UInt8) (h : ts <:+ L) (hL : L.length ≤ 20000) (R : List En) : ACall Tryz.prog 107 [.ptr rp 0, .int .i64 k, .str s] (RS rp L ts e :: R) (fun r S => r = .tup [] ∧ S = RS rp L (mustR ts k s e) (mustE ts k s e) :: R) := by
 refine ACall_body tab_ok Tryz.func107 rfl rfl rfl (by kernel_rfl) (nb_ rfl) ?_
 repeat first|refine go_ ?_|intro _
 refine Or.inl ⟨⟨_,Tryz.func61,rfl,rfl⟩,ACall.mono ?_ (bTakes_ok rp L ts e hz k hk s h hL R)⟩
 rintro _ S1 ⟨rfl,hS1⟩
 subst S1
 repeat first|refine go_ ?_|intro _
 by_cases hs : isT ts k s e = true
 ·rw [mustR,mustE,if_pos hs,if_pos hs]
  refine AW_false (b := !isT ts k s e) rfl (by rw [hs]; rfl) ?_
  repeat first|refine go_ ?_|intro _
  refine ⟨.tup [],RS rp L ts.tail e :: R,AVle.refl _,SLe.rfl,rfl,rfl⟩
 ·rw [mustR,mustE,if_neg hs,if_neg hs]
  have hs' : isT ts k s e = false := by simpa using hs
  refine AW_true (b := !isT ts k s e) rfl (by rw [hs']; rfl) ?_
  repeat first|refine go_ ?_|intro _
  refine Or.inl ⟨⟨_,Tryz.func57,rfl,rfl⟩,ACall.mono ?_ (ACall_same 0 rfl (here_ok rp L ts e 0 h hL (by decide)))⟩
  rintro _ S1 ⟨rfl,hS1⟩
  subst S1
  repeat first|refine go_ ?_|intro _
  refine Or.inl ⟨⟨_,Tryz.func59,rfl,rfl⟩,ACall.mono ?_ (fail_ok rp L ts e hz 40 (hd ts 0).line R)⟩
  rintro _ S1 ⟨rfl,hS1⟩
  subst S1
  repeat first|refine go_ ?_|intro _
  refine ⟨.tup [],RS rp L ts (failE e (40,(hd ts 0).line)) :: R,AVle.refl _,sle_,rfl,rfl⟩
structure BkQ {α : Type} (rp : Nat) (L ts : List Lx.Tok) (e : Option (Int × Int)) (enc : α → AV) (x : PR α) (P : α → List Lx.Tok → Prop) (r : AV) (st : En) : Prop where
 h : ∃ v ts' e',r = enc v ∧ st = RS rp L ts' e' ∧ ts' <:+ ts ∧ Nz e' ∧ P v ts' ∧ (∀ q,e = some q → e' = some q) ∧ (e = none → match x with
  | .ok y => v = y.1 ∧ ts' = y.2 ∧ e' = none
  | .error q => e' = some q)
def noP {α : Type} : α → List Lx.Tok → Prop := fun _ _ => True
theorem ACall_upd {f : FuncId} {args : List AV} {S : List En} {e e' : En} {v : AV} (p : Nat) (hp : S[p]? = some e) (hc : ∀ R,ACall Tryz.prog f args (e :: R) (fun r S' => r = v ∧ S' = e' :: R)) : ACall Tryz.prog f args S (fun r S' => r = v ∧ S' = S.set p e') := by
 refine ACall.mono ?_ (ACall_at (Q := fun r x => r = v ∧ x = e') p hp (ACall.mono ?_ (hc (S.eraseIdx p))))
 ·rintro r S' ⟨x,hS,hr,hx⟩
  exact ⟨hr,by rw [hS,hx]⟩
 ·rintro r S' ⟨hr,hS⟩
  exact ⟨e',hS,hr,rfl⟩
theorem bq_fail {α : Type} {rp : Nat} {L ts : List Lx.Tok} {e : Option (Int × Int)} {enc : α → AV} {x : PR α} {P : α → List Lx.Tok → Prop} {q : Int × Int} (v : α) (hz : Nz e) (hq : q.1 ≠ 0) (hP : P v ts) (hx : e = none → x = .error q) : BkQ rp L ts e enc x P (enc v) (RS rp L ts (failE e q)) := by
 refine ⟨v,ts,_,rfl,rfl,List.suffix_refl _,nz_fail hz hq,hP,?_,?_⟩
 ·rintro q' rfl; rfl
 ·rintro rfl
  rw [hx rfl]; rfl
theorem bName_ok (rp : Nat) (L ts : List Lx.Tok) (e : Option (Int × Int)) (hz : Nz e) (h : ts <:+ L) (hL : L.length ≤ 20000) (R : List En) : ACall Tryz.prog 106 [.ptr rp 0] (RS rp L ts e :: R) (fun r S => ∃ x,S = x :: R ∧ BkQ rp L ts e AV.str (nameP ts) noP r x) := by
 refine ACall_body tab_ok Tryz.func106 rfl rfl rfl (by kernel_rfl) (nb_ rfl) ?_
 repeat first|refine go_ ?_|intro _
 refine Or.inl ⟨⟨_,Tryz.func57,rfl,rfl⟩,ACall.mono ?_ (ACall_same 0 rfl (here_ok rp L ts e 0 h hL (by decide)))⟩
 rintro _ S1 ⟨rfl,hS1⟩
 subst S1
 repeat first|refine go_ ?_|intro _
 rename_i b4
 refine Or.inl ⟨⟨_,Tryz.func142,rfl,rfl⟩,ACall.mono ?_ (rIsName_ok (hd ts 0) _)⟩
 rintro _ S1 ⟨rfl,hS1⟩
 subst S1
 repeat first|refine go_ ?_|intro _
 by_cases hs : nameT (hd ts 0) = true
 ·refine known_false (b := !nameT (hd ts 0)) (by rw [hs]; rfl) ?_
  repeat first|refine go_ ?_|intro _
  have he := eI_none hz
  cases e with
  | none =>
   refine AW_false (b := !decide ((eI (none : Option (Int × Int))).1 = 0)) rfl (by rfl) ?_
   repeat first|refine go_ ?_|intro _
   have hne := hd_ne (ts := ts) (by rw [name_kind hs]; decide)
   refine AW_ret ?_
   refine ⟨_,RS rp L ts.tail none :: R,AVle.refl _,SLe.tail (SLe.of_eq (congrArg (· :: R) (RS_next h hne hL))),_,rfl,?_⟩
   refine ⟨_,_,none,rfl,rfl,tail_suf,nz_none,trivial,nofun,fun _ => ?_⟩
   rw [nameP,if_pos hs]; exact ⟨rfl,rfl,rfl⟩
  | some q =>
   refine AW_true (b := !decide ((eI (some q)).1 = 0)) rfl (by rw [he]; rfl) ?_
   repeat first|refine go_ ?_|intro _
   refine Or.inl ⟨⟨_,Tryz.func59,rfl,rfl⟩,ACall.mono ?_ (ACall_upd 1 rfl (fail_ok rp L ts (some q) hz 40 (hd ts 0).line))⟩
   rintro _ S1 ⟨rfl,hS1⟩
   subst S1
   repeat first|refine go_ ?_|intro _
   refine AW_ret ?_
   refine ⟨_,RS rp L ts (failE (some q) (40,(hd ts 0).line)) :: R,AVle.refl _,sle_,_,rfl,bq_fail [] hz (by show (40 : Int) ≠ 0; decide) trivial nofun⟩
 ·have hs' : nameT (hd ts 0) = false := by simpa using hs
  refine known_true (b := !nameT (hd ts 0)) (by rw [hs']; rfl) ?_
  repeat first|refine ga_ ?_|intro _
  refine Or.inl ⟨⟨_,Tryz.func59,rfl,rfl⟩,ACall.mono ?_ (ACall_upd 1 rfl (fail_ok rp L ts e hz 40 (hd ts 0).line))⟩
  rintro _ S1 ⟨rfl,hS1⟩
  subst S1
  repeat first|refine go_ ?_|intro _
  refine AW_ret ?_
  refine ⟨_,RS rp L ts (failE e (40,(hd ts 0).line)) :: R,AVle.refl _,sle_,_,rfl,bq_fail [] hz (by show (40 : Int) ≠ 0; decide) trivial fun _ => ?_⟩
  rw [nameP,if_neg hs]; rfl
def numA (acc : Nat) : List UInt8 → Nat
 | [] => acc
 | c :: r => numA (acc * 10 + (c.toNat - 48)) r
theorem numA_app (a b : List UInt8) : ∀ acc,numA acc (a ++ b) = numA (numA acc a) b := by
 induction a with
 | nil => intro acc; rfl
 | cons c r ih => intro acc; exact ih _
theorem numA_le (l : List UInt8) : ∀ acc,acc ≤ numA acc l := by
 induction l with
 | nil => intro acc; exact Nat.le_refl _
 | cons c r ih => intro acc; exact Nat.le_trans (by omega) (ih _)
theorem numA_take {s : List UInt8} {z : Nat} (h : z < s.length) : numA 0 (s.take (z + 1)) = numA 0 (s.take z) * 10 + (s[z].toNat - 48) := by
 rw [List.take_add_one,List.getElem?_eq_getElem h,Option.toList_some,numA_app]; rfl
theorem numA_pre {s : List UInt8} (z : Nat) : numA 0 (s.take z) ≤ numA 0 s := by
 have := numA_app (s.take z) (s.drop z) 0
 rw [List.take_append_drop] at this
 rw [this]; exact numA_le _ _
def digs (s : List UInt8) : Prop := ∀ c ∈ s,48 ≤ c.toNat ∧ c.toNat ≤ 57
theorem num_parse (M : Nat) : ∀ (l : List UInt8) (acc u : Nat),Lib.parseUintM M acc l = .ok u → digs l ∧ numA acc l = u
 | [],acc,u,h => by
  rw [Lib.parseUintM] at h
  injection h with h
  exact ⟨(fun c hc => nomatch hc),h⟩
 | c :: r,acc,u,h => by
  rw [Lib.parseUintM] at h
  split at h
  ·rename_i hc
   split at h
   ·cases h
   ·split at h
    ·cases h
    ·obtain ⟨h1,h2⟩ := num_parse M r _ u h
     exact ⟨fun x hx => by
      rcases List.mem_cons.1 hx with rfl | hx
      ·exact hc
      ·exact h1 x hx,h2⟩
  ·cases h
theorem number_ok (s : List UInt8) (hd : digs s) (hn : numA 0 s ≤ 9223372036854775807) (hs : s.length ≤ 16777216) (R : List En) : ACall Tryz.prog 205 [.str s] R (fun r S => r = .int .i64 (numA 0 s : Nat) ∧ S = R) := by
 refine ACall_body tab_ok Tryz.func205 rfl rfl rfl (by kernel_rfl) (nb_ rfl) ?_
 repeat first|refine go_ ?_|intro _
 refine AW_for (α := Nat) (fun z => ⟨[(0, .str s),(3, .int .i64 (numA 0 (s.take z) : Nat)),(4, .int .i64 (z : Nat))], []⟩) (fun z => R) (fun z => s.length - z) (fun z => z ≤ s.length) (0) ?_ (weak_of ?_ rfl ?_) (fun z hz => ?_)
 ·simp
 ·exact e_
 ·exact l_
 have hi : z ≤ s.length := hz
 repeat first|refine go_ ?_|intro _
 refine AW_iff (z < s.length) rfl ib_ (fun h => ?_) (fun h => ?_)
 ·have hlt := h
  have hc := hd s[z] (List.getElem_mem hlt)
  have hp := numA_pre (s := s) (z + 1)
  have ht := numA_take hlt
  have ek : AV.int .i64 (IntKind.i64.wrap (IntKind.i64.wrap (10 * ((numA 0 (s.take z) : Nat) : Int)) + IntKind.i64.wrap (IntKind.u8.wrap (((s[z].toNat : Nat) : Int) - 48)))) = .int .i64 (numA 0 (s.take (z + 1)) : Nat) := by
   refine congrArg _ ?_
   have e1 : IntKind.u8.wrap (((s[z].toNat : Nat) : Int) - 48) = ((s[z].toNat : Nat) : Int) - 48 := by
    unfold IntKind.wrap; simp [IntKind.bits,IntKind.signed]; omega
   rw [e1,wrap_i64 (n := ((s[z].toNat : Nat) : Int) - 48) (by omega),wrap_i64 (n := 10 * ((numA 0 (s.take z) : Nat) : Int)) (by omega),wrap_i64 (by omega)]
   omega
  repeat first|refine go_ ?_|intro _
  refine at_list (z) (by first | rfl | omega | (rw [wrap_i64 (by omega)]; omega)) (by first | assumption | omega) ?_
  repeat first|refine go_ ?_|intro _
  refine ⟨z + 1,?_,?_,weak_of ?_ rfl ?_⟩
  ·omega
  ·omega
  ·repeat (first | exact trivial | refine ⟨(AVle.eq ek),?_⟩ | refine ⟨(AVle.eq ek.symm),?_⟩ | refine env_ ?_)
  ·exact l_
 ·repeat first|refine go_ ?_|intro _
  refine AW_ret ?_
  repeat refine mk_ ?_
  refine ⟨_,R,AVle.eq ?_,sle_,rfl,rfl⟩
  rw [List.take_of_length_le (by omega)]; rfl
def jE (e : Option (Int × Int)) (x y : T) (line : Int) : Option (Int × Int) := if x.op = 3 ∨ y.op = 3 then failE e (40,line) else e
theorem cT_one (x : T) : ∀ c ∈ cT x,c.one = true := by
 intro c hc
 simp only [cT,List.mem_cons,List.not_mem_nil,or_false] at hc
 rcases hc with rfl | rfl | rfl | rfl <;> rfl
theorem joined_ok (rp : Nat) (L ts : List Lx.Tok) (e : Option (Int × Int)) (hz : Nz e) (op : Int) (x y : T) (line : Int) (R : List En) : ACall Tryz.prog 181 [.ptr rp 0, .int .i64 op,encU x,encU y, .int .i64 line] (RS rp L ts e :: R) (fun r S => r = encU (.mk op [] 0 [x,y]) ∧ S = RS rp L ts (jE e x y line) :: R) := by
 refine ACall_body tab_ok Tryz.func181 rfl rfl rfl (by kernel_rfl) (nb_ rfl) ?_
 repeat first|refine go_ ?_|intro _
 rename_i b7 b8 b10
 by_cases hx : x.op = 3
 ·refine known_true (b := decide (x.op = 3)) (by exact decide_eq_true hx) ?_
  repeat first|refine ga_ ?_|intro _
  refine Or.inl ⟨⟨_,Tryz.func59,rfl,rfl⟩,ACall.mono ?_ (ACall_upd 3 rfl (fail_ok rp L ts e hz 40 line))⟩
  rintro _ S1 ⟨rfl,hS1⟩
  subst S1
  repeat first|refine go_ ?_|intro _
  refine AW_ret ?_
  refine ⟨rfl,0,_,rfl,⟨nb_ rfl,nb_ rfl⟩,encU (.mk op [] 0 [x,y]),RS rp L ts (failE e (40,line)) :: R,AVle.agg leC (cT_one _),sle_,rfl,?_⟩
  rw [jE,if_pos (.inl hx)]
 ·refine known_false (b := decide (x.op = 3)) (by exact decide_eq_false hx) ?_
  repeat first|refine ga_ ?_|intro _
  by_cases hy : y.op = 3
  ·refine AW_true (b := decide (y.op = 3)) rfl (by exact decide_eq_true hy) ?_
   repeat first|refine ga_ ?_|intro _
   refine Or.inl ⟨⟨_,Tryz.func59,rfl,rfl⟩,ACall.mono ?_ (ACall_upd 3 rfl (fail_ok rp L ts e hz 40 line))⟩
   rintro _ S1 ⟨rfl,hS1⟩
   subst S1
   repeat first|refine go_ ?_|intro _
   refine AW_ret ?_
   refine ⟨rfl,0,_,rfl,⟨nb_ rfl,nb_ rfl⟩,encU (.mk op [] 0 [x,y]),RS rp L ts (failE e (40,line)) :: R,AVle.agg leC (cT_one _),sle_,rfl,?_⟩
   rw [jE,if_pos (.inr hy)]
  ·refine AW_false (b := decide (y.op = 3)) rfl (by exact decide_eq_false hy) ?_
   repeat first|refine ga_ ?_|intro _
   refine AW_ret ?_
   refine ⟨rfl,0,_,rfl,⟨nb_ rfl,nb_ rfl⟩,encU (.mk op [] 0 [x,y]),RS rp L ts e :: R,AVle.agg leC (cT_one _),sle_,rfl,?_⟩
   rw [jE,if_neg (by rintro (h | h); exact hx h; exact hy h)]
def HP (ts : List Lx.Tok) (v : T) (ts' : List Lx.Tok) : Prop := highT v + ts'.length ≤ ts.length + 1
def BPart (rp : Nat) (L : List Lx.Tok) (g : FuncId) (part : List Lx.Tok → PR T) (n : Nat) : Prop := fnOk Tryz.prog g ∧ ∀ (ts : List Lx.Tok) (e : Option (Int × Int)) (R : List En),Nz e → ts <:+ L → ts.length ≤ n → ACall Tryz.prog g [.ptr rp 0] (RS rp L ts e :: R) (fun r S => ∃ x,S = x :: R ∧ BkQ rp L ts e encU (part ts) (HP ts) r x)
def ChR (part : List Lx.Tok → PR T) (ops : List UInt8 → Int) (ts : List Lx.Tok) (x : T) (ts2 : List Lx.Tok) : Option (Int × Int) → Prop
 | none => ∃ k,ts2.length ≤ k ∧ chainL part ops ts = chainGo part ops k x ts2
 | some q => chainL part ops ts = .error q
structure ChB (part : List Lx.Tok → PR T) (ops : List UInt8 → Int) (ts : List Lx.Tok) (e : Option (Int × Int)) (x : T) (ts2 : List Lx.Tok) (e2 : Option (Int × Int)) : Prop where
 suf : ts2 <:+ ts
 nz : Nz e2
 hi : HP ts x ts2
 keep : ∀ q,e = some q → e2 = some q
 res : e = none → ChR part ops ts x ts2 e2
theorem BkQ.chain {rp : Nat} {L ts : List Lx.Tok} {e : Option (Int × Int)} {part : List Lx.Tok → PR T} {r : AV} {st : En} (ops : List UInt8 → Int) (h : BkQ rp L ts e encU (part ts) (HP ts) r st) : ∃ x ts1 e1,r = encU x ∧ st = RS rp L ts1 e1 ∧ ChB part ops ts e x ts1 e1 := by
 obtain ⟨v,ts',e',h1,h2,h3,h4,h5,h6,h7⟩ := h.h
 refine ⟨v,ts',e',h1,h2,h3,h4,h5,h6,fun he => ?_⟩
 have h8 := h7 he
 cases hp : part ts with
 | error q =>
  rw [hp] at h8
  obtain rfl : e' = some q := h8
  show chainL part ops ts = .error q
  rw [chainL,hp]
 | ok y =>
  obtain ⟨y1,y2⟩ := y
  rw [hp] at h8
  obtain ⟨rfl,rfl,rfl⟩ : v = y1 ∧ ts' = y2 ∧ e' = none := h8
  exact ⟨ts'.length,Nat.le_refl _,by rw [chainL,hp]⟩
theorem ChB.done {rp : Nat} {L : List Lx.Tok} {part : List Lx.Tok → PR T} {ops : List UInt8 → Int} {ts : List Lx.Tok} {e : Option (Int × Int)} {x : T} {ts2 : List Lx.Tok} {e2 : Option (Int × Int)} (h : ChB part ops ts e x ts2 e2) (hn : e2 = none → ¬ ((hd ts2 0).kind = 4 ∧ ops (hd ts2 0).s ≠ 0)) : BkQ rp L ts e encU (chainL part ops ts) (HP ts) (encU x) (RS rp L ts2 e2) := by
 refine ⟨x,ts2,e2,rfl,rfl,h.suf,h.nz,h.hi,h.keep,fun he => ?_⟩
 have hr := h.res he
 cases e2 with
 | some q =>
  rw [show chainL part ops ts = .error q from hr]
 | none =>
  obtain ⟨k,hk,hr⟩ := hr
  have : chainGo part ops k x ts2 = .ok (x,ts2) := by
   cases k with
   | zero => rfl
   | succ k => rw [chainGo,if_neg (hn rfl)]
  rw [hr,this]
  exact ⟨rfl,rfl,rfl⟩
theorem ChB.step {rp : Nat} {L : List Lx.Tok} {part : List Lx.Tok → PR T} {ops : List UInt8 → Int} {ts : List Lx.Tok} {e : Option (Int × Int)} {x : T} {ts2 : List Lx.Tok} {r : AV} {st : En} (h : ChB part ops ts e x ts2 none) (hk : (hd ts2 0).kind = 4) {o : Int} (ho : ops (hd ts2 0).s = o) (ho' : o ≠ 0) (hb : BkQ rp L ts2.tail none encU (part ts2.tail) (HP ts2.tail) r st) :
  ∃ y ts3 e3,r = encU y ∧ st = RS rp L ts3 e3 ∧ Nz e3 ∧ ts3 <:+ ts2.tail ∧ ChB part ops ts e (.mk o [] 0 [x,y]) ts3 (jE e3 x y (hd ts2 0).line) := by
 obtain ⟨y,ts3,e3,h1,h2,h3,h4,h5,h6,h7⟩ := hb.h
 have htl := tail_len (ts := ts2) (by rw [hk]; decide)
 have hl3 := h3.length_le
 have hh := h.hi
 have hsl := h.suf.length_le
 have hnz : Nz (jE e3 x y (hd ts2 0).line) := by
  rw [jE]; split
  ·exact nz_fail h4 (by show (40 : Int) ≠ 0; decide)
  ·exact h4
 refine ⟨y,ts3,e3,h1,h2,h4,h3,h3.trans (tail_suf.trans h.suf),hnz,?_,fun q hq => ?_,fun he => ?_⟩
 ·unfold HP at *
  show highs [x,y] + 1 + _ ≤ _
  rw [highs,highs,highs]
  omega
 ·exact absurd (h.keep q hq) (by simp)
 ·obtain ⟨k,hk2,hr⟩ := h.res he
  have h8 := h7 rfl
  cases k with
  | zero => omega
  | succ k =>
   rw [chainGo,if_pos ⟨hk,by rw [ho]; exact ho'⟩] at hr
   rw [ho] at hr
   cases hp : part ts2.tail with
   | error q =>
    rw [hp] at h8
    obtain rfl : e3 = some q := h8
    have : jE (some q) x y (hd ts2 0).line = some q := by rw [jE]; split <;> rfl
    rw [this]
    show chainL part ops ts = .error q
    rw [hr]; rw [hp]
   | ok w =>
    obtain ⟨y1,y2⟩ := w
    rw [hp] at h8
    obtain ⟨rfl,rfl,rfl⟩ : y = y1 ∧ ts3 = y2 ∧ e3 = none := h8
    by_cases hx : x.op = 3 ∨ y.op = 3
    ·rw [jE,if_pos hx]
     show chainL part ops ts = .error _
     rw [hr,hp]
     show (if x.op = 3 ∨ y.op = 3 then _ else _) = _
     rw [if_pos hx]
    ·rw [jE,if_neg hx]
     refine ⟨k,by omega,?_⟩
     rw [hr,hp]
     show (if x.op = 3 ∨ y.op = 3 then _ else _) = _
     rw [if_neg hx]
end Go.Proofs.YtfeknkaioofljaaGreatDoor
