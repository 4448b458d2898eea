/-
 How many terms and parts: the law's own measure. Own work.
-/
import Derived.Test.YtfeknkaioofljaaGreatDoorQ9
import Derived.Test.YtfeknkaioofljaaGreatDoorQ2
import Derived.Test.YtfeknkaioofljaaGreatDoorQ10
set_option linter.all false
set_option maxHeartbeats 4000000
set_option maxRecDepth 4000
namespace Go.Proofs.YtfeknkaioofljaaGreatDoor.Tree
open Go.Aw Go.RowKit
mutual
def sizeT : T → Int → Int
 | .mk _ s _ l,k => if 1000 < s.length then -1 else sizeTs l (k - 1)
def sizeTs : List T → Int → Int
 | [],k => k
 | t :: r,k => if 0 ≤ k then sizeTs r (sizeT t k) else k
end
mutual
theorem sizeT_le : ∀ (t : T) (k : Int),0 ≤ k → -1 ≤ sizeT t k ∧ sizeT t k ≤ k - 1
 | .mk _ s _ l,k,h => by
  rw [sizeT]
  split
  ·omega
  ·exact sizeTs_le l (k - 1) (by omega)
theorem sizeTs_le : ∀ (l : List T) (k : Int), -1 ≤ k → -1 ≤ sizeTs l k ∧ sizeTs l k ≤ k
 | [],k,h => by rw [sizeTs]; omega
 | t :: r,k,h => by
  rw [sizeTs]
  split
  ·rename_i h0
   have h1 := sizeT_le t k h0
   have h2 := sizeTs_le r (sizeT t k) h1.1
   omega
  ·omega
end
def sizeA (a : At) (k : Int) : Int := if 1000 < a.rel.length then -1 else sizeTs a.l k
def sizeLi (l : Li) (k : Int) : Int :=
 let a := sizeA l.a (k - 1)
 let b := if 0 ≤ a then sizeT l.x a else a
 if 0 ≤ b then sizeT l.y b else b
def sizeLs : List Li → Int → Int
 | [],k => k
 | l :: r,k => if 0 ≤ k then sizeLs r (sizeLi l k) else k
def sizeR (r : Ru) (k : Int) : Int := sizeLs r.body (sizeA r.head (k - 1))
def sizeRs : List Ru → Int → Int
 | [],k => k
 | l :: r,k => if 0 ≤ k then sizeRs r (sizeR l k) else k
def longD (d : De) : Bool := decide (1000 < d.rel.length) || d.names.any fun x => decide (1000 < x.length)
def smallB (p : Pr) : Bool := !p.decls.any longD && (decide (0 ≤ sizeRs p.rules 2000) && (decide (p.decls.length ≤ 100) && decide (p.rules.length ≤ 300)))
def signL (op : Int) : List UInt8 := if op = 5 then [32,43,32] else if op = 6 then [32,45,32] else [32,42,32]
mutual
def showT : T → List UInt8
 | .mk op s n l => if op = 1 then s else if op = 2 then Lib.itoa n else if op = 3 then quoteL s else if op = 4 then [95] else 40 :: ((showTs l).getD 0 [] ++ (signL op ++ ((showTs l).getD 1 [] ++ [41])))
def showTs : List T → List (List UInt8)
 | [] => []
 | t :: r => showT t :: showTs r
end
theorem showTs_map : ∀ l : List T,showTs l = l.map showT
 | [] => rfl
 | t :: l => by rw [showTs,showTs_map l]; rfl
mutual
def okT : T → Prop
 | .mk _ s n l => inR64 n ∧ s.length ≤ 1000 ∧ okTs l
def okTs : List T → Prop
 | [] => True
 | t :: r => okT t ∧ okTs r
end
mutual
def cntT : T → Nat
 | .mk _ _ _ l => cntTs l + 1
def cntTs : List T → Nat
 | [] => 0
 | t :: r => cntT t + cntTs r
end
theorem two_len (l : List (List UInt8)) : (l.getD 0 []).length + (l.getD 1 []).length ≤ (l.map List.length).sum := by
 match l with
 | [] => simp
 | [a] => simp
 | a :: b :: r => simp only [List.getD_cons_zero,List.getD_cons_succ,List.map_cons,List.sum_cons]; omega
theorem sign_len (op : Int) : (signL op).length = 3 := by
 unfold signL
 split
 ·rfl
 ·split <;> rfl
mutual
theorem showT_len : ∀ t : T,okT t → (showT t).length ≤ 5000 * cntT t
 | .mk op s n l,h => by
  rw [okT] at h
  obtain ⟨h1,h2,h3⟩ := h
  have hs := showTs_len l h3
  have h2l := two_len (showTs l)
  have hsg := sign_len op
  have hi := itoa_len h1
  have hq := flat_len s
  rw [showT,cntT]
  split
  ·omega
  ·split
   ·omega
   ·split
    ·simp only [quoteL,List.length_append,List.length_cons,List.length_nil]; omega
    ·split
     ·simp; omega
     ·simp only [List.length_append,List.length_cons,List.length_nil]; omega
theorem showTs_len : ∀ l : List T,okTs l → ((showTs l).map List.length).sum ≤ 5000 * cntTs l
 | [],_ => by simp [showTs]
 | t :: r,h => by
  rw [okTs] at h
  have h1 := showT_len t h.1
  have h2 := showTs_len r h.2
  rw [showTs,cntTs]
  simp only [List.map_cons,List.sum_cons]; omega
end
def showA (a : At) : List UInt8 := a.rel ++ ([40] ++ (Lib.join (a.l.map showT) [44,32] ++ [41]))
def eqL (op : Int) : List UInt8 := if op = 3 then [32,61,32] else if op = 4 then [32,33,61,32] else if op = 5 then [32,60,32] else [32,60,61,32]
def howL (l : Li) : List UInt8 := if l.op = 7 then [99,111,117,110,116] else (if l.op = 8 then [115,117,109,32] else if l.op = 9 then [109,105,110,32] else [109,97,120,32]) ++ showT l.y
def showL (l : Li) : List UInt8 := if l.op = 1 then showA l.a else if l.op = 2 then [33] ++ showA l.a else if l.op ≤ 6 then showT l.x ++ (eqL l.op ++ showT l.y) else showT l.x ++ ([32,61,32] ++ (howL l ++ ([32,58,32,123,32] ++ (showA l.a ++ [32,125]))))
def bodyL (l : List Li) : List UInt8 := if l.length = 0 then [] else [32,58,45,32] ++ Lib.join (l.map showL) [44,32]
def showR (r : Ru) : List UInt8 := showA r.head ++ (bodyL r.body ++ [46])
def colD (x : List UInt8 × Int) : List UInt8 := x.1 ++ (if x.2 = 1 then [58,32,110,117,109,98,101,114] else [58,32,115,121,109,98,111,108])
def inD (d : De) : List UInt8 := if d.inp = true then [46,105,110,112,117,116,32] ++ (d.rel ++ [10]) else []
def outD (d : De) : List UInt8 := if d.out = true then [46,111,117,116,112,117,116,32] ++ (d.rel ++ [10]) else []
def showD (d : De) : List UInt8 := [46,100,101,99,108,32] ++ (d.rel ++ ([40] ++ (Lib.join ((d.names.zip d.types).map colD) [44,32] ++ ([41,10] ++ (inD d ++ outD d)))))
def showDs (l : List De) : List UInt8 := (l.map showD).flatten
def showRs (l : List Ru) : List UInt8 := (l.map fun r => showR r ++ [10]).flatten
def showP (p : Pr) : List UInt8 := showDs p.decls ++ showRs p.rules
mutual
def nT : T → Prop
 | .mk _ _ n l => inR64 n ∧ nTs l
def nTs : List T → Prop
 | [] => True
 | t :: r => nT t ∧ nTs r
end
def nL (l : Li) : Prop := nTs l.a.l ∧ nT l.x ∧ nT l.y
def nR (r : Ru) : Prop := nTs r.head.l ∧ ∀ l ∈ r.body,nL l
theorem flat_cons (a : AV) (l : List AV) : flat (a :: l) = a.cells ++ flat l := by simp [Aw.flat]
mutual
theorem nT_of : ∀ t : T,(∀ c ∈ cT t,Sat c) → nT t
 | .mk op s n l,h => by
  rw [nT]
  refine ⟨i64_of (h (.int .i64 n) (by simp [cT,T.n])).int,nTs_of l fun c hc => ?_⟩
  exact (h (.sl 4 (encTs l) .no) (by simp [cT,T.l])).flat hc
theorem nTs_of : ∀ l : List T,(∀ c ∈ flat (encTs l),Sat c) → nTs l
 | [],_ => by rw [nTs]; trivial
 | t :: r,h => by
  rw [encTs,encT_eq,flat_cons] at h
  rw [nTs]
  exact ⟨nT_of t fun c hc => h c (List.mem_append_left _ hc),nTs_of r fun c hc => h c (List.mem_append_right _ hc)⟩
end
def okA (a : At) : Prop := okTs a.l ∧ a.rel.length ≤ 1000
def okL (l : Li) : Prop := okA l.a ∧ okT l.x ∧ okT l.y
def okRu (r : Ru) : Prop := okA r.head ∧ ∀ l ∈ r.body,okL l
def cntL (l : Li) : Nat := cntTs l.a.l + cntT l.x + cntT l.y + 1
def cntLs : List Li → Nat
 | [] => 0
 | l :: r => cntL l + cntLs r
def cntR (r : Ru) : Nat := cntTs r.head.l + cntLs r.body + 1
def cntRs : List Ru → Nat
 | [] => 0
 | l :: r => cntR l + cntRs r
mutual
theorem sizeT_cnt : ∀ (t : T) (k : Int),0 ≤ k → 0 ≤ sizeT t k → nT t → okT t ∧ (cntT t : Int) + sizeT t k = k
 | .mk op s n l,k,h0,h,hn => by
  rw [sizeT] at h ⊢
  rw [nT] at hn
  rw [okT,cntT]
  by_cases hs : 1000 < s.length
  ·rw [if_pos hs] at h; omega
  ·rw [if_neg hs] at h ⊢
   have := sizeTs_cnt l (k - 1) h hn.2
   exact ⟨⟨hn.1,by omega,this.1⟩,by omega⟩
theorem sizeTs_cnt : ∀ (l : List T) (k : Int),0 ≤ sizeTs l k → nTs l → okTs l ∧ (cntTs l : Int) + sizeTs l k = k
 | [],k,h,_ => by rw [sizeTs,okTs,cntTs]; exact ⟨trivial,by simp⟩
 | t :: r,k,h,hn => by
  rw [sizeTs] at h ⊢
  rw [nTs] at hn
  rw [okTs,cntTs]
  by_cases hk : 0 ≤ k
  ·rw [if_pos hk] at h ⊢
   have h2 := sizeTs_cnt r (sizeT t k) h hn.2
   have h1 := sizeT_cnt t k hk (by omega) hn.1
   exact ⟨⟨h1.1,h2.1⟩,by omega⟩
  ·rw [if_neg hk] at h; omega
end
def okDe (d : De) : Prop := d.rel.length ≤ 1000 ∧ ∀ x ∈ d.names,x.length ≤ 1000
theorem cntRs_at {r : Ru} : ∀ {l : List Ru},r ∈ l → cntR r ≤ cntRs l
 | x :: l,h => by
  rw [cntRs]
  rcases List.mem_cons.1 h with rfl | h
  ·omega
  ·have := cntRs_at h; omega
theorem join_len (xs : List (List UInt8)) (sep : List UInt8) : (Lib.join xs sep).length ≤ (xs.map List.length).sum + sep.length * xs.length := by
 cases xs with
 | nil => simp [Lib.join_nil]
 | cons x r =>
  have h := Lib.join_length x r sep
  have e : Lib.lens (x :: r) = ((x :: r).map List.length).sum := rfl
  rw [e] at h
  rw [h,List.length_cons,Nat.mul_succ]
  omega
theorem cnt_pos : ∀ t : T,1 ≤ cntT t
 | .mk _ _ _ l => by rw [cntT]; omega
theorem len_cnt : ∀ l : List T,l.length ≤ cntTs l
 | [] => by simp
 | t :: r => by have := len_cnt r; have := cnt_pos t; rw [cntTs]; simp; omega
theorem showA_len (a : At) (h : okA a) : (showA a).length ≤ 5002 * cntTs a.l + 1002 := by
 have h1 := showTs_len a.l h.1
 rw [showTs_map] at h1
 have h2 := join_len (a.l.map showT) [44,32]
 have h3 := len_cnt a.l
 have h4 := h.2
 simp only [List.length_map,List.length_cons,List.length_nil] at h2
 simp only [showA,List.length_append,List.length_cons,List.length_nil]
 omega
theorem eq_len (op : Int) : (eqL op).length ≤ 4 := by unfold eqL; split; simp; split; simp; split <;> simp
theorem how_len (l : Li) : (howL l).length ≤ (showT l.y).length + 5 := by
 unfold howL
 split
 ·simp
 ·rw [List.length_append]
  split
  ·simp; omega
  ·split <;> (simp; omega)
theorem showL_len (l : Li) (h : okL l) : (showL l).length + 2 ≤ 5002 * cntL l := by
 have h1 := showA_len l.a h.1
 have h2 := showT_len l.x h.2.1
 have h3 := showT_len l.y h.2.2
 have h4 := eq_len l.op
 have h5 := how_len l
 unfold showL cntL
 split
 ·omega
 ·split
  ·simp; omega
  ·split
   ·simp; omega
   ·simp; omega
theorem showLs_len : ∀ (l : List Li),(∀ x ∈ l,okL x) → ((l.map showL).map List.length).sum + 2 * l.length ≤ 5002 * cntLs l
 | [],_ => by simp
 | t :: r,h => by
  have h1 := showL_len t (h t (.head _))
  have h2 := showLs_len r fun x hx => h x (.tail _ hx)
  rw [cntLs]
  simp only [List.map_cons,List.sum_cons,List.length_cons]; omega
theorem body_len (l : List Li) (h : ∀ x ∈ l,okL x) : (bodyL l).length ≤ 5002 * cntLs l + 4 := by
 have h1 := showLs_len l h
 have h2 := join_len (l.map showL) [44,32]
 simp only [List.length_map,List.length_cons,List.length_nil] at h2
 unfold bodyL
 split
 ·simp
 ·simp; omega
theorem showR_len (r : Ru) (h : okRu r) : (showR r).length + 1 ≤ 5002 * cntR r := by
 have h1 := showA_len r.head h.1
 have h2 := body_len r.body h.2
 unfold showR cntR
 simp; omega
theorem showRs_len : ∀ (l : List Ru),(∀ x ∈ l,okRu x) → (showRs l).length ≤ 5002 * cntRs l
 | [],_ => by simp [showRs]
 | t :: r,h => by
  have h1 := showR_len t (h t (.head _))
  have h2 := showRs_len r fun x hx => h x (.tail _ hx)
  unfold showRs at h2 ⊢
  rw [cntRs]
  simp only [List.map_cons,List.flatten_cons,List.length_append,List.length_cons,List.length_nil]; omega
theorem col_len (x : List UInt8 × Int) : (colD x).length = x.1.length + 8 := by
 unfold colD; rw [List.length_append]; split <;> rfl
theorem cols_len : ∀ (l : List (List UInt8 × Int)),(∀ x ∈ l,x.1.length ≤ 1000) → ((l.map colD).map List.length).sum ≤ 1008 * l.length
 | [],_ => by simp
 | x :: l,h => by
  have h1 := cols_len l fun y hy => h y (.tail _ hy)
  have h2 := h x (.head _)
  have h3 := col_len x
  simp only [List.map_cons,List.sum_cons,List.length_cons]; omega
theorem inD_len (d : De) : (inD d).length ≤ d.rel.length + 8 := by
 unfold inD; split
 ·simp
 ·simp
theorem outD_len (d : De) : (outD d).length ≤ d.rel.length + 9 := by
 unfold outD; split
 ·simp
 ·simp
theorem showD_len (d : De) (h : okDe d) (hr : d.names.length ≤ 8) : (showD d).length ≤ 12000 := by
 have h1 := cols_len (d.names.zip d.types) fun x hx => h.2 _ (List.of_mem_zip hx).1
 have h2 := join_len ((d.names.zip d.types).map colD) [44,32]
 have h3 := inD_len d
 have h4 := outD_len d
 have h5 : (d.names.zip d.types).length ≤ 8 := by rw [List.length_zip]; omega
 have h6 := h.1
 simp only [List.length_map,List.length_cons,List.length_nil] at h2
 simp only [showD,List.length_append,List.length_cons,List.length_nil]
 omega
theorem showDs_len : ∀ (l : List De),(∀ d ∈ l,okDe d ∧ d.names.length ≤ 8) → (showDs l).length ≤ 12000 * l.length
 | [],_ => by simp [showDs]
 | t :: r,h => by
  have h0 := h t (.head _)
  have h1 := showD_len t h0.1 h0.2
  have h2 := showDs_len r fun x hx => h x (.tail _ hx)
  unfold showDs at h2 ⊢
  simp only [List.map_cons,List.flatten_cons,List.length_append,List.length_cons]; omega
theorem take_snoc {α β : Type} {f : α → β} {l : List α} {z : Nat} {x : α} (h : z < l.length) (hx : x = l[z]) : (l.take (z + 1)).map f = (l.take z).map f ++ [f x] := by
 rw [List.take_succ_eq_append_getElem h, ← hx,List.map_append]; rfl
theorem rightA_at {a : At} (hr : rightA a = true) : a.l.length ≤ 8 ∧ ∀ (i : Nat) (hi : i < a.l.length),rightT a.l[i] 20 = true := by
 rw [rightA] at hr
 simp only [Bool.and_eq_true,Bool.not_eq_true',decide_eq_false_iff_not,List.all_eq_true] at hr
 exact ⟨by omega,fun i hi => hr.2.2.2 _ (List.getElem_mem hi)⟩
end Go.Proofs.YtfeknkaioofljaaGreatDoor.Tree
