/-
 Regions that draw,in another order,with slices among what may come late; a mutable slice that lies in a block,from where on it is only read. Own work.
-/
import Derived.Test.YtfeknkaioofljaaGreatDoorBld
import Derived.Test.YtfeknkaioofljaaGreatDoorTab
set_option linter.all false
namespace Go.Proofs.YtfeknkaioofljaaGreatDoor
open Go.Aw Go.RowKit
def AVleM (b off n cap sz : Nat) (es : List AV) : List AV → List AV → Prop
 | [], [] => True
 | x :: xs,y :: ys => (x = y ∨ (x = .msl b off n cap ∧ y = .sl sz es .no)) ∧ AVleM b off n cap sz es xs ys
 | _,_ => False
theorem AVleM.rel {b off n cap sz : Nat} {es : List AV} {K : Kn} (hK : ∀ v,Rel K (.msl b off n cap) v → Rel K (.sl sz es .no) v) : ∀ {xs ys : List AV} {vs : List Value},AVleM b off n cap sz es xs ys → RelL K xs vs → RelL K ys vs
 | [], [],vs,_,h => h
 | x :: xs,y :: ys,vs,h,hr => by
  obtain ⟨v,r,rfl,h1,h2⟩ := hr.cons_inv
  refine RelL.cons ?_ (AVleM.rel hK h.2 h2)
  rcases h.1 with rfl | ⟨rfl,rfl⟩
  ·exact h1
  ·exact hK _ h1
 | [],_ :: _,_,h,_ => h.elim
 | _ :: _, [],_,h,_ => h.elim
theorem AW_freezeC {P : Program} {N : Nat} {rd : Option Nat} {E : Env} {R : List En} {k : Kt} {c : Code} {b q off n cap sz : Nat} {cs es qs qs' : List AV} (hn : es.length = n) (hsz : ∀ e ∈ es,e.cells.length = sz) (hf : flat es = (cs.drop off).take (n * sz))
  (hq : AVleM b off n cap sz es qs qs') (ho : ∀ c ∈ qs',c.one = true) (h : AW P N rd c E (.cells q qs' :: R) k) : AW P N rd c E (.cells b cs :: .cells q qs :: R) k := by
 refine AW_weak ?_ h
 intro w0 N K a w hE hS
 obtain ⟨K',hK,hS',vs,e1,hr,h1⟩ := hS.freeze (p := 0) rfl
 refine ⟨K',hK,⟨hE.size,fun i => (hE.slot i).mono hK,hE.defers⟩,?_⟩
 replace hS' : RelS w0 K' (.cells q qs :: R) w := hS'
 obtain ⟨hB,hKq,_,us,T,hh,hrel⟩ := hS'.ents _ (.head _)
 refine ⟨hS'.below,hS'.kcell,fun e he => ?_,hS'.apart⟩
 rcases List.mem_cons.1 he with rfl | he
 ·exact ⟨hB,hKq,ho,us,T,hh,hq.rel (fun v hv => AVle_frozen e1 hr h1 hn hsz hf hv) hrel⟩
 ·exact hS'.ents e (.tail _ he)
theorem flat_append (a b : List AV) : Aw.flat (a ++ b) = Aw.flat a ++ Aw.flat b := by simp [Aw.flat]
theorem astep_app {P : Program} {τ : List (TypeId × TI)} {op : Op} {ρ : Operand → AV} {S X : List En} {k k' : AV → List En → Prop} (hd : det op = true) (h : astep P τ op ρ S k) (hk : ∀ v,k v S → k' v (S ++ X)) :
  astep P τ op ρ (S ++ X) k' := by
 have ga : ∀ {p : Nat} {e : En},S[p]? = some e → (S ++ X)[p]? = some e := fun {p e} hp => by
  rw [List.getElem?_append_left (List.getElem?_eq_some_iff.1 hp).1]; exact hp
 have gm : ∀ {e : En},e ∈ S → e ∈ S ++ X := fun he => List.mem_append_left _ he
 cases op <;> first | (exfalso; simp [det] at hd; done) | skip
 case move x => exact hk _ (h)
 case assign x => exact hk _ (h)
 case makeFunc f a b => exact hk _ (h)
 case makeInterface t x => simp only [astep] at h ⊢; exact ⟨h.1,hk _ (h.2)⟩
 case lookup t m x ok =>
  simp only [astep] at h ⊢
  split at h
  ·obtain ⟨kt,e,z,p,l,a,b,c,d,r,g,f⟩ := h; exact ⟨kt,e,z,p,l,a,b,c,ga d,r,g,hk _ (f)⟩
  ·exact h.elim
 case pick c a b =>
  simp only [astep] at h ⊢
  cases hc : ρ c <;> rw [hc] at h <;> simp only [] at h ⊢
  exact hk _ (h)
 case build t ps =>
  simp only [astep] at h ⊢
  cases hd : (lkT τ t).d <;> rw [hd] at h <;> simp only [] at h ⊢
  ·obtain ⟨a,cs,b,c⟩ := h; exact ⟨a,cs,b,hk _ (c)⟩
  ·obtain ⟨a,cs,b,c⟩ := h; exact ⟨a,cs,b,hk _ (c)⟩
 case buildSlice t len ps =>
  simp only [astep] at h ⊢
  cases hd : (lkT τ t).d <;> rw [hd] at h <;> simp only [] at h ⊢
  obtain ⟨a,b,c,d,e,f⟩ := h; exact ⟨a,b,c,d,e,hk _ (f)⟩
 case load t x =>
  simp only [astep] at h ⊢
  obtain ⟨h0,h⟩ := h
  cases hc : ρ x <;> rw [hc] at h <;> simp only [] at h ⊢
  ·obtain ⟨a,v,e,b⟩ := h; exact ⟨h0,a,v,e,hk _ (b)⟩
  ·obtain ⟨p,cs,a,b,v,e,c⟩ := h; exact ⟨h0,p,cs,ga a,b,v,e,hk _ (c)⟩
  ·obtain ⟨cs,a,b,v,e,c⟩ := h; exact ⟨h0,cs,gm a,b,v,e,hk _ (c)⟩
 case unOp op t x =>
  simp only [astep] at h ⊢
  split at h
  ·exact hk _ (h)
  ·exact hk _ (h)
  ·exact hk _ (h)
  ·exact h.elim
 case convert s d x =>
  simp only [astep] at h ⊢
  split at h
  ·exact hk _ (h)
  ·exact hk _ (h)
  ·obtain ⟨a,l,b,c⟩ := h; exact ⟨a,l,b,hk _ (c)⟩
  ·obtain ⟨a,l,b,c,d⟩ := h; exact ⟨a,l,b,c.imp id (fun ⟨p,cur,x,y⟩ => ⟨p,cur,ga x,y⟩),hk _ (d)⟩
  ·obtain ⟨a,b,p,cs,c,d,e⟩ := h; exact ⟨a,b,p,cs,ga c,d,hk _ (e)⟩
  ·obtain ⟨a,p,cs,T,c,d,e,f⟩ := h; exact ⟨a,p,cs,T,ga c,gm d,e,hk _ (f)⟩
  ·exact h.elim
 case extract x i =>
  simp only [astep] at h ⊢
  cases hc : ρ x <;> rw [hc] at h <;> simp only [] at h ⊢
  obtain ⟨v,a,b⟩ := h; exact ⟨v,a,hk _ (b)⟩
 case nilCheck x =>
  simp only [astep] at h ⊢
  cases hc : ρ x <;> rw [hc] at h <;> simp only [] at h ⊢
  ·exact hk _ (h)
  ·exact hk _ (h)
 case fieldAddr t x f =>
  simp only [astep] at h ⊢
  cases hd : (lkT τ t).d <;> rw [hd] at h <;> simp only [] at h ⊢
  obtain ⟨o,ft,a,b,c,h⟩ := h
  cases hc : ρ x <;> rw [hc] at h <;> simp only [] at h ⊢
  ·obtain ⟨d,e⟩ := h; exact ⟨o,ft,a,b,c,d,hk _ (e)⟩
  ·exact ⟨o,ft,a,b,c,hk _ (h)⟩
 case field t x f =>
  simp only [astep] at h ⊢
  split at h
  ·obtain ⟨o,ft,a,b,c,e⟩ := h; exact ⟨o,ft,a,b,c,hk _ (e)⟩
  ·exact h.elim
 case indexAddr t x i =>
  simp only [astep] at h ⊢
  split at h
  ·obtain ⟨a,b,c,v,e,g⟩ := h; exact ⟨a,b,c,v,e,hk _ (g)⟩
  ·obtain ⟨a,b,c,o,e,g⟩ := h; exact ⟨a,b,c,o,e,hk _ (g)⟩
  ·obtain ⟨a,b,c,o,e,g⟩ := h; exact ⟨a,b,c,o,e,hk _ (g)⟩
  ·obtain ⟨a,b,c,cs,m,r,e,g⟩ := h; exact ⟨a,b,c,cs,gm m,r,e,hk _ (g)⟩
  ·exact h.elim
 case index t x i =>
  simp only [astep] at h ⊢
  split at h
  ·obtain ⟨a,c,b,g⟩ := h; exact ⟨a,c,b,hk _ (g)⟩
  ·obtain ⟨a,b,c,e,g⟩ := h; exact ⟨a,b,c,e,hk _ (g)⟩
  ·exact h.elim
 case slice t x lo hi mx =>
  simp only [astep] at h ⊢
  split at h
  ·obtain ⟨a,b,c,e,r,hr,g⟩ := h; exact ⟨a,b,c,e,r,hr,hk _ (g)⟩
  ·obtain ⟨a,b,c,e,f,g,i,r,hr,j⟩ := h; exact ⟨a,b,c,e,f,g,i,r,hr,hk _ (j)⟩
  ·obtain ⟨a,b,c,e,f,g,o,n',c',e1,e2,e3,j⟩ := h; exact ⟨a,b,c,e,f,g,o,n',c',e1,e2,e3,hk _ (j)⟩
  ·exact h.elim
 case binOp op t x y t' =>
  simp only [astep] at h ⊢
  split at h
  ·obtain ⟨a,r,c,h⟩ := h
   cases op <;> simp only [] at h ⊢
   ·exact ⟨a,r,c,hk _ (h)⟩
   ·exact ⟨a,r,c,hk _ (h)⟩
  ·obtain ⟨v,e1,e2⟩ := aBin_det h.2; exact ⟨h.1,e1 _ (hk _ e2)⟩
  ·obtain ⟨v,e1,e2⟩ := aBin_det h; exact e1 _ (hk _ e2)
  ·obtain ⟨v,e1,e2⟩ := aBin_det h; exact e1 _ (hk _ e2)
  ·obtain ⟨rfl,_⟩ := h; simp [det] at hd
  ·obtain ⟨a,h⟩ := h
   cases op <;> simp only [] at h ⊢
   ·exact ⟨a,fun _ => hk _ (h trivial)⟩
   ·exact ⟨a,fun _ => hk _ (h trivial)⟩
  ·obtain ⟨a,h⟩ := h
   cases op <;> simp only [] at h ⊢
   ·exact ⟨a,fun _ => hk _ (h trivial)⟩
   ·exact ⟨a,fun _ => hk _ (h trivial)⟩
  ·obtain ⟨a,b,h⟩ := h
   cases op <;> simp only [] at h ⊢
   ·exact ⟨a,b,fun _ => hk _ (h trivial)⟩
   ·exact ⟨a,b,fun _ => hk _ (h trivial)⟩
  ·obtain ⟨a,h⟩ := h
   cases op <;> simp only [] at h ⊢
   ·exact ⟨a,fun _ => hk _ (h trivial)⟩
   ·exact ⟨a,fun _ => hk _ (h trivial)⟩
  ·obtain ⟨a,b,h⟩ := h
   cases op <;> simp only [] at h ⊢
   ·exact ⟨a,b,fun _ => hk _ (h trivial)⟩
   ·exact ⟨a,b,fun _ => hk _ (h trivial)⟩
  ·exact h.elim
 case call c =>
  simp only [astep] at h ⊢
  cases hc : c.callee <;> simp only [det,hc] at hd <;> rw [hc] at h <;> simp only [] at h ⊢
  case builtin b =>
   unfold aBuiltin at h ⊢
   split at h <;> first
    | exact h.elim
    | (exfalso; simp at hd; done)
    | (obtain ⟨a,b⟩ := h; exact ⟨a,hk _ (b)⟩)
    | exact hk _ (h)
  all_goals cases hd
def waitsB (ops : Array Oper) (j i : Nat) : Bool := match ops[j]? with
 | some o => (deps o).any (Nat.beq i)
 | none => false
theorem segWaits_of {ops : Array Oper} {j i : Nat} (h : waitsB ops j i = true) : ∃ o,ops[j]? = some o ∧ i ∈ deps o := by
 unfold waitsB at h
 split at h
 ·rename_i o ho; exact ⟨o,ho,any_beq h⟩
 ·cases h
def readyL (ops : List Oper) (pend : List Nat) : List Nat := pend.filter fun i => match ops[i]? with
 | some o => (deps o).all fun d => !memB pend d
 | none => false
def dropN (pend : List Nat) (i : Nat) : List Nat := pend.filter fun j => !Nat.beq j i
theorem mem_dropN {pend : List Nat} {i j : Nat} : j ∈ dropN pend i ↔ j ∈ pend ∧ j ≠ i := by
 unfold dropN
 rw [List.mem_filter]
 constructor
 ·rintro ⟨h1,h2⟩
  refine ⟨h1,fun e => ?_⟩
  subst e
  simp [Nat.beq_refl] at h2
 ·rintro ⟨h1,h2⟩
  exact ⟨h1,by rw [natBeq_ne h2]; rfl⟩
theorem wpAny_weakA {P : Program} {rd : Option Nat} {N : Nat} {ops : Array Oper} {w0 : World} {K : Kn} {k : Kt} {f : Nat} {l : Array Bool} {a : Act} {w : World} (this : wpAnyIn (Fw rd) 0 P .any ops (APost w0 N K fun x E' S' => x = .normal ∧ k .normal E' S') f l a w) : wpAnyIn (Fw rd) 0 P .any ops (APost w0 N K k) f l a w := by
 have key : ∀ (f : Nat) (l : Array Bool) (a : Act) (w : World),wpAnyIn (Fw rd) 0 P .any ops (APost w0 N K fun x E' S' => x = .normal ∧ k .normal E' S') f l a w → wpAnyIn (Fw rd) 0 P .any ops (APost w0 N K k) f l a w := by
  have hpost : ∀ e a w,APost w0 N K (fun x E' S' => x = .normal ∧ k .normal E' S') e a w → APost w0 N K k e a w := by
   rintro e a' w' ⟨K',E',S',h1,h2,h3,rfl,h4⟩
   exact ⟨K',E',S',h1,h2,h3,h4⟩
  intro f
  induction f with
  | zero => exact fun l a w hh => ⟨hh.1,hpost _ _ _ hh.2⟩
  | succ f ih =>
   intro l a w hh
   refine ⟨fun hn => hpost _ _ _ (hh.1 hn),fun i hi => ?_⟩
   have h1 := wpOpIn_mono (fun a w hx => ih _ a w hx) (hh.2 i hi)
   unfold wpOpIn at h1 ⊢
   split at h1
   ·exact h1
   ·split at h1
    ·rename_i hw
     rw [if_pos hw]
     refine ⟨h1.1,?_⟩
     have h5 := h1.2
     revert h5
     generalize (Oper.semAt _ _ _).run P w = rr
     intro h5
     cases rr with
     | halt x w => cases x <;> first | exact h5.elim | exact hpost _ _ _ (show APost w0 N K _ _ a _ from h5)
     | ok x w =>
      cases x <;> first
       | exact h5.elim
       | exact h5
       | exact ⟨h5.1,CallsIn.mono h5.2 (fun e w'' he => by
         cases e with
         | returned v => exact he
         | panicked c => exact hpost _ _ _ he
         | outgrown => obtain ⟨a0,w00,hq⟩ := he; exact ⟨a0,w00,hpost _ _ _ hq⟩)⟩
       | exact ⟨h5.1,RowsIn.mono h5.2 (fun _ _ he => he)⟩
       | exact ⟨h5.1,RoundIn.mono h5.2 (fun e w'' he => by
         cases e with
         | returned v => exact he
         | panicked c => exact hpost _ _ _ he
         | outgrown => obtain ⟨a0,w00,hq⟩ := he; exact ⟨a0,w00,hpost _ _ _ hq⟩)⟩
    ·rename_i hw
     rw [if_neg hw]; exact h1
 exact key _ _ _ _ this
theorem det_stepX {P : Program} {τ : List (TypeId × TI)} {op : Op} {ρ : Operand → AV} {S : List En} {F : AV → Prop} (hd : det op = true) (h : astep P τ op ρ S (fun v _ => F v)) :
  ∃ v,(∀ X,astep P τ op ρ (S ++ X) (fun v' S' => AVle v' v ∧ (S ++ X).Sublist S')) ∧ F v := by
 obtain ⟨v,h1,h2⟩ := astep_det hd h
 refine ⟨v,fun X => astep_app (k := fun v' _ => v' = v) hd (h1 _ rfl) (fun v' e => ?_),h2⟩
 subst e
 exact ⟨AVle.refl _,List.Sublist.refl _⟩
def hitB (d : Option Nat) (l : List Nat) : Bool := match d with
 | some t => memB l t
 | none => false
def sameB (a b : Option Nat) : Bool := match a,b with
 | some x,some y => Nat.beq x y
 | _,_ => false
theorem hitB_some {t : Nat} {l : List Nat} : hitB (some t) l = true ↔ t ∈ l := memB_iff
def ascB : List Nat → Bool
 | [] => true
 | [_] => true
 | a :: b :: r => Nat.blt a b && ascB (b :: r)
theorem ascB_pair : ∀ {l : List Nat},ascB l = true → l.Pairwise (· < ·)
 | [],_ => .nil
 | [a],_ => List.pairwise_singleton ..
 | a :: b :: r,h => by
  rw [ascB,Bool.and_eq_true] at h
  have h1 := ascB_pair h.2
  refine List.pairwise_cons.2 ⟨fun c hc => ?_,h1⟩
  have hab := Nat.le_of_ble_eq_true h.1
  rcases List.mem_cons.1 hc with rfl | hc
  ·exact hab
  ·have := (List.pairwise_cons.1 h1).1 c hc; omega
def factT (ops : Array Oper) (H : List Nat) : Bool := ascB H && H.all (fun i => Nat.blt i ops.size) &&
 (List.range ops.size).all fun j => match ops[j]? with
  | some o => (deps o).all (fun i => Nat.blt i j) && o.guard.isNone && (List.range ops.size).all fun i => match ops[i]? with
   | some o' => bif memB H i then ((!hitB o'.dst (slotsOf o) || memB (deps o) i) && (Nat.beq i j || !sameB o'.dst o.dst)) else (!memB H j || !hitB o'.dst (slotsOf o))
   | none => false
  | none => false
structure TFacts (ops : Array Oper) (H : List Nat) : Prop where
 asc : H.Pairwise (· < ·)
 lt : ∀ i ∈ H,i < ops.size
 back : ∀ (j : Nat) (o : Oper),ops[j]? = some o → ∀ i ∈ deps o,i < j
 ng : ∀ (j : Nat) (o : Oper),ops[j]? = some o → o.guard = none
 sl : ∀ (j i : Nat) (o o' : Oper) (t : Nat),i ∈ H → ops[j]? = some o → ops[i]? = some o' → o'.dst = some t → t ∈ slotsOf o → i ∈ deps o
 so : ∀ (j i : Nat) (o o' : Oper) (t : Nat),j ∈ H → i ∉ H → ops[j]? = some o → ops[i]? = some o' → o'.dst = some t → t ∉ slotsOf o
 dd : ∀ (j i : Nat) (o o' : Oper) (t : Nat),i ∈ H → i ≠ j → ops[j]? = some o → ops[i]? = some o' → o'.dst = some t → o.dst ≠ some t
theorem factT_of {ops : Array Oper} {H : List Nat} (h : factT ops H = true) : TFacts ops H := by
 rw [factT,Bool.and_eq_true,Bool.and_eq_true] at h
 obtain ⟨⟨h1,h2⟩,h3⟩ := h
 have at_ : ∀ (j i : Nat) (o o' : Oper),ops[j]? = some o → ops[i]? = some o' → (bif memB H i then ((!hitB o'.dst (slotsOf o) || memB (deps o) i) && (Nat.beq i j || !sameB o'.dst o.dst)) else (!memB H j || !hitB o'.dst (slotsOf o))) = true := by
  intro j i o o' ho ho'
  have hj : j < ops.size := (Array.getElem?_eq_some_iff.1 ho).1
  have hi : i < ops.size := (Array.getElem?_eq_some_iff.1 ho').1
  have a := List.all_eq_true.1 h3 j (List.mem_range.2 hj)
  simp only [ho,Bool.and_eq_true] at a
  have b := List.all_eq_true.1 a.2 i (List.mem_range.2 hi)
  simpa only [ho'] using b
 have at1 : ∀ (j : Nat) (o : Oper),ops[j]? = some o → (deps o).all (fun i => Nat.blt i j) = true ∧ o.guard.isNone = true := by
  intro j o ho
  have hj : j < ops.size := (Array.getElem?_eq_some_iff.1 ho).1
  have a := List.all_eq_true.1 h3 j (List.mem_range.2 hj)
  simp only [ho,Bool.and_eq_true] at a
  exact a.1
 refine ⟨ascB_pair h1,fun i hi => Nat.le_of_ble_eq_true (List.all_eq_true.1 h2 i hi),fun j o ho i hi => Nat.le_of_ble_eq_true (List.all_eq_true.1 (at1 j o ho).1 i hi),fun j o ho => Option.isNone_iff_eq_none.1 (at1 j o ho).2,?_,?_,?_⟩
 ·intro j i o o' t hi ho ho' hd ht
  have a := at_ j i o o' ho ho'
  rw [memB_iff.2 hi,hd] at a
  simp only [cond_true,Bool.and_eq_true,Bool.or_eq_true] at a
  rcases a.1 with b | b
  ·rw [hitB_some.2 ht] at b; cases b
  ·exact memB_iff.1 b
 ·intro j i o o' t hj hi ho ho' hd ht
  have a := at_ j i o o' ho ho'
  rw [memB_false.2 hi,memB_iff.2 hj,hd,hitB_some.2 ht] at a
  cases a
 ·intro j i o o' t hi hij ho ho' hd hd2
  have a := at_ j i o o' ho ho'
  rw [memB_iff.2 hi,hd,hd2] at a
  simp only [cond_true,Bool.and_eq_true,Bool.or_eq_true] at a
  rcases a.2 with b | b
  ·exact hij (Nat.eq_of_beq_eq_true b)
  ·rw [sameB,Nat.beq_refl] at b; cases b
def aheadsH (P : Program) (τ : List (TypeId × TI)) (ops : List Oper) : List Nat → Env → List En → (Env → Prop) → Prop
 | [],E,_,k => k E
 | i :: r,E,S,k => match ops[i]? with
  | some o => ∃ v,(∀ X,astep P τ o.op (ev E) (S ++ X) (fun v' S' => AVle v' v ∧ (S ++ X).Sublist S')) ∧ aheadsH P τ ops r (E.put o.dst v) S k
  | none => False
inductive OT
 | leaf
 | one (d : Bool) (i : Nat) (t : OT)
 | more (d : Bool) (i : Nat) (t : OT) (r : OT)
def doneH (ops : Array Oper) (L : List Nat) : List Nat → List Nat
 | [] => []
 | h :: r => bif (L ++ doneH ops L r).any (fun j => waitsB ops j h) then h :: doneH ops L r else doneH ops L r
def allB (ops : Array Oper) (H L : List Nat) : Bool := Nat.beq (doneH ops L H).length H.length
theorem doneH_sub (ops : Array Oper) (L : List Nat) : ∀ H : List Nat,(doneH ops L H).Sublist H
 | [] => List.Sublist.refl _
 | h :: r => by
  rw [doneH]
  cases (L ++ doneH ops L r).any fun j => waitsB ops j h with
  | true => exact (doneH_sub ops L r).cons_cons h
  | false => exact (doneH_sub ops L r).cons h
theorem doneH_ok {ops : Array Oper} {L : List Nat} {listed : Array Bool} (hL : ∀ j ∈ L,listed.getD j false = true) (hc : ∀ j o,ops[j]? = some o → listed.getD j false = true → ∀ e ∈ deps o,listed.getD e false = true) : ∀ H : List Nat, ∀ h ∈ doneH ops L H,listed.getD h false = true
 | [],h,hh => by cases hh
 | a :: r,h,hh => by
  have ih := doneH_ok hL hc r
  rw [doneH] at hh
  cases hb : (L ++ doneH ops L r).any fun j => waitsB ops j a with
  | false => rw [hb] at hh; exact ih h hh
  | true =>
   rw [hb] at hh
   rcases List.mem_cons.1 hh with rfl | hh
   ·obtain ⟨j,hj,hw⟩ := List.any_eq_true.1 hb
    obtain ⟨o,ho,hd⟩ := segWaits_of hw
    refine hc j o ho ?_ h hd
    rcases List.mem_append.1 hj with hj | hj
    ·exact hL j hj
    ·exact ih j hj
   ·exact ih h hh
theorem allB_ok {ops : Array Oper} {H L : List Nat} {listed : Array Bool} (h : allB ops H L = true) (hL : ∀ j ∈ L,listed.getD j false = true) (hc : ∀ j o,ops[j]? = some o → listed.getD j false = true → ∀ e ∈ deps o,listed.getD e false = true) : ∀ h ∈ H,listed.getD h false = true := by
 have e : doneH ops L H = H := (doneH_sub ops L H).eq_of_length (Nat.eq_of_beq_eq_true h)
 intro i hi
 exact doneH_ok hL hc H i (by rw [e]; exact hi)
def okT (ops : Array Oper) (H : List Nat) : OT → List Nat → List Nat → List Nat → Bool → Bool
 | .leaf,pend,_,_,_ => pend.isEmpty
 | .one d i t,pend,rdy,L,dn => !pend.isEmpty && decide (rdy = [i]) && (!d || dn || allB ops H (i :: L)) && okT ops H t (dropN pend i) (readyL ops.toList (dropN pend i)) (i :: L) d
 | .more d i t r,pend,rdy,L,dn => !pend.isEmpty && decide (rdy.head? = some i) && (!d || dn || allB ops H (i :: L)) && okT ops H t (dropN pend i) (readyL ops.toList (dropN pend i)) (i :: L) d && okT ops H r pend rdy.tail L dn
def aT (P : Program) (τ : List (TypeId × TI)) (ops : List Oper) (S0 : List En) : OT → Env → List En → (Env → List En → Prop) → Prop
 | .leaf,E,S,k => k E S
 | .one d i t,E,S,k => match ops[i]? with
  | some o => astep P τ o.op (ev E) S fun v S' => bif d then aT P τ ops S0 t (E.put o.dst v) S' k else (∃ X,S'.Perm (S0 ++ X)) ∧ aT P τ ops S0 t (E.put o.dst v) S' k
  | none => False
 | .more d i t r,E,S,k => (match ops[i]? with
  | some o => astep P τ o.op (ev E) S fun v S' => bif d then aT P τ ops S0 t (E.put o.dst v) S' k else (∃ X,S'.Perm (S0 ++ X)) ∧ aT P τ ops S0 t (E.put o.dst v) S' k
  | none => False) ∧ aT P τ ops S0 r E S k
theorem aT_at {P : Program} {τ : List (TypeId × TI)} {ops : Array Oper} {H L : List Nat} {dn : Bool} {S0 : List En} {k : Env → List En → Prop} {E : Env} {S : List En} {pend : List Nat} (hp : pend ≠ []) : ∀ (t : OT) (rdy : List Nat),okT ops H t pend rdy L dn = true → aT P τ ops.toList S0 t E S k → ∀ i ∈ rdy,
  ∃ t' d,okT ops H t' (dropN pend i) (readyL ops.toList (dropN pend i)) (i :: L) d = true ∧ (d = true → dn = true ∨ allB ops H (i :: L) = true) ∧ match ops.toList[i]? with
   | some o => astep P τ o.op (ev E) S fun v S' => bif d then aT P τ ops.toList S0 t' (E.put o.dst v) S' k else (∃ X,S'.Perm (S0 ++ X)) ∧ aT P τ ops.toList S0 t' (E.put o.dst v) S' k
   | none => False
 | .leaf,rdy,h,_,i,hi => by
  rw [okT,List.isEmpty_iff] at h
  exact absurd h hp
 | .one d j t,rdy,h,ht,i,hi => by
  rw [okT,Bool.and_eq_true,Bool.and_eq_true,Bool.and_eq_true,decide_eq_true_eq] at h
  rw [h.1.1.2,List.mem_singleton] at hi
  subst hi
  refine ⟨t,d,h.2,fun hd => ?_,ht⟩
  have := h.1.2
  rw [hd] at this
  simpa using this
 | .more d j t r,rdy,h,ht,i,hi => by
  rw [okT,Bool.and_eq_true,Bool.and_eq_true,Bool.and_eq_true,Bool.and_eq_true,decide_eq_true_eq] at h
  cases rdy with
  | nil => cases hi
  | cons a l =>
   obtain rfl : a = j := by simpa using h.1.1.1.2
   rcases List.mem_cons.1 hi with rfl | hi
   ·refine ⟨t,d,h.1.2,fun hd => ?_,ht.1⟩
    have := h.1.1.2
    rw [hd] at this
    simpa using this
   ·exact aT_at hp r l h.2 ht.2 i hi
theorem aT_end {P : Program} {τ : List (TypeId × TI)} {ops : Array Oper} {H L : List Nat} {dn : Bool} {S0 : List En} {k : Env → List En → Prop} {E : Env} {S : List En} {t : OT} {rdy : List Nat} (h : okT ops H t [] rdy L dn = true) (ht : aT P τ ops.toList S0 t E S k) : k E S := by
 cases t with
 | leaf => exact ht
 | one d i t => simp [okT] at h
 | more d i t r => simp [okT] at h
theorem headsH_of {P : Program} {τ : List (TypeId × TI)} {ops : Array Oper} {S : List En} {k : Env → Prop} : ∀ (r : List Nat) (E : Env),r.Pairwise (· < ·) → aheadsH P τ ops.toList r E S k →
  ∃ EH,k EH ∧ EH.m = E.m ∧ (∀ t,(∀ i ∈ r, ∀ o,ops[i]? = some o → o.dst ≠ some t) → lk EH.l t = lk E.l t) ∧
   ∀ i ∈ r, ∃ o,ops[i]? = some o ∧ ∃ Ei v,(∀ X,astep P τ o.op (ev Ei) (S ++ X) (fun v' S' => AVle v' v ∧ (S ++ X).Sublist S')) ∧
    (∀ t,(∀ j ∈ r,i ≤ j → ∀ o',ops[j]? = some o' → o'.dst ≠ some t) → lk EH.l t = lk Ei.l t) ∧
    ∀ t,o.dst = some t → (∀ j ∈ r,i < j → ∀ o',ops[j]? = some o' → o'.dst ≠ some t) → lk EH.l t = v
 | [],E,_,h => ⟨E,h,rfl,fun t _ => rfl,fun i hi => (by cases hi)⟩
 | i :: r,E,hp,h => by
  obtain ⟨hp1,hp2⟩ := List.pairwise_cons.1 hp
  rw [aheadsH] at h
  cases ho : ops.toList[i]? with
  | none => simp only [ho] at h
  | some o =>
   simp only [ho] at h
   have ho' : ops[i]? = some o := by simpa using ho
   obtain ⟨v,h1,h2⟩ := h
   obtain ⟨EH,k1,k2,k3,k4⟩ := headsH_of r _ hp2 h2
   refine ⟨EH,k1,k2.trans (by cases o.dst <;> rfl),fun t ht => ?_,fun j hj => ?_⟩
   ·rw [k3 t fun q hq => ht q (.tail _ hq),lk_put_other _ _ (ht i (.head _) o ho')]
   ·rcases List.mem_cons.1 hj with rfl | hj
    ·refine ⟨o,ho',E,v,h1,fun t ht => ?_,fun t hd ht => ?_⟩
     ·rw [k3 t fun q hq => ht q (.tail _ hq) (Nat.le_of_lt (hp1 q hq)),lk_put_other _ _ (ht j (.head _) (Nat.le_refl _) o ho')]
     ·rw [k3 t fun q hq => ht q (.tail _ hq) (hp1 q hq),hd]; exact lk_put_same ..
    ·obtain ⟨o2,g1,Ei,v2,g2,g3,g4⟩ := k4 j hj
     refine ⟨o2,g1,Ei,v2,g2,fun t ht => g3 t fun q hq => ht q (.tail _ hq),fun t hd ht => g4 t hd fun q hq => ht q (.tail _ hq)⟩
theorem drawT_any {P : Program} {τ : List (TypeId × TI)} (hτ : AllOk P τ) {rd : Option Nat} {N : Nat} {ops : Array Oper} {w0 : World} {k : Env → List En → Prop} {K : Kn} {H : List Nat} {EH : Env} {S0 : List En}
  (hf : TFacts ops H) (hok : ops.toList.all (operOk N) = true)
  (hH : ∀ i ∈ H, ∃ o,ops[i]? = some o ∧ ∃ Ei v,(∀ X,astep P τ o.op (ev Ei) (S0 ++ X) (fun v' S' => AVle v' v ∧ (S0 ++ X).Sublist S')) ∧ (∀ t ∈ slotsOf o,lk EH.l t = lk Ei.l t) ∧ ∀ t,o.dst = some t → lk EH.l t = v) :
  ∀ (f : Nat) (t : OT) (L : List Nat) (dn : Bool) (pend : List Nat) (Et : Env) (S : List En) (listed : Array Bool) (a : Act) (w : World) (K' : Kn),
   Kle K K' → unl ops.size listed = f → okT ops H t pend (readyL ops.toList pend) L dn = true → (∀ j ∈ L,listed.getD j false = true) → (∀ j o,ops[j]? = some o → listed.getD j false = true → ∀ e ∈ deps o,listed.getD e false = true) → pend.Pairwise (· < ·) → (∀ i ∈ pend,i < ops.size ∧ i ∉ H) → listed.size = ops.size →
   (∀ i,i < ops.size → i ∉ H → listed.getD i false = !memB pend i) → a.tmps.size = N → a.defers = Et.m.map markOf →
   (∀ t,(∀ i o,ops[i]? = some o → i ∈ H → listed.getD i false = false → o.dst ≠ some t) → Rel K' (lk Et.l t) (a.tmps.getD t undef)) →
   (∀ t,(∀ i o,ops[i]? = some o → i ∉ H → o.dst ≠ some t) → lk Et.l t = lk EH.l t) →
   RelS w0 K' S w → (dn = false → ∃ X,S.Perm (S0 ++ X)) → (dn = true → ∀ h ∈ H,listed.getD h false = true) → aT P τ ops.toList S0 t Et S k →
   wpAnyIn (Fw rd) 0 P .any ops (APost w0 N K fun x E' S' => x = .normal ∧ k E' S') f listed a w := by
 intro f
 induction f with
 | zero =>
  intro T L dn pend Et S listed a w K' hK hu hn hLl hcl hp hlt hsz hl hN hm hr he hS hX hD ht
  have hall : ∀ i,i < ops.size → listed.getD i false = true := by
   intro i hi
   have := List.countP_eq_zero.1 hu i (List.mem_range.2 hi)
   simpa using this
  have hpe : pend = [] := by
   cases pend with
   | nil => rfl
   | cons i r =>
    have h1 := hlt i (.head _)
    have h2 := hl i h1.1 h1.2
    rw [hall i h1.1,memB_iff.2 (.head _)] at h2
    cases h2
  subst hpe
  replace ht := aT_end hn ht
  refine ⟨?_,?_⟩
  ·apply List.eq_nil_iff_forall_not_mem.2
   intro i hi
   obtain ⟨h1,o,ho,_⟩ := mem_ready.1 hi
   have hlt : i < ops.size := (Array.getElem?_eq_some_iff.1 ho).1
   rw [getD_tf (by rw [hsz]; exact hlt) true false,hall i hlt] at h1
   cases h1
  ·exact ⟨K',Et,S,hK,⟨hN,fun t => hr t (fun i o ho _ hl => by rw [hall i (Array.getElem?_eq_some_iff.1 ho).1] at hl; cases hl),hm⟩,hS,rfl,ht⟩
 | succ f ih =>
  intro T L dn pend Et S listed a w K' hK hu hn hLl hcl hp hlt hsz hl hN hm hr he hS hX hD ht
  obtain ⟨i0,hi0,hun0⟩ : ∃ i,i < ops.size ∧ listed.getD i false = false := by
   by_cases hc : ∃ i,i < ops.size ∧ listed.getD i false = false
   ·exact hc
   ·exfalso
    have : unl ops.size listed = 0 := List.countP_eq_zero.2 (fun i hi => by
     cases hl : listed.getD i false with
     | true => simp
     | false => exact absurd ⟨i,List.mem_range.1 hi,hl⟩ hc)
    omega
  have hready : Region.ready .any ops listed ≠ [] := by
   have : ∀ (d i : Nat),i ≤ d → i < ops.size → listed.getD i false = false → Region.ready .any ops listed ≠ [] := by
    intro d
    induction d with
    | zero =>
     intro i hd hi hl
     obtain rfl : i = 0 := by omega
     obtain ⟨o,ho⟩ : ∃ o,ops[0]? = some o := ⟨ops[0],by simp [hi]⟩
     have : 0 ∈ Region.ready .any ops listed := mem_ready.2 ⟨by rw [getD_tf (by rw [hsz]; exact hi) true false]; exact hl,o,ho,fun e he hb => by
      have := hf.back 0 o ho e.on (mem_deps.2 ⟨e,he,hb,rfl⟩); omega⟩
     intro hnil; rw [hnil] at this; simp at this
    | succ d ihd =>
     intro i hd hi hl
     obtain ⟨o,ho⟩ : ∃ o,ops[i]? = some o := ⟨ops[i],by simp [hi]⟩
     by_cases hall : ∀ e ∈ deps o,listed.getD e false = true
     ·have : i ∈ Region.ready .any ops listed := mem_ready.2 ⟨by rw [getD_tf (by rw [hsz]; exact hi) true false]; exact hl,o,ho,fun e he hb => hall e.on (mem_deps.2 ⟨e,he,hb,rfl⟩)⟩
      intro hnil; rw [hnil] at this; simp at this
     ·obtain ⟨e,he,hle⟩ : ∃ e,e ∈ deps o ∧ listed.getD e false = false := by
       by_cases hc : ∃ e,e ∈ deps o ∧ listed.getD e false = false
       ·exact hc
       ·exfalso; apply hall; intro e he
        cases hl : listed.getD e false with
        | true => rfl
        | false => exact absurd ⟨e,he,hl⟩ hc
      have := hf.back i o ho e he
      exact ihd e (by omega) (by omega) hle
   exact this i0 i0 (Nat.le_refl _) hi0 hun0
  refine ⟨fun hnil => absurd hnil hready,fun i hi => ?_⟩
  obtain ⟨h1,o,ho,hall⟩ := mem_ready.1 hi
  have hlti : i < ops.size := (Array.getElem?_eq_some_iff.1 ho).1
  have hun : listed.getD i false = false := by rw [getD_tf (by rw [hsz]; exact hlti) false true]; exact h1
  have hdone : ∀ e ∈ deps o,listed.getD e false = true := fun e he => by obtain ⟨ed,hed,hb,rfl⟩ := mem_deps.1 he; exact hall ed hed hb
  have hun2 := unl_set hlti (by rw [hsz]; exact hlti) hun
  have hoki : operOk N o = true := List.all_eq_true.1 hok o (by simpa using Array.mem_of_getElem? ho)
  have hng := hf.ng i o ho
  have hit : (listed.setIfInBounds i true).getD i false = true := by
   have : i < listed.size := by rw [hsz]; exact hlti
   simp [Array.getD_eq_getD_getElem?,this]
  have hfree : ∀ t ∈ slotsOf o, ∀ j oj,ops[j]? = some oj → j ∈ H → listed.getD j false = false → oj.dst ≠ some t := by
   intro t ht j oj hoj hj hlj hd
   have := hdone j (hf.sl i j o oj t hj ho hoj hd ht)
   rw [hlj] at this; cases this
  have hw : Region.wanted o (yielded ops a.tmps) = true := by simp [Region.wanted,hng]
  have hcl2 : ∀ j o,ops[j]? = some o → (listed.setIfInBounds i true).getD j false = true → ∀ e ∈ deps o,(listed.setIfInBounds i true).getD e false = true := by
   intro j oj hoj hlj e hej
   have up : ∀ e,listed.getD e false = true → (listed.setIfInBounds i true).getD e false = true := fun e he => by
    by_cases hie : i = e
    ·subst hie; exact hit
    ·rw [getD_set_ne false hie]; exact he
   by_cases hij : i = j
   ·subst hij
    rw [ho] at hoj
    obtain rfl := Option.some.inj hoj
    exact up e (hdone e hej)
   ·rw [getD_set_ne false hij] at hlj
    exact up e (hcl j oj hoj hlj e hej)
  have hup : ∀ e,listed.getD e false = true → (listed.setIfInBounds i true).getD e false = true := fun e he => by
   by_cases hie : i = e
   ·subst hie; exact hit
   ·rw [getD_set_ne false hie]; exact he
  by_cases hiH : i ∈ H
  · -- one that only looks
   obtain ⟨o2,ho2,Ei,v,hst0,hsl,hv⟩ := hH i hiH
   rw [ho] at ho2
   obtain rfl := Option.some.inj ho2
   have hdn : dn = false := by
    cases dn with
    | false => rfl
    | true => have := hD rfl i hiH; rw [hun] at this; cases this
   obtain ⟨X,hX'⟩ := hX hdn
   have hst := hst0 X
   unfold wpOpIn
   simp only [ho]
   simp only [hw,if_true]
   refine ⟨fun _ _ => trivial,?_⟩
   rw [Oper.semAt_eq _ _ _ (astep_nodefer hst)]
   have hrop : ROp K' (ev Ei) a o.op := by
    intro x hx
    cases x with
    | tmp t =>
     show Rel K' (lk Ei.l t) _
     rw [← hsl t (slots_mem hx), ← he t (fun j oj hoj hj hd => hf.so i j o oj t hiH hj ho hoj hd (slots_mem hx))]
     exact hr t (hfree t (slots_mem hx))
    | const v =>
     simp only [operOk,Bool.and_eq_true] at hoki
     exact rel_ofV v (show opdOk (.const v) = true from List.all_eq_true.1 hoki.2 (.const v) (by simpa using hx))
    | global g => exact .gl g
    | func f => exact .fn (first := []) (cap := []) (vs := []) (us := []) (.func f) rfl (fun i c v hc _ => by simp at hc) rfl (fun i c v hc _ => by simp at hc)
   refine upon_of_rok (astep_ok hτ hst hrop (hS.perm hX'.symm)) (fun K2 av u S' w' g1 g2 g3 g4 => ?_)
   have hS2 : RelS w0 K2 S w' := (g3.sub g4.2).perm hX'
   refine ih T L dn pend Et S _ _ w' K2 (hK.trans g1) (by omega) hn (fun j hj => hup j (hLl j hj)) hcl2 hp hlt (by simp [hsz]) (fun j hj hjH => ?_) (by cases hd : o.dst <;> simp [Act.put,hN]) (by cases hd : o.dst <;> simp [Act.put,hm]) (fun t ht => ?_) he hS2 (fun _ => ⟨X,hX'⟩) (fun h => by rw [hdn] at h; cases h) ht
   ·have : i ≠ j := by rintro rfl; exact hjH hiH
    rw [getD_set_ne false this]; exact hl j hj hjH
   ·cases hd : o.dst with
    | none =>
     refine (hr t fun j oj hoj hj hlj => ?_).mono g1
     by_cases hij : i = j
     ·subst hij
      rw [ho] at hoj
      obtain rfl := Option.some.inj hoj
      rw [hd]; simp
     ·exact ht j oj hoj hj (by rw [getD_set_ne false hij]; exact hlj)
    | some d =>
     rw [getD_put hN (operOk.dst hoki d hd)]
     by_cases hdt : d = t
     ·subst hdt
      rw [if_pos rfl]
      have e1 : lk Et.l d = v := by
       rw [he d fun j oj hoj hj hdj => hf.dd j i oj o d hiH (by rintro rfl; exact hj hiH) hoj ho hd hdj]
       exact hv d hd
      rw [e1]; exact g4.1 K2 u g2
     ·rw [if_neg hdt]
      refine (hr t fun j oj hoj hj hlj => ?_).mono g1
      by_cases hij : i = j
      ·subst hij
       rw [ho] at hoj
       obtain rfl := Option.some.inj hoj
       rw [hd]; simpa using hdt
      ·exact ht j oj hoj hj (by rw [getD_set_ne false hij]; exact hlj)
  · -- one of the others
   have hip : i ∈ pend := by
    have := hl i hlti hiH
    rw [hun] at this
    exact memB_iff.1 (by simpa using this)
   have hot : ops.toList[i]? = some o := by simpa using ho
   have hir : i ∈ readyL ops.toList pend := by
    refine List.mem_filter.2 ⟨hip,?_⟩
    rw [hot]
    refine List.all_eq_true.2 fun d hd => ?_
    have h2 := hdone d hd
    by_cases hdH : d ∈ H
    ·rw [memB_false.2 fun hm => (hlt d hm).2 hdH]; rfl
    ·rw [hl d (by have := hf.back i o ho d hd; omega) hdH] at h2
     exact h2
   obtain ⟨T',d',hT',hd',hst⟩ := aT_at (fun e => by rw [e] at hip; cases hip) T _ hn ht i hir
   rw [hot] at hst
   simp only [] at hst
   unfold wpOpIn
   simp only [ho]
   simp only [hw,if_true]
   refine ⟨fun _ _ => trivial,?_⟩
   rw [Oper.semAt_eq _ _ _ (astep_nodefer hst)]
   have hrop : ROp K' (ev Et) a o.op := by
    intro x hx
    cases x with
    | tmp t => exact hr t (hfree t (slots_mem hx))
    | const v =>
     simp only [operOk,Bool.and_eq_true] at hoki
     exact rel_ofV v (show opdOk (.const v) = true from List.all_eq_true.1 hoki.2 (.const v) (by simpa using hx))
    | global g => exact .gl g
    | func f => exact .fn (first := []) (cap := []) (vs := []) (us := []) (.func f) rfl (fun i c v hc _ => by simp at hc) rfl (fun i c v hc _ => by simp at hc)
   refine upon_of_rok (astep_ok hτ hst hrop hS) (fun K2 av u S' w' g1 g2 g3 g4 => ?_)
   have hL2 : ∀ j ∈ i :: L,(listed.setIfInBounds i true).getD j false = true := fun j hj => by
    rcases List.mem_cons.1 hj with rfl | hj
    ·exact hit
    ·exact hup j (hLl j hj)
   have hD2 : d' = true → ∀ h ∈ H,(listed.setIfInBounds i true).getD h false = true := fun hd h hh => by
    rcases hd' hd with h1 | h1
    ·exact hup h (hD h1 h hh)
    ·exact allB_ok h1 hL2 hcl2 h hh
   have g5 : (d' = false → ∃ X,S'.Perm (S0 ++ X)) ∧ aT P τ ops.toList S0 T' (Et.put o.dst av) S' (fun E' S' => k E' S') := by
    cases d' with
    | true => exact ⟨(fun h => by cases h),g4⟩
    | false => exact ⟨fun _ => g4.1,g4.2⟩
   refine ih T' (i :: L) d' (dropN pend i) (Et.put o.dst av) S' _ _ w' K2 (hK.trans g1) (by omega) hT' hL2 hcl2 (hp.sublist List.filter_sublist) (fun j hj => hlt j (mem_dropN.1 hj).1) (by simp [hsz]) (fun j hj hjH => ?_) (by cases hd : o.dst <;> simp [Act.put,hN]) (by cases hd : o.dst <;> simp [Act.put,hm,Env.put]) (fun t ht => ?_) (fun t ht => ?_) g3 g5.1 hD2 g5.2
   ·by_cases hij : i = j
    ·subst hij
     rw [hit,memB_false.2 fun hm => (mem_dropN.1 hm).2 rfl]; rfl
    ·rw [getD_set_ne false hij,hl j hj hjH]
     congr 1
     by_cases hq1 : j ∈ pend
     ·rw [memB_iff.2 hq1,memB_iff.2 (mem_dropN.2 ⟨hq1,fun e => hij e.symm⟩)]
     ·rw [memB_false.2 hq1,memB_false.2 fun hm => hq1 (mem_dropN.1 hm).1]
   ·have hold := fun (hne : o.dst ≠ some t) => (hr t fun j oj hoj hj hlj => ht j oj hoj hj (by rw [getD_set_ne false (by rintro rfl; exact hiH hj)]; exact hlj)).mono g1
    cases hd : o.dst with
    | none => exact hold (by rw [hd]; simp)
    | some d =>
     rw [getD_put hN (operOk.dst hoki d hd)]
     by_cases hdt : d = t
     ·subst hdt
      rw [if_pos rfl,lk_put_same]; exact g2
     ·rw [if_neg hdt,lk_put_other _ _ (by simp [hdt])]
      exact hold (by rw [hd]; simp [hdt])
   ·rw [lk_put_other _ _ (ht i o ho hiH)]
    exact he t ht
def restH (n : Nat) (H : List Nat) : List Nat := (List.range n).filter fun i => !memB H i
theorem AW_drawT {P : Program} {N : Nat} {rd : Option Nat} {E : Env} {S : List En} (S0 : List En) {k : Kt} {τ : List (TypeId × TI)} (hτ : AllOk P τ) (hm : P.follows .mixedOrders = true) (H : List Nat) {id : Nat} {ops : Array Oper} (t : OT)
  (hd : (factT ops H && okT ops H t (restH ops.size H) (readyL ops.toList (restH ops.size H)) [] false) = true) (h0 : ∃ X,S.Perm (S0 ++ X))
  (h : aheadsH P τ ops.toList H E S0 (fun E' => aT P τ ops.toList S0 t E' S (fun E' S' => k .normal E' S'))) : AW P N rd (.region id ops true) E S k := by
 unfold AW
 intro hc w0 K a w hE hS
 obtain ⟨hd,hT⟩ := (Bool.and_eq_true _ _).mp hd
 refine wpIn_region_any hm ?_
 have hf := factT_of hd
 obtain ⟨EH,k1,k2,k3,k4⟩ := headsH_of H E hf.asc h
 have hmem : ∀ i,i ∈ restH ops.size H ↔ i < ops.size ∧ i ∉ H := by
  intro i
  unfold restH
  rw [List.mem_filter,List.mem_range]
  refine and_congr Iff.rfl ?_
  constructor
  ·intro h hi; rw [memB_iff.2 hi] at h; cases h
  ·intro h; rw [memB_false.2 h]; rfl
 have hu : unl ops.size (Array.replicate ops.size false) = ops.size := by
  unfold unl
  rw [List.countP_eq_length.2 (by intro i hi; rw [getD_replicate_false]; rfl)]; simp
 refine wpAny_weakA (drawT_any hτ (K := K) (k := fun E' S' => k .normal E' S') hf hc (EH := EH) (S0 := S0) (fun i hi => ?_) ops.size t [] false (restH ops.size H) EH S (Array.replicate ops.size false) a w.drew K (Kle.refl K) hu hT (fun j hj => (by cases hj)) (fun j o _ hl => by rw [getD_replicate_false] at hl; cases hl) (List.pairwise_lt_range.sublist List.filter_sublist) (fun i hi => (hmem i).1 hi) (by simp) (fun i hi hiH => ?_) hE.size (by rw [k2]; exact hE.defers) (fun t ht => ?_) (fun t _ => rfl) hS.drew (fun _ => h0) (fun h => by cases h) k1)
 ·obtain ⟨o,g1,Ei,v,g2,g3,g4⟩ := k4 i hi
  refine ⟨o,g1,Ei,v,g2,fun t ht => g3 t fun j hj hij oj hoj hdj => ?_,fun t hdt => g4 t hdt fun j hj hij oj hoj hdj => ?_⟩
  ·have := hf.back i o g1 j (hf.sl i j o oj t hj g1 hoj hdj ht)
   omega
  ·exact hf.dd i j o oj t hj (by omega) g1 hoj hdj hdt
 ·rw [getD_replicate_false,memB_iff.2 ((hmem i).2 ⟨hi,hiH⟩)]; rfl
 ·rw [k3 t fun i hi o ho hdt => ht i o ho hi (by rw [getD_replicate_false]) hdt]
  exact hE.slot t
theorem keepC {e : En} {S A : List En} (h : ∃ X,S.Perm (A ++ X)) : ∃ X,(e :: S).Perm (A ++ X) := by
 obtain ⟨X,hX⟩ := h
 exact ⟨e :: X,(List.Perm.cons e hX).trans List.perm_middle.symm⟩
theorem keepA {X' : Prop} {S A : List En} (k : X') (h : ∃ X,S.Perm (A ++ X) := by first | exact ⟨_,List.Perm.refl _⟩ | exact keepC ⟨_,List.Perm.refl _⟩ | exact keepC (keepC ⟨_,List.Perm.refl _⟩) | exact keepC (keepC (keepC ⟨_,List.Perm.refl _⟩))) : (∃ X,S.Perm (A ++ X)) ∧ X' := ⟨h,k⟩
end Go.Proofs.YtfeknkaioofljaaGreatDoor
