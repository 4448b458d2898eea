/-
 A program of tokens: plain. Own work.
-/
import Derived.Test.YtfeknkaioofljaaGreatDoorQ6
import Derived.Test.YtfeknkaioofljaaGreatDoorQ5
import Derived.Test.YtfeknkaioofljaaGreatDoorQ9
set_option linter.all false
namespace Go.Proofs.YtfeknkaioofljaaGreatDoor
open Go.Aw Go.RowKit Tree
open Lx (Tok)
abbrev PR (α : Type) := Except (Int × Int) (α × List Tok)
def hd (ts : List Tok) (n : Nat) : Tok := ts[n]?.getD ⟨0, [],0⟩
def stopE {α : Type} (ts : List Tok) : PR α := .error (40,(hd ts 0).line)
def signB (t : Tok) (s : List UInt8) : Bool := decide (t.kind = 4) && decide (t.s = s)
def nameT (t : Tok) : Bool := decide (t.kind = 1) && !decide (t.s = [95])
def takesL (s : List UInt8) : List Tok → Option (List Tok)
 | [] => none
 | t :: ts => if signB t s = true then some ts else none
def mustL (s : List UInt8) (ts : List Tok) : PR Unit := match takesL s ts with
 | some r => .ok ((),r)
 | none => stopE ts
def nameP (ts : List Tok) : PR (List UInt8) := if nameT (hd ts 0) = true then .ok ((hd ts 0).s,ts.tail) else stopE ts
def numL (sign : Int) (ts : List Tok) : PR T := if (hd ts 0).kind = 2 then .ok (.mk 2 [] (IntKind.i64.wrap (sign * (pnL (hd ts 0).s).1)) [],ts.tail) else stopE ts
def chainGo (part : List Tok → PR T) (ops : List UInt8 → Int) : Nat → T → List Tok → PR T
 | 0,x,ts => .ok (x,ts)
 | k + 1,x,ts => if (hd ts 0).kind = 4 ∧ ops (hd ts 0).s ≠ 0 then (match part ts.tail with
  | .error e => .error e
  | .ok (y,r) => if x.op = 3 ∨ y.op = 3 then .error (40,(hd ts 0).line) else chainGo part ops k (.mk (ops (hd ts 0).s) [] 0 [x,y]) r) else .ok (x,ts)
def chainL (part : List Tok → PR T) (ops : List UInt8 → Int) (ts : List Tok) : PR T := match part ts with
 | .error e => .error e
 | .ok (x,r) => chainGo part ops r.length x r
def opsP (s : List UInt8) : Int := if s = [42] then 7 else 0
def opsS (s : List UInt8) : Int := if s = [43] then 5 else if s = [45] then 6 else 0
def within1 (sum : List Tok → PR T) (ts : List Tok) : PR T := match sum ts with
 | .error e => .error e
 | .ok (x,r) => match mustL [41] r with
  | .error e => .error e
  | .ok (_,r') => .ok (x,r')
def thingL : Nat → List Tok → PR T
 | 0,ts => stopE ts
 | n + 1,ts => if (hd ts 0).kind = 2 then numL 1 ts else if (hd ts 0).kind = 3 then .ok (.mk 3 (hd ts 0).s 0 [],ts.tail) else if nameT (hd ts 0) = true then .ok (.mk 1 (hd ts 0).s 0 [],ts.tail) else (match takesL [45] ts with
  | some r => numL (-1) r
  | none => match takesL [40] ts with
   | some r => within1 (chainL (chainL (thingL n) opsP) opsS) r
   | none => stopE ts)
def prodL (n : Nat) : List Tok → PR T := chainL (thingL n) opsP
def sumL (n : Nat) : List Tok → PR T := chainL (prodL n) opsS
mutual
def highT : T → Nat
 | .mk _ _ _ l => highs l + 1
def highs : List T → Nat
 | [] => 0
 | t :: l => max (highT t) (highs l)
end
def exprL (F : Nat) (ts : List Tok) : PR T := match sumL F ts with
 | .error e => .error e
 | .ok (x,r) => if 20 < highT x then .error (41,(hd ts 0).line) else .ok (x,r)
def argL (F : Nat) (ts : List Tok) : PR T := if (hd ts 0).kind = 1 ∧ (hd ts 0).s = [95] then .ok (.mk 4 [] 0 [],ts.tail) else exprL F ts
def listGo {α : Type} (one : α → List Tok → PR α) : Nat → α → List Tok → PR α
 | 0,_,ts => .error (21,(hd ts 0).line)
 | k + 1,x,ts => match one x ts with
  | .error e => .error e
  | .ok (x',r) => match takesL [44] r with
   | some r' => listGo one k x' r'
   | none => .ok (x',r)
def withinL {α : Type} (o c : List UInt8) (what : List Tok → PR α) (ts : List Tok) : PR α := match mustL o ts with
 | .error e => .error e
 | .ok (_,r) => match what r with
  | .error e => .error e
  | .ok (x,r') => match mustL c r' with
   | .error e => .error e
   | .ok (_,r2) => .ok (x,r2)
def argStep (F : Nat) (l : List T) (ts : List Tok) : PR (List T) := match argL F ts with
 | .error e => .error e
 | .ok (t,r) => .ok (l ++ [t],r)
def atomL (F : Nat) (ts : List Tok) : PR At := match nameP ts with
 | .error e => .error e
 | .ok (s,r) => match withinL [40] [41] (listGo (argStep F) 8 []) r with
  | .error e => .error e
  | .ok (l,r') => .ok (⟨s,l⟩,r')
def aggOp (s : List UInt8) : Int := if s = [99,111,117,110,116] then 7 else if s = [115,117,109] then 8 else if s = [109,105,110] then 9 else if s = [109,97,120] then 10 else 0
def howL' (ts : List Tok) : Int := if signB (hd ts 0) [61] = true ∧ (hd ts 1).kind = 1 then (if aggOp (hd ts 1).s = 7 ∧ signB (hd ts 2) [58] = true ∨ 7 < aggOp (hd ts 1).s ∧ nameT (hd ts 2) = true ∧ signB (hd ts 3) [58] = true then aggOp (hd ts 1).s else 0) else 0
def zeroT : T := .mk 0 [] 0 []
def zeroA : At := ⟨[], []⟩
def aggL (F : Nat) (op : Int) (x : T) (ts : List Tok) : PR Li := if x.op ≠ 1 ∧ x.op ≠ 2 then stopE ts else
 match withinL [123] [125] (atomL F) (ts.drop (if op = 7 then 3 else 4)) with
 | .error e => .error e
 | .ok (a,r) => .ok (⟨op,a,x,if op = 7 then zeroT else .mk 1 (hd ts 2).s 0 []⟩,r)
def relOp (s : List UInt8) : Int := if s = [61] then 3 else if s = [33,61] then 4 else if s = [60] ∨ s = [62] then 5 else if s = [60,61] ∨ s = [62,61] then 6 else 0
def heldL (F : Nat) (x : T) (ts : List Tok) : PR Li := if (hd ts 0).kind = 4 ∧ relOp (hd ts 0).s ≠ 0 then (match exprL F ts.tail with
  | .error e => .error e
  | .ok (y,r) => .ok (if (hd ts 0).s = [62] ∨ (hd ts 0).s = [62,61] then ⟨relOp (hd ts 0).s,zeroA,y,x⟩ else ⟨relOp (hd ts 0).s,zeroA,x,y⟩,r)) else stopE ts
def litA (op : Int) (x : PR At) : PR Li := match x with
 | .error e => .error e
 | .ok (a,r) => .ok (⟨op,a,zeroT,zeroT⟩,r)
def partL' (F : Nat) (ts : List Tok) : PR Li := match takesL [33] ts with
 | some r => litA 2 (atomL F r)
 | none => if nameT (hd ts 0) = true ∧ signB (hd ts 1) [40] = true then litA 1 (atomL F ts) else match exprL F ts with
  | .error e => .error e
  | .ok (x,r) => if howL' r ≠ 0 then aggL F (howL' r) x r else heldL F x r
def headL (a : At) (bare : Bool) : Bool := a.l.all fun t => if t.op = 1 then !bare else decide (t.op = 2) || decide (t.op = 3)
def bodyStep (F : Nat) (l : List Li) (ts : List Tok) : PR (List Li) := match partL' F ts with
 | .error e => .error e
 | .ok (t,r) => .ok (l ++ [t],r)
def bodyP (F : Nat) (ts : List Tok) : PR (List Li) := match takesL [58,45] ts with
 | some r => listGo (bodyStep F) 20 [] r
 | none => .ok ([],ts)
def ruleL (F : Nat) (ts : List Tok) : PR Ru := match atomL F ts with
 | .error e => .error e
 | .ok (a,r) => if headL a false = false then .error (40,(hd ts 0).line) else match bodyP F r with
  | .error e => .error e
  | .ok (b,r2) => match mustL [46] r2 with
   | .error e => .error e
   | .ok (_,r3) => if headL a (decide (b.length = 0)) = false then .error (40,(hd ts 0).line) else .ok (⟨a,b,(hd ts 0).line⟩,r3)
def kindT (s : List UInt8) : Int := if s = [110,117,109,98,101,114] then 1 else if s = [115,121,109,98,111,108] then 2 else 0
def colStep (d : List (List UInt8) × List Int) (ts : List Tok) : PR (List (List UInt8) × List Int) := match nameP ts with
 | .error e => .error e
 | .ok (s,r) => match mustL [58] r with
  | .error e => .error e
  | .ok (_,r2) => if (hd r2 0).kind = 1 ∧ kindT (hd r2 0).s ≠ 0 then .ok ((d.1 ++ [s],d.2 ++ [kindT (hd r2 0).s]),r2.tail) else stopE r2
def declL (ts : List Tok) : PR De := match nameP ts.tail with
 | .error e => .error e
 | .ok (s,r) => match withinL [40] [41] (listGo colStep 8 ([], [])) r with
  | .error e => .error e
  | .ok (d,r') => .ok (⟨s,d.1,d.2,false,false,(hd ts 0).line⟩,r')
def relB (s : List UInt8) (d : De) : Bool := decide (d.rel = s)
def flag (w : Bool) (d : De) : Bool := if w = true then d.inp else d.out
def setF (w : Bool) (d : De) : De := if w = true then { d with inp := true } else { d with out := true }
def markL (w : Bool) (l : List De) (ts : List Tok) : PR (List De) := if nameT (hd ts.tail 0) = true then (match l.findIdx? (relB (hd ts.tail 0).s) with
  | none => stopE ts.tail
  | some i => match l[i]? with
   | none => stopE ts.tail
   | some d => if flag w d = true then stopE ts.tail else .ok (l.set i (setF w d),ts.tail.tail)) else stopE ts.tail
def wordT (t : Tok) (s : List UInt8) : Bool := decide (t.kind = 5) && decide (t.s = s)
def itemL (F : Nat) (p : Pr) (ts : List Tok) : PR Pr :=
 if wordT (hd ts 0) [46,100,101,99,108] = true then (if p.decls.length = 60 then .error (21,(hd ts 0).line) else match declL ts with
  | .error e => .error e
  | .ok (d,r) => .ok (⟨p.decls ++ [d],p.rules⟩,r))
 else if wordT (hd ts 0) [46,105,110,112,117,116] = true then (match markL true p.decls ts with
  | .error e => .error e
  | .ok (l,r) => .ok (⟨l,p.rules⟩,r))
 else if wordT (hd ts 0) [46,111,117,116,112,117,116] = true then (match markL false p.decls ts with
  | .error e => .error e
  | .ok (l,r) => .ok (⟨l,p.rules⟩,r))
 else if p.rules.length = 200 then .error (21,(hd ts 0).line) else match ruleL F ts with
  | .error e => .error e
  | .ok (x,r) => .ok (⟨p.decls,p.rules ++ [x]⟩,r)
def itemsGo (F : Nat) : Nat → Pr → List Tok → Except (Int × Int) Pr
 | 0,p,_ => .ok p
 | k + 1,p,ts => match ts with
  | [] => .ok p
  | t :: r => match itemL F p (t :: r) with
   | .error e => .error e
   | .ok (p',r') => itemsGo F k p' r'
def parseL (ts : List Tok) : Pr × Int × Int := if 20000 < ts.length then (⟨[], []⟩,0,21) else match itemsGo 20001 20000 ⟨[], []⟩ ts with
 | .error e => (⟨[], []⟩,e.2,e.1)
 | .ok p => (p,0,0)
theorem hd_kind {ts : List Tok} {n : Nat} (h : (hd ts n).kind ≠ 0) : n < ts.length := by
 by_cases hn : n < ts.length
 ·exact hn
 ·rw [hd,List.getElem?_eq_none (by omega)] at h; exact absurd rfl h
theorem hd_get {ts : List Tok} {n : Nat} (h : n < ts.length) : hd ts n = ts[n] := by rw [hd,List.getElem?_eq_getElem h]; rfl
theorem tail_suf {ts : List Tok} : ts.tail <:+ ts := List.tail_suffix ts
theorem tail_len {ts : List Tok} (h : (hd ts 0).kind ≠ 0) : ts.tail.length < ts.length := by
 have := hd_kind h
 rw [List.length_tail]; omega
theorem takes_suf {s : List UInt8} {ts r : List Tok} (h : takesL s ts = some r) : ts ≠ [] ∧ r = ts.tail ∧ signB (hd ts 0) s = true := by
 cases ts with
 | nil => cases h
 | cons t ts =>
  rw [takesL] at h
  split at h
  ·rename_i hs
   exact ⟨by simp,(Option.some.inj h).symm,hs⟩
  ·cases h
def Less (r ts : List Tok) : Prop := r <:+ ts ∧ r.length < ts.length
theorem Less.trans {a b c : List Tok} (h : Less a b) (k : Less b c) : Less a c := ⟨h.1.trans k.1,Nat.lt_trans h.2 k.2⟩
theorem less_tail {ts : List Tok} (h : (hd ts 0).kind ≠ 0) : Less ts.tail ts := ⟨tail_suf,tail_len h⟩
theorem less_takes {s : List UInt8} {ts r : List Tok} (h : takesL s ts = some r) : Less r ts := by
 obtain ⟨h1,rfl,_⟩ := takes_suf h
 exact ⟨tail_suf,by cases ts with | nil => exact absurd rfl h1 | cons => simp⟩
theorem less_must {s : List UInt8} {ts r : List Tok} {u : Unit} (h : mustL s ts = .ok (u,r)) : Less r ts := by
 rw [mustL] at h
 split at h
 ·rename_i x hx
  injection h with h
  injection h with _ h
  subst h
  exact less_takes hx
 ·cases h
theorem name_kind {t : Tok} (h : nameT t = true) : t.kind = 1 := by
 rw [nameT,Bool.and_eq_true,decide_eq_true_eq] at h; exact h.1
theorem less_name {ts r : List Tok} {s : List UInt8} (h : nameP ts = .ok (s,r)) : Less r ts ∧ nameT (hd ts 0) = true ∧ s = (hd ts 0).s ∧ r = ts.tail := by
 rw [nameP] at h
 split at h
 ·rename_i hn
  injection h with h
  injection h with h1 h2
  subst h1 h2
  exact ⟨less_tail (by rw [name_kind hn]; decide),hn,rfl,rfl⟩
 ·cases h
theorem less_num {z : Int} {ts r : List Tok} {x : T} (h : numL z ts = .ok (x,r)) : Less r ts := by
 rw [numL] at h
 split at h
 ·rename_i hn
  injection h with h
  injection h with h1 h2
  subst h2
  exact less_tail (by rw [hn]; decide)
 ·cases h
def Eats {α : Type} (f : List Tok → PR α) : Prop := ∀ ts x r,f ts = .ok (x,r) → Less r ts
theorem suf_chain {part : List Tok → PR T} {ops : List UInt8 → Int} (hp : Eats part) : ∀ (k : Nat) (x : T) (ts : List Tok) (y : T) (r : List Tok),chainGo part ops k x ts = .ok (y,r) → r <:+ ts
 | 0,x,ts,y,r,h => by
  rw [chainGo] at h
  injection h with h; injection h with _ h; subst h; exact List.suffix_refl _
 | k + 1,x,ts,y,r,h => by
  rw [chainGo] at h
  split at h
  ·rename_i hk
   split at h
   ·cases h
   ·rename_i y' r' hr
    split at h
    ·cases h
    ·have h1 := suf_chain hp k _ r' y r h
     exact h1.trans ((hp _ _ _ hr).1.trans tail_suf)
  ·injection h with h; injection h with _ h; subst h; exact List.suffix_refl _
theorem eats_chain {part : List Tok → PR T} {ops : List UInt8 → Int} (hp : Eats part) : Eats (chainL part ops) := fun ts x r h => by
 rw [chainL] at h
 split at h
 ·cases h
 ·rename_i y r' hr
  have h1 := hp _ _ _ hr
  have h2 := suf_chain hp _ _ _ _ _ h
  exact ⟨h2.trans h1.1,Nat.lt_of_le_of_lt h2.length_le h1.2⟩
theorem eats_thing : ∀ n,Eats (thingL n)
 | 0 => fun ts x r h => by rw [thingL] at h; cases h
 | n + 1 => fun ts x r h => by
  have hs : Eats (chainL (chainL (thingL n) opsP) opsS) := eats_chain (eats_chain (eats_thing n))
  rw [thingL] at h
  split at h
  ·exact less_num h
  ·split at h
   ·rename_i hk
    injection h with h; injection h with _ h; subst h
    exact less_tail (by rw [hk]; decide)
   ·split at h
    ·rename_i hk
     injection h with h; injection h with _ h; subst h
     exact less_tail (by rw [name_kind hk]; decide)
    ·split at h
     ·rename_i r1 h1
      exact (less_num h).trans (less_takes h1)
     ·split at h
      ·rename_i r1 h1
       rw [within1] at h
       split at h
       ·cases h
       ·rename_i y r2 h2
        split at h
        ·cases h
        ·rename_i u r3 h3
         injection h with h; injection h with _ h; subst h
         exact (less_must h3).trans ((hs _ _ _ h2).trans (less_takes h1))
      ·cases h
theorem eats_prod (n : Nat) : Eats (prodL n) := eats_chain (eats_thing n)
theorem eats_sum (n : Nat) : Eats (sumL n) := eats_chain (eats_prod n)
theorem eats_expr (F : Nat) : Eats (exprL F) := fun ts x r h => by
 rw [exprL] at h
 split at h
 ·cases h
 ·rename_i y r' hr
  split at h
  ·cases h
  ·injection h with h; injection h with _ h; subst h
   exact eats_sum F _ _ _ hr
theorem eats_arg (F : Nat) : Eats (argL F) := fun ts x r h => by
 rw [argL] at h
 split at h
 ·rename_i hk
  injection h with h; injection h with _ h; subst h
  exact less_tail (by rw [hk.1]; decide)
 ·exact eats_expr F _ _ _ h
theorem less_list {α : Type} {one : α → List Tok → PR α} (ho : ∀ x,Eats (one x)) : ∀ (k : Nat) (x : α),Eats (listGo one k x)
 | 0,x => fun ts y r h => by rw [listGo] at h; cases h
 | k + 1,x => fun ts y r h => by
  rw [listGo] at h
  split at h
  ·cases h
  ·rename_i x' r1 h1
   have h2 := ho x _ _ _ h1
   split at h
   ·rename_i r2 h3
    exact (less_list ho k x' _ _ _ h).trans ((less_takes h3).trans h2)
   ·injection h with h; injection h with _ h; subst h; exact h2
theorem eats_within {α : Type} {o c : List UInt8} {what : List Tok → PR α} (hw : Eats what) : Eats (withinL o c what) := fun ts x r h => by
 rw [withinL] at h
 split at h
 ·cases h
 ·rename_i u r1 h1
  split at h
  ·cases h
  ·rename_i y r2 h2
   split at h
   ·cases h
   ·rename_i u r3 h3
    injection h with h; injection h with _ h; subst h
    exact (less_must h3).trans ((hw _ _ _ h2).trans (less_must h1))
theorem eats_argStep (F : Nat) (l : List T) : Eats (argStep F l) := fun ts x r h => by
 rw [argStep] at h
 split at h
 ·cases h
 ·rename_i t r1 h1
  injection h with h; injection h with _ h; subst h
  exact eats_arg F _ _ _ h1
theorem eats_atom (F : Nat) : Eats (atomL F) := fun ts x r h => by
 rw [atomL] at h
 split at h
 ·cases h
 ·rename_i s r1 h1
  split at h
  ·cases h
  ·rename_i l r2 h2
   injection h with h; injection h with _ h; subst h
   exact (eats_within (less_list (eats_argStep F) 8 []) _ _ _ h2).trans (less_name h1).1
def Stop (r : List Tok) : Prop := r ≠ [] ∧ nameT (hd r 0) = false
section
variable {α : Type}
end
theorem within_len {α : Type} {o c : List UInt8} {what : List Tok → PR α} (hw : Eats what) {ts r : List Tok} {x : α} (h : withinL o c what ts = .ok (x,r)) : 3 ≤ ts.length := by
 rw [withinL] at h
 split at h
 ·cases h
 ·rename_i u r1 h1
  split at h
  ·cases h
  ·rename_i y r2 h2
   split at h
   ·cases h
   ·rename_i u2 r3 h3
    have a := (less_must h1).2
    have b := (hw _ _ _ h2).2
    have c := (less_must h3).2
    omega
theorem agg_len {F : Nat} {op : Int} {x : T} {ts r : List Tok} {l : Li} (h : aggL F op x ts = .ok (l,r)) : (if op = 7 then 3 else 4) + 3 ≤ ts.length := by
 rw [aggL] at h
 split at h
 ·cases h
 ·split at h
  ·cases h
  ·rename_i a r1 h1
   have := within_len (eats_atom F) h1
   rw [List.length_drop] at this
   omega
theorem eats_held (F : Nat) (x : T) : Eats (heldL F x) := fun ts l r h => by
 rw [heldL] at h
 split at h
 ·rename_i hk
  split at h
  ·cases h
  ·rename_i y r1 h1
   cases h
   exact (eats_expr F _ _ _ h1).trans (less_tail (by rw [hk.1]; decide))
 ·cases h
theorem eats_agg (F : Nat) (op : Int) (x : T) : Eats (aggL F op x) := fun ts l r h => by
 have hl := agg_len h
 rw [aggL] at h
 split at h
 ·cases h
 ·split at h
  ·cases h
  ·rename_i a r1 h1
   cases h
   have := eats_within (eats_atom F) _ _ _ h1
   refine ⟨this.1.trans (List.drop_suffix _ _),?_⟩
   have h2 := this.2
   rw [List.length_drop] at h2
   omega
theorem eats_litA {op : Int} {f : List Tok → PR At} (hf : Eats f) {ts r : List Tok} {l : Li} (h : litA op (f ts) = .ok (l,r)) : Less r ts := by
 cases hx : f ts with
 | error e => rw [hx] at h; cases h
 | ok q =>
  obtain ⟨a,r1⟩ := q
  rw [hx] at h
  cases h
  exact hf _ _ _ hx
theorem eats_part (F : Nat) : Eats (partL' F) := fun ts l r h => by
 rw [partL'] at h
 split at h
 ·rename_i r1 h1
  exact (eats_litA (eats_atom F) h).trans (less_takes h1)
 ·split at h
  ·exact eats_litA (eats_atom F) h
  ·split at h
   ·cases h
   ·rename_i x r1 h1
    have h2 := eats_expr F _ _ _ h1
    split at h
    ·exact (eats_agg F _ _ _ _ _ h).trans h2
    ·exact (eats_held F _ _ _ _ h).trans h2
theorem eats_bodyStep (F : Nat) (l : List Li) : Eats (bodyStep F l) := fun ts x r h => by
 rw [bodyStep] at h
 split at h
 ·cases h
 ·rename_i t r1 h1
  cases h
  exact eats_part F _ _ _ h1
theorem suf_bodyP {F : Nat} {ts r : List Tok} {l : List Li} (h : bodyP F ts = .ok (l,r)) : r <:+ ts := by
 rw [bodyP] at h
 split at h
 ·rename_i r1 h1
  exact (less_list (eats_bodyStep F) 20 [] _ _ _ h).1.trans (less_takes h1).1
 ·cases h; exact List.suffix_refl _
theorem eats_rule (F : Nat) : Eats (ruleL F) := fun ts x r h => by
 rw [ruleL] at h
 split at h
 ·cases h
 ·rename_i a r1 h1
  split at h
  ·cases h
  ·split at h
   ·cases h
   ·rename_i bd r2 h2
    split at h
    ·cases h
    ·rename_i u r3 h3
     split at h
     ·cases h
     ·cases h
      have a1 := suf_bodyP h2
      refine (less_must h3).trans ⟨a1.trans (eats_atom F _ _ _ h1).1,?_⟩
      exact Nat.lt_of_le_of_lt a1.length_le (eats_atom F _ _ _ h1).2
theorem eats_col (d : List (List UInt8) × List Int) : Eats (colStep d) := fun ts x r h => by
 rw [colStep] at h
 split at h
 ·cases h
 ·rename_i s r1 h1
  split at h
  ·cases h
  ·rename_i u r2 h2
   split at h
   ·rename_i hk
    cases h
    exact (less_tail (by rw [hk.1]; decide)).trans ((less_must h2).trans (less_name h1).1)
   ·cases h
theorem decl_suf {ts r : List Tok} {d : De} (h : declL ts = .ok (d,r)) : Less r ts := by
 have hle : ts.tail.length ≤ ts.length := by simp
 rw [declL] at h
 split at h
 ·cases h
 ·rename_i s r1 h1
  split at h
  ·cases h
  ·rename_i x r2 h2
   cases h
   have a := (eats_within (less_list eats_col 8 ([], [])) _ _ _ h2).trans (less_name h1).1
   exact ⟨a.1.trans tail_suf,by have := a.2; omega⟩
end Go.Proofs.YtfeknkaioofljaaGreatDoor
