/-
 A program of tokens: plain. Own work.
-/
import Derived.Test.YtfeknkaioofljaaGreatDoorQ6
import Derived.Test.YtfeknkaioofljaaGreatDoorQ5
import Derived.Test.YtfeknkaioofljaaGreatDoorQ9
set_option linter.all false
namespace Go.Proofs.YtfeknkaioofljaaGreatDoor
open Go.Aw Go.RowKit Tree
open Lx (Tok)

/-- what is read, and what is left; or what is wrong, and where -/
abbrev PR (α : Type) := Except (Int × Int) (α × List Tok)
def hd (ts : List Tok) (n : Nat) : Tok := ts[n]?.getD ⟨0, [], 0⟩
def stopE {α : Type} (ts : List Tok) : PR α := .error (40, (hd ts 0).line)
def signB (t : Tok) (s : List UInt8) : Bool := decide (t.kind = 4) && decide (t.s = s)
def nameT (t : Tok) : Bool := decide (t.kind = 1) && !decide (t.s = [95])
def takesL (s : List UInt8) : List Tok → Option (List Tok)
 | [] => none
 | t :: ts => if signB t s = true then some ts else none
def mustL (s : List UInt8) (ts : List Tok) : PR Unit := match takesL s ts with
 | some r => .ok ((), r)
 | none => stopE ts
def nameP (ts : List Tok) : PR (List UInt8) := if nameT (hd ts 0) = true then .ok ((hd ts 0).s, ts.tail) else stopE ts
def numL (sign : Int) (ts : List Tok) : PR T := if (hd ts 0).kind = 2 then .ok (.mk 2 [] (IntKind.i64.wrap (sign * (pnL (hd ts 0).s).1)) [], ts.tail) else stopE ts
/-- parts between which signs stand -/
def chainGo (part : List Tok → PR T) (ops : List UInt8 → Int) : Nat → T → List Tok → PR T
 | 0, x, ts => .ok (x, ts)
 | k + 1, x, ts => if (hd ts 0).kind = 4 ∧ ops (hd ts 0).s ≠ 0 then (match part ts.tail with
  | .error e => .error e
  | .ok (y, r) => if x.op = 3 ∨ y.op = 3 then .error (40, (hd ts 0).line) else chainGo part ops k (.mk (ops (hd ts 0).s) [] 0 [x, y]) r) else .ok (x, ts)
def chainL (part : List Tok → PR T) (ops : List UInt8 → Int) (ts : List Tok) : PR T := match part ts with
 | .error e => .error e
 | .ok (x, r) => chainGo part ops r.length x r
def opsP (s : List UInt8) : Int := if s = [42] then 7 else 0
def opsS (s : List UInt8) : Int := if s = [43] then 5 else if s = [45] then 6 else 0
def within1 (sum : List Tok → PR T) (ts : List Tok) : PR T := match sum ts with
 | .error e => .error e
 | .ok (x, r) => match mustL [41] r with
  | .error e => .error e
  | .ok (_, r') => .ok (x, r')
/-- the least part of an expression, of so many levels at most -/
def thingL : Nat → List Tok → PR T
 | 0, ts => stopE ts
 | n + 1, ts => if (hd ts 0).kind = 2 then numL 1 ts else if (hd ts 0).kind = 3 then .ok (.mk 3 (hd ts 0).s 0 [], ts.tail) else if nameT (hd ts 0) = true then .ok (.mk 1 (hd ts 0).s 0 [], ts.tail) else (match takesL [45] ts with
  | some r => numL (-1) r
  | none => match takesL [40] ts with
   | some r => within1 (chainL (chainL (thingL n) opsP) opsS) r
   | none => stopE ts)
def prodL (n : Nat) : List Tok → PR T := chainL (thingL n) opsP
def sumL (n : Nat) : List Tok → PR T := chainL (prodL n) opsS
mutual
def highT : T → Nat
 | .mk _ _ _ l => highs l + 1
def highs : List T → Nat
 | [] => 0
 | t :: l => max (highT t) (highs l)
end
def exprL (F : Nat) (ts : List Tok) : PR T := match sumL F ts with
 | .error e => .error e
 | .ok (x, r) => if 20 < highT x then .error (41, (hd ts 0).line) else .ok (x, r)
def argL (F : Nat) (ts : List Tok) : PR T := if (hd ts 0).kind = 1 ∧ (hd ts 0).s = [95] then .ok (.mk 4 [] 0 [], ts.tail) else exprL F ts
/-- what signs part, at most so many -/
def listGo {α : Type} (one : α → List Tok → PR α) : Nat → α → List Tok → PR α
 | 0, _, ts => .error (21, (hd ts 0).line)
 | k + 1, x, ts => match one x ts with
  | .error e => .error e
  | .ok (x', r) => match takesL [44] r with
   | some r' => listGo one k x' r'
   | none => .ok (x', r)
def withinL {α : Type} (o c : List UInt8) (what : List Tok → PR α) (ts : List Tok) : PR α := match mustL o ts with
 | .error e => .error e
 | .ok (_, r) => match what r with
  | .error e => .error e
  | .ok (x, r') => match mustL c r' with
   | .error e => .error e
   | .ok (_, r2) => .ok (x, r2)
def argStep (F : Nat) (l : List T) (ts : List Tok) : PR (List T) := match argL F ts with
 | .error e => .error e
 | .ok (t, r) => .ok (l ++ [t], r)
def atomL (F : Nat) (ts : List Tok) : PR At := match nameP ts with
 | .error e => .error e
 | .ok (s, r) => match withinL [40] [41] (listGo (argStep F) 8 []) r with
  | .error e => .error e
  | .ok (l, r') => .ok (⟨s, l⟩, r')
def aggOp (s : List UInt8) : Int := if s = [99, 111, 117, 110, 116] then 7 else if s = [115, 117, 109] then 8 else if s = [109, 105, 110] then 9 else if s = [109, 97, 120] then 10 else 0
def howL' (ts : List Tok) : Int := if signB (hd ts 0) [61] = true ∧ (hd ts 1).kind = 1 then (if aggOp (hd ts 1).s = 7 ∧ signB (hd ts 2) [58] = true ∨ 7 < aggOp (hd ts 1).s ∧ nameT (hd ts 2) = true ∧ signB (hd ts 3) [58] = true then aggOp (hd ts 1).s else 0) else 0
def zeroT : T := .mk 0 [] 0 []
def zeroA : At := ⟨[], []⟩
def aggL (F : Nat) (op : Int) (x : T) (ts : List Tok) : PR Li := if x.op ≠ 1 ∧ x.op ≠ 2 then stopE ts else
 match withinL [123] [125] (atomL F) (ts.drop (if op = 7 then 3 else 4)) with
 | .error e => .error e
 | .ok (a, r) => .ok (⟨op, a, x, if op = 7 then zeroT else .mk 1 (hd ts 2).s 0 []⟩, r)
def relOp (s : List UInt8) : Int := if s = [61] then 3 else if s = [33, 61] then 4 else if s = [60] ∨ s = [62] then 5 else if s = [60, 61] ∨ s = [62, 61] then 6 else 0
def heldL (F : Nat) (x : T) (ts : List Tok) : PR Li := if (hd ts 0).kind = 4 ∧ relOp (hd ts 0).s ≠ 0 then (match exprL F ts.tail with
  | .error e => .error e
  | .ok (y, r) => .ok (if (hd ts 0).s = [62] ∨ (hd ts 0).s = [62, 61] then ⟨relOp (hd ts 0).s, zeroA, y, x⟩ else ⟨relOp (hd ts 0).s, zeroA, x, y⟩, r)) else stopE ts
def litA (op : Int) (x : PR At) : PR Li := match x with
 | .error e => .error e
 | .ok (a, r) => .ok (⟨op, a, zeroT, zeroT⟩, r)
def partL' (F : Nat) (ts : List Tok) : PR Li := match takesL [33] ts with
 | some r => litA 2 (atomL F r)
 | none => if nameT (hd ts 0) = true ∧ signB (hd ts 1) [40] = true then litA 1 (atomL F ts) else match exprL F ts with
  | .error e => .error e
  | .ok (x, r) => if howL' r ≠ 0 then aggL F (howL' r) x r else heldL F x r
def headL (a : At) (bare : Bool) : Bool := a.l.all fun t => if t.op = 1 then !bare else decide (t.op = 2) || decide (t.op = 3)
def bodyStep (F : Nat) (l : List Li) (ts : List Tok) : PR (List Li) := match partL' F ts with
 | .error e => .error e
 | .ok (t, r) => .ok (l ++ [t], r)
def bodyP (F : Nat) (ts : List Tok) : PR (List Li) := match takesL [58, 45] ts with
 | some r => listGo (bodyStep F) 20 [] r
 | none => .ok ([], ts)
def ruleL (F : Nat) (ts : List Tok) : PR Ru := match atomL F ts with
 | .error e => .error e
 | .ok (a, r) => if headL a false = false then .error (40, (hd ts 0).line) else match bodyP F r with
  | .error e => .error e
  | .ok (b, r2) => match mustL [46] r2 with
   | .error e => .error e
   | .ok (_, r3) => if headL a (decide (b.length = 0)) = false then .error (40, (hd ts 0).line) else .ok (⟨a, b, (hd ts 0).line⟩, r3)
def kindT (s : List UInt8) : Int := if s = [110, 117, 109, 98, 101, 114] then 1 else if s = [115, 121, 109, 98, 111, 108] then 2 else 0
def colStep (d : List (List UInt8) × List Int) (ts : List Tok) : PR (List (List UInt8) × List Int) := match nameP ts with
 | .error e => .error e
 | .ok (s, r) => match mustL [58] r with
  | .error e => .error e
  | .ok (_, r2) => if (hd r2 0).kind = 1 ∧ kindT (hd r2 0).s ≠ 0 then .ok ((d.1 ++ [s], d.2 ++ [kindT (hd r2 0).s]), r2.tail) else stopE r2
def declL (ts : List Tok) : PR De := match nameP ts.tail with
 | .error e => .error e
 | .ok (s, r) => match withinL [40] [41] (listGo colStep 8 ([], [])) r with
  | .error e => .error e
  | .ok (d, r') => .ok (⟨s, d.1, d.2, false, false, (hd ts 0).line⟩, r')
def relB (s : List UInt8) (d : De) : Bool := decide (d.rel = s)
def flag (w : Bool) (d : De) : Bool := if w = true then d.inp else d.out
def setF (w : Bool) (d : De) : De := if w = true then { d with inp := true } else { d with out := true }
def markL (w : Bool) (l : List De) (ts : List Tok) : PR (List De) := if nameT (hd ts.tail 0) = true then (match l.findIdx? (relB (hd ts.tail 0).s) with
  | none => stopE ts.tail
  | some i => match l[i]? with
   | none => stopE ts.tail
   | some d => if flag w d = true then stopE ts.tail else .ok (l.set i (setF w d), ts.tail.tail)) else stopE ts.tail
def wordT (t : Tok) (s : List UInt8) : Bool := decide (t.kind = 5) && decide (t.s = s)
def itemL (F : Nat) (p : Pr) (ts : List Tok) : PR Pr :=
 if wordT (hd ts 0) [46, 100, 101, 99, 108] = true then (if p.decls.length = 60 then .error (21, (hd ts 0).line) else match declL ts with
  | .error e => .error e
  | .ok (d, r) => .ok (⟨p.decls ++ [d], p.rules⟩, r))
 else if wordT (hd ts 0) [46, 105, 110, 112, 117, 116] = true then (match markL true p.decls ts with
  | .error e => .error e
  | .ok (l, r) => .ok (⟨l, p.rules⟩, r))
 else if wordT (hd ts 0) [46, 111, 117, 116, 112, 117, 116] = true then (match markL false p.decls ts with
  | .error e => .error e
  | .ok (l, r) => .ok (⟨l, p.rules⟩, r))
 else if p.rules.length = 200 then .error (21, (hd ts 0).line) else match ruleL F ts with
  | .error e => .error e
  | .ok (x, r) => .ok (⟨p.decls, p.rules ++ [x]⟩, r)
def itemsGo (F : Nat) : Nat → Pr → List Tok → Except (Int × Int) Pr
 | 0, p, _ => .ok p
 | k + 1, p, ts => match ts with
  | [] => .ok p
  | t :: r => match itemL F p (t :: r) with
   | .error e => .error e
   | .ok (p', r') => itemsGo F k p' r'
/-- a program, the line and what is wrong -/
def parseL (ts : List Tok) : Pr × Int × Int := if 20000 < ts.length then (⟨[], []⟩, 0, 21) else match itemsGo 20001 20000 ⟨[], []⟩ ts with
 | .error e => (⟨[], []⟩, e.2, e.1)
 | .ok p => (p, 0, 0)

/-! ### what is left is an end of what there was -/
theorem hd_kind {ts : List Tok} {n : Nat} (h : (hd ts n).kind ≠ 0) : n < ts.length := by
 by_cases hn : n < ts.length
 ·exact hn
 ·rw [hd, List.getElem?_eq_none (by omega)] at h; exact absurd rfl h
theorem hd_get {ts : List Tok} {n : Nat} (h : n < ts.length) : hd ts n = ts[n] := by rw [hd, List.getElem?_eq_getElem h]; rfl
theorem tail_suf {ts : List Tok} : ts.tail <:+ ts := List.tail_suffix ts
theorem tail_len {ts : List Tok} (h : (hd ts 0).kind ≠ 0) : ts.tail.length < ts.length := by
 have := hd_kind h
 rw [List.length_tail]; omega
theorem takes_suf {s : List UInt8} {ts r : List Tok} (h : takesL s ts = some r) : ts ≠ [] ∧ r = ts.tail ∧ signB (hd ts 0) s = true := by
 cases ts with
 | nil => cases h
 | cons t ts =>
  rw [takesL] at h
  split at h
  ·rename_i hs
   exact ⟨by simp, (Option.some.inj h).symm, hs⟩
  ·cases h
/-- less is left than there was -/
def Less (r ts : List Tok) : Prop := r <:+ ts ∧ r.length < ts.length
theorem Less.trans {a b c : List Tok} (h : Less a b) (k : Less b c) : Less a c := ⟨h.1.trans k.1, Nat.lt_trans h.2 k.2⟩
theorem less_tail {ts : List Tok} (h : (hd ts 0).kind ≠ 0) : Less ts.tail ts := ⟨tail_suf, tail_len h⟩
theorem less_takes {s : List UInt8} {ts r : List Tok} (h : takesL s ts = some r) : Less r ts := by
 obtain ⟨h1, rfl, _⟩ := takes_suf h
 exact ⟨tail_suf, by cases ts with | nil => exact absurd rfl h1 | cons => simp⟩
theorem less_must {s : List UInt8} {ts r : List Tok} {u : Unit} (h : mustL s ts = .ok (u, r)) : Less r ts := by
 rw [mustL] at h
 split at h
 ·rename_i x hx
  injection h with h
  injection h with _ h
  subst h
  exact less_takes hx
 ·cases h
theorem name_kind {t : Tok} (h : nameT t = true) : t.kind = 1 := by
 rw [nameT, Bool.and_eq_true, decide_eq_true_eq] at h; exact h.1
theorem less_name {ts r : List Tok} {s : List UInt8} (h : nameP ts = .ok (s, r)) : Less r ts ∧ nameT (hd ts 0) = true ∧ s = (hd ts 0).s ∧ r = ts.tail := by
 rw [nameP] at h
 split at h
 ·rename_i hn
  injection h with h
  injection h with h1 h2
  subst h1 h2
  exact ⟨less_tail (by rw [name_kind hn]; decide), hn, rfl, rfl⟩
 ·cases h
theorem less_num {z : Int} {ts r : List Tok} {x : T} (h : numL z ts = .ok (x, r)) : Less r ts := by
 rw [numL] at h
 split at h
 ·rename_i hn
  injection h with h
  injection h with h1 h2
  subst h2
  exact less_tail (by rw [hn]; decide)
 ·cases h
/-- a reader that always goes on -/
def Eats {α : Type} (f : List Tok → PR α) : Prop := ∀ ts x r, f ts = .ok (x, r) → Less r ts
theorem suf_chain {part : List Tok → PR T} {ops : List UInt8 → Int} (hp : Eats part) : ∀ (k : Nat) (x : T) (ts : List Tok) (y : T) (r : List Tok), chainGo part ops k x ts = .ok (y, r) → r <:+ ts
 | 0, x, ts, y, r, h => by
  rw [chainGo] at h
  injection h with h; injection h with _ h; subst h; exact List.suffix_refl _
 | k + 1, x, ts, y, r, h => by
  rw [chainGo] at h
  split at h
  ·rename_i hk
   split at h
   ·cases h
   ·rename_i y' r' hr
    split at h
    ·cases h
    ·have h1 := suf_chain hp k _ r' y r h
     exact h1.trans ((hp _ _ _ hr).1.trans tail_suf)
  ·injection h with h; injection h with _ h; subst h; exact List.suffix_refl _
theorem eats_chain {part : List Tok → PR T} {ops : List UInt8 → Int} (hp : Eats part) : Eats (chainL part ops) := fun ts x r h => by
 rw [chainL] at h
 split at h
 ·cases h
 ·rename_i y r' hr
  have h1 := hp _ _ _ hr
  have h2 := suf_chain hp _ _ _ _ _ h
  exact ⟨h2.trans h1.1, Nat.lt_of_le_of_lt h2.length_le h1.2⟩
theorem eats_thing : ∀ n, Eats (thingL n)
 | 0 => fun ts x r h => by rw [thingL] at h; cases h
 | n + 1 => fun ts x r h => by
  have hs : Eats (chainL (chainL (thingL n) opsP) opsS) := eats_chain (eats_chain (eats_thing n))
  rw [thingL] at h
  split at h
  ·exact less_num h
  ·split at h
   ·rename_i hk
    injection h with h; injection h with _ h; subst h
    exact less_tail (by rw [hk]; decide)
   ·split at h
    ·rename_i hk
     injection h with h; injection h with _ h; subst h
     exact less_tail (by rw [name_kind hk]; decide)
    ·split at h
     ·rename_i r1 h1
      exact (less_num h).trans (less_takes h1)
     ·split at h
      ·rename_i r1 h1
       rw [within1] at h
       split at h
       ·cases h
       ·rename_i y r2 h2
        split at h
        ·cases h
        ·rename_i u r3 h3
         injection h with h; injection h with _ h; subst h
         exact (less_must h3).trans ((hs _ _ _ h2).trans (less_takes h1))
      ·cases h
theorem eats_prod (n : Nat) : Eats (prodL n) := eats_chain (eats_thing n)
theorem eats_sum (n : Nat) : Eats (sumL n) := eats_chain (eats_prod n)
theorem eats_expr (F : Nat) : Eats (exprL F) := fun ts x r h => by
 rw [exprL] at h
 split at h
 ·cases h
 ·rename_i y r' hr
  split at h
  ·cases h
  ·injection h with h; injection h with _ h; subst h
   exact eats_sum F _ _ _ hr
theorem eats_arg (F : Nat) : Eats (argL F) := fun ts x r h => by
 rw [argL] at h
 split at h
 ·rename_i hk
  injection h with h; injection h with _ h; subst h
  exact less_tail (by rw [hk.1]; decide)
 ·exact eats_expr F _ _ _ h
theorem less_list {α : Type} {one : α → List Tok → PR α} (ho : ∀ x, Eats (one x)) : ∀ (k : Nat) (x : α), Eats (listGo one k x)
 | 0, x => fun ts y r h => by rw [listGo] at h; cases h
 | k + 1, x => fun ts y r h => by
  rw [listGo] at h
  split at h
  ·cases h
  ·rename_i x' r1 h1
   have h2 := ho x _ _ _ h1
   split at h
   ·rename_i r2 h3
    exact (less_list ho k x' _ _ _ h).trans ((less_takes h3).trans h2)
   ·injection h with h; injection h with _ h; subst h; exact h2
theorem eats_within {α : Type} {o c : List UInt8} {what : List Tok → PR α} (hw : Eats what) : Eats (withinL o c what) := fun ts x r h => by
 rw [withinL] at h
 split at h
 ·cases h
 ·rename_i u r1 h1
  split at h
  ·cases h
  ·rename_i y r2 h2
   split at h
   ·cases h
   ·rename_i u r3 h3
    injection h with h; injection h with _ h; subst h
    exact (less_must h3).trans ((hw _ _ _ h2).trans (less_must h1))
theorem eats_argStep (F : Nat) (l : List T) : Eats (argStep F l) := fun ts x r h => by
 rw [argStep] at h
 split at h
 ·cases h
 ·rename_i t r1 h1
  injection h with h; injection h with _ h; subst h
  exact eats_arg F _ _ _ h1
theorem eats_atom (F : Nat) : Eats (atomL F) := fun ts x r h => by
 rw [atomL] at h
 split at h
 ·cases h
 ·rename_i s r1 h1
  split at h
  ·cases h
  ·rename_i l r2 h2
   injection h with h; injection h with _ h; subst h
   exact (eats_within (less_list (eats_argStep F) 8 []) _ _ _ h2).trans (less_name h1).1
end Go.Proofs.YtfeknkaioofljaaGreatDoor
/-
 What is read of a text does not hang on what stands behind it: plain. Own work.
-/
namespace Go.Proofs.YtfeknkaioofljaaGreatDoor
open Go.Aw Go.RowKit Tree
open Lx (Tok)

/-- something stands next, and no name -/
def Stop (r : List Tok) : Prop := r ≠ [] ∧ nameT (hd r 0) = false
theorem hd_app {ts : List Tok} {n : Nat} (h : n < ts.length) (b : List Tok) : hd (ts ++ b) n = hd ts n := by
 rw [hd, hd, List.getElem?_append_left h]
theorem hd_app0 {ts : List Tok} (h : ts ≠ []) (b : List Tok) : hd (ts ++ b) 0 = hd ts 0 := hd_app (List.length_pos_iff.2 h) b
theorem tail_app {ts : List Tok} (h : ts ≠ []) (b : List Tok) : (ts ++ b).tail = ts.tail ++ b := by
 cases ts with
 | nil => exact absurd rfl h
 | cons a r => rfl
theorem ne_kind {ts : List Tok} (h : (hd ts 0).kind ≠ 0) : ts ≠ [] := by rintro rfl; exact h rfl
theorem sign_kind {t : Tok} {s : List UInt8} (h : signB t s = true) : t.kind = 4 ∧ t.s = s := by
 rw [signB, Bool.and_eq_true, decide_eq_true_eq, decide_eq_true_eq] at h; exact h
theorem stop_kind {r : List Tok} (h : (hd r 0).kind = 4) : Stop r := by
 refine ⟨ne_kind (by rw [h]; decide), ?_⟩
 rw [nameT, h]; rfl
theorem stop_takes {s : List UInt8} {ts r : List Tok} (h : takesL s ts = some r) : Stop ts := stop_kind (sign_kind (takes_suf h).2.2).1
theorem takes_app {s : List UInt8} {ts r : List Tok} (h : takesL s ts = some r) (b : List Tok) : takesL s (ts ++ b) = some (r ++ b) := by
 cases ts with
 | nil => cases h
 | cons t ts =>
  rw [List.cons_append, takesL]
  rw [takesL] at h
  split at h
  ·rename_i hs
   cases h
   rw [if_pos hs]
  ·cases h
theorem takes_none {s : List UInt8} {ts : List Tok} (h : takesL s ts = none) (hn : ts ≠ []) (b : List Tok) : takesL s (ts ++ b) = none := by
 cases ts with
 | nil => exact absurd rfl hn
 | cons t ts =>
  rw [List.cons_append, takesL]
  rw [takesL] at h
  split at h
  ·cases h
  ·rename_i hs
   exact if_neg hs
theorem must_some {s : List UInt8} {ts r : List Tok} {u : Unit} (h : mustL s ts = .ok (u, r)) : takesL s ts = some r := by
 rw [mustL] at h
 split at h
 ·rename_i x hx
  cases h; exact hx
 ·cases h
theorem must_of {s : List UInt8} {ts r : List Tok} (h : takesL s ts = some r) : mustL s ts = .ok ((), r) := by rw [mustL, h]
theorem stop_must {s : List UInt8} {ts r : List Tok} {u : Unit} (h : mustL s ts = .ok (u, r)) : Stop ts := stop_takes (must_some h)
section
variable {α : Type}
/-- the same is read, whatever stands behind -/
def LocA (f : List Tok → PR α) : Prop := ∀ ts x r b, f ts = .ok (x, r) → f (ts ++ b) = .ok (x, r ++ b)
/-- .. if something that is no name is left -/
def Loc (f : List Tok → PR α) : Prop := ∀ ts x r b, f ts = .ok (x, r) → Stop r → f (ts ++ b) = .ok (x, r ++ b)
theorem LocA.loc {f : List Tok → PR α} (h : LocA f) : Loc f := fun ts x r b h1 _ => h ts x r b h1
end
theorem loc_must (s : List UInt8) : LocA (mustL s) := fun ts x r b h => must_of (takes_app (must_some h) b)
theorem loc_name : LocA nameP := fun ts x r b h => by
 obtain ⟨_, h1, rfl, rfl⟩ := less_name h
 have hn := ne_kind (ts := ts) (by rw [name_kind h1]; decide)
 rw [nameP, hd_app0 hn, if_pos h1, tail_app hn]
theorem loc_num (z : Int) : LocA (numL z) := fun ts x r b h => by
 rw [numL] at h ⊢
 split at h
 ·rename_i hk
  have hn := ne_kind (ts := ts) (by rw [hk]; decide)
  cases h
  rw [hd_app0 hn, if_pos hk, tail_app hn]
 ·cases h
theorem chain_stop {part : List Tok → PR T} {ops : List UInt8 → Int} {k : Nat} {x y : T} {ts r : List Tok} (h : chainGo part ops k x ts = .ok (y, r)) (hs : Stop r) : Stop ts := by
 cases k with
 | zero => rw [chainGo] at h; cases h; exact hs
 | succ k =>
  rw [chainGo] at h
  split at h
  ·rename_i hk
   exact stop_kind hk.1
  ·cases h; exact hs
theorem loc_go {part : List Tok → PR T} {ops : List UInt8 → Int} (he : Eats part) (hp : Loc part) : ∀ (k : Nat) (x : T) (ts : List Tok) (y : T) (r b : List Tok), chainGo part ops k x ts = .ok (y, r) → Stop r → ts.length ≤ k → chainGo part ops (k + b.length) x (ts ++ b) = .ok (y, r ++ b)
 | 0, x, ts, y, r, b, h, hs, hl => by
  obtain rfl : ts = [] := List.eq_nil_of_length_eq_zero (by omega)
  rw [chainGo] at h
  cases h
  exact absurd rfl hs.1
 | k + 1, x, ts, y, r, b, h, hs, hl => by
  have hne := (chain_stop h hs).1
  rw [Nat.add_right_comm, chainGo, hd_app0 hne, tail_app hne]
  rw [chainGo] at h
  split at h
  ·rename_i hk
   rw [if_pos hk]
   split at h
   ·cases h
   ·rename_i y' r' hr
    split at h
    ·cases h
    ·rename_i h3
     rw [hp _ _ _ b hr (chain_stop h hs)]
     simp only []
     rw [if_neg h3]
     have h2 := tail_len (ts := ts) (by rw [hk.1]; decide)
     have h1 := (he _ _ _ hr).2
     exact loc_go he hp k _ r' y r b h hs (by omega)
  ·rename_i hk
   cases h
   rw [if_neg hk]
theorem loc_chain {part : List Tok → PR T} {ops : List UInt8 → Int} (he : Eats part) (hp : Loc part) : Loc (chainL part ops) := fun ts x r b h hs => by
 rw [chainL] at h ⊢
 split at h
 ·cases h
 ·rename_i y r' hr
  rw [hp _ _ _ b hr (chain_stop h hs)]
  simp only []
  have := loc_go he hp _ _ r' x r b h hs (Nat.le_refl _)
  rw [List.length_append]; exact this
theorem loc_thing : ∀ n, Loc (thingL n)
 | 0 => fun ts x r b h => by rw [thingL] at h; cases h
 | n + 1 => fun ts x r b h hs => by
  have hS : Loc (chainL (chainL (thingL n) opsP) opsS) := loc_chain (eats_chain (eats_thing n)) (loc_chain (eats_thing n) (loc_thing n))
  have hne : ts ≠ [] := by
   rintro rfl
   have := (eats_thing (n + 1) _ _ _ h).2
   simp at this
  rw [thingL] at h ⊢
  rw [hd_app0 hne]
  split at h
  ·rename_i h1
   rw [if_pos h1]
   exact loc_num 1 _ _ _ b h
  ·rename_i h1
   rw [if_neg h1]
   split at h
   ·rename_i h2
    cases h
    rw [if_pos h2, tail_app hne]
   ·rename_i h2
    rw [if_neg h2]
    split at h
    ·rename_i h3
     cases h
     rw [if_pos h3, tail_app hne]
    ·rename_i h3
     rw [if_neg h3]
     split at h
     ·rename_i r1 h4
      rw [takes_app h4 b]
      exact loc_num (-1) _ _ _ b h
     ·rename_i h4
      rw [takes_none h4 hne b]
      simp only []
      split at h
      ·rename_i r1 h5
       rw [takes_app h5 b]
       simp only []
       rw [within1] at h ⊢
       split at h
       ·cases h
       ·rename_i y r2 h6
        split at h
        ·cases h
        ·rename_i u r3 h7
         cases h
         rw [hS _ _ _ b h6 (stop_must h7)]
         simp only []
         rw [loc_must _ _ _ _ b h7]
      ·cases h
theorem loc_prod (n : Nat) : Loc (prodL n) := loc_chain (eats_thing n) (loc_thing n)
theorem loc_sum (n : Nat) : Loc (sumL n) := loc_chain (eats_prod n) (loc_prod n)
theorem eats_ne {α : Type} {f : List Tok → PR α} (hf : Eats f) {ts r : List Tok} {x : α} (h : f ts = .ok (x, r)) : ts ≠ [] := by
 rintro rfl
 have := (hf _ _ _ h).2
 simp at this
theorem loc_expr (F : Nat) : Loc (exprL F) := fun ts x r b h hs => by
 rw [exprL] at h ⊢
 split at h
 ·cases h
 ·rename_i y r' hr
  split at h
  ·cases h
  ·rename_i h1
   cases h
   rw [loc_sum F _ _ _ b hr hs]
   simp only []
   rw [if_neg h1]
theorem loc_arg (F : Nat) : Loc (argL F) := fun ts x r b h hs => by
 have hne := eats_ne (eats_arg F) h
 rw [argL] at h ⊢
 rw [hd_app0 hne]
 split at h
 ·rename_i h1
  cases h
  rw [if_pos h1, tail_app hne]
 ·rename_i h1
  rw [if_neg h1]
  exact loc_expr F _ _ _ b h hs
theorem loc_list {α : Type} {one : α → List Tok → PR α} (ho : ∀ x, Loc (one x)) : ∀ (k : Nat) (x : α), Loc (listGo one k x)
 | 0, x => fun ts y r b h => by rw [listGo] at h; cases h
 | k + 1, x => fun ts y r b h hs => by
  rw [listGo] at h ⊢
  split at h
  ·cases h
  ·rename_i x' r1 h1
   split at h
   ·rename_i r2 h2
    rw [ho x _ _ _ b h1 (stop_takes h2)]
    simp only []
    rw [takes_app h2 b]
    exact loc_list ho k x' _ _ _ b h hs
   ·rename_i h2
    cases h
    rw [ho x _ _ _ b h1 hs]
    simp only []
    rw [takes_none h2 hs.1 b]
theorem loc_within {α : Type} {o c : List UInt8} {what : List Tok → PR α} (hw : Loc what) : LocA (withinL o c what) := fun ts x r b h => by
 rw [withinL] at h ⊢
 split at h
 ·cases h
 ·rename_i u r1 h1
  rw [loc_must _ _ _ _ b h1]
  simp only []
  split at h
  ·cases h
  ·rename_i y r2 h2
   split at h
   ·cases h
   ·rename_i u2 r3 h3
    cases h
    rw [hw _ _ _ b h2 (stop_must h3)]
    simp only []
    rw [loc_must _ _ _ _ b h3]
theorem loc_argStep (F : Nat) (l : List T) : Loc (argStep F l) := fun ts x r b h hs => by
 rw [argStep] at h ⊢
 split at h
 ·cases h
 ·rename_i t r1 h1
  cases h
  rw [loc_arg F _ _ _ b h1 hs]
theorem loc_atom (F : Nat) : LocA (atomL F) := fun ts x r b h => by
 rw [atomL] at h ⊢
 split at h
 ·cases h
 ·rename_i s r1 h1
  rw [loc_name _ _ _ b h1]
  simp only []
  split at h
  ·cases h
  ·rename_i l r2 h2
   cases h
   rw [loc_within (loc_list (loc_argStep F) 8 []) _ _ _ b h2]
theorem within_len {α : Type} {o c : List UInt8} {what : List Tok → PR α} (hw : Eats what) {ts r : List Tok} {x : α} (h : withinL o c what ts = .ok (x, r)) : 3 ≤ ts.length := by
 rw [withinL] at h
 split at h
 ·cases h
 ·rename_i u r1 h1
  split at h
  ·cases h
  ·rename_i y r2 h2
   split at h
   ·cases h
   ·rename_i u2 r3 h3
    have a := (less_must h1).2
    have b := (hw _ _ _ h2).2
    have c := (less_must h3).2
    omega
theorem agg_len {F : Nat} {op : Int} {x : T} {ts r : List Tok} {l : Li} (h : aggL F op x ts = .ok (l, r)) : (if op = 7 then 3 else 4) + 3 ≤ ts.length := by
 rw [aggL] at h
 split at h
 ·cases h
 ·split at h
  ·cases h
  ·rename_i a r1 h1
   have := within_len (eats_atom F) h1
   rw [List.length_drop] at this
   omega
theorem loc_agg (F : Nat) (op : Int) (x : T) : LocA (aggL F op x) := fun ts l r b h => by
 have hl := agg_len h
 rw [aggL] at h ⊢
 split at h
 ·cases h
 ·rename_i hx
  rw [if_neg hx]
  split at h
  ·cases h
  ·rename_i a r1 h1
   cases h
   rw [List.drop_append_of_le_length (by omega), loc_within (loc_atom F).loc _ _ _ b h1]
   simp only []
   split at hl
   ·rename_i h7
    rw [if_pos h7, if_pos h7]
   ·rename_i h7
    rw [if_neg h7, if_neg h7, hd_app (by omega)]
theorem eats_held (F : Nat) (x : T) : Eats (heldL F x) := fun ts l r h => by
 rw [heldL] at h
 split at h
 ·rename_i hk
  split at h
  ·cases h
  ·rename_i y r1 h1
   cases h
   exact (eats_expr F _ _ _ h1).trans (less_tail (by rw [hk.1]; decide))
 ·cases h
theorem held_kind {F : Nat} {x : T} {ts r : List Tok} {l : Li} (h : heldL F x ts = .ok (l, r)) : (hd ts 0).kind = 4 := by
 rw [heldL] at h
 split at h
 ·rename_i hk; exact hk.1
 ·cases h
theorem loc_held (F : Nat) (x : T) : Loc (heldL F x) := fun ts l r b h hs => by
 have hne := eats_ne (eats_held F x) h
 rw [heldL] at h ⊢
 rw [hd_app0 hne, tail_app hne]
 split at h
 ·rename_i hk
  rw [if_pos hk]
  split at h
  ·cases h
  ·rename_i y r1 h1
   cases h
   rw [loc_expr F _ _ _ b h1 hs]
 ·cases h
theorem how_kind {ts : List Tok} (h : howL' ts ≠ 0) : (hd ts 0).kind = 4 := by
 rw [howL'] at h
 split at h
 ·rename_i hk; exact (sign_kind hk.1).1
 ·exact absurd rfl h
theorem how_app {ts : List Tok} (h : 4 ≤ ts.length) (b : List Tok) : howL' (ts ++ b) = howL' ts := by
 rw [howL', howL', hd_app (by omega), hd_app (by omega), hd_app (by omega), hd_app (by omega)]
theorem how_app' {ts : List Tok} (h : 3 ≤ ts.length) (hn : nameT (hd ts 2) = false) (b : List Tok) : howL' (ts ++ b) = howL' ts := by
 rw [howL', howL', hd_app (by omega), hd_app (by omega), hd_app (by omega), hn]
 simp
theorem loc_litA {op : Int} {f : List Tok → PR At} (hf : LocA f) {ts r : List Tok} {l : Li} (h : litA op (f ts) = .ok (l, r)) (b : List Tok) : litA op (f (ts ++ b)) = .ok (l, r ++ b) := by
 cases hx : f ts with
 | error e => rw [hx] at h; cases h
 | ok q =>
  obtain ⟨a, r1⟩ := q
  rw [hx] at h
  cases h
  rw [hf _ _ _ b hx]; rfl
theorem eats_agg (F : Nat) (op : Int) (x : T) : Eats (aggL F op x) := fun ts l r h => by
 have hl := agg_len h
 rw [aggL] at h
 split at h
 ·cases h
 ·split at h
  ·cases h
  ·rename_i a r1 h1
   cases h
   have := eats_within (eats_atom F) _ _ _ h1
   refine ⟨this.1.trans (List.drop_suffix _ _), ?_⟩
   have h2 := this.2
   rw [List.length_drop] at h2
   omega
theorem eats_litA {op : Int} {f : List Tok → PR At} (hf : Eats f) {ts r : List Tok} {l : Li} (h : litA op (f ts) = .ok (l, r)) : Less r ts := by
 cases hx : f ts with
 | error e => rw [hx] at h; cases h
 | ok q =>
  obtain ⟨a, r1⟩ := q
  rw [hx] at h
  cases h
  exact hf _ _ _ hx
theorem eats_part (F : Nat) : Eats (partL' F) := fun ts l r h => by
 rw [partL'] at h
 split at h
 ·rename_i r1 h1
  exact (eats_litA (eats_atom F) h).trans (less_takes h1)
 ·split at h
  ·exact eats_litA (eats_atom F) h
  ·split at h
   ·cases h
   ·rename_i x r1 h1
    have h2 := eats_expr F _ _ _ h1
    split at h
    ·exact (eats_agg F _ _ _ _ _ h).trans h2
    ·exact (eats_held F _ _ _ _ h).trans h2
theorem loc_part (F : Nat) : Loc (partL' F) := fun ts l r b h hs => by
 have hne := eats_ne (eats_part F) h
 rw [partL'] at h ⊢
 split at h
 ·rename_i r1 h1
  rw [takes_app h1 b]
  exact loc_litA (loc_atom F) h b
 ·rename_i h1
  rw [takes_none h1 hne b]
  simp only []
  rw [hd_app0 hne]
  split at h
  ·rename_i h2
   have hl := hd_kind (ts := ts) (n := 1) (by rw [(sign_kind h2.2).1]; decide)
   rw [hd_app hl, if_pos h2]
   exact loc_litA (loc_atom F) h b
  ·rename_i h2
   split at h
   ·cases h
   ·rename_i x r1 h3
    have hk : (hd r1 0).kind = 4 := by
     split at h
     ·rename_i h4; exact how_kind h4
     ·exact held_kind h
    have h5 := (eats_expr F _ _ _ h3).2
    have h6 := ne_kind (ts := r1) (by rw [hk]; decide)
    have h7 := List.length_pos_iff.2 h6
    rw [hd_app (by omega), if_neg h2, loc_expr F _ _ _ b h3 (stop_kind hk)]
    simp only []
    have hw : howL' (r1 ++ b) = howL' r1 := by
     split at h
     ·have := agg_len h
      refine how_app ?_ b
      split at this <;> omega
     ·by_cases h4 : 4 ≤ r1.length
      ·exact how_app h4 b
      ·rw [heldL] at h
       split at h
       ·split at h
        ·cases h
        ·rename_i y r2 h8
         cases h
         have a1 := (eats_expr F _ _ _ h8).2
         have a2 := (eats_expr F _ _ _ h8).1
         have a3 := List.length_pos_iff.2 hs.1
         rw [List.length_tail] at a1
         have e1 : r1.length = 3 := by omega
         refine how_app' (by omega) ?_ b
         have e2 : r.length = 1 := by omega
         obtain ⟨p, hp⟩ := a2.trans tail_suf
         have e3 : p.length = 2 := by have := congrArg List.length hp; rw [List.length_append] at this; omega
         have : hd r1 2 = hd r 0 := by
          rw [← hp, hd, hd, List.getElem?_append_right (by omega), e3]
         rw [this]; exact hs.2
       ·cases h
    rw [hw]
    split at h
    ·rename_i h8
     rw [if_pos h8]
     exact loc_agg F _ _ _ _ _ b h
    ·rename_i h8
     rw [if_neg h8]
     exact loc_held F _ _ _ _ b h hs
theorem eats_bodyStep (F : Nat) (l : List Li) : Eats (bodyStep F l) := fun ts x r h => by
 rw [bodyStep] at h
 split at h
 ·cases h
 ·rename_i t r1 h1
  cases h
  exact eats_part F _ _ _ h1
theorem loc_bodyStep (F : Nat) (l : List Li) : Loc (bodyStep F l) := fun ts x r b h hs => by
 rw [bodyStep] at h ⊢
 split at h
 ·cases h
 ·rename_i t r1 h1
  cases h
  rw [loc_part F _ _ _ b h1 hs]
theorem suf_bodyP {F : Nat} {ts r : List Tok} {l : List Li} (h : bodyP F ts = .ok (l, r)) : r <:+ ts := by
 rw [bodyP] at h
 split at h
 ·rename_i r1 h1
  exact (less_list (eats_bodyStep F) 20 [] _ _ _ h).1.trans (less_takes h1).1
 ·cases h; exact List.suffix_refl _
theorem loc_bodyP (F : Nat) : Loc (bodyP F) := fun ts x r b h hs => by
 have hsuf := suf_bodyP h
 have hne : ts ≠ [] := by
  rintro rfl
  exact hs.1 (List.suffix_nil.1 hsuf)
 rw [bodyP] at h ⊢
 split at h
 ·rename_i r1 h1
  rw [takes_app h1 b]
  exact loc_list (loc_bodyStep F) 20 [] _ _ _ b h hs
 ·rename_i h1
  cases h
  rw [takes_none h1 hne b]
theorem eats_rule (F : Nat) : Eats (ruleL F) := fun ts x r h => by
 rw [ruleL] at h
 split at h
 ·cases h
 ·rename_i a r1 h1
  split at h
  ·cases h
  ·split at h
   ·cases h
   ·rename_i bd r2 h2
    split at h
    ·cases h
    ·rename_i u r3 h3
     split at h
     ·cases h
     ·cases h
      have a1 := suf_bodyP h2
      refine (less_must h3).trans ⟨a1.trans (eats_atom F _ _ _ h1).1, ?_⟩
      exact Nat.lt_of_le_of_lt a1.length_le (eats_atom F _ _ _ h1).2
theorem loc_rule (F : Nat) : LocA (ruleL F) := fun ts x r b h => by
 have hne := eats_ne (eats_rule F) h
 rw [ruleL] at h ⊢
 rw [hd_app0 hne]
 split at h
 ·cases h
 ·rename_i a r1 h1
  rw [loc_atom F _ _ _ b h1]
  simp only []
  split at h
  ·cases h
  ·rename_i g1
   rw [if_neg g1]
   split at h
   ·cases h
   ·rename_i bd r2 h2
    split at h
    ·cases h
    ·rename_i u r3 h3
     rw [loc_bodyP F _ _ _ b h2 (stop_must h3)]
     simp only []
     rw [loc_must _ _ _ _ b h3]
     simp only []
     split at h
     ·cases h
     ·rename_i g2
      cases h
      rw [if_neg g2]
theorem eats_col (d : List (List UInt8) × List Int) : Eats (colStep d) := fun ts x r h => by
 rw [colStep] at h
 split at h
 ·cases h
 ·rename_i s r1 h1
  split at h
  ·cases h
  ·rename_i u r2 h2
   split at h
   ·rename_i hk
    cases h
    exact (less_tail (by rw [hk.1]; decide)).trans ((less_must h2).trans (less_name h1).1)
   ·cases h
theorem loc_col (d : List (List UInt8) × List Int) : LocA (colStep d) := fun ts x r b h => by
 rw [colStep] at h ⊢
 split at h
 ·cases h
 ·rename_i s r1 h1
  rw [loc_name _ _ _ b h1]
  simp only []
  split at h
  ·cases h
  ·rename_i u r2 h2
   rw [loc_must _ _ _ _ b h2]
   simp only []
   split at h
   ·rename_i hk
    have hne := ne_kind (ts := r2) (by rw [hk.1]; decide)
    cases h
    rw [hd_app0 hne, if_pos hk, tail_app hne]
   ·cases h
theorem decl_suf {ts r : List Tok} {d : De} (h : declL ts = .ok (d, r)) : Less r ts := by
 have hle : ts.tail.length ≤ ts.length := by simp
 rw [declL] at h
 split at h
 ·cases h
 ·rename_i s r1 h1
  split at h
  ·cases h
  ·rename_i x r2 h2
   cases h
   have a := (eats_within (less_list eats_col 8 ([], [])) _ _ _ h2).trans (less_name h1).1
   exact ⟨a.1.trans tail_suf, by have := a.2; omega⟩
theorem loc_decl : LocA declL := fun ts x r b h => by
 have hne := eats_ne (fun _ _ _ h => decl_suf h) h
 rw [declL] at h ⊢
 rw [hd_app0 hne, tail_app hne]
 split at h
 ·cases h
 ·rename_i s r1 h1
  rw [loc_name _ _ _ b h1]
  simp only []
  split at h
  ·cases h
  ·rename_i d r2 h2
   cases h
   rw [loc_within (loc_list (fun x => (loc_col x).loc) 8 ([], [])) _ _ _ b h2]
end Go.Proofs.YtfeknkaioofljaaGreatDoor
