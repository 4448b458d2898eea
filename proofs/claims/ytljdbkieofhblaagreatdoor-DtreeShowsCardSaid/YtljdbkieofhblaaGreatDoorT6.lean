/-
  Texts as numbers, by the document. Own work.
-/
import Derived.Test.YtljdbkieofhblaaGreatDoorT5
namespace Go.Proofs.YtljdbkieofhblaaGreatDoor
open Go.Aw

def refLoop (acc : Nat) : List UInt8 → Option Nat
  | [] => some acc
  | c :: r => if c.toNat < 48 ∨ 57 < c.toNat ∨ 1152921504606846976 < acc then none else refLoop (10 * acc + (c.toNat - 48)) r
def negB (s : List UInt8) : Bool := decide (s.head? = some 45)
def refVal (neg : Bool) (n : Nat) : Int := bif neg then IntKind.i64.wrap (0 - IntKind.i64.wrap n) else IntKind.i64.wrap n
theorem refVal_has (b : Bool) (n : Nat) : IntKind.i64.has (refVal b n) := by cases b <;> exact wrap_has _ _
/-- what the document's ParseNum gives -/
def rpL (s : List UInt8) : Int × Int := if 20 < s.length then (0, 10) else match refLoop 0 (s.drop (bif negB s then 1 else 0)) with
  | none => (0, 10)
  | some n => if Lib.itoa (refVal (negB s) n) = s then (refVal (negB s) n, 0) else (0, 10)
theorem step_val {acc : Nat} {c : UInt8} (h1 : 48 ≤ c.toNat) (h2 : c.toNat ≤ 57) (h3 : acc ≤ 1152921504606846976) :
    IntKind.u64.wrap (IntKind.u64.wrap (10 * (acc : Int)) + IntKind.u64.wrap (IntKind.u8.wrap ((c.toNat : Int) - 48))) = ((10 * acc + (c.toNat - 48) : Nat) : Int) := by
  rw [u8_wrap (by omega), u64_wrap (n := 10 * (acc : Int)) (by omega), u64_wrap (n := (c.toNat : Int) - 48) (by omega), u64_wrap (by omega)]; omega
theorem drop_at {s : List UInt8} {i : Nat} (h : i < s.length) : s.drop i = s[i] :: s.drop (i + 1) := (List.getElem_cons_drop h).symm

end Go.Proofs.YtljdbkieofhblaaGreatDoor

