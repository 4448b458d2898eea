/-
  A symbol's text, one byte at a time. Own work.
-/
import Derived.Test.YtkmalncnaodkiaaDoorT1
set_option linter.all false
namespace Go.Proofs.YtkmalncnaodkiaaDoor
open Go.Aw

def hexs : List UInt8 := [48, 49, 50, 51, 52, 53, 54, 55, 56, 57, 97, 98, 99, 100, 101, 102]
def hexd (n : Nat) : UInt8 := hexs.getD n 0
theorem at_hex {J : Int} {G : UInt8 → Prop} (i : Nat) (hj : J = (i : Int)) (h : i < 16) (hG : G (hexd i)) : 0 ≤ J ∧ ∃ v, hexs[J.toNat]? = some v ∧ G v := by
  subst hj
  refine ⟨by omega, hexd i, ?_, hG⟩
  have h2 : i < hexs.length := h
  simp [hexd, List.getD_eq_getElem?_getD, h2]
theorem shr4 (c : UInt8) : Int.fdiv (c.toNat : Int) (2 ^ (min (Int.toNat 4) IntKind.u8.bits)) = ((c.toNat / 16 : Nat) : Int) := by
  have e3 : (2 : Int) ^ (min (Int.toNat 4) IntKind.u8.bits) = 16 := by simp [IntKind.bits]
  rw [e3, Int.fdiv_eq_ediv_of_nonneg _ (by omega)]; omega
theorem shr4_has (c : UInt8) : IntKind.u8.has (Int.fdiv (c.toNat : Int) (2 ^ (min (Int.toNat 4) IntKind.u8.bits))) := by
  rw [shr4]
  have := c.toNat_lt
  simp only [IntKind.has, IntKind.min, IntKind.max, IntKind.bits, IntKind.signed]; simp; omega
theorem and15 (c : UInt8) : IntKind.u8.wrap ((BitVec.ofInt IntKind.u8.bits (c.toNat : Int) &&& BitVec.ofInt IntKind.u8.bits 15).toNat : Int) = ((c.toNat % 16 : Nat) : Int) := by
  have hc := c.toNat_lt
  have e : (BitVec.ofInt IntKind.u8.bits (c.toNat : Int) &&& BitVec.ofInt IntKind.u8.bits 15).toNat = c.toNat % 16 := by
    rw [BitVec.toNat_and]
    have e1 : (BitVec.ofInt IntKind.u8.bits (c.toNat : Int)).toNat = c.toNat := by
      simp [IntKind.bits]
    have e2 : (BitVec.ofInt IntKind.u8.bits 15).toNat = 2 ^ 4 - 1 := by simp [IntKind.bits]
    rw [e1, e2, Nat.and_two_pow_sub_one_eq_mod]
  rw [e, wrap_has_eq]
  simp only [IntKind.has, IntKind.min, IntKind.max, IntKind.bits, IntKind.signed]
  have : c.toNat % 16 < 16 := Nat.mod_lt _ (by decide)
  simp; omega
/-- one byte of a symbol, as its text has it -/
def oneL (c : UInt8) : List UInt8 :=
  if c.toNat = 34 ∨ c.toNat = 92 then [92, c] else if c.toNat = 10 then [92, 110] else if c.toNat < 32 ∨ 126 < c.toNat then [92, 120, hexd (c.toNat / 16), hexd (c.toNat % 16)] else [c]
theorem oneL_len (c : UInt8) : 1 ≤ (oneL c).length ∧ (oneL c).length ≤ 4 := by
  unfold oneL; split
  · simp
  · split
    · simp
    · split <;> simp
def quoteL (s : List UInt8) : List UInt8 := 34 :: s.flatMap oneL ++ [34]
theorem flat_len (s : List UInt8) : (s.flatMap oneL).length ≤ 4 * s.length := by
  induction s with
  | nil => simp
  | cons a s ih => have := (oneL_len a).2; simp only [List.flatMap_cons, List.length_append, List.length_cons]; omega

end Go.Proofs.YtkmalncnaodkiaaDoor

