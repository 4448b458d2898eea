/-
  A symbol's text. Own work.
-/
import Derived.Test.YtkmalncnaodkiaaDoorT2
set_option linter.all false
namespace Go.Proofs.YtkmalncnaodkiaaDoor
open Go.Aw

theorem flat_take' (s : List UInt8) {i : Nat} (h : i < s.length) : (s.take (i + 1)).flatMap oneL = (s.take i).flatMap oneL ++ oneL s[i] := by
  rw [List.take_add_one, List.getElem?_eq_getElem h, Option.toList_some, List.flatMap_append]; simp

end Go.Proofs.YtkmalncnaodkiaaDoor

