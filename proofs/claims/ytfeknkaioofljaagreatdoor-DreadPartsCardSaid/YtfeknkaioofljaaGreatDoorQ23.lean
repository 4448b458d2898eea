/-
 A term's text, the program's. Own work.
-/
import Derived.Test.YtfeknkaioofljaaGreatDoorQ13
import Derived.Test.YtfeknkaioofljaaGreatDoorQ5
import Derived.Test.YtfeknkaioofljaaGreatDoorQ11
set_option linter.all false
namespace Go.Proofs.YtfeknkaioofljaaGreatDoor
open Go.Aw Go.RowKit Tree
set_option maxHeartbeats 4000000
set_option maxRecDepth 4000

mutual
/-- no text too long to be quoted -/
def tx : T → Prop
 | .mk _ s _ l => s.length ≤ 4000000 ∧ txs l
def txs : List T → Prop
 | [] => True
 | t :: r => tx t ∧ txs r
end
mutual
theorem tx_of : ∀ t : T, okT t → tx t
 | .mk op s n l, h => by
  rw [okT] at h
  rw [tx]
  exact ⟨by omega, txs_of l h.2.2⟩
theorem txs_of : ∀ l : List T, okTs l → txs l
 | [], _ => by rw [txs]; trivial
 | t :: r, h => by
  rw [okTs] at h
  rw [txs]
  exact ⟨tx_of t h.1, txs_of r h.2⟩
end
theorem showT_two {op : Int} {s : List UInt8} {n : Int} {x y : T} (h : op = 5 ∨ op = 6 ∨ op = 7) : showT (.mk op s n [x, y]) = 40 :: (showT x ++ (signL op ++ (showT y ++ [41]))) := by
 rw [showT, if_neg (by omega), if_neg (by omega), if_neg (by omega), if_neg (by omega), showTs, showTs, showTs]; rfl
end Go.Proofs.YtfeknkaioofljaaGreatDoor
/-
 An atom's text, however long its parts. Own work.
-/
namespace Go.Proofs.YtfeknkaioofljaaGreatDoor
open Go.Aw Go.RowKit Tree
set_option maxHeartbeats 4000000
set_option maxRecDepth 4000

theorem join_cons2 (x y : List UInt8) (r : List (List UInt8)) (sep : List UInt8) : Lib.join (x :: y :: r) sep = x ++ (sep ++ Lib.join (y :: r) sep) := by
 rw [Lib.join_cons, Lib.join_cons, Lib.joinTail, Lib.joinTail, List.map_cons, List.flatten_cons, List.append_assoc]
end Go.Proofs.YtfeknkaioofljaaGreatDoor
/-
 The text of a part of a body, however long. Own work.
-/
namespace Go.Proofs.YtfeknkaioofljaaGreatDoor
open Go.Aw Go.RowKit Tree
set_option maxHeartbeats 4000000
set_option maxRecDepth 4000

end Go.Proofs.YtfeknkaioofljaaGreatDoor
/-
 A rule's text, however long its parts. Own work.
-/
namespace Go.Proofs.YtfeknkaioofljaaGreatDoor
open Go.Aw Go.RowKit Tree
set_option maxHeartbeats 4000000
set_option maxRecDepth 4000

end Go.Proofs.YtfeknkaioofljaaGreatDoor
/-
 A program's text, however long its parts. Own work.
-/
namespace Go.Proofs.YtfeknkaioofljaaGreatDoor
open Go.Aw Go.RowKit Tree
set_option maxHeartbeats 4000000
set_option maxRecDepth 4000

end Go.Proofs.YtfeknkaioofljaaGreatDoor
