/-
 The least number of all: is it in a rule? Own work.
-/
import Derived.Test.YtfeknkaioofljaaGreatDoorQ25
import Derived.Test.YtfeknkaioofljaaGreatDoorQ28
import Derived.Test.YtfeknkaioofljaaGreatDoorQ26
set_option linter.all false
set_option maxHeartbeats 4000000
set_option maxRecDepth 4000
namespace Go.Proofs.YtfeknkaioofljaaGreatDoor
open Go.Aw Go.RowKit Tree
end Go.Proofs.YtfeknkaioofljaaGreatDoor
namespace Go.Proofs.YtfeknkaioofljaaGreatDoor
open Go.Aw Go.RowKit Tree
theorem like_read {p : Pr} (h : (readV (showP p)).2 = (0,0) ∧ likeP (readV (showP p)).1 p) : ∃ q,readV (showP p) = (q,0,0) ∧ likeP p q := by
 obtain ⟨x,hx⟩ : ∃ x,x = readV (showP p) := ⟨_,rfl⟩
 rw [← hx] at h ⊢
 obtain ⟨q,y⟩ := x
 obtain ⟨rfl,h2⟩ := h
 exact ⟨q,rfl,likeP_symm h2⟩
end Go.Proofs.YtfeknkaioofljaaGreatDoor
