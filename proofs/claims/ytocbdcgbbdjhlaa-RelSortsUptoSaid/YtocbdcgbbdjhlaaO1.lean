/-
  What the laws' arguments read as. Own work.
-/
import Derived.Test.YtocbdcgbbdjhlaaR1
import Derived.Test.YtocbdcgbbdjhlaaFrame
namespace Go.Proofs.Ytocbdcgbbdjhlaa
open Go.Aw Go.ChangeShapes Go.WideShapes Go.ChangeAt Go.RowKit

def szV (v : V) : Nat := v.s.length + 1
def szR (r : List V) : Nat := (r.map szV).sum + 1
def szL (l : List (List V)) : Nat := (l.map szR).sum + 1
theorem opens_val (n : Nat) : Opens Try.prog n 35 encV (szV) :=
  opens_all (fun n => opens_map (opens_struct Try.underlying35 (by kernel_rfl) (opensF_cons (c := 1) rfl (by kernel_rfl) (opens_bool Try.underlying4 n) (opensF_cons (c := 1) rfl (by kernel_rfl) (opens_int (k := .i64) Try.underlying2 n) (opensF_cons (c := 1) rfl (by kernel_rfl) (opens_str Try.underlying9 n) (opensF_nil))))) (fun x => ⟨x.1, x.2.1, x.2.2.1⟩) (fun _ => rfl) (fun x => by first | (simp; omega) | (simp [szV]; omega) | (simp [szV]; done))) n
theorem opens_row (n : Nat) : Opens Try.prog n 22 (encR) (szR) := opens_all (fun n => opens_slice (c := 3) Try.underlying22 (by kernel_rfl) (by decide) (opens_val n)) n
theorem opens_rows (n : Nat) : Opens Try.prog n 26 (encL) (szL) := opens_all (fun n => opens_slice (c := 1) Try.underlying26 (by kernel_rfl) (by decide) (opens_row n)) n
theorem sum_ge {α : Type} {f : α → Nat} : ∀ {l : List α} {x : α}, x ∈ l → f x ≤ (l.map f).sum
  | a :: l, x, h => by
    rcases List.mem_cons.1 h with rfl | h
    · simp
    · have := sum_ge (f := f) h; simp; omega
theorem sum_len {α : Type} {f : α → Nat} (hf : ∀ x, 1 ≤ f x) : ∀ l : List α, l.length ≤ (l.map f).sum
  | [] => by simp
  | a :: l => by have := sum_len hf l; have := hf a; simp; omega
theorem szR_len (r : List V) : r.length ≤ szR r := Nat.le_succ_of_le (sum_len (fun v => by simp [szV]) r)
theorem szL_len (l : List (List V)) : l.length ≤ szL l := Nat.le_succ_of_le (sum_len (fun v => by simp [szR]) l)
theorem szL_mem {l : List (List V)} {r : List V} (h : r ∈ l) : r.length ≤ szL l := Nat.le_trans (szR_len r) (Nat.le_succ_of_le (sum_ge h))
end Go.Proofs.Ytocbdcgbbdjhlaa

