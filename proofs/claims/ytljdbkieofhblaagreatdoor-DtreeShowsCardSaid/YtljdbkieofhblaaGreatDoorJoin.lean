/-
  strings.Join, by the kit's contract. Own work.
-/
import Derived.Test.YtljdbkieofhblaaGreatDoorNum
import Derived.Shelf.Strings.OnBuilder
namespace Go.Proofs.YtljdbkieofhblaaGreatDoor
open Go.Aw Go.RowKit Go.Shelf

theorem join_extra : Builder.Extra Tryz.prog Tryz.lays156_ren := {
  sizeBuilder := by kernel_rfl
  liesBuilder := by kernel_rfl
  t5 := Tryz.underlying5
  a5 := fun w => Tryz.isAgg5 w
  z5 := fun w => Tryz.sizeOf5 w
  v5 := fun w => Tryz.zeroValue5 w
  infoByte := by kernel_rfl
  cellsByte := by kernel_rfl
  sizeByte := by kernel_rfl
  neB5 := by decide }
theorem flat_strs : ∀ xs : List (List UInt8), flat (xs.map AV.str) = xs.map AV.str
  | [] => rfl
  | x :: xs => by
    have := flat_strs xs
    unfold flat at this ⊢
    rw [List.map_cons, List.flatMap_cons, this]; rfl
theorem join_ok (xs : List (List UInt8)) (sep : List UInt8) (tk : Tk) (R : List En) (hn : xs.length ≤ 140737488355328) (hl : (Lib.join xs sep).length ≤ 140737488355328) : ACall Tryz.prog 22 [.sl 1 (xs.map AV.str) tk, .str sep] R (fun r S => r = .str (Lib.join xs sep) ∧ S = R) := by
  refine ACall_pure fun w0 K w vs hv hS => ?_
  obtain ⟨x, r, rfl, hx, hr⟩ := hv.cons_inv
  obtain ⟨y, r', rfl, hy, hr'⟩ := hr.cons_inv
  obtain rfl := hr'.nil_inv
  cases hy with
  | str _ hsep =>
    have fin : ∀ e : Ending, ∀ w', (e = .returned (.string ⟨(Lib.join xs sep).toArray⟩) ∧ Below w.heap.size w w') → ∃ v, e = .returned v ∧ Rel K (.str (Lib.join xs sep)) v ∧ Below w.heap.size w w' := fun e w' h => ⟨_, h.1, .str _ (le_maxLen.2 (by omega)), h.2⟩
    by_cases h0 : xs = []
    · subst h0
      have hj : Lib.join ([] : List (List UInt8)) sep = [] := rfl
      have none : ∀ (a : Option Addr) (c : Nat), Calls Tryz.prog 22 #[.slice a 0 c, .string ⟨sep.toArray⟩] w fun e w' => ∃ v, e = .returned v ∧ Rel K (.str (Lib.join [] sep)) v ∧ Below w.heap.size w w' := fun a c =>
        (Any.strings_Join_none Tryz.lays156 join_extra a c ⟨sep.toArray⟩ w).mono fun e w' h => fin e w' ⟨h.1, h.2 ▸ Below.refl _ _⟩
      generalize he : ([] : List (List UInt8)).map AV.str = es at hx
      cases hx with
      | sl hcap hmax hsz hone hvl hrel hk htk => subst he; exact none _ _
      | slnil => exact none _ _
    · generalize he : xs.map AV.str = es at hx
      cases hx with
      | slnil => exact absurd (List.map_eq_nil_iff.1 he) h0
      | @sl _ _ _ b off cap vs hcap hmax hsz hone hvl hrel hk htk =>
        have hf : flat es = es := by rw [← he]; exact flat_strs xs
        rw [hf] at hvl hrel
        have hlen : es.length = xs.length := by subst he; simp
        have hv' : ∀ (j : Nat) (x : List UInt8), xs[j]? = some x → vs[j]? = some (.string ⟨x.toArray⟩) := fun j x hj => by
          have h1 : es[j]? = some (.str x) := by rw [← he, List.getElem?_map, hj]; rfl
          have hjl : j < vs.length := by have := (List.getElem?_eq_some_iff.1 h1).1; omega
          have h2 := hrel j _ _ h1 (List.getElem?_eq_getElem hjl)
          rw [List.getElem?_eq_getElem hjl]
          generalize vs[j] = y at h2
          cases h2; rfl
        have hcell : ∀ (j : Nat) (x : List UInt8), xs[j]? = some x → w.cell? ⟨b, off + j, none⟩ = some (.string ⟨x.toArray⟩) := fun j x hj => hS.kcell _ _ _ (hk j _ (hv' j x hj))
        have hbk : b < w.heap.size := by
          obtain ⟨x, hx⟩ : ∃ x, xs[0]? = some x := by cases xs with | nil => exact absurd rfl h0 | cons a r => exact ⟨a, rfl⟩
          have := hcell 0 x hx
          unfold World.cell? at this
          split at this
          · rename_i hh; exact (Array.getElem?_eq_some_iff.1 hh).1
          · cases this
        have em : (xs.map fun x => (⟨x.toArray⟩ : ByteArray)).map (·.data.toList) = xs := by rw [List.map_map]; simp [Function.comp_def]
        have k := Any.strings_Join Tryz.lays156 join_extra b off cap (xs.map fun x => (⟨x.toArray⟩ : ByteArray)) ⟨sep.toArray⟩ w (fun j x hj => by
          rw [List.getElem?_map] at hj
          obtain ⟨y, hy, rfl⟩ := Option.map_eq_some_iff.1 hj
          exact hcell j y hy) hbk (by simpa using hn) (by simpa using (by omega : xs.length ≤ cap)) (by rw [em]; exact hl)
        rw [em, List.length_map] at k
        rw [hlen]
        exact k.mono fin
end Go.Proofs.YtljdbkieofhblaaGreatDoor

