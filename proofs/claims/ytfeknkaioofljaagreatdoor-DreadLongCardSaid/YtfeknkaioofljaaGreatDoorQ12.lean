/-
 Texts of terms and atoms: nothing else reads so. Own work.
-/
import Derived.Test.YtfeknkaioofljaaGreatDoorQ11
import Derived.Test.YtfeknkaioofljaaGreatDoorQ2
set_option linter.all false
namespace Go.Proofs.YtfeknkaioofljaaGreatDoor.Tree
open Go.Aw Go.RowKit
def wordB (c : UInt8) : Bool := letterB c || (digitB c || decide (c.toNat = 45))
def wordT (t : T) : Prop := (∃ s,t = .mk 1 s 0 [] ∧ nameB s = true) ∨ (∃ n,t = .mk 2 [] n []) ∨ t = .mk 4 [] 0 []
theorem noT_eq {t : T} (h : noT t = true) : t = .mk 0 [] 0 [] := by
 obtain ⟨op,s,n,l⟩ := t
 rw [noT,bareB] at h
 replace h : (decide (op = 0) && ((if op = 1 then nameB s && decide (n = 0) else if op = 2 then decide (s = []) else if op = 3 then decide (n = 0) else if op = 4 ∨ op = 0 then decide (s = []) && decide (n = 0) else false) && decide (l.length = 0))) = true := h
 simp only [Bool.and_eq_true,decide_eq_true_eq,List.length_eq_zero_iff] at h
 obtain ⟨rfl,h,rfl⟩ := h
 rw [if_neg (by decide),if_neg (by decide),if_neg (by decide),if_pos (.inr rfl)] at h
 simp only [Bool.and_eq_true,decide_eq_true_eq] at h
 obtain ⟨rfl,rfl⟩ := h
 rfl
theorem noA_eq {a : At} (h : noA a = true) : a = ⟨[], []⟩ := by
 obtain ⟨r,l⟩ := a
 rw [noA] at h
 simp only [Bool.and_eq_true,decide_eq_true_eq,List.length_eq_zero_iff] at h
 obtain ⟨rfl,rfl⟩ := h
 rfl
theorem rightL_cases {l : Li} (h : rightL l = true) :
  ((l.op = 1 ∨ l.op = 2) ∧ rightA l.a = true ∧ l.x = .mk 0 [] 0 [] ∧ l.y = .mk 0 [] 0 []) ∨
  ((l.op = 3 ∨ l.op = 4 ∨ l.op = 5 ∨ l.op = 6) ∧ l.a = ⟨[], []⟩ ∧ rightT l.x 20 = true ∧ rightT l.y 20 = true) ∨
  (l.op = 7 ∧ rightA l.a = true ∧ rightT l.x 20 = true ∧ l.y = .mk 0 [] 0 []) ∨
  ((l.op = 8 ∨ l.op = 9 ∨ l.op = 10) ∧ rightA l.a = true ∧ rightT l.x 20 = true ∧ rightT l.y 20 = true) := by
 rw [rightL] at h
 split at h
 ·rename_i ho
  simp only [Bool.and_eq_true] at h
  exact .inl ⟨ho,h.1,noT_eq h.2.1,noT_eq h.2.2⟩
 ·split at h
  ·rename_i ho
   simp only [Bool.and_eq_true] at h
   exact .inr (.inl ⟨by omega,noA_eq h.1.1,h.2.1,h.2.2⟩)
  ·split at h
   ·rename_i ho
    simp only [Bool.and_eq_true] at h
    exact .inr (.inr (.inl ⟨ho,h.1,h.2.2,noT_eq h.2.1.2⟩))
   ·split at h
    ·rename_i ho
     simp only [Bool.and_eq_true] at h
     exact .inr (.inr (.inr ⟨by omega,h.1,h.2.2.1,h.2.2.2⟩))
    ·cases h
theorem sL3 {l : Li} (h : l.op = 3 ∨ l.op = 4 ∨ l.op = 5 ∨ l.op = 6) : showL l = showT l.x ++ (eqL l.op ++ showT l.y) := by rw [showL,if_neg (by omega),if_neg (by omega),if_pos (by omega)]
theorem sL7 {l : Li} (h : 7 ≤ l.op) : showL l = showT l.x ++ ([32,61,32] ++ (howL l ++ ([32,58,32,123,32] ++ (showA l.a ++ [32,125])))) := by rw [showL,if_neg (by omega),if_neg (by omega),if_neg (by omega)]
theorem how7 {l : Li} (h : l.op = 7) : howL l = [99,111,117,110,116] := by rw [howL,if_pos h]
theorem how8 {l : Li} (h : l.op = 8) : howL l = [115,117,109,32] ++ showT l.y := by rw [howL,if_neg (by omega),if_pos h]
theorem how9 {l : Li} (h : l.op = 9) : howL l = [109,105,110,32] ++ showT l.y := by rw [howL,if_neg (by omega),if_neg (by omega),if_pos h]
theorem how10 {l : Li} (h : l.op = 10) : howL l = [109,97,120,32] ++ showT l.y := by rw [howL,if_neg (by omega),if_neg (by omega),if_neg (by omega)]
theorem rightR_all {r : Ru} (h : rightR r = true) : rightA r.head = true ∧ r.body.length ≤ 20 ∧ ∀ l ∈ r.body,rightL l = true := by
 rw [rightR,partsL] at h
 simp only [List.all_cons,List.all_append,Bool.and_eq_true,List.all_map,List.all_eq_true,id,decide_eq_true_eq,Function.comp] at h
 exact ⟨h.1,h.2.1,h.2.2.2⟩
def colOk (x : List UInt8 × Int) : Prop := nameB x.1 = true ∧ (x.2 = 1 ∨ x.2 = 2)
theorem rightD_all {d : De} (h : rightD d = true) : nameB d.rel = true ∧ d.names ≠ [] ∧ d.names.length ≤ 8 ∧ d.types.length = d.names.length ∧ ∀ x ∈ d.names.zip d.types,colOk x := by
 rw [rightD] at h
 simp only [Bool.and_eq_true,Bool.not_eq_true',decide_eq_false_iff_not,decide_eq_true_eq,List.all_eq_true,typeB,Bool.or_eq_true] at h
 exact ⟨h.1,fun e => h.2.1 (by rw [e]; rfl),by omega,h.2.2.2.1,h.2.2.2.2⟩
end Go.Proofs.YtfeknkaioofljaaGreatDoor.Tree
