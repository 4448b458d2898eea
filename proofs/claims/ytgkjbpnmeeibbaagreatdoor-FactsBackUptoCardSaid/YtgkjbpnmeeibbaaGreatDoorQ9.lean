/-
  strings.Index, Cut and Split at one byte. Own work.
-/
import Derived.Test.YtgkjbpnmeeibbaaGreatDoorQ3
import Derived.Test.YtgkjbpnmeeibbaaGreatDoorDraw2
set_option linter.all false
namespace Go.Proofs.YtgkjbpnmeeibbaaGreatDoor
open Go.Aw Go.RowKit
set_option maxHeartbeats 4000000
set_option maxRecDepth 4000

/-! ### a text, at each such byte -/
def splitC (c : UInt8) : List UInt8 → List (List UInt8)
  | [] => [[]]
  | d :: l => if d = c then [] :: splitC c l else match splitC c l with
    | [] => [[d]]
    | x :: r => (d :: x) :: r
theorem splitC_ne (c : UInt8) (l : List UInt8) : splitC c l ≠ [] := by
  cases l with
  | nil => simp [splitC]
  | cons d l =>
    rw [splitC]
    split
    · simp
    · split <;> simp
theorem splitC_no {c : UInt8} : ∀ {l : List UInt8}, c ∉ l → splitC c l = [l]
  | [], _ => rfl
  | d :: l, h => by
    have hd : ¬ d = c := fun e => h (by rw [e]; exact .head _)
    rw [splitC, if_neg hd, splitC_no (fun hm => h (.tail _ hm))]
theorem splitC_at {c : UInt8} (r : List UInt8) : ∀ {w : List UInt8}, c ∉ w → splitC c (w ++ c :: r) = w :: splitC c r
  | [], _ => by rw [List.nil_append, splitC, if_pos rfl]
  | d :: w, h => by
    have hd : ¬ d = c := fun e => h (by rw [e]; exact .head _)
    rw [List.cons_append, splitC, if_neg hd, splitC_at r (fun hm => h (.tail _ hm))]
/-- a text has no such byte, or a first one -/
theorem byte_at (c : UInt8) : ∀ l : List UInt8, c ∉ l ∨ ∃ w r, l = w ++ c :: r ∧ c ∉ w
  | [] => .inl (by simp)
  | d :: l => by
    by_cases h : d = c
    · exact .inr ⟨[], l, by rw [h]; rfl, by simp⟩
    · rcases byte_at c l with hl | ⟨w, r, rfl, hw⟩
      · exact .inl (by simp; exact ⟨fun e => h e.symm, hl⟩)
      · exact .inr ⟨d :: w, r, rfl, by simp; exact ⟨fun e => h e.symm, hw⟩⟩
theorem splitC_one {c : UInt8} {l x : List UInt8} (h : splitC c l = [x]) : x = l := by
  rcases byte_at c l with hl | ⟨w, r, rfl, hw⟩
  · rw [splitC_no hl] at h; cases h; rfl
  · rw [splitC_at r hw] at h
    have := (List.cons.inj h).2
    exact absurd this (splitC_ne c r)
def cntC (c : UInt8) (l : List UInt8) : Nat := l.count c
theorem splitC_len (c : UInt8) : ∀ l : List UInt8, (splitC c l).length = cntC c l + 1
  | [] => rfl
  | d :: l => by
    have ih := splitC_len c l
    rw [splitC, cntC, List.count_cons]
    by_cases h : d = c
    · rw [if_pos h, List.length_cons, ih, cntC]
      have : (d == c) = true := by simpa using h
      rw [if_pos this]
    · have : ¬ (d == c) = true := by simpa using h
      rw [if_neg h, if_neg this]
      cases hs : splitC c l with
      | nil => exact absurd hs (splitC_ne c l)
      | cons x r =>
        rw [hs] at ih
        show (x :: r).length = _
        rw [ih, cntC]
theorem idx_no {c : UInt8} {l : List UInt8} (h : c ∉ l) : Lib.indexByte l c = -1 := by
  rw [idx_find]
  have : l.findIdx? (· == c) = none := by
    rw [List.findIdx?_eq_none_iff]
    intro x hx
    simp only [beq_eq_false_iff_ne, ne_eq]
    exact fun e => h (e ▸ hx)
  rw [this]
theorem idx_at {c : UInt8} {w r : List UInt8} (h : c ∉ w) : Lib.indexByte (w ++ c :: r) c = ((w.length : Nat) : Int) := by
  rw [idx_find]
  have : (w ++ c :: r).findIdx? (· == c) = some w.length := by
    rw [List.findIdx?_eq_some_iff_getElem]
    refine ⟨by simp, by simp, fun j hj => ?_⟩
    rw [List.getElem_append_left hj]
    simp only [Bool.not_eq_true, beq_eq_false_iff_ne, ne_eq]
    exact fun e => h (e ▸ List.getElem_mem hj)
  rw [this]
theorem indexByteString_call2 {l : List UInt8} {c : UInt8} {S : List En} {k : AV → List En → Prop} (hk : k (.int .i64 (Lib.indexByte l c)) S) (hl : l.length ≤ 16777216) : AExt Tryz.prog 163 [.str l, .int .u8 c.toNat] S k :=
  ⟨Tryz.f163, Extern.BytealgIndexByte.indexByte, Tryz.func163, by kernel_rfl, rfl, by kernel_rfl, by kernel_rfl, fun w0 K w vs hv hS => by
    obtain ⟨x, r, rfl, hx, hr⟩ := hv.cons_inv
    obtain ⟨y, r', rfl, hy, hr'⟩ := hr.cons_inv
    obtain rfl := hr'.nil_inv
    cases hx; cases hy
    have h := Lib.run_indexByteString (P := Tryz.prog) ⟨l.toArray⟩ (c.toNat : Int) w
    have e : ((c.toNat : Int)).toNat.toUInt8 = c := by simp
    rw [e] at h
    have hle := idx_le l c
    have hge := Lib.indexByte_ge l c
    exact ⟨_, w, K, .int .i64 (Lib.indexByte l c), S, h, Kle.refl K, .int _ _ (has_i64 (by show -9223372036854775808 ≤ Lib.indexByte l c ∧ Lib.indexByte l c ≤ 9223372036854775807; omega)), hS, hk⟩⟩
theorem indexLite_ok (l : List UInt8) (c : UInt8) (R : List En) (hl : l.length ≤ 16777216) : ACall Tryz.prog 134 [.str l, .str [c]] R (fun r S => r = .int .i64 (Lib.indexByte l c) ∧ S = R) := by
  have k : ∀ R, ACall Tryz.prog 149 [.str l, .int .u8 c.toNat] R (fun r S => r = .int .i64 (Lib.indexByte l c) ∧ S = R) := fun R => by
    refine ACall_body tab_ok Tryz.func149 rfl rfl rfl (by kernel_rfl) (Nat.le_of_ble_eq_true rfl) ?_
    repeat (first | refine go_ ?_ | intro _)
    refine .inr (indexByteString_call2 ?_ hl)
    repeat (first | refine go_ ?_ | intro _)
    refine AW_ret ?_
    repeat refine mk_ ?_
    refine ⟨_, R, AVle.eq ?_, sle_, rfl, rfl⟩
    rfl
  refine ACall_body tab_ok Tryz.func134 rfl rfl rfl (by kernel_rfl) (Nat.le_of_ble_eq_true rfl) ?_
  repeat (first | refine go_ ?_ | intro _)
  refine known_false (b := decide ((([c] : List UInt8).length : Int) = 0)) rfl ?_
  repeat (first | refine ga_ ?_ | intro _)
  refine AW_iff ([c] = l) rfl (by exact decide_eq_true_iff) (fun h => ?_) (fun h => ?_)
  · subst h
    have e : Lib.indexByte [c] c = 0 := idx_at (w := []) (r := []) (by simp)
    repeat (first | refine ga_ ?_ | intro _)
    refine AW_ret ?_
    repeat refine mk_ ?_
    refine ⟨_, R, AVle.eq ?_, sle_, rfl, rfl⟩
    rw [e]; rfl
  repeat (first | refine ga_ ?_ | intro _)
  refine at_list 0 rfl (by simp) ?_
  show (fun x : UInt8 => _) c
  repeat (first | refine ga_ ?_ | intro _)
  refine Or.inl ⟨⟨_, Tryz.func149, rfl, rfl⟩, ACall.mono ?_ (k _)⟩
  rintro _ S1 ⟨rfl, hS1⟩
  subst S1
  repeat (first | refine ga_ ?_ | intro _)
  refine AW_ret ?_
  repeat refine mk_ ?_
  refine ⟨_, R, AVle.eq ?_, sle_, rfl, rfl⟩
  rfl
theorem index_ok (l : List UInt8) (c : UInt8) (R : List En) (hl : l.length ≤ 16777216) : ACall Tryz.prog 137 [.str l, .str [c]] R (fun r S => r = .int .i64 (Lib.indexByte l c) ∧ S = R) := by
  refine ACall_body tab_ok Tryz.func137 rfl rfl rfl (by kernel_rfl) (Nat.le_of_ble_eq_true rfl) ?_
  repeat (first | refine go_ ?_ | intro _)
  refine Or.inl ⟨⟨_, Tryz.func134, rfl, rfl⟩, ACall.mono ?_ (indexLite_ok l c _ hl)⟩
  rintro _ S1 ⟨rfl, hS1⟩
  subst S1
  repeat (first | refine go_ ?_ | intro _)
  refine AW_ret ?_
  repeat refine mk_ ?_
  refine ⟨_, R, AVle.eq ?_, sle_, rfl, rfl⟩
  rfl
/-- a text's part ahead of the first such byte, what is behind it, and whether there is one -/
def cutAV (c : UInt8) (l : List UInt8) : AV := match splitC c l with
  | x :: y :: r => .tup [.str x, .str (l.drop (x.length + 1)), .bool true]
  | _ => .tup [.str l, .str [], .bool false]
theorem cutAV_no {c : UInt8} {l : List UInt8} (h : c ∉ l) : cutAV c l = .tup [.str l, .str [], .bool false] := by rw [cutAV, splitC_no h]
theorem cutAV_at {c : UInt8} {w r : List UInt8} (h : c ∉ w) : cutAV c (w ++ c :: r) = .tup [.str w, .str r, .bool true] := by
  rw [cutAV, splitC_at r h]
  cases hs : splitC c r with
  | nil => exact absurd hs (splitC_ne c r)
  | cons x y =>
    have : (w ++ c :: r).drop (w.length + 1) = r := by rw [← List.drop_drop, List.drop_left]; rfl
    simp only [this]
theorem strCut_ok (l : List UInt8) (c : UInt8) (R : List En) (hl : l.length ≤ 16777216) : ACall Tryz.prog 84 [.str l, .str [c]] R (fun r S => r = cutAV c l ∧ S = R) := by
  have k : ACall Tryz.prog 110 [.str l, .str [c]] R (fun r S => r = cutAV c l ∧ S = R) := by
    have ki := fun R => indexLite_ok l c R hl
    rcases byte_at c l with h | ⟨w, r, rfl, h⟩
    · rw [idx_no h] at ki
      rw [cutAV_no h]
      refine ACall_body tab_ok Tryz.func110 rfl rfl rfl (by kernel_rfl) (Nat.le_of_ble_eq_true rfl) ?_
      repeat (first | refine go_ ?_ | intro _)
      refine Or.inl ⟨⟨_, Tryz.func134, rfl, rfl⟩, ACall.mono ?_ (ki _)⟩
      rintro _ S1 ⟨rfl, hS1⟩
      subst S1
      repeat (first | refine go_ ?_ | intro _)
      refine AW_false (b := false) rfl (by first | rfl | (simp; done) | (simp; omega) | decide) ?_
      repeat (first | refine go_ ?_ | intro _)
      refine AW_ret ?_
      repeat refine mk_ ?_
      refine ⟨_, R, AVle.eq ?_, sle_, rfl, rfl⟩
      rfl
    · rw [idx_at h] at ki
      rw [cutAV_at h]
      have e1 : IntKind.i64.wrap (((w.length : Nat) : Int) + (([c] : List UInt8).length : Nat)) = ((w.length + 1 : Nat) : Int) := by
        rw [wrap_i64 (by simp at hl ⊢; omega)]; simp
      refine ACall_body tab_ok Tryz.func110 rfl rfl rfl (by kernel_rfl) (Nat.le_of_ble_eq_true rfl) ?_
      repeat (first | refine go_ ?_ | intro _)
      refine Or.inl ⟨⟨_, Tryz.func134, rfl, rfl⟩, ACall.mono ?_ (ki _)⟩
      rintro _ S1 ⟨rfl, hS1⟩
      subst S1
      repeat (first | refine go_ ?_ | intro _)
      refine AW_true (b := decide ((0 : Int) ≤ (w.length : Nat))) rfl (by exact decide_eq_true (by omega)) ?_
      repeat (first | refine go_ ?_ | intro _)
      refine AW_draw tab_ok mixed 12 (by first | rfl | kernel_rfl) ?_
      repeat (first | refine go_ ?_ | intro _)
      refine at_ss 0 w.length w rfl rfl (by omega) (by simp) (by simp) ?_
      repeat (first | refine go_ ?_ | intro _)
      refine at_ss (w.length + 1) (w ++ c :: r).length r e1 rfl (by simp) (by omega) (by rw [List.take_length, ← List.drop_drop, List.drop_left]; rfl) ?_
      repeat (first | refine go_ ?_ | intro _)
      refine AW_ret ?_
      repeat refine mk_ ?_
      refine ⟨_, R, AVle.eq ?_, sle_, rfl, rfl⟩
      rfl
  unfold cutAV at k ⊢
  cases hs : splitC c l with
  | nil => exact absurd hs (splitC_ne c l)
  | cons x y =>
    rw [hs] at k
    cases y with
    | nil =>
      refine ACall_body tab_ok Tryz.func84 rfl rfl rfl (by kernel_rfl) (Nat.le_of_ble_eq_true rfl) ?_
      repeat (first | refine go_ ?_ | intro _)
      refine Or.inl ⟨⟨_, Tryz.func110, rfl, rfl⟩, ACall.mono ?_ (k)⟩
      rintro _ S1 ⟨rfl, hS1⟩
      subst S1
      repeat (first | refine go_ ?_ | intro _)
      refine AW_ret ?_
      repeat refine mk_ ?_
      refine ⟨_, R, AVle.eq ?_, sle_, rfl, rfl⟩
      rfl
    | cons z y =>
      refine ACall_body tab_ok Tryz.func84 rfl rfl rfl (by kernel_rfl) (Nat.le_of_ble_eq_true rfl) ?_
      repeat (first | refine go_ ?_ | intro _)
      refine Or.inl ⟨⟨_, Tryz.func110, rfl, rfl⟩, ACall.mono ?_ (k)⟩
      rintro _ S1 ⟨rfl, hS1⟩
      subst S1
      repeat (first | refine go_ ?_ | intro _)
      refine AW_ret ?_
      repeat refine mk_ ?_
      refine ⟨_, R, AVle.eq ?_, sle_, rfl, rfl⟩
      rfl
end Go.Proofs.YtgkjbpnmeeibbaaGreatDoor
/-
  strings.Split at one byte. Own work.
-/
namespace Go.Proofs.YtgkjbpnmeeibbaaGreatDoor
open Go.Aw Go.RowKit
set_option maxHeartbeats 4000000
set_option maxRecDepth 4000

theorem cntC_len (c : UInt8) (l : List UInt8) : cntC c l ≤ l.length := List.count_le_length
theorem countString_call2 {l : List UInt8} {c : UInt8} {S : List En} {k : AV → List En → Prop} (hk : k (.int .i64 (cntC c l : Nat)) S) (hl : l.length ≤ 16777216) : AExt Tryz.prog 155 [.str l, .int .u8 c.toNat] S k :=
  ⟨Tryz.f155, Extern.BytealgCount.count, Tryz.func155, by kernel_rfl, rfl, by kernel_rfl, by kernel_rfl, fun w0 K w vs hv hS => by
    obtain ⟨x, r, rfl, hx, hr⟩ := hv.cons_inv
    obtain ⟨y, r', rfl, hy, hr'⟩ := hr.cons_inv
    obtain rfl := hr'.nil_inv
    cases hx; cases hy
    have h := Lib.run_countString (P := Tryz.prog) ⟨l.toArray⟩ (c.toNat : Int) w
    have e : ((c.toNat : Int)).toNat.toUInt8 = c := by simp
    rw [e] at h
    have hle := cntC_len c l
    exact ⟨_, w, K, .int .i64 (cntC c l : Nat), S, h, Kle.refl K, .int _ _ (has_i64 (by show -9223372036854775808 ≤ (cntC c l : Int) ∧ (cntC c l : Int) ≤ 9223372036854775807; omega)), hS, hk⟩⟩
theorem countC_ok (l : List UInt8) (c : UInt8) (R : List En) (hl : l.length ≤ 16777216) : ACall Tryz.prog 136 [.str l, .str [c]] R (fun r S => r = .int .i64 (cntC c l : Nat) ∧ S = R) := by
  refine ACall_body tab_ok Tryz.func136 rfl rfl rfl (by kernel_rfl) (Nat.le_of_ble_eq_true rfl) ?_
  repeat (first | refine go_ ?_ | intro _)
  refine AW_false (b := decide ((([c] : List UInt8).length : Int) = 0)) rfl (by rfl) ?_
  repeat (first | refine go_ ?_ | intro _)
  refine AW_true (b := decide ((([c] : List UInt8).length : Int) = 1)) rfl (by rfl) ?_
  repeat (first | refine go_ ?_ | intro _)
  refine at_list 0 rfl (by simp) ?_
  show (fun x : UInt8 => _) c
  repeat (first | refine go_ ?_ | intro _)
  refine .inr (countString_call2 ?_ hl)
  repeat (first | refine go_ ?_ | intro _)
  refine AW_ret ?_
  repeat refine mk_ ?_
  refine ⟨_, R, AVle.eq ?_, sle_, rfl, rfl⟩
  rfl
abbrev Key' := List UInt8
theorem flat_strX : ∀ l : List Key', Aw.flat (l.map AV.str) = l.map AV.str
  | [] => rfl
  | x :: l => by
    have : Aw.flat ((x :: l).map AV.str) = (AV.str x).cells ++ Aw.flat (l.map AV.str) := by simp [Aw.flat]
    rw [this, flat_strX l]; rfl
/-- the first parts, and room for the others -/
def cW (W : List Key') (k : Nat) : List AV := (W.take k).map AV.str ++ List.replicate (W.length - k) (.str [])
theorem cW_len {W : List Key'} {k : Nat} (h : k ≤ W.length) : (cW W k).length = W.length := by simp [cW]; omega
theorem cW_zero (W : List Key') : zerosAV [.str []] W.length = cW W 0 := by
  unfold zerosAV cW
  apply List.ext_getElem
  · simp
  · intro i h1 h2
    simp [Nat.mod_one]
theorem cW_all (W : List Key') : cW W W.length = W.map AV.str := by simp [cW]
theorem cW_set {W : List Key'} {k : Nat} {x : Key'} (h : W[k]? = some x) : setCells (cW W k) (k * 1) [.str x] = cW W (k + 1) := by
  obtain ⟨hk, hx⟩ := List.getElem?_eq_some_iff.1 h
  have hl : ((W.take k).map AV.str).length = k := by simp; omega
  unfold setCells cW
  rw [Nat.mul_one, List.take_left' hl, List.take_succ_eq_append_getElem hk, hx, List.map_append, show W.length - k = (W.length - (k + 1)) + 1 by omega, List.replicate_succ]
  rw [List.drop_append, List.drop_eq_nil_of_le (by simp; omega), hl]
  simp [show k + 1 - k = 1 by omega]
theorem hold_of (n b : Nat) (cs : List AV) (R : List En) : SLe (.cells b cs :: R) (hold n b cs R) := by
  unfold hold; split
  · exact SLe.tail SLe.rfl
  · exact SLe.rfl
theorem split_ok (l : List UInt8) (c : UInt8) (R : List En) (hl : l.length ≤ 16777216) : ACall Tryz.prog 85 [.str l, .str [c]] R (fun r S => r = .sl 1 ((splitC c l).map AV.str) .no ∧ S = R) := by
  have k : ACall Tryz.prog 111 [.str l, .str [c], .int .i64 0, .int .i64 (-1)] R (fun r S => r = .sl 1 ((splitC c l).map AV.str) .no ∧ S = R) := by
    obtain ⟨W, hW⟩ : ∃ W, W = splitC c l := ⟨_, rfl⟩
    have hWl := splitC_len c l
    have hcl := cntC_len c l
    rw [← hW] at hWl ⊢
    have e1 : IntKind.i64.wrap ((cntC c l : Nat) + 1 : Int) = ((W.length : Nat) : Int) := by rw [wrap_i64 (by omega)]; omega
    have e2 : IntKind.i64.wrap ((l.length : Nat) + 1 : Int) = ((l.length + 1 : Nat) : Int) := by rw [wrap_i64 (by omega)]; omega
    refine ACall_body tab_ok Tryz.func111 rfl rfl rfl (by kernel_rfl) (Nat.le_of_ble_eq_true rfl) ?_
    repeat (first | refine go_ ?_ | intro _)
    refine AW_false (b := false) rfl (by first | rfl | (simp; done) | (simp; omega) | decide) ?_
    repeat (first | refine go_ ?_ | intro _)
    refine AW_false (b := decide ([c] = [])) rfl (by exact decide_eq_false (by simp)) ?_
    repeat (first | refine go_ ?_ | intro _)
    refine AW_true (b := true) rfl (by first | rfl | (simp; done) | (simp; omega) | decide) ?_
    repeat (first | refine go_ ?_ | intro _)
    refine Or.inl ⟨⟨_, Tryz.func136, rfl, rfl⟩, ACall.mono ?_ (countC_ok l c _ hl)⟩
    rintro _ S1 ⟨rfl, hS1⟩
    subst S1
    repeat (first | refine go_ ?_ | intro _)
    refine ⟨W.length, W.length, (show min (IntKind.i64.wrap ((cntC c l : Nat) + 1 : Int)) (IntKind.i64.wrap ((l.length : Nat) + 1 : Int)) = ((W.length : Nat) : Int) by rw [e1, e2]; omega), (show min (IntKind.i64.wrap ((cntC c l : Nat) + 1 : Int)) (IntKind.i64.wrap ((l.length : Nat) + 1 : Int)) = ((W.length : Nat) : Int) by rw [e1, e2]; omega), Nat.le_refl _, room (by first | omega | (simp; omega)) rfl, .inr fun b1 => ?_⟩
    repeat (first | refine go_ ?_ | intro _)
    refine AW_for (α := Nat × List UInt8) (fun z => ⟨[(0, .str z.2), (1, .str [c]), (2, .int .i64 0), (3, .int .i64 (cntC c l : Nat)), (9, .msl b1 0 W.length W.length), (10, .int .i64 (z.1 : Nat))], []⟩) (fun z => .cells b1 (cW W z.1) :: R) (fun z => W.length - z.1) (fun z => z.1 < W.length ∧ W.drop z.1 = splitC c z.2 ∧ z.2.length ≤ l.length) ((0, l)) ?_ (weak_of ?_ rfl ?_) (fun z hz => ?_)
    · exact ⟨by show 0 < W.length; omega, by rw [hW]; rfl, Nat.le_refl _⟩
    · repeat (first | exact trivial | refine env_ ?_)
    · exact SLe.of_eq (congrArg (fun x => En.cells b1 x :: R) (cW_zero W))
    obtain ⟨z, t⟩ := z
    obtain ⟨i1, i2, i3⟩ : z < W.length ∧ W.drop z = splitC c t ∧ t.length ≤ l.length := hz
    show AW _ _ _ _ ⟨[(0, .str t), (1, .str [c]), (2, .int .i64 0), (3, .int .i64 (cntC c l : Nat)), (9, .msl b1 0 W.length W.length), (10, .int .i64 (z : Nat))], []⟩ (.cells b1 (cW W z) :: R) _
    have ki := fun R => index_ok t c R (by omega)
    repeat (first | refine go_ ?_ | intro _)
    refine AW_iff (z < cntC c l) rfl (by first | (simp; done) | (simp <;> omega) | decide) (fun h => ?_) (fun h => ?_)
    rotate_left
    · have hzl : z + 1 = W.length := by omega
      have hd : W.drop z = [W[z]] := by rw [List.drop_eq_getElem_cons i1, List.drop_of_length_le (by omega)]
      have ht : W[z] = t := splitC_one (by rw [← i2, hd])
      have g1 : W[z]? = some t := by rw [List.getElem?_eq_getElem i1, ht]
      repeat (first | refine ga_ ?_ | intro _)
      refine at_msl z (z * 1) rfl (by omega) (by show 0 + z * 1 = _; omega) ?_
      repeat (first | refine ga_ ?_ | intro _)
      refine ⟨(by show z * 1 + 1 ≤ (cW W z).length; rw [cW_len (by omega)]; omega), cW W (z + 1), cW_set g1, ?_⟩
      repeat (first | refine ga_ ?_ | intro _)
      refine ⟨(by simp), at_mslice (0) (W.length) (W.length) (0) (W.length) (W.length) (by first | rfl | (rw [wrap_i64 (by first | omega | (simp; omega))]; first | rfl | omega | (simp; done) | (simp; omega)) | (show IntKind.i64.wrap _ = _; rw [wrap_i64 (by first | omega | (simp; omega))]; first | rfl | omega | (simp; done) | (simp; omega)) | (simp; omega)) (by first | rfl | (rw [wrap_i64 (by first | omega | (simp; omega))]; first | rfl | omega | (simp; done) | (simp; omega)) | (show IntKind.i64.wrap _ = _; rw [wrap_i64 (by first | omega | (simp; omega))]; first | rfl | omega | (simp; done) | (simp; omega)) | (simp; omega)) (by first | rfl | (rw [wrap_i64 (by first | omega | (simp; omega))]; first | rfl | omega | (simp; done) | (simp; omega)) | (show IntKind.i64.wrap _ = _; rw [wrap_i64 (by first | omega | (simp; omega))]; first | rfl | omega | (simp; done) | (simp; omega)) | (simp; omega)) (by first | omega | (simp; done) | (simp; omega)) (by first | omega | (simp; done) | (simp; omega)) (by first | omega | (simp; done) | (simp; omega)) (by show _ + (0) * 1 = _; omega) (by omega) (by omega) ?_⟩
      repeat (first | refine det_step rfl ?_ | refine ⟨rfl, ?_⟩ | refine ⟨⟨_, rfl⟩, ?_⟩ | refine ⟨⟨_, rfl, rfl⟩, ?_⟩ | refine ⟨⟨rfl, rfl⟩, ?_⟩ | refine ⟨⟨Nat.le_of_ble_eq_true rfl, Nat.le_of_ble_eq_true rfl⟩, ?_⟩ | refine ⟨Nat.le_of_ble_eq_true rfl, ?_⟩ | refine ⟨_, _, rfl, ?_⟩ | refine ⟨0, _, rfl, ?_⟩ | refine ⟨1, _, rfl, ?_⟩ | refine ⟨2, _, rfl, ?_⟩ | refine ⟨3, _, rfl, ?_⟩ | refine ⟨4, _, rfl, ?_⟩ | refine ⟨5, _, rfl, ?_⟩ | refine ⟨_, rfl, ?_⟩ | intro _)
      rw [hzl, cW_all]
      refine AW_drop (hold_of W.length b1 _ _) ?_
      refine AW_freeze 8 (sz := 1) (es := W.map AV.str) (fun h => h) rfl (by simp) (by simp [AV.cells]) (by rw [List.drop_zero, Nat.mul_one, List.take_of_length_le (by simp), flat_strX]) ?_
      repeat (first | refine ga_ ?_ | intro _)
      refine AW_ret ?_
      repeat refine mk_ ?_
      refine ⟨_, R, AVle.eq ?_, sle_, rfl, rfl⟩
      rfl
    have hlt := h
    rcases byte_at c t with hb | ⟨w, r, rfl, hb⟩
    · rw [idx_no hb] at ki
      rw [splitC_no hb] at i2
      obtain ⟨g1, g2, g3⟩ := drop_head i2
      have hzl : z + 1 = W.length := by have := congrArg List.length g2; simp at this; omega
      omega
    · rw [idx_at hb] at ki
      rw [splitC_at r hb] at i2
      obtain ⟨g1, g2, g3⟩ := drop_head i2
      rw [List.length_append, List.length_cons] at i3
      have hz1 : z + 1 < W.length := by omega
      have f1 : IntKind.i64.wrap (((w.length : Nat) : Int) + 0) = ((w.length : Nat) : Int) := by rw [wrap_i64 (by omega)]; omega
      have f2 : IntKind.i64.wrap (((w.length : Nat) : Int) + (([c] : List UInt8).length : Nat)) = ((w.length + 1 : Nat) : Int) := by rw [wrap_i64 (by simp; omega)]; simp
      repeat (first | refine go_ ?_ | intro _)
      refine Or.inl ⟨⟨_, Tryz.func137, rfl, rfl⟩, ACall.mono ?_ (ki _)⟩
      rintro _ S1 ⟨rfl, hS1⟩
      subst S1
      repeat (first | refine go_ ?_ | intro _)
      refine AW_false (b := decide (((w.length : Nat) : Int) < 0)) rfl (by exact decide_eq_false (by omega)) ?_
      repeat (first | refine go_ ?_ | intro _)
      refine at_ss 0 w.length w rfl f1 (by omega) (by simp) (by simp) ?_
      repeat (first | refine go_ ?_ | intro _)
      refine at_msl z (z * 1) rfl (by omega) (by show 0 + z * 1 = _; omega) ?_
      repeat (first | refine go_ ?_ | intro _)
      refine ⟨(by show z * 1 + 1 ≤ (cW W z).length; rw [cW_len (by omega)]; omega), cW W (z + 1), cW_set g1, ?_⟩
      repeat (first | refine go_ ?_ | intro _)
      refine at_ss (w.length + 1) (w ++ c :: r).length r f2 rfl (by simp) (by omega) (by rw [List.take_length, ← List.drop_drop, List.drop_left]; rfl) ?_
      repeat (first | refine go_ ?_ | intro _)
      refine ⟨((z + 1, r) : Nat × List UInt8), ?_, ?_, weak_of ?_ rfl ?_⟩
      · show W.length - (z + 1) < W.length - z; omega
      · exact ⟨hz1, g2, by show r.length ≤ l.length; omega⟩
      · repeat (first | exact trivial | refine env_ ?_)
      · repeat (first | exact SLe.rfl | refine SLe.tail ?_ | refine SLe.full ?_)
  refine ACall_body tab_ok Tryz.func85 rfl rfl rfl (by kernel_rfl) (Nat.le_of_ble_eq_true rfl) ?_
  repeat (first | refine go_ ?_ | intro _)
  refine Or.inl ⟨⟨_, Tryz.func111, rfl, rfl⟩, ACall.mono ?_ (k)⟩
  rintro _ S1 ⟨rfl, hS1⟩
  subst S1
  repeat (first | refine go_ ?_ | intro _)
  refine AW_ret ?_
  repeat refine mk_ ?_
  refine ⟨_, R, AVle.eq ?_, sle_, rfl, rfl⟩
  rfl
end Go.Proofs.YtgkjbpnmeeibbaaGreatDoor
