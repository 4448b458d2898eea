/-
  Rows in order (printed from the texts of rel by a program of ours). Own work.
-/
import Derived.Test.YtgkjbpnmeeibbaaGreatDoorQ5
set_option linter.all false
namespace Go.Proofs.YtgkjbpnmeeibbaaGreatDoor.Rel
open Go.Aw Go.RowKit
set_option maxHeartbeats 4000000
set_option maxRecDepth 4000


theorem insR_srt {cmp : List V → List V → Int} (hc : LO cmp) (x : List V) : ∀ (l : List (List V)), l.Pairwise (fun a b => cmp b a ≤ 0) → (insR cmp x l).Pairwise (fun a b => cmp b a ≤ 0)
  | [], _ => by simp [insR]
  | y :: l, h => by
    simp only [insR]
    have h' := List.pairwise_cons.1 h
    split
    · rename_i hxy
      rw [List.pairwise_cons]
      refine ⟨fun z hz => ?_, insR_srt hc x l h'.2⟩
      rcases List.mem_cons.1 ((insR_perm cmp x l).mem_iff.1 hz) with rfl | hz
      · omega
      · exact h'.1 z hz
    · rename_i hxy
      rw [List.pairwise_cons]
      have hyx : cmp y x ≤ 0 := by have := hc.anti x y; omega
      refine ⟨fun z hz => ?_, h⟩
      rcases List.mem_cons.1 hz with rfl | hz
      · exact hyx
      · exact hc.tr _ _ _ (h'.1 z hz) hyx
theorem insF_srt {cmp : List V → List V → Int} (hc : LO cmp) (l : List (List V)) : (insF cmp l).Pairwise (fun a b => cmp b a ≤ 0) := by
  rw [← List.reverse_reverse l]
  generalize l.reverse = r
  induction r with
  | nil => exact List.Pairwise.nil
  | cons a r ih => rw [List.reverse_cons, insF_snoc]; exact insR_srt hc a _ ih
theorem insS_srt {cmp : List V → List V → Int} (hc : LO cmp) (l : List (List V)) : Srt cmp (insS cmp l) := by
  unfold Srt insS
  rw [List.pairwise_reverse]
  exact insF_srt hc l
def Blk (cmp : List V → List V → Int) (s : Nat) (Bs : List (List (List V))) : Prop := ∀ B ∈ Bs, B.length = s ∧ Srt cmp B
theorem Blk.len {cmp : List V → List V → Int} {s : Nat} : ∀ {Bs : List (List (List V))}, Blk cmp s Bs → Bs.flatten.length = Bs.length * s
  | [], _ => by simp
  | B :: Bs, h => by
    have := Blk.len (Bs := Bs) (fun B hB => h B (by simp [hB]))
    rw [List.flatten_cons, List.length_append, this, (h B (by simp)).1, List.length_cons, Nat.add_mul]; omega
theorem stable_ok (f : AV) (cmp : List V → List V → Int) (hc : LO cmp) (hf : ∀ a b S k, k (.int .i64 (cmp a b)) S → aCallV Tryz.prog f [encR a, encR b] S k)
    (l : List (List V)) (b cap : Nat) (rest : List AV) (hmax : l.length ≤ 1000000) (R : List En) :
    ACall Tryz.prog 91 [.msl b 0 l.length cap, .int .i64 (l.length : Nat), f] (hold l.length b (l.map encR ++ rest) R)
      (fun r S => ∃ C, C.Perm l ∧ Srt cmp C ∧ r = .tup [] ∧ S = hold l.length b (C.map encR ++ rest) R) := by
  refine ACall_sat fun hs => ?_
  have hcap := (hs (.msl b 0 l.length cap) (by simp)).msl
  obtain ⟨n, hn⟩ : ∃ n, l.length = n := ⟨_, rfl⟩
  rw [hn] at hcap hmax ⊢
  refine ACall_body tab_ok Tryz.func91 rfl rfl rfl (by kernel_rfl) (Nat.le_of_ble_eq_true rfl) ?_
  repeat (first | refine go_ ?_ | intro _)
  refine AW_for (α := List (List (List V)) × List (List V)) (fun z => ⟨[(0, .msl b 0 n cap), (1, .int .i64 (n : Nat)), (2, f), (6, .int .i64 20), (7, .int .i64 ((z.1.flatten.length : Nat) : Int)), (8, .int .i64 ((z.1.flatten.length + 20 : Nat) : Int))], []⟩) (fun z => hold n b ((z.1.flatten ++ z.2).map encR ++ rest) R) (fun z => z.2.length) (fun z => Blk cmp 20 z.1 ∧ (z.1.flatten ++ z.2).Perm l) (([], l)) ?_ (weak_of ?_ rfl ?_) (fun z hz => ?_)
  · exact ⟨fun B hB => by simp at hB, List.Perm.refl _⟩
  · repeat (first | exact trivial | refine env_ ?_)
  · repeat (first | exact SLe.rfl | refine SLe.tail ?_ | refine SLe.full ?_)
  obtain ⟨Bs, T⟩ := z
  obtain ⟨h1, h2⟩ : Blk cmp 20 Bs ∧ (Bs.flatten ++ T).Perm l := hz
  have hlen := h2.length_eq
  rw [List.length_append, hn] at hlen
  repeat (first | refine go_ ?_ | intro _)
  refine AW_iff (Bs.flatten.length + 20 ≤ n) rfl (by first | (simp; done) | (simp <;> omega) | decide) (fun h => ?_) (fun h => ?_)
  · have lT : (T.take 20).length = 20 := by rw [List.length_take]; omega
    have eT : T.take 20 ++ T.drop 20 = T := List.take_append_drop _ _
    have hins := insertion_ok f cmp hf Bs.flatten (T.take 20) (T.drop 20) b n cap rest (by rw [lT, List.length_drop]; omega) Bs.flatten.length (Bs.flatten.length + 20) rfl (by rw [lT]) (by omega) R
    rw [List.append_assoc Bs.flatten (T.take 20), eT] at hins
    repeat (first | refine go_ ?_ | intro _)
    refine Or.inl ⟨⟨_, Tryz.func115, rfl, rfl⟩, ACall.mono ?_ (hins)⟩
    rintro _ S1 ⟨rfl, hS1⟩
    subst S1
    repeat (first | refine go_ ?_ | intro _)
    have lI : (insS cmp (T.take 20)).length = 20 := by rw [(insS_perm cmp _).length_eq, lT]
    have eF : (Bs ++ [insS cmp (T.take 20)]).flatten = Bs.flatten ++ insS cmp (T.take 20) := by simp
    have lF : (Bs ++ [insS cmp (T.take 20)]).flatten.length = Bs.flatten.length + 20 := by rw [eF, List.length_append, lI]
    refine ⟨(Bs ++ [insS cmp (T.take 20)], T.drop 20), ?_, ?_, weak_of ?_ rfl ?_⟩
    · show (T.drop 20).length < T.length
      rw [List.length_drop]; omega
    · refine ⟨fun B hB => ?_, ?_⟩
      · rcases List.mem_append.1 hB with hB | hB
        · exact h1 B hB
        · rw [List.mem_singleton] at hB
          subst hB
          exact ⟨lI, insS_srt hc _⟩
      · show ((Bs ++ [insS cmp (T.take 20)]).flatten ++ T.drop 20).Perm l
        refine List.Perm.trans ?_ h2
        rw [eF, List.append_assoc]
        refine List.Perm.append_left _ ?_
        exact ((insS_perm cmp (T.take 20)).append_right _).trans (by rw [eT])
    · repeat (first | exact trivial | refine ⟨(AVle.eq (congrArg (AV.int .i64) (show ((Bs.flatten.length + 20 : Nat) : Int) = (((Bs ++ [insS cmp (T.take 20)]).flatten.length : Nat) : Int) by rw [lF]))), ?_⟩ | refine ⟨(AVle.eq (congrArg (AV.int .i64) (show IntKind.i64.wrap (((Bs.flatten.length + 20 : Nat) : Int) + 20) = (((Bs ++ [insS cmp (T.take 20)]).flatten.length + 20 : Nat) : Int) by rw [lF, wrap_i64 (by omega)]; omega))), ?_⟩ | refine env_ ?_)
    · refine SLe.of_eq ?_
      show hold n b ((Bs.flatten ++ insS cmp (T.take 20) ++ T.drop 20).map encR ++ rest) R = hold n b (((Bs ++ [insS cmp (T.take 20)]).flatten ++ T.drop 20).map encR ++ rest) R
      rw [eF]
  have hins := insertion_ok f cmp hf Bs.flatten T [] b n cap rest (by rw [List.length_nil]; omega) Bs.flatten.length n rfl (by omega) (by omega) R
  simp only [List.append_nil] at hins
  repeat (first | refine go_ ?_ | intro _)
  refine Or.inl ⟨⟨_, Tryz.func115, rfl, rfl⟩, ACall.mono ?_ (hins)⟩
  rintro _ S1 ⟨rfl, hS1⟩
  subst S1
  repeat (first | refine go_ ?_ | intro _)
  refine AW_for (α := Nat × List (List (List V)) × List (List V)) (fun z => ⟨[(0, .msl b 0 n cap), (1, .int .i64 (n : Nat)), (2, f), (6, .int .i64 (z.1 : Nat))], []⟩) (fun z => hold n b ((z.2.1.flatten ++ z.2.2).map encR ++ rest) R) (fun z => n - z.1) (fun z => 20 ≤ z.1 ∧ z.1 ≤ 2000000 ∧ Blk cmp z.1 z.2.1 ∧ Srt cmp z.2.2 ∧ z.2.2.length < z.1 ∧ (z.2.1.flatten ++ z.2.2).Perm l) ((20, Bs, insS cmp T)) ?_ (weak_of ?_ rfl ?_) (fun z hz => ?_)
  · refine ⟨Nat.le_refl _, by show 20 ≤ 2000000; omega, h1, insS_srt hc _, ?_, ?_⟩
    · show (insS cmp T).length < 20
      rw [(insS_perm cmp T).length_eq]; omega
    · exact ((insS_perm cmp T).append_left _).trans h2
  · repeat (first | exact trivial | refine env_ ?_)
  · repeat (first | exact SLe.rfl | refine SLe.tail ?_ | refine SLe.full ?_)
  clear h1 h2 hlen hins h
  clear Bs T
  obtain ⟨w, Bs, T⟩ := z
  obtain ⟨k1, k2, h1, hT, lT, h2⟩ : 20 ≤ w ∧ w ≤ 2000000 ∧ Blk cmp w Bs ∧ Srt cmp T ∧ T.length < w ∧ (Bs.flatten ++ T).Perm l := hz
  have hlen := h2.length_eq
  rw [List.length_append, hn, h1.len] at hlen
  repeat (first | refine go_ ?_ | intro _)
  refine AW_iff (w < n) rfl (by first | (simp; done) | (simp <;> omega) | decide) (fun h => ?_) (fun h => ?_)
  · have hw := h
    repeat (first | refine go_ ?_ | intro _)
    refine AW_for (α := List (List (List V)) × List (List (List V))) (fun z => ⟨[(0, .msl b 0 n cap), (1, .int .i64 (n : Nat)), (2, f), (6, .int .i64 (w : Nat)), (7, .int .i64 ((z.1.flatten.length : Nat) : Int)), (8, .int .i64 ((z.1.flatten.length + 2 * w : Nat) : Int))], []⟩) (fun z => hold n b ((z.1.flatten ++ z.2.flatten ++ T).map encR ++ rest) R) (fun z => z.2.length) (fun z => Blk cmp (2 * w) z.1 ∧ Blk cmp w z.2 ∧ (z.1.flatten ++ z.2.flatten ++ T).Perm l) (([], Bs)) ?_ (weak_of ?_ rfl ?_) (fun z hz => ?_)
    · exact ⟨fun B hB => by simp at hB, h1, h2⟩
    · repeat (first | exact trivial | refine env_ ?_)
    · repeat (first | exact SLe.rfl | refine SLe.tail ?_ | refine SLe.full ?_)
    clear h1 h2 hlen
    obtain ⟨Ds, Bs⟩ := z
    obtain ⟨h0, h1, h2⟩ : Blk cmp (2 * w) Ds ∧ Blk cmp w Bs ∧ (Ds.flatten ++ Bs.flatten ++ T).Perm l := hz
    have hlen := h2.length_eq
    rw [List.length_append, List.length_append, hn] at hlen
    have hbl := h1.len
    repeat (first | refine go_ ?_ | intro _)
    refine AW_iff (Ds.flatten.length + 2 * w ≤ n) rfl (by first | (simp; done) | (simp <;> omega) | decide) (fun h => ?_) (fun h => ?_)
    · have hB2 : 2 ≤ Bs.length := by
        rcases Nat.lt_or_ge Bs.length 2 with hlt | hge
        · exfalso
          have : Bs.length * w ≤ 1 * w := Nat.mul_le_mul_right w (by omega)
          omega
        · exact hge
      obtain ⟨B1, B2, Bs, rfl⟩ : ∃ B1 B2 Bs', Bs = B1 :: B2 :: Bs' := by
        match Bs, hB2 with
        | B1 :: B2 :: Bs', _ => exact ⟨B1, B2, Bs', rfl⟩
      obtain ⟨l1, s1⟩ := h1 B1 (by simp)
      obtain ⟨l2, s2⟩ := h1 B2 (by simp)
      have eB : Ds.flatten ++ (B1 :: B2 :: Bs).flatten ++ T = Ds.flatten ++ B1 ++ B2 ++ (Bs.flatten ++ T) := by simp
      have hm := symMerge_ok f cmp hc hf b n cap rest (by omega) R _ Ds.flatten B1 B2 (Bs.flatten ++ T) rfl (by omega) (by omega) s1 s2 (by rw [← eB, List.length_append, List.length_append]; omega) Ds.flatten.length (Ds.flatten.length + w) (Ds.flatten.length + 2 * w) rfl (by rw [l1]) (by rw [l1, l2]; omega)
      rw [← eB] at hm
      repeat (first | refine go_ ?_ | intro _)
      refine Or.inl ⟨⟨_, Tryz.func116, rfl, rfl⟩, ACall_args (ACall.mono ?_ (hm)) ⟨AVle.refl _, AVle.refl _, AVle.eq (congrArg (AV.int .i64) (show IntKind.i64.wrap (((Ds.flatten.length : Nat) : Int) + (w : Int)) = ((Ds.flatten.length + w : Nat) : Int) by rw [wrap_i64 (by omega)]; omega)), AVle.refl _, AVle.refl _, trivial⟩⟩
      rintro _ S1 ⟨C, hC1, hC2, rfl, hS1⟩
      subst S1
      repeat (first | refine go_ ?_ | intro _)
      have lC : C.length = 2 * w := by rw [hC1.length_eq, List.length_append, l1, l2]; omega
      have eF : (Ds ++ [C]).flatten = Ds.flatten ++ C := by simp
      have lF : (Ds ++ [C]).flatten.length = Ds.flatten.length + 2 * w := by rw [eF, List.length_append, lC]
      refine ⟨(Ds ++ [C], Bs), ?_, ?_, weak_of ?_ rfl ?_⟩
      · show Bs.length < (B1 :: B2 :: Bs).length
        simp; omega
      · refine ⟨fun B hB => ?_, fun B hB => h1 B (by simp [hB]), ?_⟩
        · rcases List.mem_append.1 hB with hB | hB
          · exact h0 B hB
          · rw [List.mem_singleton] at hB
            subst hB
            exact ⟨lC, hC2⟩
        · show ((Ds ++ [C]).flatten ++ Bs.flatten ++ T).Perm l
          refine List.Perm.trans ?_ h2
          rw [eB, eF, List.append_assoc (Ds.flatten ++ C), List.append_assoc Ds.flatten C, List.append_assoc (Ds.flatten ++ B1), List.append_assoc Ds.flatten B1, ← List.append_assoc B1]
          exact List.Perm.append_left _ (hC1.append_right _)
      · repeat (first | exact trivial | refine ⟨(AVle.eq (congrArg (AV.int .i64) (show ((Ds.flatten.length + 2 * w : Nat) : Int) = (((Ds ++ [C]).flatten.length : Nat) : Int) by rw [lF]))), ?_⟩ | refine ⟨(AVle.eq (congrArg (AV.int .i64) (show IntKind.i64.wrap (((Ds.flatten.length + 2 * w : Nat) : Int) + IntKind.i64.wrap (2 * (w : Int))) = (((Ds ++ [C]).flatten.length + 2 * w : Nat) : Int) by rw [lF, wrap_i64 (n := 2 * (w : Int)) (by omega), wrap_i64 (by omega)]; omega))), ?_⟩ | refine env_ ?_)
      · refine SLe.of_eq ?_
        show hold n b ((Ds.flatten ++ C ++ (Bs.flatten ++ T)).map encR ++ rest) R = hold n b (((Ds ++ [C]).flatten ++ Bs.flatten ++ T).map encR ++ rest) R
        rw [eF, List.append_assoc (Ds.flatten ++ C)]
    · have hB1 : Bs.length < 2 := by
        rcases Nat.lt_or_ge Bs.length 2 with hlt | hge
        · exact hlt
        · exfalso
          have : 2 * w ≤ Bs.length * w := Nat.mul_le_mul_right w hge
          omega
      repeat (first | refine go_ ?_ | intro _)
      refine AW_iff (Ds.flatten.length + w < n) rfl (by show (decide (IntKind.i64.wrap (((Ds.flatten.length : Nat) : Int) + (w : Int)) < (n : Int)) = true) ↔ _; rw [wrap_i64 (by omega), decide_eq_true_iff]; omega) (fun h => ?_) (fun h => ?_)
      · obtain ⟨B1, rfl⟩ : ∃ B1, Bs = [B1] := by
          match Bs, hB1 with
          | [B1], _ => exact ⟨B1, rfl⟩
          | [], _ => exfalso; simp only [List.flatten_nil, List.length_nil] at hlen; omega
        obtain ⟨l1, s1⟩ := h1 B1 (by simp)
        have eB : Ds.flatten ++ [B1].flatten ++ T = Ds.flatten ++ B1 ++ T ++ [] := by simp
        simp only [List.length_singleton, Nat.one_mul] at hbl
        have hT0 : 0 < T.length := by omega
        have hm := symMerge_ok f cmp hc hf b n cap rest (by omega) R _ Ds.flatten B1 T [] rfl (by omega) hT0 s1 hT (by rw [← eB, List.length_append, List.length_append]; omega) Ds.flatten.length (Ds.flatten.length + w) n rfl (by rw [l1]) (by omega)
        rw [← eB] at hm
        repeat (first | refine go_ ?_ | intro _)
        refine Or.inl ⟨⟨_, Tryz.func116, rfl, rfl⟩, ACall_args (ACall.mono ?_ (hm)) ⟨AVle.refl _, AVle.refl _, AVle.eq (congrArg (AV.int .i64) (show IntKind.i64.wrap (((Ds.flatten.length : Nat) : Int) + (w : Int)) = ((Ds.flatten.length + w : Nat) : Int) by rw [wrap_i64 (by omega)]; omega)), AVle.refl _, AVle.refl _, trivial⟩⟩
        rintro _ S1 ⟨C, hC1, hC2, rfl, hS1⟩
        subst S1
        repeat (first | refine go_ ?_ | intro _)
        refine ⟨(2 * w, Ds, C), ?_, ?_, weak_of ?_ rfl ?_⟩
        · show n - 2 * w < n - w; omega
        · refine ⟨by show 20 ≤ 2 * w; omega, by show 2 * w ≤ 2000000; omega, h0, hC2, ?_, ?_⟩
          · show C.length < 2 * w
            rw [hC1.length_eq, List.length_append, l1]; omega
          · show (Ds.flatten ++ C).Perm l
            refine List.Perm.trans ?_ h2
            rw [eB, List.append_nil, List.append_assoc Ds.flatten B1]
            exact List.Perm.append_left _ hC1
        · repeat (first | exact trivial | refine ⟨(AVle.eq (congrArg (AV.int .i64) (show IntKind.i64.wrap ((w : Int) * 2) = ((2 * w : Nat) : Int) by rw [wrap_i64 (by omega)]; omega))), ?_⟩ | refine env_ ?_)
        · refine SLe.of_eq ?_
          show hold n b ((Ds.flatten ++ C ++ []).map encR ++ rest) R = hold n b ((Ds.flatten ++ C).map encR ++ rest) R
          rw [List.append_nil]
      · repeat (first | refine go_ ?_ | intro _)
        have hlast : Srt cmp (Bs.flatten ++ T) ∧ (Bs.flatten ++ T).length < 2 * w := by
          match Bs, hB1 with
          | [], _ => exact ⟨hT, by simp only [List.flatten_nil, List.nil_append]; omega⟩
          | [B1], _ =>
            obtain ⟨l1, s1⟩ := h1 B1 (by simp)
            have hT0 : T = [] := by
              apply List.eq_nil_of_length_eq_zero
              simp only [List.length_singleton, Nat.one_mul] at hbl
              omega
            subst hT0
            simp only [List.flatten_cons, List.flatten_nil, List.append_nil]
            exact ⟨s1, by omega⟩
        refine ⟨(2 * w, Ds, Bs.flatten ++ T), ?_, ?_, weak_of ?_ rfl ?_⟩
        · show n - 2 * w < n - w; omega
        · refine ⟨by show 20 ≤ 2 * w; omega, by show 2 * w ≤ 2000000; omega, h0, hlast.1, hlast.2, ?_⟩
          show (Ds.flatten ++ (Bs.flatten ++ T)).Perm l
          rw [← List.append_assoc]; exact h2
        · repeat (first | exact trivial | refine ⟨(AVle.eq (congrArg (AV.int .i64) (show IntKind.i64.wrap ((w : Int) * 2) = ((2 * w : Nat) : Int) by rw [wrap_i64 (by omega)]; omega))), ?_⟩ | refine env_ ?_)
        · refine SLe.of_eq ?_
          show hold n b ((Ds.flatten ++ Bs.flatten ++ T).map encR ++ rest) R = hold n b ((Ds.flatten ++ (Bs.flatten ++ T)).map encR ++ rest) R
          rw [List.append_assoc]
  · repeat (first | refine go_ ?_ | intro _)
    refine ⟨.tup [], _, AVle.refl _, SLe.rfl, Bs.flatten ++ T, h2, ?_, rfl, rfl⟩
    match Bs, h1, hlen with
    | [], _, _ => exact hT
    | [B1], h1, hlen =>
      have hT0 : T = [] := by
        apply List.eq_nil_of_length_eq_zero
        simp only [List.length_singleton, Nat.one_mul] at hlen
        omega
      subst hT0
      simp only [List.flatten_cons, List.flatten_nil, List.append_nil]
      exact (h1 B1 (by simp)).2
    | B1 :: B2 :: Bs, _, hlen =>
      exfalso
      simp only [List.length_cons, Nat.add_mul] at hlen
      omega
theorem sortStable_ok (f : AV) (cmp : List V → List V → Int) (hc : LO cmp) (hf : ∀ a b S k, k (.int .i64 (cmp a b)) S → aCallV Tryz.prog f [encR a, encR b] S k)
    (l : List (List V)) (b cap : Nat) (rest : List AV) (hmax : l.length ≤ 1000000) (R : List En) :
    ACall Tryz.prog 60 [.msl b 0 l.length cap, f] (hold l.length b (l.map encR ++ rest) R)
      (fun r S => ∃ C, C.Perm l ∧ Srt cmp C ∧ r = .tup [] ∧ S = hold l.length b (C.map encR ++ rest) R) := by
  refine ACall_body tab_ok Tryz.func60 rfl rfl rfl (by kernel_rfl) (Nat.le_of_ble_eq_true rfl) ?_
  repeat (first | refine go_ ?_ | intro _)
  refine Or.inl ⟨⟨_, Tryz.func91, rfl, rfl⟩, ACall.mono ?_ (stable_ok f cmp hc hf l b cap rest hmax R)⟩
  rintro _ S1 ⟨C, h1, h2, rfl, hS1⟩
  subst S1
  repeat (first | refine go_ ?_ | intro _)
  exact ⟨.tup [], _, AVle.refl _, SLe.rfl, C, h1, h2, rfl, rfl⟩
theorem sort_ok (l : List (List V)) (t : Tk) (R : List En) (hl : l.length ≤ 1000000) (hr : ∀ r ∈ l, r.length ≤ 16777216) : ACall Tryz.prog 29 [.sl 1 (l.map encR) t] R (fun r S => ∃ C, C.Perm l ∧ Srt cmpR C ∧ r = encL (cpt eqR C) ∧ S = R) := by
  refine ACall_body tab_ok Tryz.func29 rfl rfl rfl (by kernel_rfl) (Nat.le_of_ble_eq_true rfl) ?_
  repeat (first | refine go_ ?_ | intro _)
  refine Or.inl ⟨⟨_, Tryz.func59, rfl, rfl⟩, ACall.mono ?_ (clone_rows l t R (by omega))⟩
  rintro _ S1 ⟨b, cap, rest, rfl, hcap, hS1⟩
  subst S1
  repeat (first | refine go_ ?_ | intro _)
  refine Or.inl ⟨⟨_, Tryz.func60, rfl, rfl⟩, ACall.mono ?_ (sortStable_ok (.fn (.func 61) [] []) cmpR lo_row (fun a b S k h => compare_callR a b S k h) l b cap rest hl R)⟩
  rintro _ S1 ⟨C, hp, hs, rfl, hS1⟩
  subst S1
  repeat (first | refine go_ ?_ | intro _)
  have hpl := hp.length_eq
  rw [← hpl]
  refine Or.inl ⟨⟨_, Tryz.func63, rfl, rfl⟩, ACall.mono ?_ (compact_ok (.fn (.func 64) [] []) eqR (fun a b S k h => sortEq_call a b S k h) C b cap rest (by omega) R)⟩
  rintro _ S1 ⟨rfl, hS1⟩
  subst S1
  repeat (first | refine go_ ?_ | intro _)
  refine Or.inl ⟨⟨_, Tryz.func62, rfl, rfl⟩, ACall.mono ?_ (copied_ok (cpt eqR C) .no R (by have := cpt_len eqR C; omega) (fun r h => hr r (hp.mem_iff.1 (cpt_mem h))))⟩
  rintro _ S1 ⟨rfl, hS1⟩
  subst S1
  repeat (first | refine go_ ?_ | intro _)
  refine AW_ret ?_
  repeat refine mk_ ?_
  refine ⟨_, _, AVle.refl _, SLe.rfl, ?_⟩
  exact ⟨C, hp, hs, rfl, rfl⟩
end Go.Proofs.YtgkjbpnmeeibbaaGreatDoor.Rel
/-
  Rows in order (printed from the texts of rel by a program of ours). Own work.
-/
namespace Go.Proofs.YtgkjbpnmeeibbaaGreatDoor.Rel
open Go.Aw Go.RowKit
set_option maxHeartbeats 4000000
set_option maxRecDepth 4000


theorem rise_pair : ∀ {l : List (List V)}, riseB l = true → l.Pairwise fun x y => cmpR x y < 0
  | [], _ => List.Pairwise.nil
  | x :: l, h => List.pairwise_cons.2 ⟨rise_lt h, rise_pair (rise_tail h)⟩
theorem pair_rise : ∀ {l : List (List V)}, (l.Pairwise fun x y => cmpR x y < 0) → riseB l = true
  | [], _ => rfl
  | [x], _ => rfl
  | x :: y :: l, h => by
    have h' := List.pairwise_cons.1 h
    simp only [riseB, Bool.and_eq_true, decide_eq_true_eq]
    exact ⟨h'.1 y (by simp), pair_rise h'.2⟩
theorem cmpS_eq {a b : List UInt8} (h : cmpS a b = 0) : a = b := by
  unfold cmpS at h
  split at h
  · omega
  · split at h
    · rename_i h1 h2
      rcases h2 with h2 | h2
      · exact absurd h2 h1
      · exact h2
    · omega
theorem clean_eqV {u v : V} (hu : cleanV u = true) (hv : cleanV v = true) (h : cmpV u v = 0) : u = v := by
  obtain ⟨s, n, t⟩ := u
  obtain ⟨s', n', t'⟩ := v
  cases s <;> cases s' <;> simp [cmpV, cleanV] at h hu hv
  · subst hu; subst hv
    have : n = n' := by unfold cmpI at h; split at h <;> (try split at h) <;> omega
    rw [this]
  · subst hu; subst hv
    rw [cmpS_eq h]
theorem clean_eqR : ∀ {x y : List V}, cleanR x = true → cleanR y = true → cmpR x y = 0 → x = y
  | [], [], _, _, _ => rfl
  | [], _ :: _, _, _, h => by simp [cmpR, cmpF] at h
  | _ :: _, [], _, _, h => by simp [cmpR, cmpF] at h
  | a :: x, b :: y, hx, hy, h => by
    simp only [cleanR, List.all_cons, Bool.and_eq_true] at hx hy
    simp only [cmpR, cmpF] at h
    split at h
    · rename_i h0
      rw [clean_eqV hx.1 hy.1 h0, clean_eqR (x := x) (y := y) hx.2 hy.2 h]
    · rename_i h0; exact absurd h h0
def Cl (l : List (List V)) : Prop := ∀ r ∈ l, cleanR r = true
theorem cptA_rise : ∀ (l : List (List V)) (p : List V), Srt cmpR (p :: l) → (∀ x ∈ cptA eqR p l, cmpR p x < 0) ∧ (cptA eqR p l).Pairwise fun x y => cmpR x y < 0
  | [], p, _ => ⟨fun x h => by simp [cptA] at h, List.Pairwise.nil⟩
  | x :: l, p, h => by
    have h' := List.pairwise_cons.1 h
    obtain ⟨i1, i2⟩ := cptA_rise l x h'.2
    have hpx := h'.1 x (by simp)
    simp only [cptA, eqR, decide_eq_true_eq]
    have an := lo_row.anti p x
    split
    · rename_i h0
      refine ⟨fun y hy => ?_, i2⟩
      exact lo_row.le_lt hpx (i1 y hy)
    · rename_i h0
      have hlt : cmpR p x < 0 := by omega
      refine ⟨fun y hy => ?_, List.pairwise_cons.2 ⟨i1, i2⟩⟩
      rcases List.mem_cons.1 hy with rfl | hy
      · exact hlt
      · exact lo_row.lt_le hlt (by have := i1 y hy; omega)
theorem cpt_rise {l : List (List V)} (h : Srt cmpR l) : riseB (cpt eqR l) = true := by
  cases l with
  | nil => rfl
  | cons a l =>
    obtain ⟨h1, h2⟩ := cptA_rise l a h
    exact pair_rise (List.pairwise_cons.2 ⟨h1, h2⟩)
theorem perm_rise : ∀ {a C : List (List V)}, C.Perm a → Srt cmpR C → riseB a = true → C = a
  | [], C, hp, _, _ => hp.eq_nil
  | x :: a, [], hp, _, _ => by have := hp.length_eq; simp at this
  | x :: a, c :: C, hp, hs, hr => by
    have hs' := List.pairwise_cons.1 hs
    have hcx : c = x := by
      rcases List.mem_cons.1 (hp.mem_iff.1 (List.mem_cons_self (a := c) (l := C))) with h | h
      · exact h
      · exfalso
        have h1 := rise_lt hr c h
        have hx : x ∈ c :: C := hp.mem_iff.2 (by simp)
        have an := lo_row.anti x c
        rcases List.mem_cons.1 hx with h2 | h2
        · rw [h2, lo_row.refl] at h1; omega
        · have := hs'.1 x h2; omega
    subst hcx
    rw [perm_rise (List.Perm.cons_inv hp) hs'.2 (rise_tail hr)]
theorem rise_srt {l : List (List V)} (h : riseB l = true) : Srt cmpR l := (rise_pair h).imp (fun h => by omega)
theorem rise_nodup {l : List (List V)} (h : riseB l = true) : l.Nodup := (rise_pair h).imp (fun {a b} h e => by subst e; rw [lo_row.refl] at h; omega)
theorem rise_ext {a b : List (List V)} (ha : riseB a = true) (hb : riseB b = true) (h : ∀ x, x ∈ a ↔ x ∈ b) : a = b :=
  perm_rise ((List.perm_ext_iff_of_nodup (rise_nodup ha) (rise_nodup hb)).2 h) (rise_srt ha) hb
theorem putR_mem {t : List V} (ht : cleanR t = true) : ∀ {l : List (List V)}, Cl l → ∀ x, x ∈ (putR t l).1 ↔ x = t ∨ x ∈ l
  | [], _, x => by simp [putR]
  | y :: l, hl, x => by
    simp only [putR]
    split
    · rw [List.mem_cons, putR_mem ht (fun r hr => hl r (by simp [hr]))]
      simp only [List.mem_cons]
      grind
    · split
      · simp only [List.mem_cons]
      · rename_i h1 h2
        have : y = t := clean_eqR (hl y (by simp)) ht (by simpa using h2)
        subst this
        simp only [List.mem_cons]
        grind
theorem putR_rise {t : List V} : ∀ {l : List (List V)}, riseB l = true → riseB (putR t l).1 = true := by
  intro l h
  have key : ∀ l : List (List V), (l.Pairwise fun x y => cmpR x y < 0) → ((putR t l).1.Pairwise fun x y => cmpR x y < 0) ∧ ∀ x ∈ (putR t l).1, x = t ∨ x ∈ l := by
    intro l
    induction l with
    | nil => intro _; simp [putR]
    | cons y l ih =>
      intro h
      have h' := List.pairwise_cons.1 h
      obtain ⟨i1, i2⟩ := ih h'.2
      simp only [putR]
      split
      · rename_i hyt
        refine ⟨List.pairwise_cons.2 ⟨fun x hx => ?_, i1⟩, fun x hx => ?_⟩
        · rcases i2 x hx with rfl | hx
          · exact hyt
          · exact h'.1 x hx
        · rcases List.mem_cons.1 hx with rfl | hx
          · simp
          · rcases i2 x hx with rfl | hx
            · simp
            · simp [hx]
      · split
        · rename_i h1 h2
          have hty : cmpR t y < 0 := by have := lo_row.anti t y; omega
          refine ⟨List.pairwise_cons.2 ⟨fun x hx => ?_, h⟩, fun x hx => List.mem_cons.1 hx⟩
          rcases List.mem_cons.1 hx with rfl | hx
          · exact hty
          · exact lo_row.lt_le hty (by have := h'.1 x hx; omega)
        · exact ⟨h, fun x hx => .inr hx⟩
  exact pair_rise (key l (rise_pair h)).1
theorem putR_cl {t : List V} (ht : cleanR t = true) {l : List (List V)} (hl : Cl l) : Cl (putR t l).1 := fun r hr => by
  rcases (putR_mem ht hl r).1 hr with rfl | h
  · exact ht
  · exact hl r h
theorem foldPut_all : ∀ (b a : List (List V)), Cl a → Cl b → riseB a = true → Cl (foldPut a b) ∧ riseB (foldPut a b) = true ∧ ∀ x, x ∈ foldPut a b ↔ x ∈ a ∨ x ∈ b
  | [], a, ha, _, hr => ⟨ha, hr, fun x => by simp [foldPut]⟩
  | t :: b, a, ha, hb, hr => by
    have ht := hb t (by simp)
    obtain ⟨h1, h2, h3⟩ := foldPut_all b (putR t a).1 (putR_cl ht ha) (fun r h => hb r (by simp [h])) (putR_rise hr)
    refine ⟨h1, h2, fun x => ?_⟩
    show x ∈ foldPut (putR t a).1 b ↔ _
    rw [h3, putR_mem ht ha, List.mem_cons]
    grind
theorem cptA_memL : ∀ (l : List (List V)) (p : List V), Cl (p :: l) → ∀ x, x ∈ p :: l → x = p ∨ x ∈ cptA eqR p l
  | [], p, _, x, h => by simpa [cptA] using h
  | y :: l, p, hc, x, h => by
    rcases List.mem_cons.1 h with rfl | h
    · exact .inl rfl
    · have ih := cptA_memL l y (fun r hr => hc r (by simp at hr ⊢; grind)) x h
      simp only [cptA, eqR, decide_eq_true_eq]
      split
      · rename_i h0
        have : y = p := clean_eqR (hc y (by simp)) (hc p (by simp)) h0
        subst this
        exact ih
      · right
        rcases ih with rfl | ih
        · simp
        · simp [ih]
theorem cpt_memL {l : List (List V)} (hc : Cl l) (x : List V) : x ∈ cpt eqR l ↔ x ∈ l := by
  refine ⟨cpt_mem, fun h => ?_⟩
  cases l with
  | nil => exact h
  | cons a l =>
    rcases cptA_memL l a hc x h with rfl | h
    · simp [cpt]
    · simp [cpt, h]
/-- sorted either way -/
theorem sorts_same {l C : List (List V)} (hc : Cl l) (hp : C.Perm l) (hs : Srt cmpR C) : cpt eqR C = foldPut [] l := by
  obtain ⟨_, h2, h3⟩ := foldPut_all l [] (fun r h => by simp at h) hc rfl
  refine rise_ext (cpt_rise hs) h2 (fun x => ?_)
  rw [cpt_memL (fun r hr => hc r (hp.mem_iff.1 hr)), h3, hp.mem_iff]
  simp
end Go.Proofs.YtgkjbpnmeeibbaaGreatDoor.Rel
