/-
  What the operations ask and give: fields, places, slices, append. Own work.
-/
import Derived.Test.YtgkjbpnmeeibbaaGreatDoorAw3
set_option linter.all false
namespace Go.Aw
open Go.RowKit

/-! ### fields -/
theorem run_fieldAt {P : Program} {w : World} {t ft : TypeId} {fs : List (Nat × TypeId)} {i : TI} (hd : DOk P t (.struct fs)) {f off : Nat} (hf : fs[f]? = some (off, ft)) (hi : TOk P ft i) (hsz : 1 ≤ i.sz) (b o : Nat) :
    (Instr.fieldAt t (.pointer (some ⟨b, o, none⟩)) f).run P w = .ok (.pointer (some ⟨b, o + off, none⟩)) w := by
  obtain ⟨fields, hu, rfl⟩ := hd
  rw [List.getElem?_map] at hf
  cases hff : fields[f]? with
  | none => rw [Array.getElem?_toList, hff] at hf; cases hf
  | some fl =>
    rw [Array.getElem?_toList, hff] at hf
    simp only [Option.map_some, Option.some.injEq, Prod.mk.injEq] at hf
    obtain ⟨rfl, rfl⟩ := hf
    simp only [Instr.fieldAt]
    rw [run_bind_ok (run_underlying hu w)]
    simp only [hff]
    rw [run_bind_ok (a := (⟨b, o, none⟩ : Addr)) (w' := w) rfl]
    have hfp : (fieldPlace ⟨b, o, none⟩ fl).run P w = .ok ⟨b, o + fl.offset, none⟩ w := by
      unfold fieldPlace
      rw [run_bind_ok (hi.sizeOf w)]
      rw [if_neg (by omega)]
      simp [Addr.add_lit]
    rw [run_bind_ok hfp]
    rfl

def aPart (i : TI) (cs : List AV) (off : Nat) : AV := bif i.d.agg then .agg ((cs.drop off).take i.sz) else (cs.drop off).headD .junk

theorem run_part {P : Program} {w : World} {K : Kn} {t : TypeId} {i : TI} (hi : TOk P t i) (ho : i.d.known = true) {cs : List AV} {vs : List Value} (h1 : ∀ c ∈ cs, c.one = true) (hr : RelL K cs vs) {off : Nat}
    (hs : 1 ≤ i.sz ∧ i.sz ≤ (cs.drop off).length) : ∃ v, (part t vs.toArray off).run P w = .ok v w ∧ Rel K (aPart i cs off) v := by
  have hag := hi.isAgg (TD.known_ne ho) w
  have hr' := hr.drop off
  unfold part aPart
  cases hb : i.d.agg with
  | true =>
    rw [hb] at hag
    obtain ⟨hl, hh⟩ := hr'.take i.sz
    refine ⟨.agg ((vs.drop off).take i.sz).toArray, ?_, .agg (fun c hc => h1 c (List.mem_of_mem_drop (List.mem_of_mem_take hc))) hl hh⟩
    rw [run_bind_ok hag]
    simp only [if_true]
    rw [run_bind_ok (hi.sizeOf w)]
    simp [List.extract_eq_take_drop]
  | false =>
    rw [hb] at hag
    cases hc : cs.drop off with
    | nil => rw [hc] at hs; simp at hs; omega
    | cons c cs' =>
      rw [hc] at hr'
      obtain ⟨v, r, hvr, hv, _⟩ := hr'.cons_inv
      refine ⟨v, ?_, by simpa using hv⟩
      rw [run_bind_ok hag]
      have : vs.toArray[off]? = some v := by
        have : (vs.drop off)[0]? = some v := by rw [hvr]; rfl
        simpa using this
      simp [this]

theorem run_field {P : Program} {w : World} {K : Kn} {t ft : TypeId} {fs : List (Nat × TypeId)} {i : TI} (hd : DOk P t (.struct fs)) {f off : Nat} (hf : fs[f]? = some (off, ft)) (hi : TOk P ft i) (ho : i.d.known = true)
    {cs : List AV} {v : Value} (hv : Rel K (.agg cs) v) (hs : 1 ≤ i.sz ∧ i.sz ≤ (cs.drop off).length) : ∃ x, (Instr.field t v f).run P w = .ok x w ∧ Rel K (aPart i cs off) x := by
  obtain ⟨fields, hu, rfl⟩ := hd
  rw [List.getElem?_map] at hf
  cases hff : fields[f]? with
  | none => rw [Array.getElem?_toList, hff] at hf; cases hf
  | some fl =>
    rw [Array.getElem?_toList, hff] at hf
    simp only [Option.map_some, Option.some.injEq, Prod.mk.injEq] at hf
    obtain ⟨rfl, rfl⟩ := hf
    cases hv with
    | agg h1 hl h =>
      obtain ⟨x, hx, hr⟩ := run_part hi ho h1 ⟨hl, h⟩ hs
      refine ⟨x, ?_, hr⟩
      simp only [Instr.field]
      rw [run_bind_ok (run_underlying hu w)]
      simp only [hff, asAgg]
      rw [run_bind_ok (Sem.run_pure P w _)]
      exact hx

/-! ### places in slices -/
theorem flat_take {es : List AV} {sz : Nat} (h : ∀ e ∈ es, e.cells.length = sz) : (flat es).length = es.length * sz := by
  induction es with
  | nil => simp [flat]
  | cons e es ih =>
    have h1 := h e (by simp)
    have h2 := ih (fun x hx => h x (by simp [hx]))
    simp only [flat, List.flatMap_cons, List.length_append, List.length_cons] at h2 ⊢
    rw [h1, Nat.succ_mul]; omega

theorem flat_drop {es : List AV} {sz : Nat} (h : ∀ e ∈ es, e.cells.length = sz) (n : Nat) : flat (es.drop n) = (flat es).drop (n * sz) := by
  induction es generalizing n with
  | nil => simp [flat]
  | cons e es ih =>
    cases n with
    | zero => simp
    | succ n =>
      have h1 := h e (by simp)
      have h2 := ih (fun x hx => h x (by simp [hx])) n
      simp only [List.drop_succ_cons, h2, flat, List.flatMap_cons]
      have e1 : e.cells.drop (n * sz + sz) = [] := List.drop_eq_nil_of_le (by rw [h1]; exact Nat.le_add_left _ _)
      rw [List.drop_append, Nat.succ_mul, e1, List.nil_append, h1, Nat.add_sub_cancel]
      exact h2
theorem flat_takeN {es : List AV} {sz : Nat} (h : ∀ e ∈ es, e.cells.length = sz) (n : Nat) : flat (es.take n) = (flat es).take (n * sz) := by
  induction es generalizing n with
  | nil => simp [flat]
  | cons e es ih =>
    cases n with
    | zero => simp [flat]
    | succ n =>
      have h1 := h e (by simp)
      have h2 := ih (fun x hx => h x (by simp [hx])) n
      simp only [List.take_succ_cons, flat, List.flatMap_cons] at h2 ⊢
      have e1 : e.cells.take (n * sz + sz) = e.cells := List.take_of_length_le (by rw [h1]; exact Nat.le_add_left _ _)
      rw [h2, List.take_append, Nat.succ_mul, e1, h1, Nat.add_sub_cancel]
theorem flat_append (a b : List AV) : flat (a ++ b) = flat a ++ flat b := by simp [flat]

theorem flat_at {es : List AV} {sz : Nat} (h : ∀ e ∈ es, e.cells.length = sz) {n : Nat} {e : AV} (he : es[n]? = some e) : ((flat es).drop (n * sz)).take sz = e.cells := by
  rw [← flat_drop h]
  have hn : n < es.length := (List.getElem?_eq_some_iff.1 he).1
  have : es.drop n = e :: es.drop (n + 1) := by rw [List.drop_eq_getElem_cons hn]; congr 1; exact (List.getElem?_eq_some_iff.1 he).2
  rw [this]
  have hsz := h e (List.mem_of_getElem? he)
  simp only [flat, List.flatMap_cons]
  rw [List.take_append, List.take_of_length_le (by omega)]
  simp [hsz]

/-- the place of an element of a known slice -/
theorem run_indexAt_sl {P : Program} {w : World} {K : Kn} {t e : TypeId} {i : TI} (hu : P.underlying t = some (.slice e)) (hi : TOk P e i) {sz : Nat} {es : List AV} {tk : Tk} (hsz : i.sz = sz) {v : Value} (hv : Rel K (.sl sz es tk) v)
    {q : IntKind} {n : Int} (h0 : 0 ≤ n) {x : AV} (hx : es[n.toNat]? = some x) : ∃ y, (Instr.indexAt t v (.int q n)).run P w = .ok y w ∧ Rel K (.ref x.cells) y := by
  have hlt : n.toNat < es.length := (List.getElem?_eq_some_iff.1 hx).1
  cases hv with
  | slnil => simp at hlt
  | @sl _ _ _ b off cap vs hcap hmax hszs h1 hl h hk ht =>
    refine ⟨.pointer (some ⟨b, off + n.toNat * sz, none⟩), ?_, ?_⟩
    · simp only [Instr.indexAt, asIntOf]
      rw [run_bind_ok (Sem.run_pure P w _)]
      simp only []
      rw [run_bind_ok (run_underlying hu w)]
      simp only [Sem.run_bind, Sem.run_pure, Result.andThen_ok, run_underlying hu w]
      rw [if_pos (by omega)]
      simp [hi.sizeOf w, hsz, Addr.add_lit]
    · have hr : RelL K (flat es) vs := ⟨hl, h⟩
      have h2 := (hr.drop (n.toNat * sz)).take sz
      rw [flat_at hszs hx] at h2
      refine .ref ?_ h2.1 h2.2 ?_
      · intro c hc
        rw [← flat_at hszs hx] at hc
        exact h1 c (List.mem_of_mem_drop (List.mem_of_mem_take hc))
      · intro j u hu'
        rw [List.getElem?_take] at hu'
        split at hu'
        · rw [List.getElem?_drop] at hu'
          have := hk _ u hu'
          rw [← Nat.add_assoc] at this
          exact this
        · cases hu'

theorem run_indexAt_msl {P : Program} {w : World} {K : Kn} {t e : TypeId} {i : TI} (hu : P.underlying t = some (.slice e)) (hi : TOk P e i) {b off n cap : Nat} {v : Value} (hv : Rel K (.msl b off n cap) v)
    {q : IntKind} {j : Int} (h0 : 0 ≤ j ∧ j < n) : (Instr.indexAt t v (.int q j)).run P w = .ok (.pointer (some ⟨b, off + j.toNat * i.sz, none⟩)) w := by
  obtain ⟨rfl⟩ : v = .slice (some ⟨b, off, none⟩) n cap := by
    cases hv with
    | mslnil => omega
    | @msl _ _ _ _ b' o' hle hmax ho =>
      rcases ho with ⟨rfl, rfl⟩ | ho
      · rfl
      · omega
  simp only [Instr.indexAt, asIntOf]
  rw [run_bind_ok (Sem.run_pure P w _)]
  simp only []
  rw [run_bind_ok (run_underlying hu w)]
  simp only [Sem.run_bind, Sem.run_pure, Result.andThen_ok, run_underlying hu w]
  rw [if_pos (by omega)]
  simp [hi.sizeOf w, Addr.add_lit]

theorem run_indexAt_arr {P : Program} {w : World} {t e : TypeId} {i : TI} {len : Nat} (hu : P.underlying t = some (.array len e)) (hi : TOk P e i) {b off : Nat}
    {q : IntKind} {j : Int} (h0 : 0 ≤ j ∧ j < len) : (Instr.indexAt t (.pointer (some ⟨b, off, none⟩)) (.int q j)).run P w = .ok (.pointer (some ⟨b, off + j.toNat * i.sz, none⟩)) w := by
  simp only [Instr.indexAt, asIntOf]
  rw [run_bind_ok (Sem.run_pure P w _)]
  simp only []
  rw [run_bind_ok (run_underlying hu w)]
  simp only [Sem.run_bind, Sem.run_pure, Result.andThen_ok, run_underlying hu w, Instr.sureAddr]
  rw [if_pos (by omega)]
  simp [hi.sizeOf w, Addr.add_lit]

/-! ### cutting slices and strings -/
def bnd : Option AV → Int → Int
  | some (.int _ n), _ => n
  | none, d => d
  | _, _ => -1

theorem run_sliceBound {P : Program} {w : World} {k : IntKind} {n : Int} {y : Nat} {c : BoundsCode} (h : 0 ≤ n ∧ n ≤ y) : (Instr.sliceBound (.int k n) y c).run P w = .ok n.toNat w := by
  simp only [Instr.sliceBound, asIntOf]
  rw [run_bind_ok (Sem.run_pure P w _)]
  simp [h]

inductive RelO (K : Kn) : Option AV → Option Value → Prop
  | none : RelO K .none .none
  | some {a : AV} {v : Value} (h : Rel K a v) : RelO K (.some a) (.some v)

theorem bnd_some {K : Kn} {a : AV} {v : Value} (h : Rel K a v) {d : Int} (h0 : 0 ≤ bnd (some a) d) : ∃ k n, v = .int k n ∧ bnd (some a) d = n := by
  cases h <;> simp [bnd] at h0
  exact ⟨_, _, rfl, rfl⟩

theorem bnd_none (d : Int) : bnd none d = d := rfl
theorem run_sliceBounds {P : Program} {w : World} {K : Kn} {isS : Bool} {len cap : Nat} {lo hi mx : Option AV} {lo' hi' mx' : Option Value} (hlo : RelO K lo lo') (hhi : RelO K hi hi') (hmx : RelO K mx mx') (hmh : mx.isSome = true → hi.isSome = true)
    (h0 : 0 ≤ bnd lo 0) (h1 : bnd lo 0 ≤ bnd hi len) (h2 : bnd hi len ≤ bnd mx cap) (h3 : bnd mx cap ≤ cap) :
    (Instr.sliceBounds isS len cap lo' hi' mx').run P w = .ok ((bnd lo 0).toNat, (bnd hi len).toNat, (bnd mx cap).toNat) w := by
  unfold Instr.sliceBounds
  cases hmx with
  | none =>
    simp only [bnd_none] at h2 h3
    rw [run_bind_ok (Sem.run_pure P w _)]
    cases hhi with
    | none =>
      simp only [bnd_none] at h1 h2
      rw [run_bind_ok (Sem.run_pure P w _)]
      cases hlo with
      | none => rw [run_bind_ok (Sem.run_pure P w _)]; simp [bnd_none]
      | some hv =>
        obtain ⟨k, n, rfl, hn⟩ := bnd_some hv h0
        rw [hn] at h0 h1 ⊢
        rw [run_bind_ok (run_sliceBound ⟨h0, h1⟩)]; simp [bnd_none]
    | some hv =>
      obtain ⟨kh, h, rfl, hh⟩ := bnd_some hv (Int.le_trans h0 h1)
      rw [hh] at h1 h2 ⊢
      have hz : 0 ≤ h := by omega
      rw [run_bind_ok (run_sliceBound ⟨hz, h2⟩)]
      cases hlo with
      | none => rw [run_bind_ok (Sem.run_pure P w _)]; simp [bnd_none]
      | some hv =>
        obtain ⟨k, n, rfl, hn⟩ := bnd_some hv h0
        rw [hn] at h0 h1 ⊢
        rw [run_bind_ok (run_sliceBound ⟨h0, by omega⟩)]; simp [bnd_none]
  | some hv =>
    obtain ⟨km, m, rfl, hm⟩ := bnd_some hv (Int.le_trans h0 (Int.le_trans h1 h2))
    rw [hm] at h2 h3 ⊢
    rw [run_bind_ok (run_sliceBound ⟨by omega, h3⟩)]
    cases hhi with
    | none => simp at hmh
    | some hv =>
      obtain ⟨kh, h, rfl, hh⟩ := bnd_some hv (Int.le_trans h0 h1)
      rw [hh] at h1 h2 ⊢
      rw [run_bind_ok (run_sliceBound ⟨by omega, by omega⟩)]
      cases hlo with
      | none => rw [run_bind_ok (Sem.run_pure P w _)]; simp [bnd_none]
      | some hv =>
        obtain ⟨k, n, rfl, hn⟩ := bnd_some hv h0
        rw [hn] at h0 h1 ⊢
        rw [run_bind_ok (run_sliceBound ⟨h0, by omega⟩)]; simp

theorem run_slice_str {P : Program} {w : World} {K : Kn} {t : TypeId} (hu : P.underlying t = some .string) {s : List UInt8} {v : Value} (hv : Rel K (.str s) v) {lo hi : Option AV} {lo' hi' : Option Value} (hlo : RelO K lo lo') (hhi : RelO K hi hi')
    (h0 : 0 ≤ bnd lo 0) (h1 : bnd lo 0 ≤ bnd hi s.length) (h2 : bnd hi s.length ≤ s.length) :
    ∃ x, (Instr.sliceAt t v lo' hi' none).run P w = .ok x w ∧ Rel K (.str ((s.take (bnd hi s.length).toNat).drop (bnd lo 0).toNat)) x := by
  cases hv with
  | str _ hs =>
    refine ⟨.string ⟨((s.take (bnd hi s.length).toNat).drop (bnd lo 0).toNat).toArray⟩, ?_, .str _ (by simp; omega)⟩
    have hz : (ByteArray.mk s.toArray).size = s.length := by simp [ByteArray.size]
    have hb := run_sliceBounds (P := P) (w := w) (isS := false) (len := s.length) (cap := s.length) hlo hhi (RelO.none (K := K)) (by simp) h0 h1 (by simpa [bnd_none] using h2) (by simp [bnd_none])
    simp only [Instr.sliceAt]
    rw [run_bind_ok (run_underlying hu w)]
    simp only [Instr.slice]
    rw [run_bind_ok (run_underlying hu w)]
    simp only [Option.isSome_none, Bool.false_eq_true, if_false, hz]
    rw [run_bind_ok hb]
    simp [ByteArray.extract_mk, List.drop_take]

def tkSlice (t : Tk) (lo hi mx : Option AV) (h m : Int) : Tk :=
  match mx with
  | some _ => if h = m then .full else .no
  | none => match hi, lo, t with
    | some _, _, _ => .no
    | none, none, t => t
    | none, some _, .full => .full
    | none, some _, _ => .no


theorem tkSlice_ok {tk : Tk} {lo hi mx : Option AV} {h m : Int} {b off off' sz n cap l hh mm : Nat} (ht : TkOk tk b off sz n cap) (h1 : l ≤ hh) (h2 : hh ≤ n) (h3 : hh ≤ mm) (hmx : mx.isSome = true → h = m → mm = hh)
    (hmn : mx = none → mm = cap) (hhn : hi = none → hh = n) (hln : lo = none → l = 0) (ho : l = 0 → off' = off) : TkOk (tkSlice tk lo hi mx h m) b off' sz (hh - l) (mm - l) := by
  cases mx with
  | some x =>
    simp only [tkSlice]
    split
    · rename_i e
      have := hmx rfl e
      simp only [TkOk]; omega
    · trivial
  | none =>
    have e1 := hmn rfl
    cases hi with
    | some x => simp only [tkSlice]; trivial
    | none =>
      have e2 := hhn rfl
      cases lo with
      | none =>
        have e3 := hln rfl
        have e4 := ho e3
        subst e1; subst e2; subst e3; subst e4
        simp only [tkSlice]
        simpa using ht
      | some x =>
        cases tk with
        | no => simp only [tkSlice]; trivial
        | full => simp only [tkSlice, TkOk] at ht ⊢; omega
        | own b e tot => simp only [tkSlice]; trivial

theorem tkSlice_nil {tk : Tk} {lo hi mx : Option AV} {h m : Int} (ht : tk.nilOk) : (tkSlice tk lo hi mx h m).nilOk := by
  cases mx with
  | some x => simp only [tkSlice]; split <;> trivial
  | none => cases hi <;> cases lo <;> cases tk <;> first | trivial | exact ht

theorem run_slice_sl {P : Program} {w : World} {K : Kn} {t e : TypeId} {i : TI} (hu : P.underlying t = some (.slice e)) (hi' : TOk P e i) {sz : Nat} {es : List AV} {tk : Tk} (hsz : i.sz = sz ∨ es = []) {v : Value} (hv : Rel K (.sl sz es tk) v)
    {lo hi mx : Option AV} {lo' hi'' mx' : Option Value} (hlo : RelO K lo lo') (hhi : RelO K hi hi'') (hmx : RelO K mx mx') (hmh : mx.isSome = true → hi.isSome = true)
    (h0 : 0 ≤ bnd lo 0) (h1 : bnd lo 0 ≤ bnd hi es.length) (h2 : bnd hi es.length ≤ es.length) (h3 : mx.isSome = true → bnd hi es.length ≤ bnd mx 0 ∧ bnd mx 0 ≤ es.length) :
    ∃ x, (Instr.sliceAt t v lo' hi'' mx').run P w = .ok x w ∧ Rel K (.sl sz ((es.take (bnd hi es.length).toNat).drop (bnd lo 0).toNat) (tkSlice tk lo hi mx (bnd hi es.length) (bnd mx 0))) x := by
  have hrun : ∀ (a : Option Addr) (cap : Nat), es.length ≤ cap → v = .slice a es.length cap →
      (Instr.sliceAt t v lo' hi'' mx').run P w = .ok (.slice (if (bnd mx cap).toNat = (bnd lo 0).toNat then a else a.map (·.add ((bnd lo 0).toNat * i.sz))) ((bnd hi es.length).toNat - (bnd lo 0).toNat) ((bnd mx cap).toNat - (bnd lo 0).toNat)) w := by
    intro a cap hcap hva
    subst hva
    have hb := run_sliceBounds (P := P) (w := w) (isS := true) (len := es.length) (cap := cap) hlo hhi hmx hmh h0 h1 (by
      cases mx with
      | none => simp only [bnd_none]; omega
      | some m =>
        have := (h3 rfl).1
        have e : bnd (some m) cap = bnd (some m) 0 := by cases m <;> rfl
        rw [e]; exact this) (by
      cases mx with
      | none => simp [bnd_none]
      | some m =>
        have := (h3 rfl).2
        have e : bnd (some m) cap = bnd (some m) 0 := by cases m <;> rfl
        rw [e]; omega)
    simp only [Instr.sliceAt]
    rw [run_bind_ok (run_underlying hu w)]
    simp only [Instr.slice]
    rw [run_bind_ok (run_underlying hu w)]
    simp only []
    rw [run_bind_ok hb]
    simp only []
    rw [run_bind_ok (hi'.sizeOf w)]
    rfl
  cases hv with
  | slnil _ _ a0 ht =>
    have hx := hrun a0 0 (Nat.le_refl _) rfl
    refine ⟨_, hx, ?_⟩
    have e1 : (bnd hi (([] : List AV).length : Nat)).toNat = 0 := by simp at h2 ⊢; omega
    have e2 : (bnd lo 0).toNat = 0 := by simp at h1 h2; omega
    have e3 : (bnd mx (0 : Nat)).toNat = 0 := by
      cases mx with
      | none => rfl
      | some m => have := (h3 rfl).2; simp at this ⊢; omega
    rw [e1, e2] at hx ⊢
    simp only [e3, if_true, List.take_nil, List.drop_nil]
    exact .slnil _ _ _ (tkSlice_nil ht)
  | @sl _ _ _ b off cap vs hcap hmax hszs h1' hl h hk ht =>
    have hx := hrun (some ⟨b, off, none⟩) cap hcap rfl
    refine ⟨_, hx, ?_⟩
    generalize hL : (bnd lo 0).toNat = l at *
    generalize hH : (bnd hi es.length).toNat = hh at *
    have hlh : l ≤ hh := by omega
    have hhn : hh ≤ es.length := by omega
    have hMc : (bnd mx cap).toNat ≤ cap ∧ hh ≤ (bnd mx cap).toNat := by
      cases mx with
      | none => simp only [bnd_none]; omega
      | some m =>
        obtain ⟨q1, q2⟩ := h3 rfl
        have e : bnd (some m) (cap : Int) = bnd (some m) 0 := by cases m <;> rfl
        rw [e]; omega
    generalize hM : (bnd mx cap).toNat = mm at *
    have hlen : ((es.take hh).drop l).length = hh - l := by simp; omega
    have hszz : ∀ x ∈ (es.take hh).drop l, x.cells.length = sz := fun x hx => hszs x (List.mem_of_mem_take (List.mem_of_mem_drop hx))
    have hfl : flat ((es.take hh).drop l) = ((flat es).take (hh * sz)).drop (l * sz) := by
      rw [flat_drop (fun x hx => hszs x (List.mem_of_mem_take hx)), flat_takeN hszs]
    have hr : RelL K (flat es) vs := ⟨hl, h⟩
    have hr2 := (hr.take (hh * sz)).drop (l * sz)
    rw [← hfl] at hr2
    have hone : ∀ c ∈ flat ((es.take hh).drop l), c.one = true := by
      intro c hc; rw [hfl] at hc; exact h1' c (List.mem_of_mem_take (List.mem_of_mem_drop hc))
    have hkk : ∀ (i : Nat) (v : Value), ((vs.take (hh * sz)).drop (l * sz))[i]? = some v → (K b)[(off + l * sz) + i]? = some v := by
      intro j u hu'
      rw [List.getElem?_drop, List.getElem?_take] at hu'
      split at hu'
      · have := hk _ u hu'; rw [← Nat.add_assoc] at this; exact this
      · cases hu'
    have htk : ∀ off', (l = 0 → off' = off) → TkOk (tkSlice tk lo hi mx (bnd hi es.length) (bnd mx 0)) b off' sz ((es.take hh).drop l).length (mm - l) := by
      intro off' ho
      rw [hlen]
      refine tkSlice_ok ht hlh hhn hMc.2 ?_ ?_ ?_ ?_ ho
      · intro hs heq
        cases mx with
        | none => simp at hs
        | some m =>
          have e : bnd (some m) (cap : Int) = bnd (some m) 0 := by cases m <;> rfl
          rw [e] at hM
          omega
      · intro e; subst e; simp only [bnd_none] at hM; omega
      · intro e; subst e; simp only [bnd_none] at hH; omega
      · intro e; subst e; simp only [bnd_none] at hL; omega
    rw [← hlen]
    by_cases hml : mm = l
    · -- nothing is left
      rw [if_pos hml]
      have hhl : hh = l := by omega
      have hnil : (es.take hh).drop l = [] := by apply List.drop_eq_nil_of_le; simp; omega
      refine .sl (vs := []) (by rw [hnil]; simp) (by omega) hszz hone (by rw [hnil]; rfl) (fun i c v hc hv => by simp at hv) (fun i v hv => by simp at hv) ?_
      exact htk off (fun _ => rfl)
    · rw [if_neg hml]
      have hadd : (Option.map (fun x : Addr => x.add (l * i.sz)) (some ⟨b, off, none⟩)) = some ⟨b, off + l * i.sz, none⟩ := by simp [Addr.add_lit]
      rw [hadd]
      rcases hsz with hsz | hemp
      · rw [hsz]
        refine .sl (by rw [hlen]; omega) (by omega) hszz hone hr2.1 hr2.2 hkk ?_
        exact htk _ (fun e => by rw [e]; simp)
      · -- no elements, but room
        subst hemp
        simp at hhn
        subst hhn
        have hl0 : l = 0 := by omega
        subst hl0
        simp only [List.take_nil, List.drop_nil, Nat.zero_mul, Nat.add_zero]
        refine .sl (vs := []) (by simp) (by omega) (by simp) (by simp [flat]) (by simp [flat]) (fun i c v hc hv => by simp at hv) (fun i v hv => by simp at hv) ?_
        simpa using htk off (fun _ => rfl)
end Go.Aw
