/-
  append, and slices and structs that are built. Own work.
-/
import Derived.Test.YtgkjbpnmeeibbaaGreatDoorAw4
set_option linter.all false
namespace Go.Aw
open Go.RowKit

theorem growBy_le (n : Nat) : ∀ (r c : Nat), c ≤ 2 * n + 192 → Builtin.growBy n r c ≤ 2 * n + 192
  | 0, c, h => by simpa [Builtin.growBy] using h
  | r + 1, c, h => by
    simp only [Builtin.growBy]
    split
    · exact h
    · exact growBy_le n r _ (by omega)
theorem nextslicecap_le (n c : Nat) (h : c < n) : Builtin.nextslicecap n c ≤ 2 * n + 192 := by
  unfold Builtin.nextslicecap
  split
  · omega
  · split
    · omega
    · exact growBy_le n 4 c (by omega)

def roomFor (n by_ : Nat) : Prop := n * by_ ≤ 35184372088832 ∧ by_ ≤ 1048576 ∧ n ≤ 9223372036854775807
theorem roomFor.cap {n c by_ : Nat} (h : roomFor n by_) (hc : c < n) : Builtin.nextslicecap n c * by_ ≤ 281474976710656 := by
  obtain ⟨h1, h2, _⟩ := h
  have := Nat.mul_le_mul_right by_ (nextslicecap_le n c hc)
  have e : (2 * n + 192) * by_ = 2 * (n * by_) + 192 * by_ := by rw [Nat.add_mul, Nat.mul_assoc]
  omega

theorem run_append_none {P : Program} {w : World} {t ty e : TypeId} {i : TI} (ht : P.underlying t = some (.slice e)) (hi : TOk P e i) (base a : Option Addr) (n cap c : Nat) (hcap : n ≤ cap)
    : (Builtin.append_ #[t, t] ty #[.slice base n cap, .slice a 0 c]).run P w = .ok (.slice base n cap) w := by
  obtain ⟨x, z, hx, hs, hb, hz, _⟩ := hi.get
  cases base with
  | none => cases a <;> simp [Builtin.append_, run_underlying ht, sizeOf, typeInfo, hx, Builtin.lenOf, hcap, Builtin.firstCells, loadCells, loadCellsFrom]
  | some b => cases a <;> simp [Builtin.append_, run_underlying ht, sizeOf, typeInfo, hx, Builtin.lenOf, hcap, Builtin.firstCells, loadCells, loadCellsFrom, storeCells]

theorem run_append_in {P : Program} {w : World} {t ty e : TypeId} {i : TI} (ht : P.underlying t = some (.slice e)) (hi : TOk P e i) {b off n cap : Nat} {cur : Array Value} {T : TypeId} (hg : w.heap[b]? = some (.cells cur T (0, 0)))
    {a : Addr} {m c : Nat} {news : List Value} (hl : news.length = m * i.sz) (hnews : ∀ (j : Nat) (u : Value), news[j]? = some u → w.cell? (a.add j) = some u) (h1 : ∀ u ∈ news, u.oneCell' = true)
    (hroom : n + m ≤ cap) (hfit : off + n * i.sz + news.length ≤ cur.size) :
    (Builtin.append_ #[t, t] ty #[.slice (some ⟨b, off, none⟩) n cap, .slice (some a) m c]).run P w =
      .ok (.slice (some ⟨b, off, none⟩) (n + m) cap) (w.setRow b (cur.toList.take (off + n * i.sz) ++ news ++ cur.toList.drop (off + n * i.sz + news.length)).toArray) := by
  obtain ⟨x, z, hx, hs, hb, hz, _⟩ := hi.get
  have hf := run_firstCells_some (P := P) w i.sz m a m c news hl hnews
  have hst := run_storeCells_at P b (off + n * i.sz) T news 0 cur w hg (by simpa using hfit) h1
  simp only [Nat.add_zero] at hst
  simp [Builtin.append_, run_underlying ht, sizeOf, typeInfo, hx, hs, Builtin.lenOf, hroom, hf, Addr.add_lit, hst]

theorem grownCap_lt (w : World) (need old : Nat) (e : TypeId) (h : need ≤ maxLen) : grownCap w need old e ≤ maxLen := grownCap_le_maxLen w need old e h

/-- the two sources of append, as they are related -/
structure SlAs (K : Kn) (sz : Nat) (es : List AV) (b off cap : Nat) (vs : List Value) (v : Value) : Prop where
  eq : v = .slice (some ⟨b, off, none⟩) es.length cap
  hcap : es.length ≤ cap
  hmax : cap ≤ maxLen
  szs : ∀ e ∈ es, e.cells.length = sz
  one : ∀ c ∈ flat es, c.one = true
  rel : RelL K (flat es) vs
  known : ∀ (i : Nat) (v : Value), vs[i]? = some v → (K b)[off + i]? = some v

theorem sl_cases {K : Kn} {sz : Nat} {es : List AV} {t : Tk} {v : Value} (h : Rel K (.sl sz es t) v) :
    (∃ a, v = .slice a 0 0 ∧ es = [] ∧ t.nilOk) ∨ ∃ b off cap vs, SlAs K sz es b off cap vs v ∧ TkOk t b off sz es.length cap := by
  cases h with
  | slnil _ _ a ht => exact .inl ⟨a, rfl, rfl, ht⟩
  | sl hcap hmax hsz h1 hl h hk ht => exact .inr ⟨_, _, _, _, ⟨rfl, hcap, hmax, hsz, h1, ⟨hl, h⟩, hk⟩, ht⟩

theorem run_append_zero {P : Program} {w : World} (t ty e : TypeId) (i : TypeInfo) (z : Value) (ht : P.underlying t = some (.slice e)) (hi : P.info? e = some i) (hz : i.zero = some z)
    (a0 : Option Addr) (a : Addr) (n c : Nat) (news : List Value) (hl : news.length = n * i.size) (hnews : ∀ j v, news[j]? = some v → w.cell? (a.add j) = some v)
    (h0 : 0 < n) (h63 : (n : Int) ≤ 9223372036854775807) (h48 : n * i.bytes ≤ 281474976710656) :
    (Builtin.append_ #[t, t] ty #[.slice a0 0 0, .slice (some a) n c]).run P w =
      .ok (.slice (some ⟨w.heap.size, 0, none⟩) n (grownCap w n 0 e)) (w.drew.alloc (.cells (news.toArray ++ Builtin.zeroCells z.cells (grownCap w n 0 e - n)) e)) := by
  cases a0 with
  | none => exact run_append_nil w t ty e i z ht hi hz a n c news hl hnews h0 h63 h48
  | some b =>
    have h := run_append_grow (P := P) w t ty e i z ht hi hz b 0 0 [] (by simp) (fun j v hj => by simp at hj) a n c news hl hnews (by omega) (by simpa using h63) (by rw [Nat.zero_add, nextslicecap_zero h0]; exact h48)
    simpa using h

theorem all_sz {es : List AV} {sz sz' : Nat} (h : ∀ e ∈ es, e.cells.length = sz) (he : sz' = sz ∨ es = []) : ∀ e ∈ es, e.cells.length = sz' := by
  rcases he with rfl | rfl
  · exact h
  · intro e he; simp at he

theorem mem_append_szs {es xs : List AV} {sz : Nat} (h : ∀ e ∈ es, e.cells.length = sz) (h' : ∀ e ∈ xs, e.cells.length = sz) : ∀ e ∈ es ++ xs, e.cells.length = sz := by
  intro e he; rcases List.mem_append.1 he with he | he
  · exact h e he
  · exact h' e he

/-- a new array: what is appended lies behind what there was -/
theorem run_append_new {P : Program} {w0 w : World} {K : Kn} {S : List En} (hS : RelS w0 K S w) {t ty e : TypeId} {i : TI} (ht : P.underlying t = some (.slice e)) (hi : TOk P e i) {sz sz' : Nat} {es xs : List AV} {tk tk' : Tk} {v x : Value}
    (hv : Rel K (.sl sz es tk) v) (hx : Rel K (.sl sz' xs tk') x) (hsz : i.sz = sz ∨ es = []) (hsz' : i.sz = sz' ∨ xs = []) (hroom : roomFor (es.length + xs.length) i.by_)
    (hcap : ∀ a n c, v = .slice a n c → c < n + xs.length) :
    ∃ v' w' K' t', (Builtin.append_ #[t, t] ty #[v, x]).run P w = .ok v' w' ∧ Kle K K' ∧ Rel K' (.sl i.sz (es ++ xs) t') v' ∧ RelS w0 K' (.grow t' :: S) w' := by
  obtain ⟨inf, z, hinf, hs, hb, hz, hzr, hz1⟩ := hi.get
  have hmaxl : es.length + xs.length ≤ maxLen := by have := hroom.2.2; simpa [maxLen] using this
  -- the source is not nil: else there would be room
  rcases sl_cases hx with ⟨a0, rfl, rfl, _⟩ | ⟨bx, ox, cx, ns, hxa, _⟩
  · exfalso
    rcases sl_cases hv with ⟨a0, rfl, rfl, _⟩ | ⟨bv, ov, cv, vs, hva, _⟩
    · have := hcap _ _ _ rfl; simp at this
    · have := hcap _ _ _ hva.eq; have := hva.hcap; simp at *; omega
  · have hxl : ns.length = xs.length * i.sz := by rw [← hxa.rel.1, flat_take (all_sz hxa.szs hsz')]
    have hxc : ∀ (j : Nat) (u : Value), ns[j]? = some u → w.cell? ((⟨bx, ox, none⟩ : Addr).add j) = some u := by
      intro j u hu; rw [Addr.add_lit]; exact hS.kcell _ _ _ (hxa.known j u hu)
    have hszs := mem_append_szs (sz := i.sz) (es := es) (xs := xs)
    -- what is the same in both
    have finish : ∀ (olds : List Value) (old : Nat), (∀ e ∈ es, e.cells.length = i.sz) → (∀ c ∈ flat es, c.one = true) → RelL K (flat es) olds → olds.length = es.length * i.sz →
        ∃ K' t', Kle K K' ∧ Rel K' (.sl i.sz (es ++ xs) t') (.slice (some ⟨w.heap.size, 0, none⟩) (es.length + xs.length) (grownCap w (es.length + xs.length) old e)) ∧
          RelS w0 K' (.grow t' :: S) (w.drew.alloc (.cells (olds.toArray ++ ns.toArray ++ Builtin.zeroCells z.cells (grownCap w (es.length + xs.length) old e - (es.length + xs.length))) e)) := by
      intro olds old hes1 hes2 holds hol
      have hge := grownCap_ge w (es.length + xs.length) old e
      have hle := grownCap_lt w (es.length + xs.length) old e hmaxl
      generalize grownCap w (es.length + xs.length) old e = cap at hge hle ⊢
      have hzl : z.cells.size = i.sz := by have := (hzr K).1; rw [hi.len] at this; simpa using this.symm
      have hK := (hS.drew).allocKnown (olds.toArray ++ ns.toArray ++ Builtin.zeroCells z.cells (cap - (es.length + xs.length))) e (olds ++ ns) (by
        intro j u hu
        have hj : j < (olds ++ ns).length := (List.getElem?_eq_some_iff.1 hu).1
        rw [Array.getElem?_append_left (by simpa using hj)]
        simpa using hu)
      obtain ⟨hKle, hKS⟩ := hK
      have hsize : w.drew.heap.size = w.heap.size := rfl
      rw [hsize] at hKle hKS
      refine ⟨_, .own w.heap.size ((es.length + xs.length) * i.sz) (cap * i.sz), hKle, ?_, ?_⟩
      · have hrel := (holds.append hxa.rel).mono hKle
        rw [← flat_append] at hrel
        have hlen : (es ++ xs).length = es.length + xs.length := by simp
        rw [← hlen]
        refine .sl (by rw [hlen]; exact hge) hle (hszs hes1 (all_sz hxa.szs hsz')) ?_ hrel.1 hrel.2 ?_ ?_
        · intro c hc; rw [flat_append] at hc
          rcases List.mem_append.1 hc with hc | hc
          · exact hes2 c hc
          · exact hxa.one c hc
        · intro j u hu; rw [Kn.put_same]; simpa using hu
        · simp [TkOk]
      · refine hS.consNew hKS (fun b hb => by simpa [En.blk] using hb.symm) ⟨hS.below.size, ?_, Nat.mul_le_mul_right _ hge, _, e, heap_alloc_new _ _, ?_⟩
        · rw [Kn.put_same]; simp [hol, hxl, Nat.add_mul]
        · simp only [Array.size_append, List.size_toArray, size_zeroCells, hol, hxl, hzl]
          rw [← Nat.add_mul, ← Nat.add_mul]; congr 1; omega
    rcases sl_cases hv with ⟨a0, rfl, rfl, _⟩ | ⟨bv, ov, cv, vs, hva, _⟩
    · -- nil
      have hn : 0 < xs.length := by have := hcap _ _ _ rfl; simpa using this
      have hrun := run_append_zero (P := P) (w := w) t ty e inf z ht hinf hz a0 ⟨bx, ox, none⟩ xs.length cx ns (by rw [hxl, hs]) hxc hn (by have := hroom.2.2; simp at this; omega) (by
        rw [hb]; have := hroom.1; simp at this; omega)
      obtain ⟨K', t', h1, h2, h3⟩ := finish [] 0 (by simp) (by simp [flat]) (by simpa [flat] using RelL.nil) (by simp)
      refine ⟨_, _, K', t', by rw [hxa.eq]; exact hrun, h1, ?_, ?_⟩
      · simpa using h2
      · simpa using h3
    · have hol : vs.length = es.length * i.sz := by rw [← hva.rel.1, flat_take (all_sz hva.szs hsz)]
      have hc : cv < es.length + xs.length := hcap _ _ _ hva.eq
      have hrun := run_append_grow (P := P) w t ty e inf z ht hinf hz ⟨bv, ov, none⟩ es.length cv vs (by rw [hol, hs]) (fun j u hu => by rw [Addr.add_lit]; exact hS.kcell _ _ _ (hva.known j u hu)) ⟨bx, ox, none⟩ xs.length cx ns (by rw [hxl, hs]) hxc hc
        (by have := hroom.2.2; omega) (by rw [hb]; exact hroom.cap hc)
      obtain ⟨K', t', h1, h2, h3⟩ := finish vs cv (all_sz hva.szs hsz) hva.one hva.rel hol
      exact ⟨_, _, K', t', by rw [hva.eq, hxa.eq]; exact hrun, h1, h2, h3⟩

/-- append to a slice that has no room, or is nil -/
theorem run_append_full {P : Program} {w0 w : World} {K : Kn} {S : List En} (hS : RelS w0 K S w) {t ty e : TypeId} {i : TI} (ht : P.underlying t = some (.slice e)) (hi : TOk P e i) {sz sz' : Nat} {es xs : List AV} {tk' : Tk} {v x : Value}
    (hv : Rel K (.sl sz es .full) v) (hx : Rel K (.sl sz' xs tk') x) (hsz : i.sz = sz ∨ es = []) (hsz' : i.sz = sz' ∨ xs = []) (hroom : roomFor (es.length + xs.length) i.by_) :
    ∃ v' w' K' t', (Builtin.append_ #[t, t] ty #[v, x]).run P w = .ok v' w' ∧ Kle K K' ∧ Rel K' (.sl i.sz (es ++ xs) t') v' ∧ RelS w0 K' (.grow t' :: S) w' := by
  by_cases hxs : xs = []
  · subst hxs
    refine ⟨v, w, K, .full, ?_, Kle.refl K, ?_, hS.addFull⟩
    · rcases sl_cases hx with ⟨a0, rfl, _, _⟩ | ⟨bx, ox, cx, ns, hxa, _⟩
      · rcases sl_cases hv with ⟨a0, rfl, _, _⟩ | ⟨bv, ov, cv, vs, hva, _⟩
        · exact run_append_none ht hi _ _ _ _ _ (Nat.le_refl _)
        · rw [hva.eq]; exact run_append_none ht hi _ _ _ _ _ hva.hcap
      · rw [hxa.eq]
        rcases sl_cases hv with ⟨a0, rfl, _, _⟩ | ⟨bv, ov, cv, vs, hva, _⟩
        · exact run_append_none ht hi _ _ _ _ _ (Nat.le_refl _)
        · rw [hva.eq]; exact run_append_none ht hi _ _ _ _ _ hva.hcap
    · rw [List.append_nil]
      rcases sl_cases hv with ⟨a0, rfl, rfl, _⟩ | ⟨bv, ov, cv, vs, hva, htk⟩
      · exact .slnil _ _ _ trivial
      · rw [hva.eq]; exact .sl hva.hcap hva.hmax (all_sz hva.szs hsz) hva.one hva.rel.1 hva.rel.2 hva.known htk
  · have hpos : 0 < xs.length := by cases xs with | nil => exact absurd rfl hxs | cons a l => simp
    refine run_append_new hS ht hi hv hx hsz hsz' hroom (fun a n c hc => ?_)
    rcases sl_cases hv with ⟨a0, rfl, rfl, _⟩ | ⟨bv, ov, cv, vs, hva, htk⟩
    · cases hc; omega
    · rw [hva.eq] at hc; cases hc; simp only [TkOk] at htk; omega

theorem set_perm {S : List En} {p : Nat} {e e' : En} (hp : S[p]? = some e) : (S.set p e').Perm (e' :: S.eraseIdx p) := by
  have hlt : p < S.length := (List.getElem?_eq_some_iff.1 hp).1
  induction S generalizing p with
  | nil => simp at hlt
  | cons a S ih =>
    cases p with
    | zero => simp
    | succ p =>
      simp only [List.set_cons_succ, List.eraseIdx_cons_succ]
      have := ih (p := p) (by simpa using hp) (by simpa using hlt)
      exact (List.Perm.cons a this).trans (List.Perm.swap e' a _)

/-- append to a slice whose room is owned -/
theorem run_append_own' {P : Program} {w0 w : World} {K : Kn} {S : List En} (hS : RelS w0 K S w) {t ty e : TypeId} {i : TI} (ht : P.underlying t = some (.slice e)) (hi : TOk P e i) {sz sz' p : Nat} {es xs : List AV} {tk tk' : Tk} {v x : Value}
    (hp : S[p]? = some (.grow tk)) (hv : Rel K (.sl sz es tk) v) (hx : Rel K (.sl sz' xs tk') x) (hsz : i.sz = sz) (hsz' : i.sz = sz' ∨ xs = []) (hroom : roomFor (es.length + xs.length) i.by_) :
    ∃ v' w' K' t', (Builtin.append_ #[t, t] ty #[v, x]).run P w = .ok v' w' ∧ Kle K K' ∧ Rel K' (.sl i.sz (es ++ xs) t') v' ∧ RelS w0 K' (S.set p (.grow t')) w' := by
  have hSe : RelS w0 K (S.eraseIdx p) w := hS.sub (List.eraseIdx_sublist _ _)
  have wrap : ∀ {v' w' K' t'}, RelS w0 K' (.grow t' :: S.eraseIdx p) w' → (Builtin.append_ #[t, t] ty #[v, x]).run P w = .ok v' w' → Kle K K' → Rel K' (.sl i.sz (es ++ xs) t') v' →
      ∃ v' w' K' t', (Builtin.append_ #[t, t] ty #[v, x]).run P w = .ok v' w' ∧ Kle K K' ∧ Rel K' (.sl i.sz (es ++ xs) t') v' ∧ RelS w0 K' (S.set p (.grow t')) w' :=
    fun h1 h2 h3 h4 => ⟨_, _, _, _, h2, h3, h4, h1.perm (set_perm hp)⟩
  cases tk with
  | no => exact (hS.ents _ (List.mem_of_getElem? hp)).elim
  | full =>
    obtain ⟨v', w', K', t', h1, h2, h3, h4⟩ := run_append_full hSe (ty := ty) ht hi hv hx (.inl hsz) hsz' hroom
    exact wrap h4 h1 h2 h3
  | own b e' tot =>
    obtain ⟨hB, hKl, hle, cur, T, hg, hcs⟩ := hS.ents _ (List.mem_of_getElem? hp)
    rcases sl_cases hv with ⟨a0, rfl, rfl, hnil⟩ | ⟨bv, ov, cv, vs, hva, htk⟩
    · exact hnil.elim
    · simp only [TkOk] at htk
      obtain ⟨rfl, he, htot⟩ := htk
      subst hsz
      by_cases hfit : es.length + xs.length ≤ cv
      · rcases sl_cases hx with ⟨a0, rfl, rfl, _⟩ | ⟨bx, ox, cx, ns, hxa, _⟩
        · refine ⟨v, w, K, .own b e' tot, ?_, Kle.refl K, by simpa using hv, ?_⟩
          · rw [hva.eq]; exact run_append_none ht hi _ _ _ _ _ hva.hcap
          · have : S.set p (.grow (.own b e' tot)) = S := by
              apply List.ext_getElem?
              intro j
              by_cases hj : p = j
              · subst hj; rw [List.getElem?_set_self (List.getElem?_eq_some_iff.1 hp).1, hp]
              · rw [List.getElem?_set_ne hj]
            rw [this]; exact hS
        · have hxl : ns.length = xs.length * i.sz := by rw [← hxa.rel.1, flat_take (all_sz hxa.szs hsz')]
          have hfit' : ov + es.length * i.sz + ns.length ≤ cur.size := by
            rw [hcs, ← htot, hxl, Nat.add_assoc, ← Nat.add_mul]
            exact Nat.add_le_add_left (Nat.mul_le_mul_right _ hfit) _
          have hn1 := relL_one hxa.rel hxa.one
          have hrun := run_append_in (P := P) (w := w) (ty := ty) ht hi (b := b) (off := ov) (n := es.length) (cap := cv) hg (a := ⟨bx, ox, none⟩) (m := xs.length) (c := cx) hxl
            (fun j u hu => by rw [Addr.add_lit]; exact hS.kcell _ _ _ (hxa.known j u hu)) hn1 hfit hfit'
          have hKl' : (K b).length = ov + es.length * i.sz := by rw [hKl, he]
          have hKle : Kle K (K.put b (K b ++ ns)) := Kn.put_le (fun j u hu => by
            rw [List.getElem?_append_left (List.getElem?_eq_some_iff.1 hu).1]; exact hu)
          refine ⟨_, _, K.put b (K b ++ ns), .own b (e' + xs.length * i.sz) tot, by rw [hva.eq, hxa.eq]; exact hrun, hKle, ?_, ?_⟩
          · have hrel := (hva.rel.append hxa.rel).mono hKle
            rw [← flat_append] at hrel
            have hlen : (es ++ xs).length = es.length + xs.length := by simp
            rw [← hlen]
            refine .sl (by rw [hlen]; exact hfit) hva.hmax (mem_append_szs hva.szs (all_sz hxa.szs hsz')) ?_ hrel.1 hrel.2 ?_ ?_
            · intro c hc; rw [flat_append] at hc
              rcases List.mem_append.1 hc with hc | hc
              · exact hva.one c hc
              · exact hxa.one c hc
            · intro j u hu
              rw [Kn.put_same]
              by_cases hj : j < vs.length
              · rw [List.getElem?_append_left hj] at hu
                have := hva.known j u hu
                rw [List.getElem?_append_left (List.getElem?_eq_some_iff.1 this).1]; exact this
              · rw [List.getElem?_append_right (by omega)] at hu
                have hvl : vs.length = es.length * i.sz := by rw [← hva.rel.1, flat_take hva.szs]
                rw [List.getElem?_append_right (by omega)]
                rw [← hu]; congr 1; omega
            · simp only [TkOk]; refine ⟨trivial, ?_, htot⟩
              rw [hlen, Nat.add_mul]; omega
          · have hcell : ∀ j, (w.setRow b (cur.toList.take (ov + es.length * i.sz) ++ ns ++ cur.toList.drop (ov + es.length * i.sz + ns.length)).toArray).cell? ⟨b, j, none⟩ = (cur.toList.take (ov + es.length * i.sz) ++ ns ++ cur.toList.drop (ov + es.length * i.sz + ns.length))[j]? := by
              intro j; rw [cell_of_heap (setRow_heap _ _ _ _ _ _ hg)]; simp
            have hcl : cur.toList.length = cur.size := Array.length_toList
            have hcur : (cur.toList.take (ov + es.length * i.sz)).length = ov + es.length * i.sz := by
              rw [List.length_take, hcl]; omega
            refine hS.turn hp (b := b) rfl hKle (fun c hc => Kn.put_other _ _ hc) (fun c hc => setRow_other _ _ _ _ hc) (by simp) rfl rfl rfl ?_ (fun c t fr hc => ⟨_, _, setRow_heap _ _ _ _ _ _ hc⟩) (.inl rfl)
              ⟨hB, ?_, ?_, _, T, setRow_heap _ _ _ _ _ _ hg, ?_⟩
            · intro j u hu
              rw [Kn.put_same] at hu
              rw [hcell, List.append_assoc]
              by_cases hj : j < (K b).length
              · rw [List.getElem?_append_left hj] at hu
                have := hS.kcell b j u hu
                rw [cell_of_heap hg] at this
                rw [List.getElem?_append_left (by rw [hcur]; omega), List.getElem?_take, if_pos (by omega)]
                simpa using this
              · rw [List.getElem?_append_right (by omega)] at hu
                rw [List.getElem?_append_right (by rw [hcur]; omega), hcur, ← hKl']
                have hj2 : j - (K b).length < ns.length := (List.getElem?_eq_some_iff.1 hu).1
                rw [List.getElem?_append_left hj2]; exact hu
            · rw [Kn.put_same]; simp [hKl, hxl]
            · rw [← he, ← htot, Nat.add_assoc, ← Nat.add_mul]; exact Nat.add_le_add_left (Nat.mul_le_mul_right _ hfit) _
            · simp only [List.size_toArray, List.length_append, List.length_drop, hcur, hcl]
              omega
      · obtain ⟨v', w', K', t', h1, h2, h3, h4⟩ := run_append_new hSe (ty := ty) ht hi hv hx (.inl rfl) hsz' hroom (fun a n c hc => by rw [hva.eq] at hc; cases hc; omega)
        exact wrap h4 h1 h2 h3

/-! ### what is built -/
/-! ### mutable slices -/
def zerosAV (z : List AV) (n : Nat) : List AV := (List.range (n * z.length)).map fun j => z.getD (j % z.length) .junk
theorem zerosAV_len (z : List AV) (n : Nat) : (zerosAV z n).length = n * z.length := by simp [zerosAV]
theorem zerosAV_one {z : List AV} (h : ∀ c ∈ z, c.one = true) (n : Nat) : ∀ c ∈ zerosAV z n, c.one = true := by
  intro c hc
  simp only [zerosAV, List.mem_map, List.mem_range] at hc
  obtain ⟨j, hj, rfl⟩ := hc
  have hz : 0 < z.length := by
    rcases Nat.eq_zero_or_pos z.length with h0 | h0
    · rw [h0] at hj; simp at hj
    · exact h0
  have hl := Nat.mod_lt j hz
  rw [List.getD_eq_getElem?_getD, List.getElem?_eq_getElem hl]
  exact h _ (List.getElem_mem hl)
theorem zeros_rel {K : Kn} {z : List AV} {zs : Array Value} (h : RelL K z zs.toList) (n : Nat) : RelL K (zerosAV z n) (Builtin.zeroCells zs n).toList := by
  have hl : z.length = zs.size := by simpa using h.1
  refine ⟨by rw [zerosAV_len]; simp [Builtin.zeroCells, hl], fun j c v hc hv => ?_⟩
  have hj : j < n * z.length := by
    have := (List.getElem?_eq_some_iff.1 hc).1
    rwa [zerosAV_len] at this
  have hz : 0 < z.length := by
    rcases Nat.eq_zero_or_pos z.length with h0 | h0
    · rw [h0] at hj; simp at hj
    · exact h0
  have hm := Nat.mod_lt j hz
  have hm' : j % zs.size < zs.size := by rw [← hl]; exact hm
  have e1 : c = z[j % z.length] := by
    simp only [zerosAV, List.getElem?_map, List.getElem?_range hj, Option.map_some, Option.some.injEq] at hc
    rw [← hc, List.getD_eq_getElem?_getD, List.getElem?_eq_getElem hm]; rfl
  have e2 : v = zs[j % zs.size] := by
    have hj' : j < n * zs.size := by rw [← hl]; exact hj
    simp only [Builtin.zeroCells, Array.getElem?_toList, Array.getElem?_map, Array.getElem?_range] at hv
    rw [if_pos hj'] at hv
    simp only [Option.map_some, Option.some.injEq] at hv
    rw [← hv]
    exact getElem!_pos zs (j % zs.size) hm'
  refine h.2 (j % z.length) c v ?_ ?_
  · rw [e1, List.getElem?_eq_getElem hm]
  · rw [e2, hl]; simp [hm']

theorem run_append_mut {P : Program} {w0 w : World} {K : Kn} {S : List En} (hS : RelS w0 K S w) {t ty e : TypeId} {i : TI} (ht : P.underlying t = some (.slice e)) (hi : TOk P e i) {sz sz' : Nat} {xs : List AV} {tk' : Tk} {v x : Value}
    (hv : Rel K (.sl sz [] .full) v) (hx : Rel K (.sl sz' xs tk') x) (hsz' : i.sz = sz' ∨ xs = []) (hroom : roomFor xs.length i.by_) :
    ∃ v' w' b cap rest, (Builtin.append_ #[t, t] ty #[v, x]).run P w = .ok v' w' ∧ Rel K (.msl b 0 xs.length cap) v' ∧ RelS w0 K (hold xs.length b (flat xs ++ rest) S) w' ∧ xs.length ≤ cap ∧ (xs = [] → cap = 0) ∧ rest.length = (cap - xs.length) * i.sz := by
  obtain ⟨inf, z, hinf, hs, hb, hz, hzr, hz1⟩ := hi.get
  have hmaxl : xs.length ≤ maxLen := by have := hroom.2.2; simpa [maxLen] using this
  by_cases hxs : xs = []
  · subst hxs
    refine ⟨v, w, 0, 0, [], ?_, ?_, by simpa [hold] using hS, by simp, fun _ => rfl, by simp⟩
    · rcases sl_cases hx with ⟨a0, rfl, _, _⟩ | ⟨bx, ox, cx, ns, hxa, _⟩
      · rcases sl_cases hv with ⟨a0, rfl, _, _⟩ | ⟨bv, ov, cv, vs, hva, _⟩
        · exact run_append_none ht hi _ _ _ _ _ (Nat.le_refl _)
        · rw [hva.eq]; exact run_append_none ht hi _ _ _ _ _ hva.hcap
      · rw [hxa.eq]
        rcases sl_cases hv with ⟨a0, rfl, _, _⟩ | ⟨bv, ov, cv, vs, hva, _⟩
        · exact run_append_none ht hi _ _ _ _ _ (Nat.le_refl _)
        · rw [hva.eq]; exact run_append_none ht hi _ _ _ _ _ hva.hcap
    · rcases sl_cases hv with ⟨a0, rfl, _, _⟩ | ⟨bv, ov, cv, vs, hva, htk⟩
      · exact .mslnil _ _ _
      · rw [hva.eq]; simp only [TkOk] at htk; subst htk; exact .msl _ _ _ _ (by simp) (by simp) (.inr (by simp))
  · have hpos : 0 < xs.length := by cases xs with | nil => exact absurd rfl hxs | cons a l => simp
    rcases sl_cases hx with ⟨a0, _, h, _⟩ | ⟨bx, ox, cx, ns, hxa, _⟩
    · exact absurd h hxs
    · have hxl : ns.length = xs.length * i.sz := by rw [← hxa.rel.1, flat_take (all_sz hxa.szs hsz')]
      have hxc : ∀ (j : Nat) (u : Value), ns[j]? = some u → w.cell? ((⟨bx, ox, none⟩ : Addr).add j) = some u := by
        intro j u hu; rw [Addr.add_lit]; exact hS.kcell _ _ _ (hxa.known j u hu)
      have fin : ∀ m : Nat, ∃ rest : List AV, rest.length = m * i.sz ∧ RelS w0 K (hold xs.length w.heap.size (flat xs ++ rest) S) (w.drew.alloc (.cells (ns.toArray ++ Builtin.zeroCells z.cells m) e)) := by
        intro m
        refine ⟨zerosAV i.zero m, by rw [zerosAV_len, hi.len], ?_⟩
        rw [hold, if_neg (by omega)]
        refine (hS.drew).allocCells e (cs := flat xs ++ zerosAV i.zero m) ?_ ?_
        · intro c hc
          rcases List.mem_append.1 hc with hc | hc
          · exact hxa.one c hc
          · exact zerosAV_one hz1 m c hc
        · rw [Array.toList_append]
          exact RelL.append (by simpa using hxa.rel) (zeros_rel (hzr K) m)
      rcases sl_cases hv with ⟨a0, rfl, _, _⟩ | ⟨bv, ov, cv, vs, hva, htk⟩
      · have hrun := run_append_zero (P := P) (w := w) t ty e inf z ht hinf hz a0 ⟨bx, ox, none⟩ xs.length cx ns (by rw [hxl, hs]) hxc hpos (by have := hroom.2.2; omega) (by
          rw [hb]; have := hroom.1; omega)
        obtain ⟨rest, hrl, hr⟩ := fin (grownCap w xs.length 0 e - xs.length)
        exact ⟨_, _, w.heap.size, _, rest, by rw [hxa.eq]; exact hrun, .msl _ _ _ _ (grownCap_ge _ _ _ _) (grownCap_lt _ _ _ _ hmaxl) (.inl ⟨rfl, rfl⟩), hr, grownCap_ge _ _ _ _, fun h => absurd h hxs, hrl⟩
      · simp only [TkOk] at htk
        subst htk
        have hvs : vs = [] := by have := hva.rel.1; simpa [flat] using this.symm
        subst hvs
        have hrun := run_append_grow (P := P) w t ty e inf z ht hinf hz ⟨bv, ov, none⟩ 0 0 [] (by simp) (fun j u hu => by simp at hu) ⟨bx, ox, none⟩ xs.length cx ns (by rw [hxl, hs]) hxc (by omega)
          (by have := hroom.2.2; simp; omega) (by rw [hb]; simpa using hroom.cap hpos)
        obtain ⟨rest, hrl, hr⟩ := fin (grownCap w xs.length 0 e - xs.length)
        simp only [Nat.zero_add] at hrun
        refine ⟨_, _, w.heap.size, _, rest, by rw [hva.eq, hxa.eq]; exact hrun, .msl _ _ _ _ (grownCap_ge _ _ _ _) (grownCap_lt _ _ _ _ hmaxl) (.inl ⟨rfl, rfl⟩), ?_, grownCap_ge _ _ _ _, fun h => absurd h hxs, hrl⟩
        simpa using hr

theorem run_slice_raw {P : Program} {w : World} {K : Kn} {t e : TypeId} {i : TI} (hu : P.underlying t = some (.slice e)) (hi' : TOk P e i) {a : Option Addr} {n cap : Nat}
    {lo hi mx : Option AV} {lo' hi'' mx' : Option Value} (hlo : RelO K lo lo') (hhi : RelO K hi hi'') (hmx : RelO K mx mx') (hmh : mx.isSome = true → hi.isSome = true)
    (h0 : 0 ≤ bnd lo 0) (h1 : bnd lo 0 ≤ bnd hi n) (h2 : bnd hi n ≤ bnd mx cap) (h3 : bnd mx cap ≤ cap) :
    (Instr.sliceAt t (.slice a n cap) lo' hi'' mx').run P w = .ok (.slice (if (bnd mx cap).toNat = (bnd lo 0).toNat then a else a.map (·.add ((bnd lo 0).toNat * i.sz))) ((bnd hi n).toNat - (bnd lo 0).toNat) ((bnd mx cap).toNat - (bnd lo 0).toNat)) w := by
  have hb := run_sliceBounds (P := P) (w := w) (isS := true) (len := n) (cap := cap) hlo hhi hmx hmh h0 h1 h2 h3
  simp only [Instr.sliceAt]
  rw [run_bind_ok (run_underlying hu w)]
  simp only [Instr.slice]
  rw [run_bind_ok (run_underlying hu w)]
  simp only []
  rw [run_bind_ok hb]
  simp only []
  rw [run_bind_ok (hi'.sizeOf w)]
  rfl

theorem run_slice_msl {P : Program} {w : World} {K : Kn} {t e : TypeId} {i : TI} (hu : P.underlying t = some (.slice e)) (hi' : TOk P e i) {b off n cap : Nat} {v : Value} (hv : Rel K (.msl b off n cap) v)
    {lo hi mx : Option AV} {lo' hi'' mx' : Option Value} (hlo : RelO K lo lo') (hhi : RelO K hi hi'') (hmx : RelO K mx mx') (hmh : mx.isSome = true → hi.isSome = true)
    (h0 : 0 ≤ bnd lo 0) (h1 : bnd lo 0 ≤ bnd hi n) (h2 : bnd hi n ≤ bnd mx cap) (h3 : bnd mx cap ≤ cap) :
    ∃ x, (Instr.sliceAt t v lo' hi'' mx').run P w = .ok x w ∧ Rel K (.msl b (off + (bnd lo 0).toNat * i.sz) ((bnd hi n).toNat - (bnd lo 0).toNat) ((bnd mx cap).toNat - (bnd lo 0).toNat)) x := by
  cases hv with
  | mslnil _ _ a0 =>
    have hr := run_slice_raw (w := w) (a := a0) hu hi' hlo hhi hmx hmh h0 h1 h2 h3
    refine ⟨_, hr, ?_⟩
    have e1 : (bnd mx (0 : Nat)).toNat = 0 := by simp at h3 ⊢; omega
    have e2 : (bnd lo 0).toNat = 0 := by simp at h3 h2 h1; omega
    have e3 : (bnd hi (0 : Nat)).toNat = 0 := by simp at h3 h2 h1 ⊢; omega
    rw [e1, e2, e3]
    exact .mslnil _ _ _
  | @msl _ _ _ _ b' o' hle hmax ho =>
    have hr := run_slice_raw (w := w) (a := some ⟨b', o', none⟩) hu hi' hlo hhi hmx hmh h0 h1 h2 h3
    refine ⟨_, hr, ?_⟩
    split
    · rename_i he
      rw [he, Nat.sub_self]
      exact .msl _ _ _ _ (by omega) (by omega) (.inr rfl)
    · simp only [Option.map_some, Addr.add_lit]
      refine .msl _ _ _ _ (by omega) (by omega) ?_
      rcases ho with ⟨rfl, rfl⟩ | ho
      · exact .inl ⟨rfl, rfl⟩
      · right; omega

theorem run_clear_msl {P : Program} {w0 w : World} {K : Kn} {S : List En} (hS : RelS w0 K S w) {t ty e : TypeId} {i : TI} (hu : P.underlying t = some (.slice e)) (hi : TOk P e i) {b off n cap p : Nat} {cs : List AV} (hp : S[p]? = some (.cells b cs)) {v : Value} (hv : Rel K (.msl b off n cap) v)
    (hs : off + n * i.sz ≤ cs.length) :
    ∃ w', (Builtin.clear_ #[t] ty #[v]).run P w = .ok (.tuple #[]) w' ∧ RelS w0 K (S.set p (.cells b (setCells cs off (zerosAV i.zero n)))) w' := by
  have h0 : ∀ w, n = 0 → RelS w0 K S w → RelS w0 K (S.set p (.cells b (setCells cs off (zerosAV i.zero n)))) w := by
    intro w hn hS
    subst hn
    have e : setCells cs off (zerosAV i.zero 0) = cs := by simp [setCells, zerosAV]
    rw [e]
    have : S.set p (.cells b cs) = S := by
      apply List.ext_getElem?
      intro q
      rw [List.getElem?_set]
      split
      · rename_i h; subst h; rw [hp]; simp [(List.getElem?_eq_some_iff.1 hp).1]
      · rfl
    rw [this]; exact hS
  cases hv with
  | mslnil _ _ a0 => exact ⟨w, by cases a0 <;> simp [Builtin.clear_, run_underlying hu], h0 w rfl hS⟩
  | @msl _ _ _ _ b' o' hle hmax ho =>
    cases n with
    | zero => exact ⟨w, by simp [Builtin.clear_, run_underlying hu], h0 w rfl hS⟩
    | succ n =>
      obtain ⟨rfl, rfl⟩ : b' = b ∧ o' = off := by
        rcases ho with ho | ho
        · exact ho
        · omega
      obtain ⟨inf, z, hinf, hs', hb', hz, hzr, hz1⟩ := hi.get
      obtain ⟨hB, hK, h1, vs, T, hh, hr⟩ := hS.ents _ (List.mem_of_getElem? hp)
      have hzrel := zeros_rel (hzr K) (n + 1)
      have hzl : (Builtin.zeroCells z.cells (n + 1)).toList.length = (n + 1) * i.sz := by rw [← hzrel.1, zerosAV_len, hi.len]
      have hst := run_storeCells_at P b' o' T (Builtin.zeroCells z.cells (n + 1)).toList 0 vs w hh (by
        have : cs.length = vs.toList.length := hr.1
        rw [hzl]; simp only [Array.length_toList] at this; omega) (relL_one hzrel (zerosAV_one hz1 _))
      have hfin : (Builtin.clear_ #[t] ty #[.slice (some ⟨b', o', none⟩) (n + 1) cap]).run P w = .ok (.tuple #[]) (w.setRow b' (List.take (o' + 0) vs.toList ++ (Builtin.zeroCells z.cells (n + 1)).toList ++ List.drop (o' + 0 + (Builtin.zeroCells z.cells (n + 1)).toList.length) vs.toList).toArray) := by
        simp only [Builtin.clear_]
        have hz0 : (zeroValue e).run P w = .ok z w := by simp [zeroValue, typeInfo, hinf, hz]
        simp only [List.getElem?_toArray, List.getElem?_cons_zero]
        rw [run_bind_ok (run_underlying hu w)]
        simp only []
        rw [run_bind_ok hz0, run_bind_ok hst]
        rfl
      refine ⟨_, hfin, ?_⟩
      · refine hS.turn hp (b := b') rfl (Kle.refl K) (fun _ _ => rfl) (fun c hc => setRow_other _ _ _ _ hc) (by simp) rfl rfl rfl (fun j u hu => by rw [hK] at hu; simp at hu) (fun c t fr hc => ⟨_, _, setRow_heap _ _ _ _ _ _ hc⟩) (.inl rfl)
          ⟨hB, hK, ?_, _, T, setRow_heap _ _ _ _ _ _ hh, ?_⟩
        · intro c hc
          simp only [setCells, List.mem_append] at hc
          rcases hc with (hc | hc) | hc
          · exact h1 c (List.mem_of_mem_take hc)
          · exact zerosAV_one hz1 _ c hc
          · exact h1 c (List.mem_of_mem_drop hc)
        · simp only [setCells, Nat.add_zero]
          have e : (zerosAV i.zero (n + 1)).length = (Builtin.zeroCells z.cells (n + 1)).toList.length := hzrel.1
          rw [e]
          exact ((hr.take o').append hzrel).append (hr.drop _)

theorem run_equalIn_nil {P : Program} {w : World} {t e : TypeId} (hu : P.underlying t = some (.slice e)) (d : Nat) (a : Option Addr) (n c : Nat) : (Op.equalIn (d + 1) t (.slice a n c) (.slice none 0 0)).run P w = .ok a.isNone w := by
  cases a <;> simp [Op.equalIn, run_underlying hu]
/-- a slice held against nil -/
theorem run_nilEq {P : Program} {w : World} {t e : TypeId} (hu : P.underlying t = some (.slice e)) (a : Option Addr) (n c : Nat) (ox oy : Operand) :
    ((do eqGuard .eql t ox oy (.slice a n c) (.slice none 0 0); binOp .eql t (.slice a n c) (.slice none 0 0) : Sem Value)).run P w = .ok (.bool a.isNone) w ∧
    ((do eqGuard .neq t ox oy (.slice a n c) (.slice none 0 0); binOp .neq t (.slice a n c) (.slice none 0 0) : Sem Value)).run P w = .ok (.bool (!a.isNone)) w := by
  have h : (Op.equal t (.slice a n c) (.slice none 0 0)).run P w = .ok a.isNone w := run_equalIn_nil hu 9999 a n c
  constructor
  · show ((do eqGuard .eql t ox oy (.slice a n c) (.slice none 0 0); (do pure (.bool (← Op.equal t (.slice a n c) (.slice none 0 0))) : Sem Value)) : Sem Value).run P w = _
    rw [run_bind_ok (a := ()) (w' := w) rfl, run_bind_ok h]; rfl
  · show ((do eqGuard .neq t ox oy (.slice a n c) (.slice none 0 0); (do pure (.bool (!(← Op.equal t (.slice a n c) (.slice none 0 0)))) : Sem Value)) : Sem Value).run P w = _
    rw [run_bind_ok (a := ()) (w' := w) rfl, run_bind_ok h]; rfl
end Go.Aw
