/-
  Maps whose keys are texts: made, asked, set. Own work.
-/
import Derived.Test.YtgkjbpnmeeibbaaGreatDoorAw17
import Derived.MapKept
import Derived.Laws.MakeOwn
set_option linter.all false
namespace Go.Aw
open Go.RowKit Go.MapKept

/-- entries, by their keys -/
def mkM (l : List (List UInt8 × AV)) : List (AV × AV) := l.map fun p => (.str p.1, p.2)
def mget (s : List UInt8) (z : AV) : List (List UInt8 × AV) → AV × Bool
  | [] => (z, false)
  | p :: r => if p.1 = s then (p.2, true) else mget s z r
def mput (s : List UInt8) (v : AV) : List (List UInt8 × AV) → List (List UInt8 × AV)
  | [] => [(s, v)]
  | p :: r => if p.1 = s then (s, v) :: r else p :: mput s v r
/-- what a type's values are at first: a number or a truth value -/
def zeroIs (P : Program) (e : TypeId) (z : AV) : Prop := match z with
  | .int q n => q.has n ∧ ∃ x, P.info? e = some x ∧ x.zero = some (.int q n)
  | .bool b => ∃ x, P.info? e = some x ∧ x.zero = some (.bool b)
  | _ => False

theorem mget_no {s : List UInt8} {z : AV} : ∀ {l : List (List UInt8 × AV)}, (∀ p ∈ l, p.1 ≠ s) → mget s z l = (z, false)
  | [], _ => rfl
  | p :: r, h => by rw [mget, if_neg (h p (.head _)), mget_no fun q hq => h q (.tail _ hq)]
theorem mput_no {s : List UInt8} {v : AV} : ∀ {l : List (List UInt8 × AV)}, (∀ p ∈ l, p.1 ≠ s) → mput s v l = l ++ [(s, v)]
  | [], _ => rfl
  | p :: r, h => by rw [mput, if_neg (h p (.head _)), mput_no fun q hq => h q (.tail _ hq)]; rfl
theorem keys_eq {K : Kn} : ∀ {l : List (List UInt8 × AV)} {vs : List Value}, RelL K ((mkM l).map (·.1)) vs → vs = l.map fun p => Value.string ⟨p.1.toArray⟩
  | [], vs, h => h.nil_inv
  | p :: l, vs, h => by
    obtain ⟨v, r, rfl, h1, h2⟩ := h.cons_inv
    cases h1
    rw [keys_eq h2]; rfl
theorem same_str (s t : List UInt8) : Instr.sameNow .string (.string ⟨s.toArray⟩) (.string ⟨t.toArray⟩) = some (decide (t = s)) := by
  have h : ((⟨s.toArray⟩ : ByteArray) == ⟨t.toArray⟩) = decide (t = s) := by
    by_cases e : t = s
    · subst e; rw [decide_eq_true rfl]; exact (bytes_beq _ _).2 rfl
    · rw [decide_eq_false e]
      cases hb : ((⟨s.toArray⟩ : ByteArray) == ⟨t.toArray⟩) with
      | false => rfl
      | true =>
        have := (bytes_beq _ _).1 hb
        exact absurd (by simpa using this.symm) e
  show some ((⟨s.toArray⟩ : ByteArray) == ⟨t.toArray⟩) = _
  rw [h]
theorem findNow_str {s : List UInt8} : ∀ (l : List (List UInt8 × AV)) (es : List MapEntry) (i : Nat), es.map (·.key) = (l.map fun p => Value.string ⟨p.1.toArray⟩) →
    (Instr.findNow .string (.string ⟨s.toArray⟩) es i = some none ∧ ∀ p ∈ l, p.1 ≠ s) ∨
    ∃ j e p, Instr.findNow .string (.string ⟨s.toArray⟩) es i = some (some (i + j, e.val)) ∧ es[j]? = some e ∧ l[j]? = some p ∧ p.1 = s ∧ (∀ z, mget s z l = (p.2, true)) ∧ ∀ v, mput s v l = l.set j (s, v)
  | [], [], i, _ => .inl ⟨rfl, by simp⟩
  | [], e :: es, i, h => by simp at h
  | p :: l, [], i, h => by simp at h
  | p :: l, e :: es, i, h => by
    simp only [List.map_cons, List.cons.injEq] at h
    have hs := same_str s p.1
    by_cases hp : p.1 = s
    · refine .inr ⟨0, e, p, ?_, rfl, rfl, hp, fun z => by rw [mget, if_pos hp], fun v => by rw [mput, if_pos hp]; rfl⟩
      rw [Instr.findNow, h.1, hs, decide_eq_true hp]; rfl
    · have e1 : Instr.findNow .string (.string ⟨s.toArray⟩) (e :: es) i = Instr.findNow .string (.string ⟨s.toArray⟩) es (i + 1) := by
        rw [Instr.findNow, h.1, hs, decide_eq_false hp]
      rcases findNow_str l es (i + 1) h.2 with ⟨h1, h2⟩ | ⟨j, e', q, h1, h2, h3, h4, h5, h6⟩
      · refine .inl ⟨e1.trans h1, fun q hq => ?_⟩
        rcases List.mem_cons.1 hq with rfl | hq
        · exact hp
        · exact h2 q hq
      · refine .inr ⟨j + 1, e', q, e1.trans (by rw [h1]; congr 3; omega), by simpa using h2, by simpa using h3, h4, fun z => by rw [mget, if_neg hp, h5], fun v => by rw [mput, if_neg hp, h6]; rfl⟩

theorem run_mapNew {P : Program} {w0 w : World} {K : Kn} {S : List En} (hS : RelS w0 K S w) (t : TypeId) :
    (Instr.makeMap t none).run P w = .ok (.map (some w.heap.size)) (w.alloc (.map #[] 0)) ∧ RelS w0 K (.map w.heap.size (mkM []) :: S) (w.alloc (.map #[] 0)) :=
  ⟨rfl, hS.consNew (hS.allocObj _) (fun b hb => by simpa [En.blk] using hb.symm) ⟨hS.below.size, hS.klt (Nat.le_refl _), #[], 0, heap_alloc_new _ _, rfl, RelL.nil, by simp [mkM]⟩⟩
theorem zero_run {P : Program} {w : World} {K : Kn} {e : TypeId} {z : AV} (h : zeroIs P e z) : ∃ v, (zeroValue e).run P w = .ok v w ∧ Rel K z v := by
  unfold zeroIs at h
  split at h
  · obtain ⟨hq, x, h1, h2⟩ := h
    exact ⟨_, by simp [zeroValue, typeInfo, h1, h2], .int _ _ hq⟩
  · obtain ⟨x, h1, h2⟩ := h
    exact ⟨_, by simp [zeroValue, typeInfo, h1, h2], .bool _⟩
  · exact h.elim
def lkV (ok : Bool) (v : AV × Bool) : AV := bif ok then .tup [v.1, .bool v.2] else v.1
theorem lkV_rel {K : Kn} {ok : Bool} {v : AV × Bool} {x : Value} (h : Rel K v.1 x) : Rel K (lkV ok v) (if ok then .tuple #[x, .bool v.2] else x) := by
  cases ok with
  | false => exact h
  | true =>
    have := RelL.cons (K := K) h (RelL.cons (.bool v.2) RelL.nil)
    exact .tup this.1 this.2
theorem run_mapGet {P : Program} {w0 w : World} {K : Kn} {S : List En} (hS : RelS w0 K S w) {t kt e : TypeId} (hm : P.underlying t = some (.map kt e)) (hk : P.underlying kt = some .string) {z : AV} (hz : zeroIs P e z)
    {b p : Nat} {l : List (List UInt8 × AV)} (hp : S[p]? = some (.map b (mkM l))) {s : List UInt8} {sv : Value} (hs : Rel K (.str s) sv) (ok : Bool) :
    ∃ v, (Instr.lookup t (.map (some b)) sv ok).run P w = .ok v w ∧ Rel K (lkV ok (mget s z l)) v := by
  obtain ⟨_, _, es, clk, hb, hclk, hkeys, hvals⟩ := hS.ents _ (List.mem_of_getElem? hp)
  cases hs
  have hkeys' := keys_eq hkeys
  have hK : IsKey .string (.string ⟨s.toArray⟩) := trivial
  rcases findNow_str (s := s) l es.toList 0 hkeys' with ⟨h1, h2⟩ | ⟨j, en, q, h1, h2, h3, h4, h5, h6⟩
  · obtain ⟨v, hv, hr⟩ := zero_run (w := w) (K := K) hz
    refine ⟨if ok then .tuple #[v, .bool false] else v, ?_, ?_⟩
    · simp [Instr.lookup, run_underlying hm, Go.MapKept.run_getObj_map hb, run_checkKey hk hK, run_findKey hk h1, hv, Result.andThen]
    · rw [mget_no h2]; exact lkV_rel hr
  · have hr := (hvals j (.str q.1, q.2) en (by rw [mkM, List.getElem?_map, h3]; rfl) h2).1
    refine ⟨if ok then .tuple #[en.val, .bool true] else en.val, ?_, ?_⟩
    · simp [Instr.lookup, run_underlying hm, Go.MapKept.run_getObj_map hb, run_checkKey hk hK, run_findKey hk h1, Result.andThen]
    · rw [h5]; exact lkV_rel hr
theorem RelS.remap {w0 w : World} {K : Kn} {S : List En} {p b : Nat} {kvs kvs' : List (AV × AV)} (h : RelS w0 K S w) (hp : S[p]? = some (.map b kvs)) {es : Array MapEntry}
    (hk : RelL K (kvs'.map (·.1)) (es.toList.map (·.key))) (hv : ∀ (i : Nat) (kv : AV × AV) (e : MapEntry), kvs'[i]? = some kv → es.toList[i]? = some e → Rel K kv.2 e.val ∧ e.born = i) :
    RelS w0 K (S.set p (.map b kvs')) { w with heap := w.heap.setIfInBounds b (.map es kvs'.length) } := by
  obtain ⟨hB, hK, es0, clk0, hh, _⟩ := h.ents _ (List.mem_of_getElem? hp)
  have hd : b < w.heap.size := (Array.getElem?_eq_some_iff.1 hh).1
  have hbb : ({ w with heap := w.heap.setIfInBounds b (.map es kvs'.length) } : World).heap[b]? = some (.map es kvs'.length) := by simp [hd]
  refine h.turn (e' := .map b kvs') hp (b := b) rfl (Kle.refl K) (fun _ _ => rfl) (fun c hc => ?_) (by simp) rfl rfl rfl (fun i v hv => by rw [hK] at hv; simp at hv) (fun c t fr hc => by rw [hh] at hc; cases hc) (.inl rfl) ⟨hB, hK, es, kvs'.length, hbb, rfl, hk, hv⟩
  show (w.heap.setIfInBounds b (.map es kvs'.length))[c]? = _
  rw [Array.getElem?_setIfInBounds_ne (Ne.symm hc)]
theorem run_mapPut {P : Program} {w0 w : World} {K : Kn} {S : List En} (hS : RelS w0 K S w) {t kt e : TypeId} (hm : P.underlying t = some (.map kt e)) (hk : P.underlying kt = some .string)
    {b p : Nat} {l : List (List UInt8 × AV)} (hp : S[p]? = some (.map b (mkM l))) {s : List UInt8} {sv : Value} (hs : Rel K (.str s) sv) {v : AV} {x : Value} (hx : Rel K v x) :
    ∃ w', (Instr.mapUpdate t (.map (some b)) sv x).run P w = .ok () w' ∧ RelS w0 K (S.set p (.map b (mkM (mput s v l)))) w' := by
  obtain ⟨_, _, es, clk, hb, hclk, hkeys, hvals⟩ := hS.ents _ (List.mem_of_getElem? hp)
  cases hs with
  | str _ hmax =>
  have hkeys' := keys_eq hkeys
  have hK : IsKey .string (.string ⟨s.toArray⟩) := trivial
  have hlen : es.toList.length = l.length := by have := congrArg List.length hkeys'; simpa using this
  rcases findNow_str (s := s) l es.toList 0 hkeys' with ⟨h1, h2⟩ | ⟨j, en, q, h1, h2, h3, h4, h5, h6⟩
  · have hl : clk = l.length := by rw [hclk, mkM, List.length_map]
    refine ⟨_, by simp [Instr.mapUpdate, run_underlying hm, Go.MapKept.run_getObj_map hb, run_checkKey hk hK, run_findKey hk h1, Go.MapKept.run_setObj_map _ hb, Result.andThen]; rfl, ?_⟩
    rw [mput_no h2]
    have e1 : clk + 1 = (mkM (l ++ [(s, v)])).length := by rw [mkM, List.length_map, List.length_append, hl]; rfl
    rw [e1]
    refine hS.remap hp ?_ fun i kv en hi he => ?_
    · have := RelL.append hkeys (RelL.cons (K := K) (Rel.str s hmax) RelL.nil)
      simpa [mkM] using this
    · rw [mkM, List.map_append] at hi
      rw [Array.toList_push] at he
      by_cases hc : i < l.length
      · rw [List.getElem?_append_left (by simpa using hc)] at hi
        rw [List.getElem?_append_left (by rw [hlen]; exact hc)] at he
        exact hvals i kv en hi he
      · rw [List.getElem?_append_right (by simp; omega)] at hi
        rw [List.getElem?_append_right (by rw [hlen]; omega)] at he
        have hi0 : i - (l.map fun p => (AV.str p.1, p.2)).length = 0 := by
          have := (List.getElem?_eq_some_iff.1 hi).1
          simp at this
          simp; omega
        have he0 : i - es.toList.length = 0 := by rw [hlen]; simpa using hi0
        rw [hi0] at hi
        rw [he0] at he
        simp only [List.map_cons, List.map_nil, List.getElem?_cons_zero, Option.some.injEq] at hi he
        subst hi; subst he
        exact ⟨hx, by show clk = i; rw [hl]; rw [hlen] at he0; omega⟩
  · have hj : es[j]? = some en := by simpa using h2
    have hkey : en.key = .string ⟨s.toArray⟩ := by
      have := congrArg (fun l => l[j]?) hkeys'
      simp only [List.getElem?_map, h2, h3, Option.map_some, Option.some.injEq] at this
      rw [this, h4]
    refine ⟨_, by simp [Instr.mapUpdate, run_underlying hm, Go.MapKept.run_getObj_map hb, run_checkKey hk hK, run_findKey hk h1, hj, hkey, run_keyThatStays hK, Go.MapKept.run_setObj_map _ hb, Result.andThen]; rfl, ?_⟩
    rw [h6]
    have e1 : clk = (mkM (l.set j (s, v))).length := by rw [hclk, mkM, mkM, List.length_map, List.length_map, List.length_set]
    rw [e1]
    have hks : (l.set j (s, v)).map (fun p => Value.string ⟨p.1.toArray⟩) = l.map fun p => Value.string ⟨p.1.toArray⟩ := by
      apply List.ext_getElem?
      intro i
      rw [List.getElem?_map, List.getElem?_map, List.getElem?_set]
      by_cases hij : j = i
      · subst hij
        have hjl := (List.getElem?_eq_some_iff.1 h3).1
        rw [if_pos rfl, if_pos hjl, h3]
        simp [h4]
      · rw [if_neg hij]
    refine hS.remap hp ?_ fun i kv en' hi he => ?_
    · rw [modify_keys j _ (fun e' he' => by rw [hj] at he'; cases he'; exact hkey.symm)]
      have e2 : (mkM (l.set j (s, v))).map (·.1) = (mkM l).map (·.1) := by
        apply List.ext_getElem?
        intro i
        rw [mkM, mkM, List.map_map, List.map_map, List.getElem?_map, List.getElem?_map, List.getElem?_set]
        by_cases hij : j = i
        · subst hij
          have hjl := (List.getElem?_eq_some_iff.1 h3).1
          rw [if_pos rfl, if_pos hjl, h3]
          simp [h4]
        · rw [if_neg hij]
      rw [e2]; exact hkeys
    · rw [Array.getElem?_toList, Array.getElem?_modify] at he
      rw [mkM, List.getElem?_map, List.getElem?_set] at hi
      by_cases hij : j = i
      · subst hij
        have hjl := (List.getElem?_eq_some_iff.1 h3).1
        rw [if_pos rfl, if_pos hjl] at hi
        rw [if_pos rfl, hj] at he
        simp only [Option.map_some, Option.some.injEq] at hi he
        subst hi; subst he
        exact ⟨hx, (hvals j (.str q.1, q.2) en (by rw [mkM, List.getElem?_map, h3]; rfl) h2).2⟩
      · rw [if_neg hij] at hi he
        exact hvals i kv en' (by rw [mkM, List.getElem?_map]; exact hi) (by simpa using he)
/-! ### an entry made, and set later -/
theorem run_mapEnt {P : Program} {w0 w : World} {K : Kn} {S : List En} (hS : RelS w0 K S w) {t kt e : TypeId} (hm : P.underlying t = some (.map kt e)) (hk : P.underlying kt = some .string) {z : AV} (hz : zeroIs P e z)
    {b p : Nat} {l : List (List UInt8 × AV)} (hp : S[p]? = some (.map b (mkM l))) {s : List UInt8} {sv : Value} (hs : Rel K (.str s) sv) (hn : ∀ q ∈ l, q.1 ≠ s) (hl63 : l.length ≤ 9223372036854775807) :
    ∃ v w', (Instr.mapEntry t (.map (some b)) sv).run P w = .ok v w' ∧ Rel K (.tup [z, .int .i64 (l.length : Nat)]) v ∧ RelS w0 K (S.set p (.map b (mkM (l ++ [(s, z)])))) w' := by
  obtain ⟨_, _, es, clk, hb, hclk, hkeys, hvals⟩ := hS.ents _ (List.mem_of_getElem? hp)
  cases hs with
  | str _ hmax =>
  have hkeys' := keys_eq hkeys
  have hK : IsKey .string (.string ⟨s.toArray⟩) := trivial
  have hlen : es.toList.length = l.length := by have := congrArg List.length hkeys'; simpa using this
  rcases findNow_str (s := s) l es.toList 0 hkeys' with ⟨h1, h2⟩ | ⟨j, en, q, h1, h2, h3, h4, h5, h6⟩
  · have hl : clk = l.length := by rw [hclk, mkM, List.length_map]
    obtain ⟨v, hv, hr⟩ := zero_run (w := w) (K := K) hz
    have hint : IntKind.i64.has ((l.length : Nat) : Int) := by simp only [IntKind.has, IntKind.min, IntKind.max, IntKind.bits, IntKind.signed]; simp; omega
    have ht := RelL.cons (K := K) hr (RelL.cons (.int .i64 ((l.length : Nat) : Int) hint) RelL.nil)
    refine ⟨.tuple #[v, goInt clk], _, by simp [Instr.mapEntry, run_underlying hm, Go.MapKept.run_getObj_map hb, run_checkKey hk hK, run_findKey hk h1, hv, Go.MapKept.run_setObj_map _ hb, Result.andThen]; rfl, ?_, ?_⟩
    · rw [hl]; exact .tup ht.1 ht.2
    · have e1 : clk + 1 = (mkM (l ++ [(s, z)])).length := by rw [mkM, List.length_map, List.length_append, hl]; rfl
      rw [e1]
      refine hS.remap hp ?_ fun i kv en hi he => ?_
      · have := RelL.append hkeys (RelL.cons (K := K) (Rel.str s hmax) RelL.nil)
        simpa [mkM] using this
      · rw [mkM, List.map_append] at hi
        rw [Array.toList_push] at he
        by_cases hc : i < l.length
        · rw [List.getElem?_append_left (by simpa using hc)] at hi
          rw [List.getElem?_append_left (by rw [hlen]; exact hc)] at he
          exact hvals i kv en hi he
        · rw [List.getElem?_append_right (by simp; omega)] at hi
          rw [List.getElem?_append_right (by rw [hlen]; omega)] at he
          have hi0 : i - (l.map fun p => (AV.str p.1, p.2)).length = 0 := by
            have := (List.getElem?_eq_some_iff.1 hi).1
            simp at this
            simp; omega
          have he0 : i - es.toList.length = 0 := by rw [hlen]; simpa using hi0
          rw [hi0] at hi
          rw [he0] at he
          simp only [List.map_cons, List.map_nil, List.getElem?_cons_zero, Option.some.injEq] at hi he
          subst hi; subst he
          exact ⟨hr, by show clk = i; rw [hl]; rw [hlen] at he0; omega⟩
  · exact absurd h4 (hn q (List.mem_of_getElem? h3))
theorem run_entSet {P : Program} {w0 w : World} {K : Kn} {S : List En} (hS : RelS w0 K S w) (t : TypeId) {b p : Nat} {l : List (List UInt8 × AV)} (hp : S[p]? = some (.map b (mkM l))) {q0 : IntKind} {j : Nat} {q : List UInt8 × AV} (hj : l[j]? = some q) {v : AV} {x : Value} (hx : Rel K v x) :
    ∃ w', (Instr.entryStore t (.map (some b)) (.int q0 (j : Int)) x).run P w = .ok () w' ∧ RelS w0 K (S.set p (.map b (mkM (l.set j (q.1, v))))) w' := by
  obtain ⟨_, _, es, clk, hb, hclk, hkeys, hvals⟩ := hS.ents _ (List.mem_of_getElem? hp)
  have hkeys' := keys_eq hkeys
  have hlen : es.toList.length = l.length := by have := congrArg List.length hkeys'; simpa using this
  have hjl : j < l.length := (List.getElem?_eq_some_iff.1 hj).1
  have hborn : ∀ (i : Nat) (hi : i < es.toList.length), es.toList[i].born = i := fun i hi => by
    have hil : i < l.length := by omega
    exact (hvals i (.str l[i].1, l[i].2) es.toList[i] (by rw [mkM, List.getElem?_map, List.getElem?_eq_getElem hil]; rfl) (List.getElem?_eq_getElem hi)).2
  have hf : es.findIdx? (fun e => (e.born : Int) == (j : Int)) = some j := by
    have e : es.findIdx? (fun e => (e.born : Int) == (j : Int)) = es.toList.findIdx? (fun e => (e.born : Int) == (j : Int)) := by cases es; simp
    rw [e]
    refine List.findIdx?_eq_some_iff_getElem.2 ⟨by omega, ?_, fun i hi => ?_⟩
    · rw [hborn j (by omega)]; simp
    · rw [hborn i (by omega)]
      have : (i : Int) ≠ (j : Int) := by omega
      simpa using this
  have hes : es[j]? = some es.toList[j] := by rw [← Array.getElem?_toList, List.getElem?_eq_getElem (by omega)]
  refine ⟨_, by simp [Instr.entryStore, Go.MapKept.run_getObj_map hb, asInt, asIntOf, hf, Go.MapKept.run_setObj_map _ hb, Result.andThen]; rfl, ?_⟩
  have e1 : clk = (mkM (l.set j (q.1, v))).length := by rw [hclk, mkM, mkM, List.length_map, List.length_map, List.length_set]
  rw [e1]
  refine hS.remap hp ?_ fun i kv en' hi he => ?_
  · rw [modify_keys j (fun e => { e with val := x }) (fun e' _ => rfl)]
    have e2 : (mkM (l.set j (q.1, v))).map (·.1) = (mkM l).map (·.1) := by
      apply List.ext_getElem?
      intro i
      rw [mkM, mkM, List.map_map, List.map_map, List.getElem?_map, List.getElem?_map, List.getElem?_set]
      by_cases hij : j = i
      · subst hij
        rw [if_pos rfl, if_pos hjl, hj]; rfl
      · rw [if_neg hij]
    rw [e2]; exact hkeys
  · rw [Array.getElem?_toList, Array.getElem?_modify] at he
    rw [mkM, List.getElem?_map, List.getElem?_set] at hi
    by_cases hij : j = i
    · subst hij
      rw [if_pos rfl, if_pos hjl] at hi
      rw [if_pos rfl, hes] at he
      simp only [Option.map_some, Option.some.injEq] at hi he
      subst hi; subst he
      exact ⟨hx, hborn j (by omega)⟩
    · rw [if_neg hij] at hi he
      exact hvals i kv en' (by rw [mkM, List.getElem?_map]; exact hi) (by simpa using he)
/-! ### rows made new -/
theorem run_makeSl {P : Program} {w0 w : World} {K : Kn} {S : List En} (hS : RelS w0 K S w) {t e : TypeId} {i : TI} (ht : P.underlying t = some (.slice e)) (hi : TOk P e i) {kl kc : IntKind} {n m : Nat} (hnm : n ≤ m) (hr : roomFor m i.by_) :
    ∃ vs, (Instr.makeSlice t (.int kl (n : Int)) (.int kc (m : Int))).run P w = .ok (.slice (some ⟨w.heap.size, 0, none⟩) n m) (w.alloc (.cells vs e)) ∧ vs.size = m * i.sz ∧ RelL K (zerosAV i.zero m) vs.toList ∧ (∀ c ∈ zerosAV i.zero m, c.one = true) := by
  obtain ⟨inf, z, hinf, hs, hb, hz, hzr, hz1⟩ := hi.get
  have hzl : z.cells.size = i.sz := by have := (hzr K).1; rw [hi.len] at this; simpa using this.symm
  refine ⟨madeCells z.cells (m * i.sz), ?_, size_madeCells _ _, ?_, zerosAV_one hz1 m⟩
  · have hB : (inf.bytes : Int) * (m : Int) ≤ 281474976710656 := by
      have h2 := hr.1
      rw [Nat.mul_comm] at h2
      have h3 : ((i.by_ * m : Nat) : Int) ≤ 281474976710656 := by omega
      rw [hb]
      rwa [Int.natCast_mul] at h3
    have h63 : (m : Int) ≤ 9223372036854775807 := by have := hr.2.2; omega
    have h := run_make (P := P) w t e inf z ht hinf hz kl kc (n : Int) (m : Int) (by omega) (by omega) hB h63
    rw [Int.toNat_natCast, Int.toNat_natCast, hs] at h
    exact h
  · have e1 : madeCells z.cells (m * i.sz) = Builtin.zeroCells z.cells m := by rw [madeCells, Builtin.zeroCells, hzl]
    rw [e1]; exact zeros_rel (hzr K) m
theorem run_makeOwn {P : Program} {w0 w : World} {K : Kn} {S : List En} (hS : RelS w0 K S w) {t e : TypeId} {i : TI} (ht : P.underlying t = some (.slice e)) (hi : TOk P e i) {kl kc : IntKind} {m : Nat} (hr : roomFor m i.by_) :
    ∃ v w' t', (Instr.makeSlice t (.int kl ((0 : Nat) : Int)) (.int kc (m : Int))).run P w = .ok v w' ∧ Rel K (.sl i.sz [] t') v ∧ RelS w0 K (.grow t' :: S) w' := by
  obtain ⟨vs, h1, h2, h3, h4⟩ := run_makeSl hS ht hi (kl := kl) (kc := kc) (Nat.zero_le m) hr
  have hm : m ≤ maxLen := by have := hr.2.2; simpa [maxLen] using this
  refine ⟨_, _, .own w.heap.size 0 (m * i.sz), h1, ?_, hS.consNew (hS.allocObj _) (fun b hb => by simpa [En.blk] using hb.symm) ⟨hS.below.size, by rw [hS.klt (Nat.le_refl _)]; rfl, Nat.zero_le _, vs, e, heap_alloc_new _ _, h2⟩⟩
  have := Rel.sl (K := K) (sz := i.sz) (es := []) (t := .own w.heap.size 0 (m * i.sz)) (b := w.heap.size) (off := 0) (cap := m) (vs := []) (Nat.zero_le _) hm (by simp) (by simp [flat]) (by simp [flat]) (by simp [flat]) (by simp) (by simp [TkOk])
  exact this
theorem run_makeMut {P : Program} {w0 w : World} {K : Kn} {S : List En} (hS : RelS w0 K S w) {t e : TypeId} {i : TI} (ht : P.underlying t = some (.slice e)) (hi : TOk P e i) {kl kc : IntKind} {n m : Nat} (hnm : n ≤ m) (hr : roomFor m i.by_) :
    ∃ v w' b, (Instr.makeSlice t (.int kl (n : Int)) (.int kc (m : Int))).run P w = .ok v w' ∧ Rel K (.msl b 0 n m) v ∧ RelS w0 K (.cells b (zerosAV i.zero m) :: S) w' := by
  obtain ⟨vs, h1, h2, h3, h4⟩ := run_makeSl hS ht hi (kl := kl) (kc := kc) hnm hr
  have hm : m ≤ maxLen := by have := hr.2.2; simpa [maxLen] using this
  exact ⟨_, _, w.heap.size, h1, .msl _ 0 n m hnm hm (.inl ⟨rfl, rfl⟩), hS.allocCells e h4 h3⟩
end Go.Aw
