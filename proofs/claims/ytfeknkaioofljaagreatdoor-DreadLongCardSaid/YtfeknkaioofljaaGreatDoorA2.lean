/-
 What the operations ask and give: fields,places,slices,append. Own work.
-/
import Derived.Test.YtfeknkaioofljaaGreatDoorA1
set_option linter.all false
namespace Go.Aw
open Go.RowKit
theorem run_fieldAt {P : Program} {w : World} {t ft : TypeId} {fs : List (Nat × TypeId)} {i : TI} (hd : DOk P t (.struct fs)) {f off : Nat} (hf : fs[f]? = some (off,ft)) (hi : TOk P ft i) (hsz : 1 ≤ i.sz) (b o : Nat) :
  (Instr.fieldAt t (.pointer (some ⟨b,o,none⟩)) f).run P w = .ok (.pointer (some ⟨b,o + off,none⟩)) w := by
 obtain ⟨fields,hu,rfl⟩ := hd
 rw [List.getElem?_map] at hf
 cases hff : fields[f]? with
 | none => rw [Array.getElem?_toList,hff] at hf; cases hf
 | some fl =>
  rw [Array.getElem?_toList,hff] at hf
  simp only [Option.map_some,Option.some.injEq,Prod.mk.injEq] at hf
  obtain ⟨rfl,rfl⟩ := hf
  simp only [Instr.fieldAt]
  rw [run_bind_ok (run_underlying hu w)]
  simp only [hff]
  rw [run_bind_ok (a := (⟨b,o,none⟩ : Addr)) (w' := w) rfl]
  have hfp : (fieldPlace ⟨b,o,none⟩ fl).run P w = .ok ⟨b,o + fl.offset,none⟩ w := by
   unfold fieldPlace
   rw [run_bind_ok (hi.sizeOf w)]
   rw [if_neg (by omega)]
   simp [Addr.add_lit]
  rw [run_bind_ok hfp]
  rfl
def aPart (i : TI) (cs : List AV) (off : Nat) : AV := bif i.d.agg then .agg ((cs.drop off).take i.sz) else (cs.drop off).headD .junk
theorem run_part {P : Program} {w : World} {K : Kn} {t : TypeId} {i : TI} (hi : TOk P t i) (ho : i.d.known = true) {cs : List AV} {vs : List Value} (h1 : ∀ c ∈ cs,c.one = true) (hr : RelL K cs vs) {off : Nat}
  (hs : 1 ≤ i.sz ∧ i.sz ≤ (cs.drop off).length) : ∃ v,(part t vs.toArray off).run P w = .ok v w ∧ Rel K (aPart i cs off) v := by
 have hag := hi.isAgg (TD.known_ne ho) w
 have hr' := hr.drop off
 unfold part aPart
 cases hb : i.d.agg with
 | true =>
  rw [hb] at hag
  obtain ⟨hl,hh⟩ := hr'.take i.sz
  refine ⟨.agg ((vs.drop off).take i.sz).toArray,?_, .agg (fun c hc => h1 c (List.mem_of_mem_drop (List.mem_of_mem_take hc))) hl hh⟩
  rw [run_bind_ok hag]
  simp only [if_true]
  rw [run_bind_ok (hi.sizeOf w)]
  simp [List.extract_eq_take_drop]
 | false =>
  rw [hb] at hag
  cases hc : cs.drop off with
  | nil => rw [hc] at hs; simp at hs; omega
  | cons c cs' =>
   rw [hc] at hr'
   obtain ⟨v,r,hvr,hv,_⟩ := hr'.cons_inv
   refine ⟨v,?_,by simpa using hv⟩
   rw [run_bind_ok hag]
   have : vs.toArray[off]? = some v := by
    have : (vs.drop off)[0]? = some v := by rw [hvr]; rfl
    simpa using this
   simp [this]
theorem run_field {P : Program} {w : World} {K : Kn} {t ft : TypeId} {fs : List (Nat × TypeId)} {i : TI} (hd : DOk P t (.struct fs)) {f off : Nat} (hf : fs[f]? = some (off,ft)) (hi : TOk P ft i) (ho : i.d.known = true)
  {cs : List AV} {v : Value} (hv : Rel K (.agg cs) v) (hs : 1 ≤ i.sz ∧ i.sz ≤ (cs.drop off).length) : ∃ x,(Instr.field t v f).run P w = .ok x w ∧ Rel K (aPart i cs off) x := by
 obtain ⟨fields,hu,rfl⟩ := hd
 rw [List.getElem?_map] at hf
 cases hff : fields[f]? with
 | none => rw [Array.getElem?_toList,hff] at hf; cases hf
 | some fl =>
  rw [Array.getElem?_toList,hff] at hf
  simp only [Option.map_some,Option.some.injEq,Prod.mk.injEq] at hf
  obtain ⟨rfl,rfl⟩ := hf
  cases hv with
  | agg h1 hl h =>
   obtain ⟨x,hx,hr⟩ := run_part hi ho h1 ⟨hl,h⟩ hs
   refine ⟨x,?_,hr⟩
   simp only [Instr.field]
   rw [run_bind_ok (run_underlying hu w)]
   simp only [hff,asAgg]
   rw [run_bind_ok (Sem.run_pure P w _)]
   exact hx
theorem flat_take {es : List AV} {sz : Nat} (h : ∀ e ∈ es,e.cells.length = sz) : (flat es).length = es.length * sz := by
 induction es with
 | nil => simp [flat]
 | cons e es ih =>
  have h1 := h e (by simp)
  have h2 := ih (fun x hx => h x (by simp [hx]))
  simp only [flat,List.flatMap_cons,List.length_append,List.length_cons] at h2 ⊢
  rw [h1,Nat.succ_mul]; omega
theorem flat_drop {es : List AV} {sz : Nat} (h : ∀ e ∈ es,e.cells.length = sz) (n : Nat) : flat (es.drop n) = (flat es).drop (n * sz) := by
 induction es generalizing n with
 | nil => simp [flat]
 | cons e es ih =>
  cases n with
  | zero => simp
  | succ n =>
   have h1 := h e (by simp)
   have h2 := ih (fun x hx => h x (by simp [hx])) n
   simp only [List.drop_succ_cons,h2,flat,List.flatMap_cons]
   have e1 : e.cells.drop (n * sz + sz) = [] := List.drop_eq_nil_of_le (by rw [h1]; exact Nat.le_add_left _ _)
   rw [List.drop_append,Nat.succ_mul,e1,List.nil_append,h1,Nat.add_sub_cancel]
   exact h2
theorem flat_takeN {es : List AV} {sz : Nat} (h : ∀ e ∈ es,e.cells.length = sz) (n : Nat) : flat (es.take n) = (flat es).take (n * sz) := by
 induction es generalizing n with
 | nil => simp [flat]
 | cons e es ih =>
  cases n with
  | zero => simp [flat]
  | succ n =>
   have h1 := h e (by simp)
   have h2 := ih (fun x hx => h x (by simp [hx])) n
   simp only [List.take_succ_cons,flat,List.flatMap_cons] at h2 ⊢
   have e1 : e.cells.take (n * sz + sz) = e.cells := List.take_of_length_le (by rw [h1]; exact Nat.le_add_left _ _)
   rw [h2,List.take_append,Nat.succ_mul,e1,h1,Nat.add_sub_cancel]
theorem flat_append (a b : List AV) : flat (a ++ b) = flat a ++ flat b := by simp [flat]
theorem flat_at {es : List AV} {sz : Nat} (h : ∀ e ∈ es,e.cells.length = sz) {n : Nat} {e : AV} (he : es[n]? = some e) : ((flat es).drop (n * sz)).take sz = e.cells := by
 rw [← flat_drop h]
 have hn : n < es.length := (List.getElem?_eq_some_iff.1 he).1
 have : es.drop n = e :: es.drop (n + 1) := by rw [List.drop_eq_getElem_cons hn]; congr 1; exact (List.getElem?_eq_some_iff.1 he).2
 rw [this]
 have hsz := h e (List.mem_of_getElem? he)
 simp only [flat,List.flatMap_cons]
 rw [List.take_append,List.take_of_length_le (by omega)]
 simp [hsz]
theorem run_indexAt_sl {P : Program} {w : World} {K : Kn} {t e : TypeId} {i : TI} (hu : P.underlying t = some (.slice e)) (hi : TOk P e i) {sz : Nat} {es : List AV} {tk : Tk} (hsz : i.sz = sz) {v : Value} (hv : Rel K (.sl sz es tk) v)
  {q : IntKind} {n : Int} (h0 : 0 ≤ n) {x : AV} (hx : es[n.toNat]? = some x) : ∃ y,(Instr.indexAt t v (.int q n)).run P w = .ok y w ∧ Rel K (.ref x.cells) y := by
 have hlt : n.toNat < es.length := (List.getElem?_eq_some_iff.1 hx).1
 cases hv with
 | slnil => simp at hlt
 | @sl _ _ _ b off cap vs hcap hmax hszs h1 hl h hk ht =>
  refine ⟨.pointer (some ⟨b,off + n.toNat * sz,none⟩),?_,?_⟩
  ·simp only [Instr.indexAt,asIntOf]
   rw [run_bind_ok (Sem.run_pure P w _)]
   simp only []
   rw [run_bind_ok (run_underlying hu w)]
   simp only [Sem.run_bind,Sem.run_pure,Result.andThen_ok,run_underlying hu w]
   rw [if_pos (by omega)]
   simp [hi.sizeOf w,hsz,Addr.add_lit]
  ·have hr : RelL K (flat es) vs := ⟨hl,h⟩
   have h2 := (hr.drop (n.toNat * sz)).take sz
   rw [flat_at hszs hx] at h2
   refine .ref ?_ h2.1 h2.2 ?_
   ·intro c hc
    rw [← flat_at hszs hx] at hc
    exact h1 c (List.mem_of_mem_drop (List.mem_of_mem_take hc))
   ·intro j u hu'
    rw [List.getElem?_take] at hu'
    split at hu'
    ·rw [List.getElem?_drop] at hu'
     have := hk _ u hu'
     rw [← Nat.add_assoc] at this
     exact this
    ·cases hu'
theorem run_indexAt_msl {P : Program} {w : World} {K : Kn} {t e : TypeId} {i : TI} (hu : P.underlying t = some (.slice e)) (hi : TOk P e i) {b off n cap : Nat} {v : Value} (hv : Rel K (.msl b off n cap) v)
  {q : IntKind} {j : Int} (h0 : 0 ≤ j ∧ j < n) : (Instr.indexAt t v (.int q j)).run P w = .ok (.pointer (some ⟨b,off + j.toNat * i.sz,none⟩)) w := by
 obtain ⟨rfl⟩ : v = .slice (some ⟨b,off,none⟩) n cap := by
  cases hv with
  | mslnil => omega
  | @msl _ _ _ _ b' o' hle hmax ho =>
   rcases ho with ⟨rfl,rfl⟩ | ho
   ·rfl
   ·omega
 simp only [Instr.indexAt,asIntOf]
 rw [run_bind_ok (Sem.run_pure P w _)]
 simp only []
 rw [run_bind_ok (run_underlying hu w)]
 simp only [Sem.run_bind,Sem.run_pure,Result.andThen_ok,run_underlying hu w]
 rw [if_pos (by omega)]
 simp [hi.sizeOf w,Addr.add_lit]
theorem run_indexAt_arr {P : Program} {w : World} {t e : TypeId} {i : TI} {len : Nat} (hu : P.underlying t = some (.array len e)) (hi : TOk P e i) {b off : Nat}
  {q : IntKind} {j : Int} (h0 : 0 ≤ j ∧ j < len) : (Instr.indexAt t (.pointer (some ⟨b,off,none⟩)) (.int q j)).run P w = .ok (.pointer (some ⟨b,off + j.toNat * i.sz,none⟩)) w := by
 simp only [Instr.indexAt,asIntOf]
 rw [run_bind_ok (Sem.run_pure P w _)]
 simp only []
 rw [run_bind_ok (run_underlying hu w)]
 simp only [Sem.run_bind,Sem.run_pure,Result.andThen_ok,run_underlying hu w,Instr.sureAddr]
 rw [if_pos (by omega)]
 simp [hi.sizeOf w,Addr.add_lit]
def bnd : Option AV → Int → Int
 | some (.int _ n),_ => n
 | none,d => d
 | _,_ => -1
theorem run_sliceBound {P : Program} {w : World} {k : IntKind} {n : Int} {y : Nat} {c : BoundsCode} (h : 0 ≤ n ∧ n ≤ y) : (Instr.sliceBound (.int k n) y c).run P w = .ok n.toNat w := by
 simp only [Instr.sliceBound,asIntOf]
 rw [run_bind_ok (Sem.run_pure P w _)]
 simp [h]
inductive RelO (K : Kn) : Option AV → Option Value → Prop
 | none : RelO K .none .none
 | some {a : AV} {v : Value} (h : Rel K a v) : RelO K (.some a) (.some v)
theorem bnd_some {K : Kn} {a : AV} {v : Value} (h : Rel K a v) {d : Int} (h0 : 0 ≤ bnd (some a) d) : ∃ k n,v = .int k n ∧ bnd (some a) d = n := by
 cases h <;> simp [bnd] at h0
 exact ⟨_,_,rfl,rfl⟩
theorem bnd_none (d : Int) : bnd none d = d := rfl
theorem run_sliceBounds {P : Program} {w : World} {K : Kn} {isS : Bool} {len cap : Nat} {lo hi mx : Option AV} {lo' hi' mx' : Option Value} (hlo : RelO K lo lo') (hhi : RelO K hi hi') (hmx : RelO K mx mx') (hmh : mx.isSome = true → hi.isSome = true)
  (h0 : 0 ≤ bnd lo 0) (h1 : bnd lo 0 ≤ bnd hi len) (h2 : bnd hi len ≤ bnd mx cap) (h3 : bnd mx cap ≤ cap) :
  (Instr.sliceBounds isS len cap lo' hi' mx').run P w = .ok ((bnd lo 0).toNat,(bnd hi len).toNat,(bnd mx cap).toNat) w := by
 unfold Instr.sliceBounds
 cases hmx with
 | none =>
  simp only [bnd_none] at h2 h3
  rw [run_bind_ok (Sem.run_pure P w _)]
  cases hhi with
  | none =>
   simp only [bnd_none] at h1 h2
   rw [run_bind_ok (Sem.run_pure P w _)]
   cases hlo with
   | none => rw [run_bind_ok (Sem.run_pure P w _)]; simp [bnd_none]
   | some hv =>
    obtain ⟨k,n,rfl,hn⟩ := bnd_some hv h0
    rw [hn] at h0 h1 ⊢
    rw [run_bind_ok (run_sliceBound ⟨h0,h1⟩)]; simp [bnd_none]
  | some hv =>
   obtain ⟨kh,h,rfl,hh⟩ := bnd_some hv (Int.le_trans h0 h1)
   rw [hh] at h1 h2 ⊢
   have hz : 0 ≤ h := by omega
   rw [run_bind_ok (run_sliceBound ⟨hz,h2⟩)]
   cases hlo with
   | none => rw [run_bind_ok (Sem.run_pure P w _)]; simp [bnd_none]
   | some hv =>
    obtain ⟨k,n,rfl,hn⟩ := bnd_some hv h0
    rw [hn] at h0 h1 ⊢
    rw [run_bind_ok (run_sliceBound ⟨h0,by omega⟩)]; simp [bnd_none]
 | some hv =>
  obtain ⟨km,m,rfl,hm⟩ := bnd_some hv (Int.le_trans h0 (Int.le_trans h1 h2))
  rw [hm] at h2 h3 ⊢
  rw [run_bind_ok (run_sliceBound ⟨by omega,h3⟩)]
  cases hhi with
  | none => simp at hmh
  | some hv =>
   obtain ⟨kh,h,rfl,hh⟩ := bnd_some hv (Int.le_trans h0 h1)
   rw [hh] at h1 h2 ⊢
   rw [run_bind_ok (run_sliceBound ⟨by omega,by omega⟩)]
   cases hlo with
   | none => rw [run_bind_ok (Sem.run_pure P w _)]; simp [bnd_none]
   | some hv =>
    obtain ⟨k,n,rfl,hn⟩ := bnd_some hv h0
    rw [hn] at h0 h1 ⊢
    rw [run_bind_ok (run_sliceBound ⟨h0,by omega⟩)]; simp
theorem run_slice_str {P : Program} {w : World} {K : Kn} {t : TypeId} (hu : P.underlying t = some .string) {s : List UInt8} {v : Value} (hv : Rel K (.str s) v) {lo hi : Option AV} {lo' hi' : Option Value} (hlo : RelO K lo lo') (hhi : RelO K hi hi')
  (h0 : 0 ≤ bnd lo 0) (h1 : bnd lo 0 ≤ bnd hi s.length) (h2 : bnd hi s.length ≤ s.length) :
  ∃ x,(Instr.sliceAt t v lo' hi' none).run P w = .ok x w ∧ Rel K (.str ((s.take (bnd hi s.length).toNat).drop (bnd lo 0).toNat)) x := by
 cases hv with
 | str _ hs =>
  refine ⟨.string ⟨((s.take (bnd hi s.length).toNat).drop (bnd lo 0).toNat).toArray⟩,?_, .str _ (by simp; omega)⟩
  have hz : (ByteArray.mk s.toArray).size = s.length := by simp [ByteArray.size]
  have hb := run_sliceBounds (P := P) (w := w) (isS := false) (len := s.length) (cap := s.length) hlo hhi (RelO.none (K := K)) (by simp) h0 h1 (by simpa [bnd_none] using h2) (by simp [bnd_none])
  simp only [Instr.sliceAt]
  rw [run_bind_ok (run_underlying hu w)]
  simp only [Instr.slice]
  rw [run_bind_ok (run_underlying hu w)]
  simp only [Option.isSome_none,Bool.false_eq_true,if_false,hz]
  rw [run_bind_ok hb]
  simp [ByteArray.extract_mk,List.drop_take]
def tkSlice (t : Tk) (lo hi mx : Option AV) (h m : Int) : Tk :=
 match mx with
 | some _ => if h = m then .full else .no
 | none => match hi,lo,t with
  | some _,_,_ => .no
  | none,none,t => t
  | none,some _, .full => .full
  | none,some _,_ => .no
theorem tkSlice_ok {tk : Tk} {lo hi mx : Option AV} {h m : Int} {b off off' sz n cap l hh mm : Nat} (ht : TkOk tk b off sz n cap) (h1 : l ≤ hh) (h2 : hh ≤ n) (h3 : hh ≤ mm) (hmx : mx.isSome = true → h = m → mm = hh)
  (hmn : mx = none → mm = cap) (hhn : hi = none → hh = n) (hln : lo = none → l = 0) (ho : l = 0 → off' = off) : TkOk (tkSlice tk lo hi mx h m) b off' sz (hh - l) (mm - l) := by
 cases mx with
 | some x =>
  simp only [tkSlice]
  split
  ·rename_i e
   have := hmx rfl e
   simp only [TkOk]; omega
  ·trivial
 | none =>
  have e1 := hmn rfl
  cases hi with
  | some x => simp only [tkSlice]; trivial
  | none =>
   have e2 := hhn rfl
   cases lo with
   | none =>
    have e3 := hln rfl
    have e4 := ho e3
    subst e1; subst e2; subst e3; subst e4
    simp only [tkSlice]
    simpa using ht
   | some x =>
    cases tk with
    | no => simp only [tkSlice]; trivial
    | full => simp only [tkSlice,TkOk] at ht ⊢; omega
    | own b e tot => simp only [tkSlice]; trivial
theorem tkSlice_nil {tk : Tk} {lo hi mx : Option AV} {h m : Int} (ht : tk.nilOk) : (tkSlice tk lo hi mx h m).nilOk := by
 cases mx with
 | some x => simp only [tkSlice]; split <;> trivial
 | none => cases hi <;> cases lo <;> cases tk <;> first | trivial | exact ht
theorem run_slice_sl {P : Program} {w : World} {K : Kn} {t e : TypeId} {i : TI} (hu : P.underlying t = some (.slice e)) (hi' : TOk P e i) {sz : Nat} {es : List AV} {tk : Tk} (hsz : i.sz = sz ∨ es = []) {v : Value} (hv : Rel K (.sl sz es tk) v)
  {lo hi mx : Option AV} {lo' hi'' mx' : Option Value} (hlo : RelO K lo lo') (hhi : RelO K hi hi'') (hmx : RelO K mx mx') (hmh : mx.isSome = true → hi.isSome = true)
  (h0 : 0 ≤ bnd lo 0) (h1 : bnd lo 0 ≤ bnd hi es.length) (h2 : bnd hi es.length ≤ es.length) (h3 : mx.isSome = true → bnd hi es.length ≤ bnd mx 0 ∧ bnd mx 0 ≤ es.length) :
  ∃ x,(Instr.sliceAt t v lo' hi'' mx').run P w = .ok x w ∧ Rel K (.sl sz ((es.take (bnd hi es.length).toNat).drop (bnd lo 0).toNat) (tkSlice tk lo hi mx (bnd hi es.length) (bnd mx 0))) x := by
 have hrun : ∀ (a : Option Addr) (cap : Nat),es.length ≤ cap → v = .slice a es.length cap →
   (Instr.sliceAt t v lo' hi'' mx').run P w = .ok (.slice (if (bnd mx cap).toNat = (bnd lo 0).toNat then a else a.map (·.add ((bnd lo 0).toNat * i.sz))) ((bnd hi es.length).toNat - (bnd lo 0).toNat) ((bnd mx cap).toNat - (bnd lo 0).toNat)) w := by
  intro a cap hcap hva
  subst hva
  have hb := run_sliceBounds (P := P) (w := w) (isS := true) (len := es.length) (cap := cap) hlo hhi hmx hmh h0 h1 (by
   cases mx with
   | none => simp only [bnd_none]; omega
   | some m =>
    have := (h3 rfl).1
    have e : bnd (some m) cap = bnd (some m) 0 := by cases m <;> rfl
    rw [e]; exact this) (by
   cases mx with
   | none => simp [bnd_none]
   | some m =>
    have := (h3 rfl).2
    have e : bnd (some m) cap = bnd (some m) 0 := by cases m <;> rfl
    rw [e]; omega)
  simp only [Instr.sliceAt]
  rw [run_bind_ok (run_underlying hu w)]
  simp only [Instr.slice]
  rw [run_bind_ok (run_underlying hu w)]
  simp only []
  rw [run_bind_ok hb]
  simp only []
  rw [run_bind_ok (hi'.sizeOf w)]
  rfl
 cases hv with
 | slnil _ _ a0 ht =>
  have hx := hrun a0 0 (Nat.le_refl _) rfl
  refine ⟨_,hx,?_⟩
  have e1 : (bnd hi (([] : List AV).length : Nat)).toNat = 0 := by simp at h2 ⊢; omega
  have e2 : (bnd lo 0).toNat = 0 := by simp at h1 h2; omega
  have e3 : (bnd mx (0 : Nat)).toNat = 0 := by
   cases mx with
   | none => rfl
   | some m => have := (h3 rfl).2; simp at this ⊢; omega
  rw [e1,e2] at hx ⊢
  simp only [e3,if_true,List.take_nil,List.drop_nil]
  exact .slnil _ _ _ (tkSlice_nil ht)
 | @sl _ _ _ b off cap vs hcap hmax hszs h1' hl h hk ht =>
  have hx := hrun (some ⟨b,off,none⟩) cap hcap rfl
  refine ⟨_,hx,?_⟩
  generalize hL : (bnd lo 0).toNat = l at *
  generalize hH : (bnd hi es.length).toNat = hh at *
  have hlh : l ≤ hh := by omega
  have hhn : hh ≤ es.length := by omega
  have hMc : (bnd mx cap).toNat ≤ cap ∧ hh ≤ (bnd mx cap).toNat := by
   cases mx with
   | none => simp only [bnd_none]; omega
   | some m =>
    obtain ⟨q1,q2⟩ := h3 rfl
    have e : bnd (some m) (cap : Int) = bnd (some m) 0 := by cases m <;> rfl
    rw [e]; omega
  generalize hM : (bnd mx cap).toNat = mm at *
  have hlen : ((es.take hh).drop l).length = hh - l := by simp; omega
  have hszz : ∀ x ∈ (es.take hh).drop l,x.cells.length = sz := fun x hx => hszs x (List.mem_of_mem_take (List.mem_of_mem_drop hx))
  have hfl : flat ((es.take hh).drop l) = ((flat es).take (hh * sz)).drop (l * sz) := by
   rw [flat_drop (fun x hx => hszs x (List.mem_of_mem_take hx)),flat_takeN hszs]
  have hr : RelL K (flat es) vs := ⟨hl,h⟩
  have hr2 := (hr.take (hh * sz)).drop (l * sz)
  rw [← hfl] at hr2
  have hone : ∀ c ∈ flat ((es.take hh).drop l),c.one = true := by
   intro c hc; rw [hfl] at hc; exact h1' c (List.mem_of_mem_take (List.mem_of_mem_drop hc))
  have hkk : ∀ (i : Nat) (v : Value),((vs.take (hh * sz)).drop (l * sz))[i]? = some v → (K b)[(off + l * sz) + i]? = some v := by
   intro j u hu'
   rw [List.getElem?_drop,List.getElem?_take] at hu'
   split at hu'
   ·have := hk _ u hu'; rw [← Nat.add_assoc] at this; exact this
   ·cases hu'
  have htk : ∀ off',(l = 0 → off' = off) → TkOk (tkSlice tk lo hi mx (bnd hi es.length) (bnd mx 0)) b off' sz ((es.take hh).drop l).length (mm - l) := by
   intro off' ho
   rw [hlen]
   refine tkSlice_ok ht hlh hhn hMc.2 ?_ ?_ ?_ ?_ ho
   ·intro hs heq
    cases mx with
    | none => simp at hs
    | some m =>
     have e : bnd (some m) (cap : Int) = bnd (some m) 0 := by cases m <;> rfl
     rw [e] at hM
     omega
   ·intro e; subst e; simp only [bnd_none] at hM; omega
   ·intro e; subst e; simp only [bnd_none] at hH; omega
   ·intro e; subst e; simp only [bnd_none] at hL; omega
  rw [← hlen]
  by_cases hml : mm = l
  · -- nothing is left
   rw [if_pos hml]
   have hhl : hh = l := by omega
   have hnil : (es.take hh).drop l = [] := by apply List.drop_eq_nil_of_le; simp; omega
   refine .sl (vs := []) (by rw [hnil]; simp) (by omega) hszz hone (by rw [hnil]; rfl) (fun i c v hc hv => by simp at hv) (fun i v hv => by simp at hv) ?_
   exact htk off (fun _ => rfl)
  ·rw [if_neg hml]
   have hadd : (Option.map (fun x : Addr => x.add (l * i.sz)) (some ⟨b,off,none⟩)) = some ⟨b,off + l * i.sz,none⟩ := by simp [Addr.add_lit]
   rw [hadd]
   rcases hsz with hsz | hemp
   ·rw [hsz]
    refine .sl (by rw [hlen]; omega) (by omega) hszz hone hr2.1 hr2.2 hkk ?_
    exact htk _ (fun e => by rw [e]; simp)
   · -- no elements,but room
    subst hemp
    simp at hhn
    subst hhn
    have hl0 : l = 0 := by omega
    subst hl0
    simp only [List.take_nil,List.drop_nil,Nat.zero_mul,Nat.add_zero]
    refine .sl (vs := []) (by simp) (by omega) (by simp) (by simp [flat]) (by simp [flat]) (fun i c v hc hv => by simp at hv) (fun i v hv => by simp at hv) ?_
    simpa using htk off (fun _ => rfl)
end Go.Aw
namespace Go.Aw
open Go.RowKit
theorem growBy_le (n : Nat) : ∀ (r c : Nat),c ≤ 2 * n + 192 → Builtin.growBy n r c ≤ 2 * n + 192
 | 0,c,h => by simpa [Builtin.growBy] using h
 | r + 1,c,h => by
  simp only [Builtin.growBy]
  split
  ·exact h
  ·exact growBy_le n r _ (by omega)
theorem nextslicecap_le (n c : Nat) (h : c < n) : Builtin.nextslicecap n c ≤ 2 * n + 192 := by
 unfold Builtin.nextslicecap
 split
 ·omega
 ·split
  ·omega
  ·exact growBy_le n 4 c (by omega)
def roomFor (n by_ : Nat) : Prop := n * by_ ≤ 35184372088832 ∧ by_ ≤ 1048576 ∧ n ≤ 9223372036854775807
theorem roomFor.cap {n c by_ : Nat} (h : roomFor n by_) (hc : c < n) : Builtin.nextslicecap n c * by_ ≤ 281474976710656 := by
 obtain ⟨h1,h2,_⟩ := h
 have := Nat.mul_le_mul_right by_ (nextslicecap_le n c hc)
 have e : (2 * n + 192) * by_ = 2 * (n * by_) + 192 * by_ := by rw [Nat.add_mul,Nat.mul_assoc]
 omega
theorem run_append_none {P : Program} {w : World} {t ty e : TypeId} {i : TI} (ht : P.underlying t = some (.slice e)) (hi : TOk P e i) (base a : Option Addr) (n cap c : Nat) (hcap : n ≤ cap)
  : (Builtin.append_ #[t,t] ty #[.slice base n cap, .slice a 0 c]).run P w = .ok (.slice base n cap) w := by
 obtain ⟨x,z,hx,hs,hb,hz,_⟩ := hi.get
 cases base with
 | none => cases a <;> simp [Builtin.append_,run_underlying ht,sizeOf,typeInfo,hx,Builtin.lenOf,hcap,Builtin.firstCells,loadCells,loadCellsFrom]
 | some b => cases a <;> simp [Builtin.append_,run_underlying ht,sizeOf,typeInfo,hx,Builtin.lenOf,hcap,Builtin.firstCells,loadCells,loadCellsFrom,storeCells]
theorem run_append_in {P : Program} {w : World} {t ty e : TypeId} {i : TI} (ht : P.underlying t = some (.slice e)) (hi : TOk P e i) {b off n cap : Nat} {cur : Array Value} {T : TypeId} (hg : w.heap[b]? = some (.cells cur T (0,0)))
  {a : Addr} {m c : Nat} {news : List Value} (hl : news.length = m * i.sz) (hnews : ∀ (j : Nat) (u : Value),news[j]? = some u → w.cell? (a.add j) = some u) (h1 : ∀ u ∈ news,u.oneCell' = true)
  (hroom : n + m ≤ cap) (hfit : off + n * i.sz + news.length ≤ cur.size) :
  (Builtin.append_ #[t,t] ty #[.slice (some ⟨b,off,none⟩) n cap, .slice (some a) m c]).run P w =
   .ok (.slice (some ⟨b,off,none⟩) (n + m) cap) (w.setRow b (cur.toList.take (off + n * i.sz) ++ news ++ cur.toList.drop (off + n * i.sz + news.length)).toArray) := by
 obtain ⟨x,z,hx,hs,hb,hz,_⟩ := hi.get
 have hf := run_firstCells_some (P := P) w i.sz m a m c news hl hnews
 have hst := run_storeCells_at P b (off + n * i.sz) T news 0 cur w hg (by simpa using hfit) h1
 simp only [Nat.add_zero] at hst
 simp [Builtin.append_,run_underlying ht,sizeOf,typeInfo,hx,hs,Builtin.lenOf,hroom,hf,Addr.add_lit,hst]
theorem grownCap_lt (w : World) (need old : Nat) (e : TypeId) (h : need ≤ maxLen) : grownCap w need old e ≤ maxLen := grownCap_le_maxLen w need old e h
structure SlAs (K : Kn) (sz : Nat) (es : List AV) (b off cap : Nat) (vs : List Value) (v : Value) : Prop where
 eq : v = .slice (some ⟨b,off,none⟩) es.length cap
 hcap : es.length ≤ cap
 hmax : cap ≤ maxLen
 szs : ∀ e ∈ es,e.cells.length = sz
 one : ∀ c ∈ flat es,c.one = true
 rel : RelL K (flat es) vs
 known : ∀ (i : Nat) (v : Value),vs[i]? = some v → (K b)[off + i]? = some v
theorem sl_cases {K : Kn} {sz : Nat} {es : List AV} {t : Tk} {v : Value} (h : Rel K (.sl sz es t) v) :
  (∃ a,v = .slice a 0 0 ∧ es = [] ∧ t.nilOk) ∨ ∃ b off cap vs,SlAs K sz es b off cap vs v ∧ TkOk t b off sz es.length cap := by
 cases h with
 | slnil _ _ a ht => exact .inl ⟨a,rfl,rfl,ht⟩
 | sl hcap hmax hsz h1 hl h hk ht => exact .inr ⟨_,_,_,_,⟨rfl,hcap,hmax,hsz,h1,⟨hl,h⟩,hk⟩,ht⟩
theorem run_append_zero {P : Program} {w : World} (t ty e : TypeId) (i : TypeInfo) (z : Value) (ht : P.underlying t = some (.slice e)) (hi : P.info? e = some i) (hz : i.zero = some z)
  (a0 : Option Addr) (a : Addr) (n c : Nat) (news : List Value) (hl : news.length = n * i.size) (hnews : ∀ j v,news[j]? = some v → w.cell? (a.add j) = some v)
  (h0 : 0 < n) (h63 : (n : Int) ≤ 9223372036854775807) (h48 : n * i.bytes ≤ 281474976710656) :
  (Builtin.append_ #[t,t] ty #[.slice a0 0 0, .slice (some a) n c]).run P w =
   .ok (.slice (some ⟨w.heap.size,0,none⟩) n (grownCap w n 0 e)) (w.drew.alloc (.cells (news.toArray ++ Builtin.zeroCells z.cells (grownCap w n 0 e - n)) e)) := by
 cases a0 with
 | none => exact run_append_nil w t ty e i z ht hi hz a n c news hl hnews h0 h63 h48
 | some b =>
  have h := run_append_grow (P := P) w t ty e i z ht hi hz b 0 0 [] (by simp) (fun j v hj => by simp at hj) a n c news hl hnews (by omega) (by simpa using h63) (by rw [Nat.zero_add,nextslicecap_zero h0]; exact h48)
  simpa using h
theorem all_sz {es : List AV} {sz sz' : Nat} (h : ∀ e ∈ es,e.cells.length = sz) (he : sz' = sz ∨ es = []) : ∀ e ∈ es,e.cells.length = sz' := by
 rcases he with rfl | rfl
 ·exact h
 ·intro e he; simp at he
theorem mem_append_szs {es xs : List AV} {sz : Nat} (h : ∀ e ∈ es,e.cells.length = sz) (h' : ∀ e ∈ xs,e.cells.length = sz) : ∀ e ∈ es ++ xs,e.cells.length = sz := by
 intro e he; rcases List.mem_append.1 he with he | he
 ·exact h e he
 ·exact h' e he
theorem run_append_new {P : Program} {w0 w : World} {K : Kn} {S : List En} (hS : RelS w0 K S w) {t ty e : TypeId} {i : TI} (ht : P.underlying t = some (.slice e)) (hi : TOk P e i) {sz sz' : Nat} {es xs : List AV} {tk tk' : Tk} {v x : Value}
  (hv : Rel K (.sl sz es tk) v) (hx : Rel K (.sl sz' xs tk') x) (hsz : i.sz = sz ∨ es = []) (hsz' : i.sz = sz' ∨ xs = []) (hroom : roomFor (es.length + xs.length) i.by_)
  (hcap : ∀ a n c,v = .slice a n c → c < n + xs.length) :
  ∃ v' w' K' t',(Builtin.append_ #[t,t] ty #[v,x]).run P w = .ok v' w' ∧ Kle K K' ∧ Rel K' (.sl i.sz (es ++ xs) t') v' ∧ RelS w0 K' (.grow t' :: S) w' := by
 obtain ⟨inf,z,hinf,hs,hb,hz,hzr,hz1⟩ := hi.get
 have hmaxl : es.length + xs.length ≤ maxLen := by have := hroom.2.2; simpa [maxLen] using this
 -- the source is not nil: else there would be room
 rcases sl_cases hx with ⟨a0,rfl,rfl,_⟩ | ⟨bx,ox,cx,ns,hxa,_⟩
 ·exfalso
  rcases sl_cases hv with ⟨a0,rfl,rfl,_⟩ | ⟨bv,ov,cv,vs,hva,_⟩
  ·have := hcap _ _ _ rfl; simp at this
  ·have := hcap _ _ _ hva.eq; have := hva.hcap; simp at *; omega
 ·have hxl : ns.length = xs.length * i.sz := by rw [← hxa.rel.1,flat_take (all_sz hxa.szs hsz')]
  have hxc : ∀ (j : Nat) (u : Value),ns[j]? = some u → w.cell? ((⟨bx,ox,none⟩ : Addr).add j) = some u := by
   intro j u hu; rw [Addr.add_lit]; exact hS.kcell _ _ _ (hxa.known j u hu)
  have hszs := mem_append_szs (sz := i.sz) (es := es) (xs := xs)
  -- what is the same in both
  have finish : ∀ (olds : List Value) (old : Nat),(∀ e ∈ es,e.cells.length = i.sz) → (∀ c ∈ flat es,c.one = true) → RelL K (flat es) olds → olds.length = es.length * i.sz →
    ∃ K' t',Kle K K' ∧ Rel K' (.sl i.sz (es ++ xs) t') (.slice (some ⟨w.heap.size,0,none⟩) (es.length + xs.length) (grownCap w (es.length + xs.length) old e)) ∧
     RelS w0 K' (.grow t' :: S) (w.drew.alloc (.cells (olds.toArray ++ ns.toArray ++ Builtin.zeroCells z.cells (grownCap w (es.length + xs.length) old e - (es.length + xs.length))) e)) := by
   intro olds old hes1 hes2 holds hol
   have hge := grownCap_ge w (es.length + xs.length) old e
   have hle := grownCap_lt w (es.length + xs.length) old e hmaxl
   generalize grownCap w (es.length + xs.length) old e = cap at hge hle ⊢
   have hzl : z.cells.size = i.sz := by have := (hzr K).1; rw [hi.len] at this; simpa using this.symm
   have hK := (hS.drew).allocKnown (olds.toArray ++ ns.toArray ++ Builtin.zeroCells z.cells (cap - (es.length + xs.length))) e (olds ++ ns) (by
    intro j u hu
    have hj : j < (olds ++ ns).length := (List.getElem?_eq_some_iff.1 hu).1
    rw [Array.getElem?_append_left (by simpa using hj)]
    simpa using hu)
   obtain ⟨hKle,hKS⟩ := hK
   have hsize : w.drew.heap.size = w.heap.size := rfl
   rw [hsize] at hKle hKS
   refine ⟨_, .own w.heap.size ((es.length + xs.length) * i.sz) (cap * i.sz),hKle,?_,?_⟩
   ·have hrel := (holds.append hxa.rel).mono hKle
    rw [← flat_append] at hrel
    have hlen : (es ++ xs).length = es.length + xs.length := by simp
    rw [← hlen]
    refine .sl (by rw [hlen]; exact hge) hle (hszs hes1 (all_sz hxa.szs hsz')) ?_ hrel.1 hrel.2 ?_ ?_
    ·intro c hc; rw [flat_append] at hc
     rcases List.mem_append.1 hc with hc | hc
     ·exact hes2 c hc
     ·exact hxa.one c hc
    ·intro j u hu; rw [Kn.put_same]; simpa using hu
    ·simp [TkOk]
   ·refine hS.consNew hKS (fun b hb => by simpa [En.blk] using hb.symm) ⟨hS.below.size,?_,Nat.mul_le_mul_right _ hge,_,e,heap_alloc_new _ _,?_⟩
    ·rw [Kn.put_same]; simp [hol,hxl,Nat.add_mul]
    ·simp only [Array.size_append,List.size_toArray,size_zeroCells,hol,hxl,hzl]
     rw [← Nat.add_mul, ← Nat.add_mul]; congr 1; omega
  rcases sl_cases hv with ⟨a0,rfl,rfl,_⟩ | ⟨bv,ov,cv,vs,hva,_⟩
  · -- nil
   have hn : 0 < xs.length := by have := hcap _ _ _ rfl; simpa using this
   have hrun := run_append_zero (P := P) (w := w) t ty e inf z ht hinf hz a0 ⟨bx,ox,none⟩ xs.length cx ns (by rw [hxl,hs]) hxc hn (by have := hroom.2.2; simp at this; omega) (by
    rw [hb]; have := hroom.1; simp at this; omega)
   obtain ⟨K',t',h1,h2,h3⟩ := finish [] 0 (by simp) (by simp [flat]) (by simpa [flat] using RelL.nil) (by simp)
   refine ⟨_,_,K',t',by rw [hxa.eq]; exact hrun,h1,?_,?_⟩
   ·simpa using h2
   ·simpa using h3
  ·have hol : vs.length = es.length * i.sz := by rw [← hva.rel.1,flat_take (all_sz hva.szs hsz)]
   have hc : cv < es.length + xs.length := hcap _ _ _ hva.eq
   have hrun := run_append_grow (P := P) w t ty e inf z ht hinf hz ⟨bv,ov,none⟩ es.length cv vs (by rw [hol,hs]) (fun j u hu => by rw [Addr.add_lit]; exact hS.kcell _ _ _ (hva.known j u hu)) ⟨bx,ox,none⟩ xs.length cx ns (by rw [hxl,hs]) hxc hc
    (by have := hroom.2.2; omega) (by rw [hb]; exact hroom.cap hc)
   obtain ⟨K',t',h1,h2,h3⟩ := finish vs cv (all_sz hva.szs hsz) hva.one hva.rel hol
   exact ⟨_,_,K',t',by rw [hva.eq,hxa.eq]; exact hrun,h1,h2,h3⟩
theorem run_append_full {P : Program} {w0 w : World} {K : Kn} {S : List En} (hS : RelS w0 K S w) {t ty e : TypeId} {i : TI} (ht : P.underlying t = some (.slice e)) (hi : TOk P e i) {sz sz' : Nat} {es xs : List AV} {tk' : Tk} {v x : Value}
  (hv : Rel K (.sl sz es .full) v) (hx : Rel K (.sl sz' xs tk') x) (hsz : i.sz = sz ∨ es = []) (hsz' : i.sz = sz' ∨ xs = []) (hroom : roomFor (es.length + xs.length) i.by_) :
  ∃ v' w' K' t',(Builtin.append_ #[t,t] ty #[v,x]).run P w = .ok v' w' ∧ Kle K K' ∧ Rel K' (.sl i.sz (es ++ xs) t') v' ∧ RelS w0 K' (.grow t' :: S) w' := by
 by_cases hxs : xs = []
 ·subst hxs
  refine ⟨v,w,K, .full,?_,Kle.refl K,?_,hS.addFull⟩
  ·rcases sl_cases hx with ⟨a0,rfl,_,_⟩ | ⟨bx,ox,cx,ns,hxa,_⟩
   ·rcases sl_cases hv with ⟨a0,rfl,_,_⟩ | ⟨bv,ov,cv,vs,hva,_⟩
    ·exact run_append_none ht hi _ _ _ _ _ (Nat.le_refl _)
    ·rw [hva.eq]; exact run_append_none ht hi _ _ _ _ _ hva.hcap
   ·rw [hxa.eq]
    rcases sl_cases hv with ⟨a0,rfl,_,_⟩ | ⟨bv,ov,cv,vs,hva,_⟩
    ·exact run_append_none ht hi _ _ _ _ _ (Nat.le_refl _)
    ·rw [hva.eq]; exact run_append_none ht hi _ _ _ _ _ hva.hcap
  ·rw [List.append_nil]
   rcases sl_cases hv with ⟨a0,rfl,rfl,_⟩ | ⟨bv,ov,cv,vs,hva,htk⟩
   ·exact .slnil _ _ _ trivial
   ·rw [hva.eq]; exact .sl hva.hcap hva.hmax (all_sz hva.szs hsz) hva.one hva.rel.1 hva.rel.2 hva.known htk
 ·have hpos : 0 < xs.length := by cases xs with | nil => exact absurd rfl hxs | cons a l => simp
  refine run_append_new hS ht hi hv hx hsz hsz' hroom (fun a n c hc => ?_)
  rcases sl_cases hv with ⟨a0,rfl,rfl,_⟩ | ⟨bv,ov,cv,vs,hva,htk⟩
  ·cases hc; omega
  ·rw [hva.eq] at hc; cases hc; simp only [TkOk] at htk; omega
theorem set_perm {S : List En} {p : Nat} {e e' : En} (hp : S[p]? = some e) : (S.set p e').Perm (e' :: S.eraseIdx p) := by
 have hlt : p < S.length := (List.getElem?_eq_some_iff.1 hp).1
 induction S generalizing p with
 | nil => simp at hlt
 | cons a S ih =>
  cases p with
  | zero => simp
  | succ p =>
   simp only [List.set_cons_succ,List.eraseIdx_cons_succ]
   have := ih (p := p) (by simpa using hp) (by simpa using hlt)
   exact (List.Perm.cons a this).trans (List.Perm.swap e' a _)
theorem run_append_own' {P : Program} {w0 w : World} {K : Kn} {S : List En} (hS : RelS w0 K S w) {t ty e : TypeId} {i : TI} (ht : P.underlying t = some (.slice e)) (hi : TOk P e i) {sz sz' p : Nat} {es xs : List AV} {tk tk' : Tk} {v x : Value}
  (hp : S[p]? = some (.grow tk)) (hv : Rel K (.sl sz es tk) v) (hx : Rel K (.sl sz' xs tk') x) (hsz : i.sz = sz) (hsz' : i.sz = sz' ∨ xs = []) (hroom : roomFor (es.length + xs.length) i.by_) :
  ∃ v' w' K' t',(Builtin.append_ #[t,t] ty #[v,x]).run P w = .ok v' w' ∧ Kle K K' ∧ Rel K' (.sl i.sz (es ++ xs) t') v' ∧ RelS w0 K' (S.set p (.grow t')) w' := by
 have hSe : RelS w0 K (S.eraseIdx p) w := hS.sub (List.eraseIdx_sublist _ _)
 have wrap : ∀ {v' w' K' t'},RelS w0 K' (.grow t' :: S.eraseIdx p) w' → (Builtin.append_ #[t,t] ty #[v,x]).run P w = .ok v' w' → Kle K K' → Rel K' (.sl i.sz (es ++ xs) t') v' →
   ∃ v' w' K' t',(Builtin.append_ #[t,t] ty #[v,x]).run P w = .ok v' w' ∧ Kle K K' ∧ Rel K' (.sl i.sz (es ++ xs) t') v' ∧ RelS w0 K' (S.set p (.grow t')) w' :=
  fun h1 h2 h3 h4 => ⟨_,_,_,_,h2,h3,h4,h1.perm (set_perm hp)⟩
 cases tk with
 | no => exact (hS.ents _ (List.mem_of_getElem? hp)).elim
 | full =>
  obtain ⟨v',w',K',t',h1,h2,h3,h4⟩ := run_append_full hSe (ty := ty) ht hi hv hx (.inl hsz) hsz' hroom
  exact wrap h4 h1 h2 h3
 | own b e' tot =>
  obtain ⟨hB,hKl,hle,cur,T,hg,hcs⟩ := hS.ents _ (List.mem_of_getElem? hp)
  rcases sl_cases hv with ⟨a0,rfl,rfl,hnil⟩ | ⟨bv,ov,cv,vs,hva,htk⟩
  ·exact hnil.elim
  ·simp only [TkOk] at htk
   obtain ⟨rfl,he,htot⟩ := htk
   subst hsz
   by_cases hfit : es.length + xs.length ≤ cv
   ·rcases sl_cases hx with ⟨a0,rfl,rfl,_⟩ | ⟨bx,ox,cx,ns,hxa,_⟩
    ·refine ⟨v,w,K, .own b e' tot,?_,Kle.refl K,by simpa using hv,?_⟩
     ·rw [hva.eq]; exact run_append_none ht hi _ _ _ _ _ hva.hcap
     ·have : S.set p (.grow (.own b e' tot)) = S := by
       apply List.ext_getElem?
       intro j
       by_cases hj : p = j
       ·subst hj; rw [List.getElem?_set_self (List.getElem?_eq_some_iff.1 hp).1,hp]
       ·rw [List.getElem?_set_ne hj]
      rw [this]; exact hS
    ·have hxl : ns.length = xs.length * i.sz := by rw [← hxa.rel.1,flat_take (all_sz hxa.szs hsz')]
     have hfit' : ov + es.length * i.sz + ns.length ≤ cur.size := by
      rw [hcs, ← htot,hxl,Nat.add_assoc, ← Nat.add_mul]
      exact Nat.add_le_add_left (Nat.mul_le_mul_right _ hfit) _
     have hn1 := relL_one hxa.rel hxa.one
     have hrun := run_append_in (P := P) (w := w) (ty := ty) ht hi (b := b) (off := ov) (n := es.length) (cap := cv) hg (a := ⟨bx,ox,none⟩) (m := xs.length) (c := cx) hxl
      (fun j u hu => by rw [Addr.add_lit]; exact hS.kcell _ _ _ (hxa.known j u hu)) hn1 hfit hfit'
     have hKl' : (K b).length = ov + es.length * i.sz := by rw [hKl,he]
     have hKle : Kle K (K.put b (K b ++ ns)) := Kn.put_le (fun j u hu => by
      rw [List.getElem?_append_left (List.getElem?_eq_some_iff.1 hu).1]; exact hu)
     refine ⟨_,_,K.put b (K b ++ ns), .own b (e' + xs.length * i.sz) tot,by rw [hva.eq,hxa.eq]; exact hrun,hKle,?_,?_⟩
     ·have hrel := (hva.rel.append hxa.rel).mono hKle
      rw [← flat_append] at hrel
      have hlen : (es ++ xs).length = es.length + xs.length := by simp
      rw [← hlen]
      refine .sl (by rw [hlen]; exact hfit) hva.hmax (mem_append_szs hva.szs (all_sz hxa.szs hsz')) ?_ hrel.1 hrel.2 ?_ ?_
      ·intro c hc; rw [flat_append] at hc
       rcases List.mem_append.1 hc with hc | hc
       ·exact hva.one c hc
       ·exact hxa.one c hc
      ·intro j u hu
       rw [Kn.put_same]
       by_cases hj : j < vs.length
       ·rw [List.getElem?_append_left hj] at hu
        have := hva.known j u hu
        rw [List.getElem?_append_left (List.getElem?_eq_some_iff.1 this).1]; exact this
       ·rw [List.getElem?_append_right (by omega)] at hu
        have hvl : vs.length = es.length * i.sz := by rw [← hva.rel.1,flat_take hva.szs]
        rw [List.getElem?_append_right (by omega)]
        rw [← hu]; congr 1; omega
      ·simp only [TkOk]; refine ⟨trivial,?_,htot⟩
       rw [hlen,Nat.add_mul]; omega
     ·have hcell : ∀ j,(w.setRow b (cur.toList.take (ov + es.length * i.sz) ++ ns ++ cur.toList.drop (ov + es.length * i.sz + ns.length)).toArray).cell? ⟨b,j,none⟩ = (cur.toList.take (ov + es.length * i.sz) ++ ns ++ cur.toList.drop (ov + es.length * i.sz + ns.length))[j]? := by
       intro j; rw [cell_of_heap (setRow_heap _ _ _ _ _ _ hg)]; simp
      have hcl : cur.toList.length = cur.size := Array.length_toList
      have hcur : (cur.toList.take (ov + es.length * i.sz)).length = ov + es.length * i.sz := by
       rw [List.length_take,hcl]; omega
      refine hS.turn hp (b := b) rfl hKle (fun c hc => Kn.put_other _ _ hc) (fun c hc => setRow_other _ _ _ _ hc) (by simp) rfl rfl rfl ?_ (fun c t fr hc => ⟨_,_,setRow_heap _ _ _ _ _ _ hc⟩) (.inl rfl)
       ⟨hB,?_,?_,_,T,setRow_heap _ _ _ _ _ _ hg,?_⟩
      ·intro j u hu
       rw [Kn.put_same] at hu
       rw [hcell,List.append_assoc]
       by_cases hj : j < (K b).length
       ·rw [List.getElem?_append_left hj] at hu
        have := hS.kcell b j u hu
        rw [cell_of_heap hg] at this
        rw [List.getElem?_append_left (by rw [hcur]; omega),List.getElem?_take,if_pos (by omega)]
        simpa using this
       ·rw [List.getElem?_append_right (by omega)] at hu
        rw [List.getElem?_append_right (by rw [hcur]; omega),hcur, ← hKl']
        have hj2 : j - (K b).length < ns.length := (List.getElem?_eq_some_iff.1 hu).1
        rw [List.getElem?_append_left hj2]; exact hu
      ·rw [Kn.put_same]; simp [hKl,hxl]
      ·rw [← he, ← htot,Nat.add_assoc, ← Nat.add_mul]; exact Nat.add_le_add_left (Nat.mul_le_mul_right _ hfit) _
      ·simp only [List.size_toArray,List.length_append,List.length_drop,hcur,hcl]
       omega
   ·obtain ⟨v',w',K',t',h1,h2,h3,h4⟩ := run_append_new hSe (ty := ty) ht hi hv hx (.inl rfl) hsz' hroom (fun a n c hc => by rw [hva.eq] at hc; cases hc; omega)
    exact wrap h4 h1 h2 h3
def zerosAV (z : List AV) (n : Nat) : List AV := (List.range (n * z.length)).map fun j => z.getD (j % z.length) .junk
theorem zerosAV_len (z : List AV) (n : Nat) : (zerosAV z n).length = n * z.length := by simp [zerosAV]
theorem zerosAV_one {z : List AV} (h : ∀ c ∈ z,c.one = true) (n : Nat) : ∀ c ∈ zerosAV z n,c.one = true := by
 intro c hc
 simp only [zerosAV,List.mem_map,List.mem_range] at hc
 obtain ⟨j,hj,rfl⟩ := hc
 have hz : 0 < z.length := by
  rcases Nat.eq_zero_or_pos z.length with h0 | h0
  ·rw [h0] at hj; simp at hj
  ·exact h0
 have hl := Nat.mod_lt j hz
 rw [List.getD_eq_getElem?_getD,List.getElem?_eq_getElem hl]
 exact h _ (List.getElem_mem hl)
theorem zeros_rel {K : Kn} {z : List AV} {zs : Array Value} (h : RelL K z zs.toList) (n : Nat) : RelL K (zerosAV z n) (Builtin.zeroCells zs n).toList := by
 have hl : z.length = zs.size := by simpa using h.1
 refine ⟨by rw [zerosAV_len]; simp [Builtin.zeroCells,hl],fun j c v hc hv => ?_⟩
 have hj : j < n * z.length := by
  have := (List.getElem?_eq_some_iff.1 hc).1
  rwa [zerosAV_len] at this
 have hz : 0 < z.length := by
  rcases Nat.eq_zero_or_pos z.length with h0 | h0
  ·rw [h0] at hj; simp at hj
  ·exact h0
 have hm := Nat.mod_lt j hz
 have hm' : j % zs.size < zs.size := by rw [← hl]; exact hm
 have e1 : c = z[j % z.length] := by
  simp only [zerosAV,List.getElem?_map,List.getElem?_range hj,Option.map_some,Option.some.injEq] at hc
  rw [← hc,List.getD_eq_getElem?_getD,List.getElem?_eq_getElem hm]; rfl
 have e2 : v = zs[j % zs.size] := by
  have hj' : j < n * zs.size := by rw [← hl]; exact hj
  simp only [Builtin.zeroCells,Array.getElem?_toList,Array.getElem?_map,Array.getElem?_range] at hv
  rw [if_pos hj'] at hv
  simp only [Option.map_some,Option.some.injEq] at hv
  rw [← hv]
  exact getElem!_pos zs (j % zs.size) hm'
 refine h.2 (j % z.length) c v ?_ ?_
 ·rw [e1,List.getElem?_eq_getElem hm]
 ·rw [e2,hl]; simp [hm']
theorem run_append_mut {P : Program} {w0 w : World} {K : Kn} {S : List En} (hS : RelS w0 K S w) {t ty e : TypeId} {i : TI} (ht : P.underlying t = some (.slice e)) (hi : TOk P e i) {sz sz' : Nat} {xs : List AV} {tk' : Tk} {v x : Value}
  (hv : Rel K (.sl sz [] .full) v) (hx : Rel K (.sl sz' xs tk') x) (hsz' : i.sz = sz' ∨ xs = []) (hroom : roomFor xs.length i.by_) :
  ∃ v' w' b cap rest,(Builtin.append_ #[t,t] ty #[v,x]).run P w = .ok v' w' ∧ Rel K (.msl b 0 xs.length cap) v' ∧ RelS w0 K (hold xs.length b (flat xs ++ rest) S) w' ∧ xs.length ≤ cap ∧ (xs = [] → cap = 0) ∧ rest.length = (cap - xs.length) * i.sz := by
 obtain ⟨inf,z,hinf,hs,hb,hz,hzr,hz1⟩ := hi.get
 have hmaxl : xs.length ≤ maxLen := by have := hroom.2.2; simpa [maxLen] using this
 by_cases hxs : xs = []
 ·subst hxs
  refine ⟨v,w,0,0, [],?_,?_,by simpa [hold] using hS,by simp,fun _ => rfl,by simp⟩
  ·rcases sl_cases hx with ⟨a0,rfl,_,_⟩ | ⟨bx,ox,cx,ns,hxa,_⟩
   ·rcases sl_cases hv with ⟨a0,rfl,_,_⟩ | ⟨bv,ov,cv,vs,hva,_⟩
    ·exact run_append_none ht hi _ _ _ _ _ (Nat.le_refl _)
    ·rw [hva.eq]; exact run_append_none ht hi _ _ _ _ _ hva.hcap
   ·rw [hxa.eq]
    rcases sl_cases hv with ⟨a0,rfl,_,_⟩ | ⟨bv,ov,cv,vs,hva,_⟩
    ·exact run_append_none ht hi _ _ _ _ _ (Nat.le_refl _)
    ·rw [hva.eq]; exact run_append_none ht hi _ _ _ _ _ hva.hcap
  ·rcases sl_cases hv with ⟨a0,rfl,_,_⟩ | ⟨bv,ov,cv,vs,hva,htk⟩
   ·exact .mslnil _ _ _
   ·rw [hva.eq]; simp only [TkOk] at htk; subst htk; exact .msl _ _ _ _ (by simp) (by simp) (.inr (by simp))
 ·have hpos : 0 < xs.length := by cases xs with | nil => exact absurd rfl hxs | cons a l => simp
  rcases sl_cases hx with ⟨a0,_,h,_⟩ | ⟨bx,ox,cx,ns,hxa,_⟩
  ·exact absurd h hxs
  ·have hxl : ns.length = xs.length * i.sz := by rw [← hxa.rel.1,flat_take (all_sz hxa.szs hsz')]
   have hxc : ∀ (j : Nat) (u : Value),ns[j]? = some u → w.cell? ((⟨bx,ox,none⟩ : Addr).add j) = some u := by
    intro j u hu; rw [Addr.add_lit]; exact hS.kcell _ _ _ (hxa.known j u hu)
   have fin : ∀ m : Nat, ∃ rest : List AV,rest.length = m * i.sz ∧ RelS w0 K (hold xs.length w.heap.size (flat xs ++ rest) S) (w.drew.alloc (.cells (ns.toArray ++ Builtin.zeroCells z.cells m) e)) := by
    intro m
    refine ⟨zerosAV i.zero m,by rw [zerosAV_len,hi.len],?_⟩
    rw [hold,if_neg (by omega)]
    refine (hS.drew).allocCells e (cs := flat xs ++ zerosAV i.zero m) ?_ ?_
    ·intro c hc
     rcases List.mem_append.1 hc with hc | hc
     ·exact hxa.one c hc
     ·exact zerosAV_one hz1 m c hc
    ·rw [Array.toList_append]
     exact RelL.append (by simpa using hxa.rel) (zeros_rel (hzr K) m)
   rcases sl_cases hv with ⟨a0,rfl,_,_⟩ | ⟨bv,ov,cv,vs,hva,htk⟩
   ·have hrun := run_append_zero (P := P) (w := w) t ty e inf z ht hinf hz a0 ⟨bx,ox,none⟩ xs.length cx ns (by rw [hxl,hs]) hxc hpos (by have := hroom.2.2; omega) (by
     rw [hb]; have := hroom.1; omega)
    obtain ⟨rest,hrl,hr⟩ := fin (grownCap w xs.length 0 e - xs.length)
    exact ⟨_,_,w.heap.size,_,rest,by rw [hxa.eq]; exact hrun, .msl _ _ _ _ (grownCap_ge _ _ _ _) (grownCap_lt _ _ _ _ hmaxl) (.inl ⟨rfl,rfl⟩),hr,grownCap_ge _ _ _ _,fun h => absurd h hxs,hrl⟩
   ·simp only [TkOk] at htk
    subst htk
    have hvs : vs = [] := by have := hva.rel.1; simpa [flat] using this.symm
    subst hvs
    have hrun := run_append_grow (P := P) w t ty e inf z ht hinf hz ⟨bv,ov,none⟩ 0 0 [] (by simp) (fun j u hu => by simp at hu) ⟨bx,ox,none⟩ xs.length cx ns (by rw [hxl,hs]) hxc (by omega)
     (by have := hroom.2.2; simp; omega) (by rw [hb]; simpa using hroom.cap hpos)
    obtain ⟨rest,hrl,hr⟩ := fin (grownCap w xs.length 0 e - xs.length)
    simp only [Nat.zero_add] at hrun
    refine ⟨_,_,w.heap.size,_,rest,by rw [hva.eq,hxa.eq]; exact hrun, .msl _ _ _ _ (grownCap_ge _ _ _ _) (grownCap_lt _ _ _ _ hmaxl) (.inl ⟨rfl,rfl⟩),?_,grownCap_ge _ _ _ _,fun h => absurd h hxs,hrl⟩
    simpa using hr
theorem run_slice_raw {P : Program} {w : World} {K : Kn} {t e : TypeId} {i : TI} (hu : P.underlying t = some (.slice e)) (hi' : TOk P e i) {a : Option Addr} {n cap : Nat}
  {lo hi mx : Option AV} {lo' hi'' mx' : Option Value} (hlo : RelO K lo lo') (hhi : RelO K hi hi'') (hmx : RelO K mx mx') (hmh : mx.isSome = true → hi.isSome = true)
  (h0 : 0 ≤ bnd lo 0) (h1 : bnd lo 0 ≤ bnd hi n) (h2 : bnd hi n ≤ bnd mx cap) (h3 : bnd mx cap ≤ cap) :
  (Instr.sliceAt t (.slice a n cap) lo' hi'' mx').run P w = .ok (.slice (if (bnd mx cap).toNat = (bnd lo 0).toNat then a else a.map (·.add ((bnd lo 0).toNat * i.sz))) ((bnd hi n).toNat - (bnd lo 0).toNat) ((bnd mx cap).toNat - (bnd lo 0).toNat)) w := by
 have hb := run_sliceBounds (P := P) (w := w) (isS := true) (len := n) (cap := cap) hlo hhi hmx hmh h0 h1 h2 h3
 simp only [Instr.sliceAt]
 rw [run_bind_ok (run_underlying hu w)]
 simp only [Instr.slice]
 rw [run_bind_ok (run_underlying hu w)]
 simp only []
 rw [run_bind_ok hb]
 simp only []
 rw [run_bind_ok (hi'.sizeOf w)]
 rfl
theorem run_slice_msl {P : Program} {w : World} {K : Kn} {t e : TypeId} {i : TI} (hu : P.underlying t = some (.slice e)) (hi' : TOk P e i) {b off n cap : Nat} {v : Value} (hv : Rel K (.msl b off n cap) v)
  {lo hi mx : Option AV} {lo' hi'' mx' : Option Value} (hlo : RelO K lo lo') (hhi : RelO K hi hi'') (hmx : RelO K mx mx') (hmh : mx.isSome = true → hi.isSome = true)
  (h0 : 0 ≤ bnd lo 0) (h1 : bnd lo 0 ≤ bnd hi n) (h2 : bnd hi n ≤ bnd mx cap) (h3 : bnd mx cap ≤ cap) :
  ∃ x,(Instr.sliceAt t v lo' hi'' mx').run P w = .ok x w ∧ Rel K (.msl b (off + (bnd lo 0).toNat * i.sz) ((bnd hi n).toNat - (bnd lo 0).toNat) ((bnd mx cap).toNat - (bnd lo 0).toNat)) x := by
 cases hv with
 | mslnil _ _ a0 =>
  have hr := run_slice_raw (w := w) (a := a0) hu hi' hlo hhi hmx hmh h0 h1 h2 h3
  refine ⟨_,hr,?_⟩
  have e1 : (bnd mx (0 : Nat)).toNat = 0 := by simp at h3 ⊢; omega
  have e2 : (bnd lo 0).toNat = 0 := by simp at h3 h2 h1; omega
  have e3 : (bnd hi (0 : Nat)).toNat = 0 := by simp at h3 h2 h1 ⊢; omega
  rw [e1,e2,e3]
  exact .mslnil _ _ _
 | @msl _ _ _ _ b' o' hle hmax ho =>
  have hr := run_slice_raw (w := w) (a := some ⟨b',o',none⟩) hu hi' hlo hhi hmx hmh h0 h1 h2 h3
  refine ⟨_,hr,?_⟩
  split
  ·rename_i he
   rw [he,Nat.sub_self]
   exact .msl _ _ _ _ (by omega) (by omega) (.inr rfl)
  ·simp only [Option.map_some,Addr.add_lit]
   refine .msl _ _ _ _ (by omega) (by omega) ?_
   rcases ho with ⟨rfl,rfl⟩ | ho
   ·exact .inl ⟨rfl,rfl⟩
   ·right; omega
theorem run_clear_msl {P : Program} {w0 w : World} {K : Kn} {S : List En} (hS : RelS w0 K S w) {t ty e : TypeId} {i : TI} (hu : P.underlying t = some (.slice e)) (hi : TOk P e i) {b off n cap p : Nat} {cs : List AV} (hp : S[p]? = some (.cells b cs)) {v : Value} (hv : Rel K (.msl b off n cap) v)
  (hs : off + n * i.sz ≤ cs.length) :
  ∃ w',(Builtin.clear_ #[t] ty #[v]).run P w = .ok (.tuple #[]) w' ∧ RelS w0 K (S.set p (.cells b (setCells cs off (zerosAV i.zero n)))) w' := by
 have h0 : ∀ w,n = 0 → RelS w0 K S w → RelS w0 K (S.set p (.cells b (setCells cs off (zerosAV i.zero n)))) w := by
  intro w hn hS
  subst hn
  have e : setCells cs off (zerosAV i.zero 0) = cs := by simp [setCells,zerosAV]
  rw [e]
  have : S.set p (.cells b cs) = S := by
   apply List.ext_getElem?
   intro q
   rw [List.getElem?_set]
   split
   ·rename_i h; subst h; rw [hp]; simp [(List.getElem?_eq_some_iff.1 hp).1]
   ·rfl
  rw [this]; exact hS
 cases hv with
 | mslnil _ _ a0 => exact ⟨w,by cases a0 <;> simp [Builtin.clear_,run_underlying hu],h0 w rfl hS⟩
 | @msl _ _ _ _ b' o' hle hmax ho =>
  cases n with
  | zero => exact ⟨w,by simp [Builtin.clear_,run_underlying hu],h0 w rfl hS⟩
  | succ n =>
   obtain ⟨rfl,rfl⟩ : b' = b ∧ o' = off := by
    rcases ho with ho | ho
    ·exact ho
    ·omega
   obtain ⟨inf,z,hinf,hs',hb',hz,hzr,hz1⟩ := hi.get
   obtain ⟨hB,hK,h1,vs,T,hh,hr⟩ := hS.ents _ (List.mem_of_getElem? hp)
   have hzrel := zeros_rel (hzr K) (n + 1)
   have hzl : (Builtin.zeroCells z.cells (n + 1)).toList.length = (n + 1) * i.sz := by rw [← hzrel.1,zerosAV_len,hi.len]
   have hst := run_storeCells_at P b' o' T (Builtin.zeroCells z.cells (n + 1)).toList 0 vs w hh (by
    have : cs.length = vs.toList.length := hr.1
    rw [hzl]; simp only [Array.length_toList] at this; omega) (relL_one hzrel (zerosAV_one hz1 _))
   have hfin : (Builtin.clear_ #[t] ty #[.slice (some ⟨b',o',none⟩) (n + 1) cap]).run P w = .ok (.tuple #[]) (w.setRow b' (List.take (o' + 0) vs.toList ++ (Builtin.zeroCells z.cells (n + 1)).toList ++ List.drop (o' + 0 + (Builtin.zeroCells z.cells (n + 1)).toList.length) vs.toList).toArray) := by
    simp only [Builtin.clear_]
    have hz0 : (zeroValue e).run P w = .ok z w := by simp [zeroValue,typeInfo,hinf,hz]
    simp only [List.getElem?_toArray,List.getElem?_cons_zero]
    rw [run_bind_ok (run_underlying hu w)]
    simp only []
    rw [run_bind_ok hz0,run_bind_ok hst]
    rfl
   refine ⟨_,hfin,?_⟩
   ·refine hS.turn hp (b := b') rfl (Kle.refl K) (fun _ _ => rfl) (fun c hc => setRow_other _ _ _ _ hc) (by simp) rfl rfl rfl (fun j u hu => by rw [hK] at hu; simp at hu) (fun c t fr hc => ⟨_,_,setRow_heap _ _ _ _ _ _ hc⟩) (.inl rfl)
     ⟨hB,hK,?_,_,T,setRow_heap _ _ _ _ _ _ hh,?_⟩
    ·intro c hc
     simp only [setCells,List.mem_append] at hc
     rcases hc with (hc | hc) | hc
     ·exact h1 c (List.mem_of_mem_take hc)
     ·exact zerosAV_one hz1 _ c hc
     ·exact h1 c (List.mem_of_mem_drop hc)
    ·simp only [setCells,Nat.add_zero]
     have e : (zerosAV i.zero (n + 1)).length = (Builtin.zeroCells z.cells (n + 1)).toList.length := hzrel.1
     rw [e]
     exact ((hr.take o').append hzrel).append (hr.drop _)
theorem run_equalIn_nil {P : Program} {w : World} {t e : TypeId} (hu : P.underlying t = some (.slice e)) (d : Nat) (a : Option Addr) (n c : Nat) : (Op.equalIn (d + 1) t (.slice a n c) (.slice none 0 0)).run P w = .ok a.isNone w := by
 cases a <;> simp [Op.equalIn,run_underlying hu]
theorem run_nilEq {P : Program} {w : World} {t e : TypeId} (hu : P.underlying t = some (.slice e)) (a : Option Addr) (n c : Nat) (ox oy : Operand) :
  ((do eqGuard .eql t ox oy (.slice a n c) (.slice none 0 0); binOp .eql t (.slice a n c) (.slice none 0 0) : Sem Value)).run P w = .ok (.bool a.isNone) w ∧
  ((do eqGuard .neq t ox oy (.slice a n c) (.slice none 0 0); binOp .neq t (.slice a n c) (.slice none 0 0) : Sem Value)).run P w = .ok (.bool (!a.isNone)) w := by
 have h : (Op.equal t (.slice a n c) (.slice none 0 0)).run P w = .ok a.isNone w := run_equalIn_nil hu 9999 a n c
 constructor
 ·show ((do eqGuard .eql t ox oy (.slice a n c) (.slice none 0 0); (do pure (.bool (← Op.equal t (.slice a n c) (.slice none 0 0))) : Sem Value)) : Sem Value).run P w = _
  rw [run_bind_ok (a := ()) (w' := w) rfl,run_bind_ok h]; rfl
 ·show ((do eqGuard .neq t ox oy (.slice a n c) (.slice none 0 0); (do pure (.bool (!(← Op.equal t (.slice a n c) (.slice none 0 0)))) : Sem Value)) : Sem Value).run P w = _
  rw [run_bind_ok (a := ()) (w' := w) rfl,run_bind_ok h]; rfl
end Go.Aw
namespace Go.Aw
open Go.RowKit
theorem foldl_set (off : Nat) : ∀ (l : List Value) (k : Nat) (cells : Array Value),off + k + l.length ≤ cells.size →
  (l.zipIdx k).foldl (fun (cs : Array Value) (p : Value × Nat) => cs.setIfInBounds (off + p.2) p.1) cells = (cells.toList.take (off + k) ++ l ++ cells.toList.drop (off + k + l.length)).toArray := by
 intro l
 induction l with
 | nil => intro k cells _; simp
 | cons v l ih =>
  intro k cells h
  simp only [List.length_cons] at h
  simp only [List.zipIdx_cons,List.foldl_cons]
  rw [ih (k + 1) _ (by simp; omega)]
  congr 1
  apply List.ext_getElem?
  intro j
  have hcl : cells.toList.length = cells.size := Array.length_toList
  have e1 : (cells.setIfInBounds (off + k) v).toList = cells.toList.set (off + k) v := by simp
  rw [e1]
  simp only [List.append_assoc]
  by_cases h1 : j < off + k
  ·rw [List.getElem?_append_left (by simp; omega),List.getElem?_append_left (by simp; omega)]
   rw [List.getElem?_take,List.getElem?_take,if_pos (by omega),if_pos (by omega),List.getElem?_set_ne (by omega)]
  ·by_cases h2 : j = off + k
   ·subst h2
    rw [List.getElem?_append_left (by simp; omega),List.getElem?_append_right (by simp; omega)]
    rw [List.getElem?_take,if_pos (by omega),List.getElem?_set_self (by omega)]
    rw [List.length_take,hcl,show off + k - min (off + k) cells.size = 0 by omega]; rfl
   ·have l1 : ((cells.toList.set (off + k) v).take (off + (k + 1))).length = off + (k + 1) := by rw [List.length_take,List.length_set,hcl]; omega
    have l2 : (cells.toList.take (off + k)).length = off + k := by rw [List.length_take,hcl]; omega
    have hL : ((cells.toList.set (off + k) v).take (off + (k + 1)) ++ (l ++ (cells.toList.set (off + k) v).drop (off + (k + 1) + l.length)))[j]? = (l ++ (cells.toList.set (off + k) v).drop (off + (k + 1) + l.length))[j - (off + (k + 1))]? := by
     rw [List.getElem?_append_right (by rw [l1]; omega),l1]
    have hR : (cells.toList.take (off + k) ++ (v :: l ++ cells.toList.drop (off + k + (l.length + 1))))[j]? = (l ++ cells.toList.drop (off + k + (l.length + 1)))[j - (off + (k + 1))]? := by
     rw [List.getElem?_append_right (by rw [l2]; omega),l2,show j - (off + k) = (j - (off + (k + 1))) + 1 by omega,List.cons_append,List.getElem?_cons_succ]
    rw [hL]
    refine Eq.trans ?_ hR.symm
    by_cases h3 : j - (off + (k + 1)) < l.length
    ·rw [List.getElem?_append_left h3,List.getElem?_append_left h3]
    ·rw [List.getElem?_append_right (by omega)]
     refine Eq.symm (Eq.trans (List.getElem?_append_right (by omega)) ?_)
     rw [List.getElem?_drop,List.getElem?_drop,List.getElem?_set_ne (by omega)]
     congr 1; omega
def aFill (place : Nat → Option (Nat × Nat)) : List AV → List (Nat × AV) → Option (List AV)
 | cs, [] => some cs
 | cs,(i,x) :: r => match place i with
  | none => none
  | some (off,sz) => bif x.plain && Nat.beq x.cells.length sz && Nat.ble (off + sz) cs.length then aFill place (setCells cs off x.cells) r else none
inductive RelP (K : Kn) : List (Nat × AV) → List (Nat × Value) → Prop
 | nil : RelP K [] []
 | cons {i : Nat} {x : AV} {v : Value} {r : List (Nat × AV)} {s : List (Nat × Value)} (h : Rel K x v) (t : RelP K r s) : RelP K ((i,x) :: r) ((i,v) :: s)
theorem fill_rel {K : Kn} {place : Nat → Option (Nat × Nat)} : ∀ {ps : List (Nat × AV)} {qs : List (Nat × Value)} {cs cs' : List AV} {vs : List Value},RelP K ps qs → RelL K cs vs → (∀ c ∈ cs,c.one = true) →
  aFill place cs ps = some cs' → ∃ vs',Instr.fill place vs.toArray qs = some vs'.toArray ∧ RelL K cs' vs' ∧ (∀ c ∈ cs',c.one = true) ∧ cs'.length = cs.length := by
 intro ps
 induction ps with
 | nil =>
  intro qs cs cs' vs hp hr h1 h
  cases hp
  simp only [aFill,Option.some.injEq] at h
  subst h
  exact ⟨vs,rfl,hr,h1,rfl⟩
 | cons p ps ih =>
  intro qs cs cs' vs hp hr h1 h
  cases hp with
  | @cons i x v _ s hx ht =>
   simp only [aFill] at h
   cases hpl : place i with
   | none => rw [hpl] at h; cases h
   | some q =>
    obtain ⟨off,sz⟩ := q
    rw [hpl] at h
    simp only [] at h
    cases hc : (x.plain && Nat.beq x.cells.length sz && Nat.ble (off + sz) cs.length) with
    | false => rw [hc] at h; cases h
    | true =>
     rw [hc] at h
     simp only [cond_true] at h
     simp only [Bool.and_eq_true] at hc
     obtain ⟨⟨ha,hb⟩,hcc⟩ := hc
     have hsz : x.cells.length = sz := Nat.eq_of_beq_eq_true hb
     have hle : off + sz ≤ cs.length := Nat.le_of_ble_eq_true hcc
     obtain ⟨hxl,hx1⟩ := hx.plain ha
     have hvl : v.cells.toList.length = sz := by rw [← hxl.1,hsz]
     have hvs : v.cells.size = sz := by rw [← hvl]; exact Array.length_toList.symm
     have hset : RelL K (setCells cs off x.cells) (vs.take off ++ v.cells.toList ++ vs.drop (off + v.cells.toList.length)) := by
      unfold setCells; rw [hxl.1]; exact ((hr.take off).append hxl).append (hr.drop _)
     have hlen : (setCells cs off x.cells).length = cs.length := by unfold setCells; simp; omega
     obtain ⟨vs',h2,h3,h4,h5⟩ := ih ht hset (fun c hc => by
      simp only [setCells,List.mem_append] at hc
      rcases hc with (hc | hc) | hc
      ·exact h1 c (List.mem_of_mem_take hc)
      ·exact hx1 c hc
      ·exact h1 c (List.mem_of_mem_drop hc)) h
     refine ⟨vs',?_,h3,h4,by rw [h5,hlen]⟩
     rw [← h2]
     simp only [Instr.fill,hpl]
     have hvsz : off + v.cells.size ≤ vs.toArray.size := by simp only [List.size_toArray, ← hr.1]; omega
     rw [if_neg (by simp only [hvs,bne_self_eq_false,Bool.or_eq_true,decide_eq_true_eq]; simp only [List.size_toArray, ← hr.1]; simp; omega)]
     congr 1
     have := foldl_set off v.cells.toList 0 vs.toArray (by rw [Nat.add_zero,Array.length_toList]; exact hvsz)
     simp only [Nat.add_zero] at this
     rw [← this]
     rw [← Array.foldl_toList]
     congr 1
     simp
theorem RelP.of {N : Nat} {K : Kn} {E : Env} {a : Act} (h : RelE N K E a) : ∀ (ps : List (Nat × Operand)),(ps.all fun p => opdOk p.2) = true → RelP K (ps.map fun p => (p.1,ev E p.2)) (ps.map fun p => (p.1,a.eval p.2))
 | [],_ => .nil
 | p :: ps,hp => by
  simp only [List.all_cons,Bool.and_eq_true] at hp
  exact .cons (h.ev _ hp.1) (RelP.of h ps hp.2)
def placeS (τ : List (TypeId × TI)) (fs : List (Nat × TypeId)) (i : Nat) : Option (Nat × Nat) := (fs[i]?).map fun p => (p.1,(lkT τ p.2).sz)
theorem run_places {P : Program} {w : World} {τ : List (TypeId × TI)} (hτ : AllOk P τ) : ∀ (fields : List Field),(∀ f ∈ fields,(lkT τ f.type).d.known = true) →
  (fields.mapM (m := Sem) fun f => do pure (f.offset, ← sizeOf f.type)).run P w = .ok (fields.map fun f => (f.offset,(lkT τ f.type).sz)) w
 | [],_ => by simp
 | f :: fs,h => by
  have h1 := (lkT_ok hτ f.type (TD.known_ne (h f (by simp)))).sizeOf w
  have h2 := run_places hτ fs (fun x hx => h x (by simp [hx])) (w := w)
  rw [List.mapM_cons]
  simp only [Sem.run_bind,h1,Result.andThen_ok,Sem.run_pure]
  rw [h2]; rfl
theorem run_build_struct {P : Program} {w : World} {K : Kn} {τ : List (TypeId × TI)} (hτ : AllOk P τ) {t : TypeId} {fs : List (Nat × TypeId)} (hd : (lkT τ t).d = .struct fs) (hk : ∀ p ∈ fs,(lkT τ p.2).d.known = true)
  {ps : List (Nat × AV)} {qs : Array (Nat × Value)} (hp : RelP K ps qs.toList) {cs : List AV} (hf : aFill (placeS τ fs) (lkT τ t).zero ps = some cs) :
  ∃ v,(Instr.build t qs).run P w = .ok v w ∧ Rel K (.agg cs) v := by
 have hi := lkT_ok hτ t (by rw [hd]; simp)
 obtain ⟨x,z,hx,hs,hb,hz,hzr,hz1⟩ := hi.get
 have hD := hi.d
 rw [hd] at hD
 obtain ⟨fields,hu,rfl⟩ := hD
 have hpl := run_places (P := P) (w := w) hτ fields.toList (fun f hf => hk (f.offset,f.type) (List.mem_map.2 ⟨f,hf,rfl⟩))
 obtain ⟨vs',h1,h2,h3,_⟩ := fill_rel hp (hzr K) hz1 hf
 refine ⟨.agg vs'.toArray,?_, .agg h3 h2.1 h2.2⟩
 simp only [Instr.build]
 have hzv : (zeroValue t).run P w = .ok z w := by simp [zeroValue,typeInfo,hx,hz]
 rw [run_bind_ok hzv]
 rw [run_bind_ok (run_underlying hu w)]
 simp only []
 have hpl' : (fields.mapM (m := Sem) fun f => do pure (f.offset, ← sizeOf f.type)).run P w = .ok (fields.toList.map fun f => (f.offset,(lkT τ f.type).sz)).toArray w := by
  rw [Array.mapM_eq_mapM_toList,Sem.run_map,hpl]; rfl
 rw [run_bind_ok hpl']
 have hplace : (fun i => (fields.toList.map fun f => (f.offset,(lkT τ f.type).sz)).toArray[i]?) = placeS τ (fields.toList.map fun f => (f.offset,f.type)) := by
  funext i
  simp [placeS]
  rfl
 have e0 : z.cells.toList.toArray = z.cells := by simp
 rw [e0] at h1
 simp only [hplace,h1]
 rfl
theorem run_build_arr {P : Program} {w : World} {K : Kn} {τ : List (TypeId × TI)} (hτ : AllOk P τ) {t e : TypeId} {n : Nat} (hd : (lkT τ t).d = .array n e) (hk : (lkT τ e).d.known = true)
  {ps : List (Nat × AV)} {qs : Array (Nat × Value)} (hp : RelP K ps qs.toList) {cs : List AV} (hf : aFill (fun i => some (i * (lkT τ e).sz,(lkT τ e).sz)) (lkT τ t).zero ps = some cs) :
  ∃ v,(Instr.build t qs).run P w = .ok v w ∧ Rel K (.agg cs) v := by
 have hi := lkT_ok hτ t (by rw [hd]; simp)
 obtain ⟨x,z,hx,hs,hb,hz,hzr,hz1⟩ := hi.get
 have hD := hi.d
 rw [hd] at hD
 obtain ⟨vs',h1,h2,h3,_⟩ := fill_rel hp (hzr K) hz1 hf
 refine ⟨.agg vs'.toArray,?_, .agg h3 h2.1 h2.2⟩
 simp only [Instr.build]
 have hzv : (zeroValue t).run P w = .ok z w := by simp [zeroValue,typeInfo,hx,hz]
 rw [run_bind_ok hzv]
 rw [run_bind_ok (run_underlying hD w)]
 simp only []
 rw [run_bind_ok ((lkT_ok hτ e (TD.known_ne hk)).sizeOf w)]
 have e0 : z.cells.toList.toArray = z.cells := by simp
 rw [e0] at h1
 simp only [h1]
 rfl
theorem fill_elems {K : Kn} {sz : Nat} : ∀ {xs : List AV} {qs : List (Nat × Value)} {k : Nat} {pre rest : List Value},RelP K (xs.zipIdx k |>.map fun p => (p.2,p.1)) qs → (∀ x ∈ xs,x.plain = true ∧ x.cells.length = sz) →
  pre.length = k * sz → rest.length = xs.length * sz →
  ∃ vs,Instr.fill (fun i => some (i * sz,sz)) (pre ++ rest).toArray qs = some (pre ++ vs).toArray ∧ RelL K (flat xs) vs ∧ (∀ c ∈ flat xs,c.one = true) := by
 intro xs
 induction xs with
 | nil =>
  intro qs k pre rest hp _ _ hrest
  simp at hp
  cases hp
  simp at hrest
  subst hrest
  exact ⟨[],by simp [Instr.fill],RelL.nil,by simp [flat]⟩
 | cons x xs ih =>
  intro qs k pre rest hp hx hpre hrest
  simp only [List.zipIdx_cons,List.map_cons] at hp
  cases hp with
  | @cons _ _ v _ s hv ht =>
   obtain ⟨hpl,hsz⟩ := hx x (by simp)
   obtain ⟨hxl,hx1⟩ := hv.plain hpl
   have hvl : v.cells.toList.length = sz := by rw [← hxl.1,hsz]
   have hvs : v.cells.size = sz := by rw [← hvl]; exact Array.length_toList.symm
   have hr1 : rest.length = sz + xs.length * sz := by rw [hrest,List.length_cons,Nat.succ_mul]; omega
   obtain ⟨vs,h1,h2,h3⟩ := ih (k := k + 1) (pre := pre ++ v.cells.toList) (rest := rest.drop sz) ht (fun y hy => hx y (by simp [hy])) (by rw [List.length_append,hvl,hpre,Nat.succ_mul]) (by rw [List.length_drop,hr1]; omega)
   refine ⟨v.cells.toList ++ vs,?_,?_,?_⟩
   ·rw [← List.append_assoc, ← h1]
    simp only [Instr.fill]
    rw [if_neg (by simp only [hvs,bne_self_eq_false,Bool.or_eq_true,decide_eq_true_eq]; simp only [List.size_toArray,List.length_append,hpre,hr1]; simp)]
    congr 1
    have := foldl_set (k * sz) v.cells.toList 0 (pre ++ rest).toArray (by rw [Nat.add_zero,Array.length_toList,hvs]; simp only [List.size_toArray,List.length_append,hpre,hr1]; omega)
    simp only [Nat.add_zero] at this
    rw [← Array.foldl_toList,Array.toList_zipIdx,this]
    congr 1
    rw [hvl,List.take_append,List.drop_append, ← hpre]
    simp
   ·simp only [flat,List.flatMap_cons]; exact hxl.append h2
   ·intro c hc
    simp only [flat,List.flatMap_cons,List.mem_append] at hc
    rcases hc with hc | hc
    ·exact hx1 c hc
    ·exact h3 c hc
theorem run_buildSlice {P : Program} {w0 w : World} {K : Kn} {S : List En} (hS : RelS w0 K S w) {t e : TypeId} {i : TI} (hu : P.underlying t = some (.slice e)) (hi : TOk P e i) {xs : List AV} {qs : Array (Nat × Value)}
  (hp : RelP K (xs.zipIdx.map fun p => (p.2,p.1)) qs.toList) (hx : ∀ x ∈ xs,x.plain = true ∧ x.cells.length = i.sz) (hlen : xs.length * i.sz ≤ 16777216 ∧ xs.length ≤ 16777216) :
  ∃ v w' K',(Instr.buildSlice t xs.length qs).run P w = .ok v w' ∧ Kle K K' ∧ Rel K' (.sl i.sz xs .full) v ∧ RelS w0 K' S w' := by
 obtain ⟨x,z,hx',hs,hb,hz,hzr,hz1⟩ := hi.get
 have hfillArr : ∀ (zero : Array Value), ∃ vs,Instr.fill (fun j => some (j * i.sz,i.sz)) ((Array.range (xs.length * i.sz)).map (fun j => zero[j % zero.size]!)) qs.toList = some (List.toArray vs) ∧ RelL K (flat xs) vs ∧ (∀ c ∈ flat xs,c.one = true) := by
  intro zero
  obtain ⟨vs,h1,h2,h3⟩ := fill_elems (K := K) (sz := i.sz) (xs := xs) (k := 0) (pre := []) (rest := ((Array.range (xs.length * i.sz)).map (fun j => zero[j % zero.size]!)).toList) hp hx (by simp) (by simp)
  refine ⟨vs,?_,h2,h3⟩
  simp only [List.nil_append,Array.toArray_toList] at h1
  exact h1
 have key : ∀ (vs : List Value),RelL K (flat xs) vs → (∀ c ∈ flat xs,c.one = true) → ∃ K',Kle K K' ∧ Rel K' (.sl i.sz xs .full) (.slice (some ⟨w.heap.size,0,none⟩) xs.length xs.length) ∧ RelS w0 K' S (w.alloc (.cells vs.toArray e)) := by
  intro vs h2 h3
  have hszs : ∀ y ∈ xs,y.cells.length = i.sz := fun y hy => (hx y hy).2
  have hmax : xs.length ≤ maxLen := by simp only [maxLen]; omega
  obtain ⟨hKle,hKS⟩ := hS.allocKnown vs.toArray e vs (fun j u hu => by simpa using hu)
  have h2' := h2.mono hKle
  exact ⟨_,hKle, .sl (Nat.le_refl _) hmax hszs h3 h2'.1 h2'.2 (fun j u hu => by rw [Kn.put_same]; simpa using hu) rfl,hKS⟩
 simp only [Instr.buildSlice]
 rw [run_bind_ok (run_underlying hu w)]
 simp only []
 rw [run_bind_ok (hi.sizeOf w),if_neg (by omega)]
 by_cases h0 : xs.length * i.sz = 0
 ·obtain ⟨vs,h1,h2,h3⟩ := hfillArr #[]
  obtain ⟨K',k1,k2,k3⟩ := key vs h2 h3
  refine ⟨_,_,K',?_,k1,k2,k3⟩
  rw [if_pos h0,run_bind_ok (Sem.run_pure P w _)]
  rw [h0] at h1 ⊢
  simp only [h1]
  simp [newRow]
 ·obtain ⟨vs,h1,h2,h3⟩ := hfillArr z.cells
  obtain ⟨K',k1,k2,k3⟩ := key vs h2 h3
  refine ⟨_,_,K',?_,k1,k2,k3⟩
  have hzv : (zeroValue e).run P w = .ok z w := by simp [zeroValue,typeInfo,hx',hz]
  rw [if_neg h0]
  simp only [Sem.run_bind,hzv,Result.andThen_ok,Sem.run_pure,h1]
  simp [newRow]
end Go.Aw
