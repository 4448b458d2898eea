/-
 Sources (what append and copy read),copy,append to a mutable slice,functions of the model's own. Own work.
-/
import Derived.Test.YtfeknkaioofljaaGreatDoorA2
import Derived.Lib.UnsafeStr
import Derived.Lib.OthersKept
import Derived.Lib.RuneCount
import Derived.Lib.Builder
import Derived.Laws.IdiomStrings
import Derived.Laws.RangeAny
import Derived.Stop.IfaceNil
import Derived.LaidEql
import Derived.MapKept
import Derived.Laws.MakeOwn
set_option linter.all false
namespace Go.Aw
open Go.RowKit
def ASrc (S : List En) (sz : Nat) : AV → Nat → List AV → Prop
 | .sl sz' es _,n,cs => (sz = sz' ∨ es = []) ∧ es.length = n ∧ flat es = cs
 | .msl b off n' _,n,cs => n' = n ∧ ((n = 0 ∧ cs = []) ∨ ∃ (p : Nat) (cur : List AV),S[p]? = some (.cells b cur) ∧ off + n * sz ≤ cur.length ∧ (cur.drop off).take (n * sz) = cs)
 | .str s,n,cs => sz = 1 ∧ s.length = n ∧ s.map (fun c => AV.int .u8 c.toNat) = cs
 | _,_,_ => False
structure SrcAs (P : Program) (K : Kn) (sz n : Nat) (cs : List AV) (v : Value) (w : World) (vs : List Value) : Prop where
 rel : RelL K cs vs
 one : ∀ c ∈ cs,c.one = true
 len : vs.length = n * sz
 hmax : n ≤ maxLen
 lenOf : (Builtin.lenOf v).run P w = .ok n w
 first : ∀ m,m ≤ n → (Builtin.firstCells sz m v).run P w = .ok (vs.take (m * sz)).toArray w
theorem run_firstCells_pre {P : Program} (w : World) (sz m : Nat) (a : Addr) (n c : Nat) (vs : List Value) (hm : m * sz ≤ vs.length) (h : ∀ (j : Nat) (u : Value),vs[j]? = some u → w.cell? (a.add j) = some u) :
  (Builtin.firstCells sz m (.slice (some a) n c)).run P w = .ok (vs.take (m * sz)).toArray w := by
 refine run_firstCells_some (P := P) w sz m a n c (vs.take (m * sz)) (by rw [List.length_take]; omega) (fun j u hu => ?_)
 rw [List.getElem?_take] at hu
 split at hu
 ·exact h j u hu
 ·cases hu
theorem src_ok {P : Program} {w0 w : World} {K : Kn} {S : List En} (hS : RelS w0 K S w) {x : AV} {v : Value} {sz n : Nat} {cs : List AV} (hx : Rel K x v) (h : ASrc S sz x n cs) : ∃ vs,SrcAs P K sz n cs v w vs := by
 cases x <;> try exact h.elim
 · -- a string
  rename_i s
  obtain ⟨rfl,rfl,rfl⟩ := h
  cases hx with
  | str _ hs =>
   refine ⟨s.map (fun c => Value.int .u8 c.toNat),?_,?_,by simp,hs,?_,?_⟩
   ·refine ⟨by simp,fun i c u hc hu => ?_⟩
    rw [List.getElem?_map] at hc hu
    cases hsi : s[i]? with
    | none => rw [hsi] at hc; cases hc
    | some b =>
     rw [hsi] at hc hu
     simp only [Option.map_some,Option.some.injEq] at hc hu
     subst hc; subst hu
     refine .int _ _ ?_
     have := b.toNat_lt
     simp only [IntKind.has,IntKind.min,IntKind.max,IntKind.bits,IntKind.signed]
     simp; omega
   ·intro c hc
    obtain ⟨b,_,rfl⟩ := List.mem_map.1 hc
    rfl
   ·show Result.ok (ByteArray.mk s.toArray).size w = _
    simp [ByteArray.size]
   ·intro m hm
    show Result.ok ((ByteArray.mk s.toArray).extract 0 m |>.data.map fun b => Value.int .u8 b.toNat) w = _
    congr 1
    simp [ByteArray.data_extract,List.map_take]
 · -- a slice
  rename_i sz' es t
  obtain ⟨hsz,rfl,rfl⟩ := h
  rcases sl_cases hx with ⟨a,rfl,rfl,_⟩ | ⟨b,off,cap,vs,ha,_⟩
  ·refine ⟨[],RelL.nil,by simp [flat],by simp,by simp,rfl,fun m hm => ?_⟩
   have : m = 0 := by simpa using hm
   subst this
   cases a with
   | none => simp [Builtin.firstCells]
   | some a => simp [Builtin.firstCells,loadCells,loadCellsFrom]
  ·have hl : vs.length = es.length * sz := by rw [← ha.rel.1,flat_take (all_sz ha.szs hsz)]
   refine ⟨vs,ha.rel,ha.one,hl,Nat.le_trans ha.hcap ha.hmax,by rw [ha.eq]; rfl,fun m hm => ?_⟩
   rw [ha.eq]
   exact run_firstCells_pre w sz m _ _ _ vs (by rw [hl]; exact Nat.mul_le_mul_right _ hm) (fun j u hu => by rw [Addr.add_lit]; exact hS.kcell _ _ _ (ha.known j u hu))
 · -- a mutable one
  rename_i b off n' cap
  obtain ⟨rfl,h⟩ := h
  rcases h with ⟨rfl,rfl⟩ | ⟨p,cur,hp,hl,rfl⟩
  ·refine ⟨[],RelL.nil,by simp,by simp,by simp,?_,fun m hm => ?_⟩
   ·cases hx <;> rfl
   ·have : m = 0 := by simpa using hm
    subst this
    cases hx with
    | mslnil _ _ a => cases a <;> simp [Builtin.firstCells,loadCells,loadCellsFrom]
    | msl => simp [Builtin.firstCells,loadCells,loadCellsFrom]
  ·obtain ⟨hB,hK,h1,vs,T,hh,hr⟩ := hS.ents _ (List.mem_of_getElem? hp)
   have hr' := (hr.drop off).take (n' * sz)
   have hlen : ((vs.toList.drop off).take (n' * sz)).length = n' * sz := by rw [← hr'.1,List.length_take,List.length_drop]; omega
   have hone : ∀ c ∈ (cur.drop off).take (n' * sz),c.one = true := fun c hc => h1 c (List.mem_of_mem_drop (List.mem_of_mem_take hc))
   cases hx with
   | mslnil _ _ a =>
    refine ⟨_,hr',hone,hlen,by simp,rfl,fun m hm => ?_⟩
    have : m = 0 := by simpa using hm
    subst this
    cases a <;> simp [Builtin.firstCells,loadCells,loadCellsFrom]
   | @msl _ _ _ _ b' o' hle hmax ho =>
    refine ⟨_,hr',hone,hlen,Nat.le_trans hle hmax,rfl,fun m hm => ?_⟩
    rcases Nat.eq_zero_or_pos n' with hn | hn
    ·have : m = 0 := by omega
     subst this
     simp [Builtin.firstCells,loadCells,loadCellsFrom]
    ·obtain ⟨rfl,rfl⟩ : b' = b ∧ o' = off := by
      rcases ho with ho | ho
      ·exact ho
      ·omega
     refine run_firstCells_pre w sz m _ _ _ _ (by rw [hlen]; exact Nat.mul_le_mul_right _ hm) (fun j u hu => ?_)
     rw [Addr.add_lit,cell_of_heap hh]
     rw [List.getElem?_take] at hu
     split at hu
     ·rw [List.getElem?_drop] at hu
      simpa using hu
     ·cases hu
theorem RelS.stored {w0 w : World} {K : Kn} {S : List En} {p b off : Nat} {cur cs : List AV} (hS : RelS w0 K S w) (hp : S[p]? = some (.cells b cur)) {vs : List Value} (hr : RelL K cs vs) (h1 : ∀ c ∈ cs,c.one = true) (hfit : off + cs.length ≤ cur.length) (P : Program) :
  ∃ w',(storeCells ⟨b,off,none⟩ vs).run P w = .ok () w' ∧ RelS w0 K (S.set p (.cells b (setCells cur off cs))) w' := by
 obtain ⟨hB,hK,ho,cv,T,hh,hc⟩ := hS.ents _ (List.mem_of_getElem? hp)
 have hl : cs.length = vs.length := hr.1
 have hcl : cur.length = cv.size := by rw [hc.1]; simp
 have hst := run_storeCells_at P b off T vs 0 cv w hh (by omega) (relL_one hr h1)
 refine ⟨_,hst,?_⟩
 refine hS.turn hp (b := b) rfl (Kle.refl K) (fun _ _ => rfl) (fun c hc => setRow_other _ _ _ _ hc) (by simp) rfl rfl rfl (fun j u hu => by rw [hK] at hu; simp at hu) (fun c t fr hc => ⟨_,_,setRow_heap _ _ _ _ _ _ hc⟩) (.inl rfl)
  ⟨hB,hK,?_,_,T,setRow_heap _ _ _ _ _ _ hh,?_⟩
 ·intro c hc
  simp only [setCells,List.mem_append] at hc
  rcases hc with (hc | hc) | hc
  ·exact ho c (List.mem_of_mem_take hc)
  ·exact h1 c hc
  ·exact ho c (List.mem_of_mem_drop hc)
 ·simp only [setCells,Nat.add_zero,hl]
  exact ((hc.take off).append hr).append (hc.drop _)
theorem set_same {S : List En} {p : Nat} {e : En} (hp : S[p]? = some e) : S.set p e = S := by
 apply List.ext_getElem?
 intro q
 rw [List.getElem?_set]
 split
 ·rename_i h; subst h; rw [hp]; simp [(List.getElem?_eq_some_iff.1 hp).1]
 ·rfl
theorem run_copy_src {P : Program} {w0 w : World} {K : Kn} {S : List En} (hS : RelS w0 K S w) {t t' ty e : TypeId} {i : TI} (ht : P.underlying t = some (.slice e)) (hi : TOk P e i) {b off n cap p m : Nat} {cur cs : List AV} {x : AV} {v u : Value}
  (hp : S[p]? = some (.cells b cur)) (hv : Rel K (.msl b off n cap) v) (hu : Rel K x u) (hs : ASrc S i.sz x m cs) (hfit : off + min m n * i.sz ≤ cur.length) :
  ∃ w',(Builtin.copy_ #[t,t'] ty #[v,u]).run P w = .ok (.int .i64 (min m n : Nat)) w' ∧ RelS w0 K (S.set p (.cells b (setCells cur off (cs.take (min m n * i.sz))))) w' := by
 obtain ⟨vs,hsrc⟩ := src_ok (P := P) hS hu hs
 have hcl : cs.length = m * i.sz := by rw [hsrc.rel.1,hsrc.len]
 have hmn : min m n * i.sz ≤ m * i.sz := Nat.mul_le_mul_right _ (Nat.min_le_left _ _)
 have htl : (cs.take (min m n * i.sz)).length = min m n * i.sz := by rw [List.length_take]; omega
 have run : ∀ (a : Option Addr) (c : Nat) (w' : World),(match a with | some a => (storeCells a (vs.take (min m n * i.sz))).run P w = .ok () w' | none => w' = w) →
   (Builtin.copy_ #[t,t'] ty #[.slice a n c,u]).run P w = .ok (.int .i64 (min m n : Nat)) w' := by
  intro a c w' ha
  have hf := hsrc.first (min m n) (Nat.min_le_left _ _)
  simp only [Builtin.copy_,List.getElem?_toArray,List.getElem?_cons_zero,List.getElem?_cons_succ]
  rw [run_bind_ok (run_underlying ht w)]
  simp only []
  rw [run_bind_ok hsrc.lenOf]
  rw [run_bind_ok (hi.sizeOf w)]
  have e : Nat.min m n = min m n := rfl
  rw [e,run_bind_ok hf]
  cases a with
  | none => subst ha; rfl
  | some a =>
   simp only []
   simp only [] at ha
   rw [run_bind_ok ha]
   rfl
 have none_at : ∀ (a : Option Addr) (c : Nat),n = 0 → ∃ w',(Builtin.copy_ #[t,t'] ty #[.slice a n c,u]).run P w = .ok (.int .i64 (min m n : Nat)) w' ∧ RelS w0 K (S.set p (.cells b (setCells cur off (cs.take (min m n * i.sz))))) w' := by
  intro a c hn
  subst hn
  refine ⟨w,run a c w ?_,?_⟩
  ·cases a with
   | none => rfl
   | some a => simp [storeCells]
  ·have : setCells cur off (cs.take (min m 0 * i.sz)) = cur := by simp [setCells]
   rw [this,set_same hp]; exact hS
 cases hv with
 | mslnil _ _ a => exact none_at a 0 rfl
 | @msl _ _ _ _ b' o' hle hmax ho =>
  rcases Nat.eq_zero_or_pos n with hn | hn
  ·exact none_at _ _ hn
  ·obtain ⟨rfl,rfl⟩ : b' = b ∧ o' = off := by
    rcases ho with ho | ho
    ·exact ho
    ·omega
   obtain ⟨w',h1,h2⟩ := hS.stored hp (hsrc.rel.take (min m n * i.sz)) (fun c hc => hsrc.one c (List.mem_of_mem_take hc)) (by rw [htl]; exact hfit) P
   exact ⟨w',run _ _ w' h1,h2⟩
def SrcT (P : Program) (t : TypeId) : Prop := (∃ e,P.underlying t = some (.slice e)) ∨ P.underlying t = some .string
theorem run_append_msl_in {P : Program} {w0 w : World} {K : Kn} {S : List En} (hS : RelS w0 K S w) {t t' ty e : TypeId} {i : TI} (ht : P.underlying t = some (.slice e)) (ht' : SrcT P t') (hi : TOk P e i) {b off n cap p m : Nat} {cur cs : List AV} {x : AV} {v u : Value}
  (hp : S[p]? = some (.cells b cur)) (hv : Rel K (.msl b off n cap) v) (hu : Rel K x u) (hs : ASrc S i.sz x m cs) (hroom : n + m ≤ cap) (hfit : off + (n + m) * i.sz ≤ cur.length) :
  ∃ v' w',(Builtin.append_ #[t,t'] ty #[v,u]).run P w = .ok v' w' ∧ Rel K (.msl b off (n + m) cap) v' ∧ RelS w0 K (S.set p (.cells b (setCells cur (off + n * i.sz) cs))) w' := by
 obtain ⟨inf,z,hinf,hsz,hb,hz,_⟩ := hi.get
 obtain ⟨vs,hsrc⟩ := src_ok (P := P) hS hu hs
 have hcl : cs.length = m * i.sz := by rw [hsrc.rel.1,hsrc.len]
 have hf := hsrc.first m (Nat.le_refl _)
 rw [List.take_of_length_le (by rw [hsrc.len]; exact Nat.le_refl _)] at hf
 have run : ∀ (a : Option Addr) (w' : World),(match a with | some a => (storeCells (a.add (n * i.sz)) vs).run P w = Result.ok () w' | none => w' = w) →
   (Builtin.append_ #[t,t'] ty #[.slice a n cap,u]).run P w = .ok (.slice a (n + m) cap) w' := by
  intro a w' ha
  have hl := hsrc.lenOf
  cases a with
  | none =>
   subst ha
   rcases ht' with ⟨e',ht'⟩ | ht' <;> simp [Builtin.append_,run_underlying ht,run_underlying ht',sizeOf,typeInfo,hinf,hsz,hl,hroom,hf]
  | some a =>
   simp only [] at ha
   rcases ht' with ⟨e',ht'⟩ | ht' <;> simp [Builtin.append_,run_underlying ht,run_underlying ht',sizeOf,typeInfo,hinf,hsz,hl,hroom,hf,ha]
 rcases Nat.eq_zero_or_pos m with hm | hm
 ·have hv0 : vs = [] := by have := hsrc.len; rw [hm] at this; simpa using this
  have hc0 : cs = [] := by rw [hm] at hcl; simpa using hcl
  have e1 : setCells cur (off + n * i.sz) cs = cur := by rw [hc0]; simp [setCells]
  rw [e1,set_same hp]
  have run0 : ∀ a,(Builtin.append_ #[t,t'] ty #[.slice a n cap,u]).run P w = .ok (.slice a (n + m) cap) w := by
   intro a
   refine run a w ?_
   cases a with
   | none => rfl
   | some a => rw [hv0]; rfl
  cases hv with
  | mslnil _ _ a =>
   refine ⟨_,w,run0 a,?_,hS⟩
   rw [hm]; exact .mslnil _ _ _
  | @msl _ _ _ _ b' o' hle hmax ho =>
   refine ⟨_,w,run0 _,?_,hS⟩
   exact .msl _ _ _ _ hroom hmax ho
 ·cases hv with
  | mslnil _ _ a => omega
  | @msl _ _ _ _ b' o' hle hmax ho =>
   obtain ⟨rfl,rfl⟩ : b' = b ∧ o' = off := by
    rcases ho with ho | ho
    ·exact ho
    ·omega
   obtain ⟨w',h1,h2⟩ := hS.stored hp (off := o' + n * i.sz) hsrc.rel hsrc.one (by rw [hcl,Nat.add_assoc, ← Nat.add_mul]; exact hfit) P
   refine ⟨_,w',run _ w' ?_, .msl _ _ _ _ hroom hmax (.inl ⟨rfl,rfl⟩),h2⟩
   simp only [Addr.add_lit]; exact h1
theorem RelS.appended {w0 w : World} {K : Kn} {S : List En} (hS : RelS w0 K S w) {P : Program} {e : TypeId} {i : TI} (hi : TOk P e i) {z : Value} (hzr : RelL K i.zero z.cells.toList) (hz1 : ∀ c ∈ i.zero,c.one = true)
  {old cs : List AV} {os vs : List Value} (ho : RelL K old os) (ho1 : ∀ c ∈ old,c.one = true) (hr : RelL K cs vs) (h1 : ∀ c ∈ cs,c.one = true) (k : Nat) :
  RelS w0 K (.cells w.heap.size (old ++ cs ++ zerosAV i.zero k) :: S) (w.drew.alloc (.cells (os.toArray ++ vs.toArray ++ Builtin.zeroCells z.cells k) e)) := by
 refine (hS.drew).allocCells e (cs := old ++ cs ++ zerosAV i.zero k) ?_ ?_
 ·intro c hc
  rcases List.mem_append.1 hc with hc | hc
  ·rcases List.mem_append.1 hc with hc | hc
   ·exact ho1 c hc
   ·exact h1 c hc
  ·exact zerosAV_one hz1 k c hc
 ·simp only [Array.toList_append]
  exact RelL.append (RelL.append (by simpa using ho) (by simpa using hr)) (zeros_rel hzr k)
theorem run_append_msl_new {P : Program} {w0 w : World} {K : Kn} {S : List En} (hS : RelS w0 K S w) {t t' ty e : TypeId} {i : TI} (ht : P.underlying t = some (.slice e)) (ht' : SrcT P t') (hi : TOk P e i) {b off n cap p m : Nat} {cur cs : List AV} {x : AV} {v u : Value}
  (hp : S[p]? = some (.cells b cur)) (hv : Rel K (.msl b off n cap) v) (hu : Rel K x u) (hs : ASrc S i.sz x m cs) (hgrow : cap < n + m) (hfit : off + n * i.sz ≤ cur.length) (hroom : roomFor (n + m) i.by_) :
  ∃ v' w' b' cap' rest,(Builtin.append_ #[t,t'] ty #[v,u]).run P w = .ok v' w' ∧ Rel K (.msl b' 0 (n + m) cap') v' ∧ RelS w0 K (.cells b' ((cur.drop off).take (n * i.sz) ++ cs ++ rest) :: S) w' ∧ n + m ≤ cap' ∧ rest.length = (cap' - (n + m)) * i.sz ∧ ∃ c fr,w'.heap[b']? = some (.cells c e fr) := by
 obtain ⟨inf,z,hinf,hsz,hb,hz,hzr,hz1⟩ := hi.get
 have hmaxl : n + m ≤ maxLen := by have := hroom.2.2; simpa [maxLen] using this
 obtain ⟨ws,hsrc0⟩ := src_ok (P := P) hS hu hs
 obtain ⟨vs,hsrc⟩ := src_ok (P := P) hS.drew hu hs
 obtain ⟨os,hold⟩ := src_ok (P := P) hS.drew hv (sz := i.sz) (n := n) (cs := (cur.drop off).take (n * i.sz)) ⟨rfl, .inr ⟨p,cur,hp,hfit,rfl⟩⟩
 have hl := hsrc0.lenOf
 have hf := hsrc.first m (Nat.le_refl _)
 rw [List.take_of_length_le (by rw [hsrc.len]; exact Nat.le_refl _)] at hf
 have hg := hold.first n (Nat.le_refl _)
 rw [List.take_of_length_le (by rw [hold.len]; exact Nat.le_refl _)] at hg
 obtain ⟨a,rfl⟩ : ∃ a,v = .slice a n cap := by cases hv <;> exact ⟨_,rfl⟩
 have hn : ¬ (n + m ≤ cap) := by omega
 have h63 : ¬ (9223372036854775807 < ((n : Int) + (m : Int))) := by have := hroom.2.2; omega
 have h48 : ¬ (281474976710656 < Builtin.nextslicecap (n + m) cap * inf.bytes) := by have := hroom.cap hgrow; rw [hb]; omega
 have hrun : (Builtin.append_ #[t,t'] ty #[.slice a n cap,u]).run P w = .ok (.slice (some ⟨w.heap.size,0,none⟩) (n + m) (grownCap w (n + m) cap e))
    (w.drew.alloc (.cells (os.toArray ++ vs.toArray ++ Builtin.zeroCells z.cells (grownCap w (n + m) cap e - (n + m))) e)) := by
  rcases ht' with ⟨e',ht'⟩ | ht' <;> simp [Builtin.append_,run_underlying ht,run_underlying ht',sizeOf,typeInfo,zeroValue,hinf,hsz,hz,hl,hn,h63,h48,Question.forced,hf,hg,newRow,grownCap] <;> (congr 2; apply Array.ext'; simp [List.append_assoc])
 have hge := grownCap_ge w (n + m) cap e
 have hle := grownCap_lt w (n + m) cap e hmaxl
 refine ⟨_,_,w.heap.size,_,_,hrun, .msl _ _ _ _ hge hle (.inl ⟨rfl,rfl⟩),hS.appended hi (hzr K) hz1 hold.rel hold.one hsrc.rel hsrc.one _,hge,?_,_,_,heap_alloc_new _ _⟩
 rw [zerosAV_len,hi.len]
theorem wrap_i64' {n : Int} (h : -9223372036854775808 ≤ n ∧ n ≤ 9223372036854775807) : IntKind.i64.wrap n = n := by
 simp only [IntKind.wrap,IntKind.signed,IntKind.bits]
 simp
 omega
theorem run_append_msl_make {P : Program} {w0 w : World} {K : Kn} {S : List En} (hS : RelS w0 K S w) {t t' ty e : TypeId} {q0 : IntKind} {i : TI} (ht : P.underlying t = some (.slice e)) (ht' : P.underlying t' = some (.int q0)) (hi : TOk P e i) {b off n cap p m : Nat} {cur : List AV} {q : IntKind} {v u : Value}
  (hp : S[p]? = some (.cells b cur)) (hv : Rel K (.msl b off n cap) v) (hu : Rel K (.int q (m : Int)) u) (hgrow : cap < n + m) (hfit : off + n * i.sz ≤ cur.length) (hroom : roomFor (n + m) i.by_) :
  ∃ v' w' b' cap' rest,(Builtin.append_ #[t,t'] ty #[v,u]).run P w = .ok v' w' ∧ Rel K (.msl b' 0 (n + m) cap') v' ∧ RelS w0 K (.cells b' ((cur.drop off).take (n * i.sz) ++ rest) :: S) w' ∧ n + m ≤ cap' ∧ rest.length = (cap' - n) * i.sz := by
 obtain ⟨inf,z,hinf,hsz,hb,hz,hzr,hz1⟩ := hi.get
 have hmaxl : n + m ≤ maxLen := by have := hroom.2.2; simpa [maxLen] using this
 obtain ⟨os,hold⟩ := src_ok (P := P) hS.drew hv (sz := i.sz) (n := n) (cs := (cur.drop off).take (n * i.sz)) ⟨rfl, .inr ⟨p,cur,hp,hfit,rfl⟩⟩
 have hg := hold.first n (Nat.le_refl _)
 rw [List.take_of_length_le (by rw [hold.len]; exact Nat.le_refl _)] at hg
 obtain ⟨a,rfl⟩ : ∃ a,v = .slice a n cap := by cases hv <;> exact ⟨_,rfl⟩
 cases hu
 have hn : ¬ (n + m ≤ cap) := by omega
 have h63 : ¬ (9223372036854775807 < ((n : Int) + (m : Int))) := by have := hroom.2.2; omega
 have h48 : ¬ (281474976710656 < Builtin.nextslicecap (n + m) cap * inf.bytes) := by have := hroom.cap hgrow; rw [hb]; omega
 have hw : IntKind.i64.wrap (m : Int) = (m : Int) := wrap_i64' (by have := hroom.2.2; omega)
 have hby : ¬ (281474976710656 < (m : Int) * (inf.bytes : Int)) := by
  have h1 := hroom.1
  rw [Nat.add_mul] at h1
  rw [hb]
  have : ((m * i.by_ : Nat) : Int) = (m : Int) * (i.by_ : Int) := by simp
  omega
 have hm0 : ¬ ((m : Int) < 0) := by omega
 have hzl : z.cells.size = i.sz := by have := (hzr K).1; rw [hi.len] at this; simpa using this.symm
 have hrun : (Builtin.append_ #[t,t'] ty #[.slice a n cap, .int q m]).run P w = .ok (.slice (some ⟨w.heap.size,0,none⟩) (n + m) (grownCap w (n + m) cap e))
    (w.drew.alloc (.cells (os.toArray ++ (Builtin.zeroCells z.cells m).toList.toArray ++ Builtin.zeroCells z.cells (grownCap w (n + m) cap e - (n + m))) e)) := by
  have hai : (asInt (.int q m)).run P w = .ok (m : Int) w := rfl
  by_cases h0 : m * i.sz = 0
  ·have e0 : Builtin.zeroCells z.cells m = #[] := by simp [Builtin.zeroCells,hzl,h0]
   simp [Builtin.append_,run_underlying ht,run_underlying ht',hai,sizeOf,typeInfo,zeroValue,hinf,hsz,hz,hw,hm0,hby,hn,h63,h48,Question.forced,hg,newRow,grownCap,h0,e0]
  ·simp [Builtin.append_,run_underlying ht,run_underlying ht',hai,sizeOf,typeInfo,zeroValue,hinf,hsz,hz,hw,hm0,hby,hn,h63,h48,Question.forced,hg,newRow,grownCap,h0]
 have hge := grownCap_ge w (n + m) cap e
 have hle := grownCap_lt w (n + m) cap e hmaxl
 have hfin := hS.appended hi (hzr K) hz1 hold.rel hold.one (zeros_rel (hzr K) m) (zerosAV_one hz1 m) (grownCap w (n + m) cap e - (n + m))
 rw [List.append_assoc] at hfin
 refine ⟨_,_,w.heap.size,_,_,hrun, .msl _ _ _ _ hge hle (.inl ⟨rfl,rfl⟩),hfin,hge,?_⟩
 rw [List.length_append,zerosAV_len,zerosAV_len,hi.len, ← Nat.add_mul]
 congr 1; omega
def AExtE (P : Program) (e : Array Value → Sem Value) (args : List AV) (S : List En) (k : AV → List En → Prop) : Prop :=
 ∀ (w0 : World) (K : Kn) (w : World) (vs : List Value),RelL K args vs → RelS w0 K S w → ∃ v w' K' av S',(e vs.toArray).run P w = .ok v w' ∧ Kle K K' ∧ Rel K' av v ∧ RelS w0 K' S' w' ∧ k av S'
def AExt (P : Program) (f : FuncId) (args : List AV) (S : List En) (k : AV → List En → Prop) : Prop :=
 ∃ fn e, P.funcs[f]? = some fn ∧ (fn.name == "runtime.NumGoroutine") = false ∧ fn.body.isNone = true ∧ Extern.findNext fn = none ∧ Extern.find fn = some e ∧ AExtE P e args S k
end Go.Aw
namespace Go.Aw
open Go.RowKit
def conT (i : TI) (b : Nat) (e : TypeId) (cs : List AV) (S : List En) : List En := match i.d with
 | .int .u8 => .cells b cs :: .ty b e :: S
 | _ => .cells b cs :: S
def allocT (i : TI) (b : Nat) (t : TypeId) (S : List En) : List En := match i.zero with
 | [.nilp, .sl 0 [] .full] => .cells b [.nilp, .nils] :: .ty b t :: S
 | z => .cells b z :: S
theorem RelS.addTy {w0 w : World} {K : Kn} {S : List En} {e : En} {b : Nat} {t : TypeId} (h : RelS w0 K (e :: S) w) (ht : ∃ c fr,w.heap[b]? = some (.cells c t fr)) : RelS w0 K (e :: .ty b t :: S) w := by
 refine ⟨h.below,h.kcell,fun x hx => ?_,?_⟩
 ·rcases List.mem_cons.1 hx with rfl | hx
  ·exact h.ents _ (by simp)
  ·rcases List.mem_cons.1 hx with rfl | hx
   ·exact ht
   ·exact h.ents _ (by simp [hx])
 ·have := h.apart
  simp only [List.filterMap_cons,En.blk] at this ⊢
  exact this
theorem RelS.conT {w0 w : World} {K : Kn} {S : List En} {i : TI} {b : Nat} {e : TypeId} {cs : List AV} (h : RelS w0 K (.cells b cs :: S) w) (ht : ∃ c fr,w.heap[b]? = some (.cells c e fr)) : RelS w0 K (conT i b e cs S) w := by
 unfold Aw.conT
 split
 ·exact h.addTy ht
 ·exact h
def u8s (l : List UInt8) : List AV := l.map fun c => AV.int .u8 c.toNat
theorem u8s_len (l : List UInt8) : (u8s l).length = l.length := by simp [u8s]
theorem u8s_app (a b : List UInt8) : u8s (a ++ b) = u8s a ++ u8s b := by simp [u8s]
theorem u8s_flat (l : List UInt8) : flat (u8s l) = u8s l := by
 induction l with
 | nil => rfl
 | cons a l ih => exact congrArg (AV.int .u8 a.toNat :: ·) ih
theorem run_allocT {P : Program} {w0 w : World} {K : Kn} {S : List En} {t : TypeId} {i : TI} (hi : TOk P t i) (hS : RelS w0 K S w) :
  ∃ b w',(Instr.alloc t true (.tuple #[])).run P w = .ok (.pointer (some ⟨b,0,none⟩)) w' ∧ RelS w0 K (allocT i b t S) w' := by
 obtain ⟨x,z,hx,_,_,hz,hzr,hz1⟩ := hi.get
 refine ⟨w.heap.size,w.alloc (.cells z.cells t),by simp [Instr.alloc,zeroValue,typeInfo,hx,hz,newVar,newRow],?_⟩
 unfold allocT
 split
 ·rename_i he
  have hr := hzr K
  have hinf := hi.info
  rw [hx] at hinf
  simp only [Option.map_some,Option.some.injEq,Prod.mk.injEq,hz] at hinf
  obtain ⟨_,_,h3,_⟩ := hinf
  rw [he] at h3
  refine (hS.allocCells t (cs := [.nilp, .nils]) (by simp [AV.one]) ?_).addTy ⟨_,_,heap_alloc_new _ _⟩
  generalize z.cells.toList = l at h3
  match l,h3 with
  | [],h3 => simp at h3
  | [_],h3 => simp at h3
  | _ :: _ :: _ :: _,h3 => simp at h3
  | [a,b],h3 =>
   simp only [List.map_cons,List.map_nil,List.cons.injEq,and_true] at h3
   obtain ⟨ha,hb⟩ := h3
   have ha' : a = .pointer none := by
    have ha := ofV_of1 ha rfl
    unfold AV.ofV1 at ha
    split at ha <;> cases ha
    rfl
   have hb' : b = .slice none 0 0 := by
    have hb := ofV_of1 hb rfl
    unfold AV.ofV1 at hb
    split at hb <;> cases hb
    rfl
   subst ha'; subst hb'
   exact RelL.cons .nilp (RelL.cons .nils RelL.nil)
 ·exact hS.allocCells t hz1 (hzr K)
theorem RelS.grown {w0 w w' : World} {K : Kn} {S : List En} (h : RelS w0 K S w) (hb : Below w.heap.size w w') : RelS w0 K S w' := by
 have hty : TyKept w w' := fun b c t fr hc => ⟨c,fr,(hb.block b (Array.getElem?_eq_some_iff.1 hc).1).trans hc⟩
 refine ⟨⟨hb.os.trans h.below.os,hb.tape.trans h.below.tape,hb.output.trans h.below.output,Nat.le_trans h.below.size hb.size,fun k hk => ?_⟩,?_,?_,h.apart⟩
 ·exact (hb.block k (Nat.lt_of_lt_of_le hk h.below.size)).trans (h.below.block k hk)
 ·intro b i v hv
  have := h.kcell b i v hv
  rw [World.cell?_of_block (w := w) (a := ⟨b,i,none⟩) (hb.block b (World.block_lt_of_cell? _ _ this))]
  exact this
 ·intro e he
  refine (h.ents e he).keep (fun g hg => hb.block g (Nat.lt_of_lt_of_le hg h.below.size)) hty (Kle.refl K) (fun b hbk => ⟨hb.block b ((h.ents e he).lt hbk).2,rfl⟩)
theorem RelS.spend {w0 w w' : World} {K : Kn} {S : List En} {p b : Nat} {cs : List AV} (h : RelS w0 K S w) (hp : S[p]? = some (.cells b cs)) (hw : ∀ c,c ≠ b → w'.heap[c]? = w.heap[c]?) (hsz : w.heap.size ≤ w'.heap.size)
  (hos : w'.os = w.os) (htape : w'.tape = w.tape) (hout : w'.output = w.output) (hty : ∀ (c : Array Value) (t : TypeId) (fr : Nat × Nat),w.heap[b]? = some (.cells c t fr) → ∃ c' fr',w'.heap[b]? = some (.cells c' t fr')) : RelS w0 K (S.eraseIdx p) w' := by
 obtain ⟨hB,hK,h1,vs,T,hh,hr⟩ := h.ents _ (List.mem_of_getElem? hp)
 have := h.turn (e' := .grow .full) hp (b := b) rfl (Kle.refl K) (fun c hc => rfl) hw hsz hos htape hout (fun i v hv => by rw [hK] at hv; simp at hv) hty (.inr rfl) trivial
 have h2 := this.perm (set_perm hp).symm
 exact h2.tail
theorem run_sl_string {P : Program} {w0 w : World} {K : Kn} {S : List En} (hS : RelS w0 K S w) {src dst e : TypeId} (hs : P.underlying src = some (.slice e)) (he : P.underlying e = some (.int .u8)) (hd : P.underlying dst = some .string)
  {sz : Nat} {l : List UInt8} {tk : Tk} {v : Value} (hv : Rel K (.sl sz (u8s l) tk) v) : (convert src dst v).run P w = .ok (.string ⟨l.toArray⟩) w ∧ l.length ≤ maxLen := by
 rcases sl_cases hv with ⟨a0,rfl,hl,_⟩ | ⟨b,o,c,ws,ha,_⟩
 ·have : l = [] := by simpa [u8s] using hl
  subst this
  refine ⟨?_,by simp⟩
  cases a0 with
  | none => rw [run_convert_bytes_string w src dst e none 0 0 hs he hd]; rfl
  | some a => exact run_convert_bytes_back w src dst e a 0 [] hs he hd (fun j hj => by simp at hj)
 ·have hlen : (u8s l).length = l.length := u8s_len l
  rw [ha.eq,hlen]
  refine ⟨run_convert_bytes_back w src dst e ⟨b,o,none⟩ c l hs he hd (fun j hj => ?_),by have := ha.hcap; have := ha.hmax; omega⟩
  have hr := ha.rel
  rw [u8s_flat] at hr
  have hj' : (u8s l)[j]? = some (AV.int .u8 l[j].toNat) := by simp [u8s,hj]
  obtain ⟨x,hx,hrx⟩ := hr.get hj'
  cases hrx
  rw [Addr.add_lit]
  exact hS.kcell _ _ _ (ha.known j _ hx)
theorem run_msl_string {P : Program} {w0 w : World} {K : Kn} {S : List En} (hS : RelS w0 K S w) {src dst e : TypeId} (hs : P.underlying src = some (.slice e)) (he : P.underlying e = some (.int .u8)) (hd : P.underlying dst = some .string)
  {b off n cap : Nat} {l : List UInt8} {v : Value} (hv : Rel K (.msl b off n cap) v) (hn : n = l.length) (h : n = 0 ∨ ∃ (p : Nat) (cur : List AV),S[p]? = some (En.cells b cur) ∧ (cur.drop off).take n = u8s l) :
  (convert src dst v).run P w = .ok (.string ⟨l.toArray⟩) w ∧ l.length ≤ maxLen := by
 by_cases hn0 : n = 0
 ·have : l = [] := List.length_eq_zero_iff.1 (by omega)
  subst this; subst hn0
  refine ⟨?_,by simp⟩
  obtain ⟨a,c,rfl⟩ : ∃ a c,v = .slice a 0 c := by cases hv <;> exact ⟨_,_,rfl⟩
  cases a with
  | none => rw [run_convert_bytes_string w src dst e none 0 c hs he hd]; rfl
  | some a => exact run_convert_bytes_back w src dst e a c [] hs he hd (fun j hj => by simp at hj)
 ·rcases h with h | ⟨p,cur,hp,hc⟩
  ·exact absurd h hn0
  obtain ⟨hB,hK,h1,vs,T,hh,hr⟩ := hS.ents _ (List.mem_of_getElem? hp)
  cases hv with
  | mslnil => exact absurd rfl hn0
  | @msl _ _ _ _ b' o' hle hmax ho =>
   obtain ⟨rfl,rfl⟩ : b' = b ∧ o' = off := by
    rcases ho with ho | ho
    ·exact ho
    ·omega
   subst hn
   refine ⟨run_convert_bytes_back w src dst e ⟨b',o',none⟩ cap l hs he hd (fun j hj => ?_),by omega⟩
   have hj' : ((cur.drop o').take l.length)[j]? = some (AV.int .u8 l[j].toNat) := by rw [hc]; simp [u8s,hj]
   rw [List.getElem?_take,if_pos hj,List.getElem?_drop] at hj'
   obtain ⟨x,hx,hrx⟩ := hr.get hj'
   cases hrx
   rw [Addr.add_lit,cell_of_heap hh]
   simpa using hx
theorem run_sliceData {P : Program} {w : World} {K : Kn} {ts : Array TypeId} {ty : TypeId} {b off n cap : Nat} {v : Value} (hv : Rel K (.msl b off n cap) v) (hn : 0 < n) :
  (Builtin.unsafeSliceData_ ts ty #[v]).run P w = .ok (.pointer (some ⟨b,off,none⟩)) w := by
 cases hv with
 | mslnil _ _ a => omega
 | @msl _ _ _ _ b' o' hle hmax ho =>
  obtain ⟨rfl,rfl⟩ : b' = b ∧ o' = off := by
   rcases ho with ho | ho
   ·exact ho
   ·omega
  exact Lib.run_unsafeSliceData_row w ts ty _ n cap (by omega)
theorem freeze_heap {w : World} {b n : Nat} {c : Array Value} {t : TypeId} {fr : Nat × Nat} (h : w.heap[b]? = some (.cells c t fr)) : ∃ fr',(w.freeze ⟨b,0,none⟩ n).heap[b]? = some (.cells c t fr') := by
 obtain ⟨lo,hi⟩ := fr
 unfold World.freeze
 by_cases hn : n = 0
 ·rw [if_pos hn]; exact ⟨_,h⟩
 ·rw [if_neg hn]
  refine ⟨if lo == hi then (0,0 + n) else (min lo 0,max hi (0 + n)),?_⟩
  show (w.heap.modify b _)[b]? = _
  rw [Array.getElem?_modify,if_pos rfl,h]; rfl
theorem freeze_other {w : World} {b n c : Nat} (h : c ≠ b) : (w.freeze ⟨b,0,none⟩ n).heap[c]? = w.heap[c]? := by
 unfold World.freeze
 split
 ·rfl
 ·show (w.heap.modify b _)[c]? = _
  rw [Array.getElem?_modify,if_neg (Ne.symm h)]
theorem freeze_size {w : World} {a : Addr} {n : Nat} : (w.freeze a n).heap.size = w.heap.size := by
 unfold World.freeze
 split
 ·rfl
 ·show (w.heap.modify _ _).size = _
  simp
theorem run_unsafeString1 {P : Program} {w0 w : World} {K : Kn} {S : List En} (hS : RelS w0 K S w) {pt it ty e : TypeId} (hp : P.underlying pt = some (.pointer e)) (hc : P.cellsOf e = 1) {b p : Nat} {cur : List AV} {l : List UInt8} (hl : l ≠ [])
  (hpe : S[p]? = some (.cells b cur)) (hty : En.ty b e ∈ S) (hcur : cur.take l.length = u8s l) {v u : Value} (hv : Rel K (.ptr b 0) v) (hu : Rel K (.int .i64 (l.length : Nat)) u) :
  ∃ w',(Builtin.unsafeString_ #[pt,it] ty #[v,u]).run P w = .ok (.string ⟨l.toArray⟩) w' ∧ RelS w0 K (S.eraseIdx p) w' ∧ l.length ≤ maxLen := by
 obtain ⟨hB,hK,h1,vs,T,hh,hr⟩ := hS.ents _ (List.mem_of_getElem? hpe)
 obtain ⟨c',fr',ht⟩ := hS.ents _ hty
 rw [hh] at ht
 cases ht
 cases hv
 have hb : l.length ≤ 9223372036854775807 := by
  cases hu with
  | int _ _ h => simp only [IntKind.has,IntKind.min,IntKind.max,IntKind.bits,IntKind.signed] at h; simp at h; omega
 cases hu
 have hlen : l.length ≤ vs.size := by
  have h2 := congrArg List.length hcur
  rw [u8s_len,List.length_take] at h2
  have h3 : cur.length = vs.size := by rw [hr.1]; simp
  omega
 have hrun := Lib.run_unsafeString_row (P := P) w pt it ty e hp hc b vs.size (by simp [World.shape?,hh]) l hl hlen hb (fun j x hj => by
  have hjl : j < l.length := (List.getElem?_eq_some_iff.1 hj).1
  have hj' : (cur.take l.length)[j]? = some (AV.int .u8 x.toNat) := by rw [hcur]; simp [u8s,hj]
  rw [List.getElem?_take,if_pos hjl] at hj'
  obtain ⟨y,hy,hry⟩ := hr.get hj'
  cases hry
  rw [Addr.add_lit,cell_of_heap hh,Nat.zero_add]
  simpa using hy)
 refine ⟨_,hrun,hS.spend hpe (fun c hc => freeze_other hc) (by rw [freeze_size]; exact Nat.le_refl _) (by unfold World.freeze; split <;> rfl) (by unfold World.freeze; split <;> rfl) (by unfold World.freeze; split <;> rfl)
  (fun c t fr hcc => ?_),hb⟩
 obtain ⟨fr2,h2⟩ := freeze_heap (n := l.length) hcc
 exact ⟨_,_,h2⟩
theorem run_append_nils {P : Program} {w0 w : World} {K : Kn} {S : List En} (hS : RelS w0 K S w) {t t' ty e : TypeId} {i : TI} (ht : P.underlying t = some (.slice e)) (ht' : SrcT P t') (hi : TOk P e i) {m : Nat} {cs : List AV} {x : AV} {u : Value}
  (hu : Rel K x u) (hs : ASrc S i.sz x m cs) (hroom : roomFor m i.by_) :
  (m = 0 ∧ (Builtin.append_ #[t,t'] ty #[.slice none 0 0,u]).run P w = .ok (.slice none 0 0) w) ∨
  0 < m ∧ ∃ v' w' b' cap' rest,(Builtin.append_ #[t,t'] ty #[.slice none 0 0,u]).run P w = .ok v' w' ∧ Rel K (.msl b' 0 m cap') v' ∧ RelS w0 K (.cells b' (cs ++ rest) :: S) w' ∧ m ≤ cap' ∧ rest.length = (cap' - m) * i.sz ∧ ∃ c fr,w'.heap[b']? = some (.cells c e fr) := by
 obtain ⟨inf,z,hinf,hsz,hb,hz,hzr,hz1⟩ := hi.get
 have hmaxl : m ≤ maxLen := by have := hroom.2.2; simpa [maxLen] using this
 obtain ⟨ws,hsrc0⟩ := src_ok (P := P) hS hu hs
 obtain ⟨vs,hsrc⟩ := src_ok (P := P) hS.drew hu hs
 have hl := hsrc0.lenOf
 by_cases hm : m = 0
 ·subst hm
  left
  refine ⟨rfl,?_⟩
  have hf := hsrc0.first 0 (Nat.le_refl _)
  have hvs : (ws.take (0 * i.sz)).toArray = #[] := by simp
  rw [hvs] at hf
  rcases ht' with ⟨e',ht'⟩ | ht' <;> simp [Builtin.append_,run_underlying ht,run_underlying ht',sizeOf,typeInfo,hinf,hsz,hl,hf]
 ·right
  have hf := hsrc.first m (Nat.le_refl _)
  rw [List.take_of_length_le (by rw [hsrc.len]; exact Nat.le_refl _)] at hf
  have h63 : ¬ (9223372036854775807 < (m : Int)) := by have := hroom.2.2; omega
  have h48 : ¬ (281474976710656 < Builtin.nextslicecap m 0 * inf.bytes) := by have := hroom.cap (c := 0) (by omega); rw [hb]; omega
  have hrun : (Builtin.append_ #[t,t'] ty #[.slice none 0 0,u]).run P w = .ok (.slice (some ⟨w.heap.size,0,none⟩) m (grownCap w m 0 e))
     (w.drew.alloc (.cells (([] : List Value).toArray ++ vs.toArray ++ Builtin.zeroCells z.cells (grownCap w m 0 e - m)) e)) := by
   have hg : (Builtin.firstCells i.sz 0 (.slice none 0 0)).run P w.drew = .ok #[] w.drew := by simp [Builtin.firstCells]
   have hl0 : ∀ w,(Builtin.lenOf (.slice none 0 0)).run P w = .ok 0 w := fun w => rfl
   rcases ht' with ⟨e',ht'⟩ | ht' <;> simp [Builtin.append_,run_underlying ht,run_underlying ht',sizeOf,typeInfo,zeroValue,hinf,hsz,hz,hl,hm,h63,h48,Question.forced,hf,hg,hl0,newRow,grownCap]
  have hge := grownCap_ge w m 0 e
  have hle := grownCap_lt w m 0 e hmaxl
  have happ := hS.appended hi (hzr K) hz1 (old := []) (os := []) RelL.nil (by simp) hsrc.rel hsrc.one (grownCap w m 0 e - m)
  exact ⟨by omega,_,_,w.heap.size,_,zerosAV i.zero (grownCap w m 0 e - m),hrun, .msl _ _ _ _ hge hle (.inl ⟨rfl,rfl⟩),by simpa using happ,hge,by rw [zerosAV_len,hi.len],_,_,heap_alloc_new _ _⟩
theorem run_rangeStr {P : Program} {w0 w : World} {K : Kn} {S : List En} (hS : RelS w0 K S w) {t : TypeId} (ht : P.underlying t = some .string) {l : List UInt8} {v : Value} (hv : Rel K (.str l) v) :
  ∃ b w',(Instr.range t v).run P w = .ok (.pointer (some ⟨b,0,none⟩)) w' ∧ RelS w0 K (.obj b (.stringIter ⟨l.toArray⟩ 0) :: S) w' := by
 cases hv
 refine ⟨w.heap.size,w.iter ⟨l.toArray⟩ 0,run_range_string w t _ ht,?_⟩
 exact hS.consNew (hS.allocObj _) (fun b hb => by simpa [En.blk] using hb.symm) ⟨hS.below.size,hS.klt (Nat.le_refl _),heap_alloc_new _ _,rfl⟩
theorem RelS.reobj {w0 w : World} {K : Kn} {S : List En} {p b : Nat} {o : Obj} (h : RelS w0 K S w) (hp : S[p]? = some (.obj b o)) (o' : Obj) (ho : isCells o' = false) {w' : World} (hw : w' = { w with heap := w.heap.setIfInBounds b o' }) :
  RelS w0 K (S.set p (.obj b o')) w' := by
 obtain ⟨hB,hK,hh,hoc⟩ := h.ents _ (List.mem_of_getElem? hp)
 have hd : b < w.heap.size := (Array.getElem?_eq_some_iff.1 hh).1
 subst hw
 have hbb : ({ w with heap := w.heap.setIfInBounds b o' } : World).heap[b]? = some o' := by simp [hd]
 refine h.turn (e' := .obj b o') hp (b := b) rfl (Kle.refl K) (fun _ _ => rfl) (fun c hc => ?_) (by simp) rfl rfl rfl (fun i v hv => by rw [hK] at hv; simp at hv) (fun c t fr hc => by rw [hh] at hc; cases hc; cases hoc) (.inl rfl) ⟨hB,hK,hbb,ho⟩
 show (w.heap.setIfInBounds b o')[c]? = _
 rw [Array.getElem?_setIfInBounds_ne (Ne.symm hc)]
theorem run_nextStr {P : Program} {w0 w : World} {K : Kn} {S : List En} (hS : RelS w0 K S w) {ty : TypeId} {b p pos : Nat} {l : List UInt8} (hp : S[p]? = some (.obj b (.stringIter ⟨l.toArray⟩ pos))) (h : pos < l.length) (hl : l.length ≤ maxLen) :
  ∃ (c wd : Nat) (w' : World),(Instr.next (.pointer (some ⟨b,0,none⟩)) true ty).run P w = .ok (.tuple #[.bool true, .int .i64 pos, .int .i32 c]) w' ∧ RelS w0 K (S.set p (.obj b (.stringIter ⟨l.toArray⟩ (pos + wd)))) w' ∧
   (l[pos].toNat < 128 → c = l[pos].toNat ∧ wd = 1) ∧ (128 ≤ l[pos].toNat → 128 ≤ c) ∧ 1 ≤ wd ∧ c ≤ 2147483647 := by
 obtain ⟨hB,hK,hh,hoc⟩ := hS.ents _ (List.mem_of_getElem? hp)
 have hsz : pos < (ByteArray.mk l.toArray).size := by simpa [ByteArray.size] using h
 have hget : (ByteArray.mk l.toArray)[pos]'hsz = l[pos] := rfl
 refine ⟨_,_,_,Lib.run_next_any_at w b ⟨l.toArray⟩ pos ty hh hsz,hS.reobj hp _ rfl rfl,fun ha => ?_,fun ha => ?_,Lib.decode_width_pos _ _ hsz,decode_le _ _⟩
 ·rw [decode_ascii ⟨l.toArray⟩ pos hsz (by rw [hget]; exact ha),hget]; exact ⟨rfl,rfl⟩
 ·exact (decode_high ⟨l.toArray⟩ pos hsz (by rw [hget]; exact ha)).1
theorem run_nextEnd {P : Program} {w0 w : World} {K : Kn} {S : List En} (hS : RelS w0 K S w) {ty : TypeId} {b p pos : Nat} {l : List UInt8} (hp : S[p]? = some (.obj b (.stringIter ⟨l.toArray⟩ pos))) (h : ¬ pos < l.length) :
  (Instr.next (.pointer (some ⟨b,0,none⟩)) true ty).run P w = .ok (.tuple #[.bool false]) w := by
 obtain ⟨hB,hK,hh,hoc⟩ := hS.ents _ (List.mem_of_getElem? hp)
 exact Lib.run_next_end_at w b ⟨l.toArray⟩ pos ty hh (by simpa [ByteArray.size] using h)
theorem run_ptrEq {P : Program} {w : World} {t e : TypeId} {i : TI} (ht : P.underlying t = some (.pointer e)) (hi : TOk P e i) (a : Addr) (b : Option Addr) (hb : b = none ∨ b = some a) (ox oy : Operand) :
  ((do eqGuard .eql t ox oy (.pointer (some a)) (.pointer b); binOp .eql t (.pointer (some a)) (.pointer b) : Sem Value)).run P w = .ok (.bool b.isSome) w ∧
  ((do eqGuard .neq t ox oy (.pointer (some a)) (.pointer b); binOp .neq t (.pointer (some a)) (.pointer b) : Sem Value)).run P w = .ok (.bool (!b.isSome)) w := by
 obtain ⟨x,z,hx,_⟩ := hi.get
 have h : (Op.equal t (.pointer (some a)) (.pointer b)).run P w = .ok b.isSome w := by
  have h : ∀ d,(Op.equalIn (d + 1) t (.pointer (some a)) (.pointer b)).run P w = .ok b.isSome w := by
   intro d
   rcases hb with rfl | rfl
   ·simp [Op.equalIn,run_underlying ht]
   ·simp [Op.equalIn,run_underlying ht,sizeOf,typeInfo,hx,run_sameAddr_same]
  exact h 9999
 constructor
 ·show ((do eqGuard .eql t ox oy (.pointer (some a)) (.pointer b); (do pure (.bool (← Op.equal t (.pointer (some a)) (.pointer b))) : Sem Value)) : Sem Value).run P w = _
  rw [run_bind_ok (a := ()) (w' := w) rfl,run_bind_ok h]; rfl
 ·show ((do eqGuard .neq t ox oy (.pointer (some a)) (.pointer b); (do pure (.bool (!(← Op.equal t (.pointer (some a)) (.pointer b)))) : Sem Value)) : Sem Value).run P w = _
  rw [run_bind_ok (a := ()) (w' := w) rfl,run_bind_ok h]; rfl
theorem run_nilpEq {P : Program} {w : World} {t e : TypeId} (ht : P.underlying t = some (.pointer e)) (ox oy : Operand) :
  ((do eqGuard .eql t ox oy (.pointer none) (.pointer none); binOp .eql t (.pointer none) (.pointer none) : Sem Value)).run P w = .ok (.bool true) w ∧
  ((do eqGuard .neq t ox oy (.pointer none) (.pointer none); binOp .neq t (.pointer none) (.pointer none) : Sem Value)).run P w = .ok (.bool false) w := by
 have h : (Op.equal t (.pointer none) (.pointer none)).run P w = .ok true w := by
  have h : ∀ d,(Op.equalIn (d + 1) t (.pointer none) (.pointer none)).run P w = .ok true w := by intro d; simp [Op.equalIn,run_underlying ht]
  exact h 9999
 constructor
 ·show ((do eqGuard .eql t ox oy (.pointer none) (.pointer none); (do pure (.bool (← Op.equal t (.pointer none) (.pointer none))) : Sem Value)) : Sem Value).run P w = _
  rw [run_bind_ok (a := ()) (w' := w) rfl,run_bind_ok h]; rfl
 ·show ((do eqGuard .neq t ox oy (.pointer none) (.pointer none); (do pure (.bool (!(← Op.equal t (.pointer none) (.pointer none)))) : Sem Value)) : Sem Value).run P w = _
  rw [run_bind_ok (a := ()) (w' := w) rfl,run_bind_ok h]; rfl
theorem isIface_of {P : Program} {t : TypeId} {ms : Array (String × TypeId)} (h : P.underlying t = some (.interface ms)) : P.isIface t = true := by
 simp [Program.isIface,h]
theorem run_ifcNil {P : Program} {w : World} {t : TypeId} (h : P.isIface t = true) (u : TypeId) (x : Value) (ox oy : Operand) :
  ((do eqGuard .eql t ox oy (.iface u x) .nilIface; binOp .eql t (.iface u x) .nilIface : Sem Value)).run P w = .ok (.bool false) w ∧
  ((do eqGuard .neq t ox oy (.iface u x) .nilIface; binOp .neq t (.iface u x) .nilIface : Sem Value)).run P w = .ok (.bool true) w := by
 constructor
 ·rw [run_bind_ok (a := ()) (w' := w) rfl]; exact run_eql_iface_nil w t h u x
 ·rw [run_bind_ok (a := ()) (w' := w) rfl]; exact run_neq_iface_nil w t h u x
theorem run_nilNil {P : Program} {w : World} {t : TypeId} (h : P.isIface t = true) (ox : Operand) (v : Value) :
  ((do eqGuard .eql t ox (.const v) .nilIface .nilIface; binOp .eql t .nilIface .nilIface : Sem Value)).run P w = .ok (.bool true) w ∧
  ((do eqGuard .neq t ox (.const v) .nilIface .nilIface; binOp .neq t .nilIface .nilIface : Sem Value)).run P w = .ok (.bool false) w := by
 have hg : ∀ op,(op = .eql ∨ op = .neq) → (eqGuard op t ox (.const v) .nilIface .nilIface).run P w = .ok () w := by
  intro op hop
  rcases hop with rfl | rfl <;> simp [eqGuard]
 constructor
 ·rw [run_bind_ok (hg _ (.inl rfl))]; exact run_eql_nil_nil_at w t h
 ·rw [run_bind_ok (hg _ (.inr rfl))]; exact run_neq_nil_nil_at w t h
theorem run_makeIface {P : Program} {w : World} {t : TypeId} {i : TI} (hi : TOk P t i) (hn : i.d ≠ .other) (hn' : i.d ≠ .iface) (v : Value) : (Instr.makeInterface t v).run P w = .ok (.iface t v) w := by
 have hD := hi.d
 unfold Instr.makeInterface
 cases hd : i.d <;> rw [hd] at hD <;> simp only [DOk] at hD
 case other => exact absurd hd hn
 case iface => exact absurd hd hn'
 all_goals first
  | (simp [run_underlying hD]; done)
  | (obtain ⟨f,hD,_⟩ := hD; simp [run_underlying hD]; done)
  | (obtain ⟨f,g,h,hD⟩ := hD; simp [run_underlying hD]; done)
theorem run_toUnsafe {P : Program} {w0 w : World} {K : Kn} {S : List En} (hS : RelS w0 K S w) {src dst e : TypeId} {i : TI} (hs : P.underlying src = some (.pointer e)) (hd : P.underlying dst = some .unsafePointer) (hi : TOk P e i) (hsz : 1 ≤ i.sz)
  {p b off : Nat} {cs : List AV} (hp : S[p]? = some (.cells b cs)) (ho : off < cs.length) : (convert src dst (.pointer (some ⟨b,off,none⟩))).run P w = .ok (.pointer (some ⟨b,off,none⟩)) w := by
 obtain ⟨hB,hK,h1,vs,T,hh,hr⟩ := hS.ents _ (List.mem_of_getElem? hp)
 obtain ⟨x,z,hx,hxs,_⟩ := hi.get
 have hl : cs.length = vs.size := by rw [hr.1]; simp
 exact Lib.run_to_unsafe w ⟨b,off,none⟩ hs hd hx (by omega) (e := T) (cells := vs.size) (by simp [World.shape?,hh]) (by show off < vs.size; omega)
theorem run_fromUnsafe {P : Program} {w0 w : World} {K : Kn} {S : List En} (hS : RelS w0 K S w) {src dst u T : TypeId} {i : TI} (hs : P.underlying src = some .unsafePointer) (hd : P.underlying dst = some (.pointer u)) (hi : TOk P u i)
  {p b off : Nat} {cs : List AV} (hp : S[p]? = some (.cells b cs)) (hty : En.ty b T ∈ S) (hlies : liesAt P P.depth T (cs.length / P.cellsOf T) off u 1 = true) : (convert src dst (.pointer (some ⟨b,off,none⟩))).run P w = .ok (.pointer (some ⟨b,off,none⟩)) w := by
 obtain ⟨hB,hK,h1,vs,T',hh,hr⟩ := hS.ents _ (List.mem_of_getElem? hp)
 obtain ⟨c',fr',ht⟩ := hS.ents _ hty
 rw [hh] at ht
 cases ht
 obtain ⟨x,z,hx,hxs,_⟩ := hi.get
 have hl : cs.length = vs.size := by rw [hr.1]; simp
 rw [hl] at hlies
 exact Lib.run_from_unsafe w ⟨b,off,none⟩ hs hd hx (e := T) (cells := vs.size) (by simp [World.shape?,hh]) hlies
end Go.Aw
namespace Go.Aw
open Go.RowKit Go.MapKept
def mkM (l : List (List UInt8 × AV)) : List (AV × AV) := l.map fun p => (.str p.1,p.2)
def mget (s : List UInt8) (z : AV) : List (List UInt8 × AV) → AV × Bool
 | [] => (z,false)
 | p :: r => if p.1 = s then (p.2,true) else mget s z r
def mput (s : List UInt8) (v : AV) : List (List UInt8 × AV) → List (List UInt8 × AV)
 | [] => [(s,v)]
 | p :: r => if p.1 = s then (s,v) :: r else p :: mput s v r
def zeroIs (P : Program) (e : TypeId) (z : AV) : Prop := match z with
 | .int q n => q.has n ∧ ∃ x,P.info? e = some x ∧ x.zero = some (.int q n)
 | .bool b => ∃ x,P.info? e = some x ∧ x.zero = some (.bool b)
 | _ => False
theorem mget_no {s : List UInt8} {z : AV} : ∀ {l : List (List UInt8 × AV)},(∀ p ∈ l,p.1 ≠ s) → mget s z l = (z,false)
 | [],_ => rfl
 | p :: r,h => by rw [mget,if_neg (h p (.head _)),mget_no fun q hq => h q (.tail _ hq)]
theorem mput_no {s : List UInt8} {v : AV} : ∀ {l : List (List UInt8 × AV)},(∀ p ∈ l,p.1 ≠ s) → mput s v l = l ++ [(s,v)]
 | [],_ => rfl
 | p :: r,h => by rw [mput,if_neg (h p (.head _)),mput_no fun q hq => h q (.tail _ hq)]; rfl
theorem keys_eq {K : Kn} : ∀ {l : List (List UInt8 × AV)} {vs : List Value},RelL K ((mkM l).map (·.1)) vs → vs = l.map fun p => Value.string ⟨p.1.toArray⟩
 | [],vs,h => h.nil_inv
 | p :: l,vs,h => by
  obtain ⟨v,r,rfl,h1,h2⟩ := h.cons_inv
  cases h1
  rw [keys_eq h2]; rfl
theorem same_str (s t : List UInt8) : Instr.sameNow .string (.string ⟨s.toArray⟩) (.string ⟨t.toArray⟩) = some (decide (t = s)) := by
 have h : ((⟨s.toArray⟩ : ByteArray) == ⟨t.toArray⟩) = decide (t = s) := by
  by_cases e : t = s
  ·subst e; rw [decide_eq_true rfl]; exact (bytes_beq _ _).2 rfl
  ·rw [decide_eq_false e]
   cases hb : ((⟨s.toArray⟩ : ByteArray) == ⟨t.toArray⟩) with
   | false => rfl
   | true =>
    have := (bytes_beq _ _).1 hb
    exact absurd (by simpa using this.symm) e
 show some ((⟨s.toArray⟩ : ByteArray) == ⟨t.toArray⟩) = _
 rw [h]
theorem findNow_str {s : List UInt8} : ∀ (l : List (List UInt8 × AV)) (es : List MapEntry) (i : Nat),es.map (·.key) = (l.map fun p => Value.string ⟨p.1.toArray⟩) →
  (Instr.findNow .string (.string ⟨s.toArray⟩) es i = some none ∧ ∀ p ∈ l,p.1 ≠ s) ∨
  ∃ j e p,Instr.findNow .string (.string ⟨s.toArray⟩) es i = some (some (i + j,e.val)) ∧ es[j]? = some e ∧ l[j]? = some p ∧ p.1 = s ∧ (∀ z,mget s z l = (p.2,true)) ∧ ∀ v,mput s v l = l.set j (s,v)
 | [], [],i,_ => .inl ⟨rfl,by simp⟩
 | [],e :: es,i,h => by simp at h
 | p :: l, [],i,h => by simp at h
 | p :: l,e :: es,i,h => by
  simp only [List.map_cons,List.cons.injEq] at h
  have hs := same_str s p.1
  by_cases hp : p.1 = s
  ·refine .inr ⟨0,e,p,?_,rfl,rfl,hp,fun z => by rw [mget,if_pos hp],fun v => by rw [mput,if_pos hp]; rfl⟩
   rw [Instr.findNow,h.1,hs,decide_eq_true hp]; rfl
  ·have e1 : Instr.findNow .string (.string ⟨s.toArray⟩) (e :: es) i = Instr.findNow .string (.string ⟨s.toArray⟩) es (i + 1) := by
    rw [Instr.findNow,h.1,hs,decide_eq_false hp]
   rcases findNow_str l es (i + 1) h.2 with ⟨h1,h2⟩ | ⟨j,e',q,h1,h2,h3,h4,h5,h6⟩
   ·refine .inl ⟨e1.trans h1,fun q hq => ?_⟩
    rcases List.mem_cons.1 hq with rfl | hq
    ·exact hp
    ·exact h2 q hq
   ·refine .inr ⟨j + 1,e',q,e1.trans (by rw [h1]; congr 3; omega),by simpa using h2,by simpa using h3,h4,fun z => by rw [mget,if_neg hp,h5],fun v => by rw [mput,if_neg hp,h6]; rfl⟩
theorem run_mapNew {P : Program} {w0 w : World} {K : Kn} {S : List En} (hS : RelS w0 K S w) (t : TypeId) :
  (Instr.makeMap t none).run P w = .ok (.map (some w.heap.size)) (w.alloc (.map #[] 0)) ∧ RelS w0 K (.map w.heap.size (mkM []) :: S) (w.alloc (.map #[] 0)) :=
 ⟨rfl,hS.consNew (hS.allocObj _) (fun b hb => by simpa [En.blk] using hb.symm) ⟨hS.below.size,hS.klt (Nat.le_refl _), #[],0,heap_alloc_new _ _,rfl,RelL.nil,by simp [mkM]⟩⟩
theorem zero_run {P : Program} {w : World} {K : Kn} {e : TypeId} {z : AV} (h : zeroIs P e z) : ∃ v,(zeroValue e).run P w = .ok v w ∧ Rel K z v := by
 unfold zeroIs at h
 split at h
 ·obtain ⟨hq,x,h1,h2⟩ := h
  exact ⟨_,by simp [zeroValue,typeInfo,h1,h2], .int _ _ hq⟩
 ·obtain ⟨x,h1,h2⟩ := h
  exact ⟨_,by simp [zeroValue,typeInfo,h1,h2], .bool _⟩
 ·exact h.elim
def lkV (ok : Bool) (v : AV × Bool) : AV := bif ok then .tup [v.1, .bool v.2] else v.1
theorem lkV_rel {K : Kn} {ok : Bool} {v : AV × Bool} {x : Value} (h : Rel K v.1 x) : Rel K (lkV ok v) (if ok then .tuple #[x, .bool v.2] else x) := by
 cases ok with
 | false => exact h
 | true =>
  have := RelL.cons (K := K) h (RelL.cons (.bool v.2) RelL.nil)
  exact .tup this.1 this.2
theorem run_mapGet {P : Program} {w0 w : World} {K : Kn} {S : List En} (hS : RelS w0 K S w) {t kt e : TypeId} (hm : P.underlying t = some (.map kt e)) (hk : P.underlying kt = some .string) {z : AV} (hz : zeroIs P e z)
  {b p : Nat} {l : List (List UInt8 × AV)} (hp : S[p]? = some (.map b (mkM l))) {s : List UInt8} {sv : Value} (hs : Rel K (.str s) sv) (ok : Bool) :
  ∃ v,(Instr.lookup t (.map (some b)) sv ok).run P w = .ok v w ∧ Rel K (lkV ok (mget s z l)) v := by
 obtain ⟨_,_,es,clk,hb,hclk,hkeys,hvals⟩ := hS.ents _ (List.mem_of_getElem? hp)
 cases hs
 have hkeys' := keys_eq hkeys
 have hK : IsKey .string (.string ⟨s.toArray⟩) := trivial
 rcases findNow_str (s := s) l es.toList 0 hkeys' with ⟨h1,h2⟩ | ⟨j,en,q,h1,h2,h3,h4,h5,h6⟩
 ·obtain ⟨v,hv,hr⟩ := zero_run (w := w) (K := K) hz
  refine ⟨if ok then .tuple #[v, .bool false] else v,?_,?_⟩
  ·simp [Instr.lookup,run_underlying hm,Go.MapKept.run_getObj_map hb,run_checkKey hk hK,run_findKey hk h1,hv,Result.andThen]
  ·rw [mget_no h2]; exact lkV_rel hr
 ·have hr := (hvals j (.str q.1,q.2) en (by rw [mkM,List.getElem?_map,h3]; rfl) h2).1
  refine ⟨if ok then .tuple #[en.val, .bool true] else en.val,?_,?_⟩
  ·simp [Instr.lookup,run_underlying hm,Go.MapKept.run_getObj_map hb,run_checkKey hk hK,run_findKey hk h1,Result.andThen]
  ·rw [h5]; exact lkV_rel hr
theorem RelS.remap {w0 w : World} {K : Kn} {S : List En} {p b : Nat} {kvs kvs' : List (AV × AV)} (h : RelS w0 K S w) (hp : S[p]? = some (.map b kvs)) {es : Array MapEntry}
  (hk : RelL K (kvs'.map (·.1)) (es.toList.map (·.key))) (hv : ∀ (i : Nat) (kv : AV × AV) (e : MapEntry),kvs'[i]? = some kv → es.toList[i]? = some e → Rel K kv.2 e.val ∧ e.born = i) :
  RelS w0 K (S.set p (.map b kvs')) { w with heap := w.heap.setIfInBounds b (.map es kvs'.length) } := by
 obtain ⟨hB,hK,es0,clk0,hh,_⟩ := h.ents _ (List.mem_of_getElem? hp)
 have hd : b < w.heap.size := (Array.getElem?_eq_some_iff.1 hh).1
 have hbb : ({ w with heap := w.heap.setIfInBounds b (.map es kvs'.length) } : World).heap[b]? = some (.map es kvs'.length) := by simp [hd]
 refine h.turn (e' := .map b kvs') hp (b := b) rfl (Kle.refl K) (fun _ _ => rfl) (fun c hc => ?_) (by simp) rfl rfl rfl (fun i v hv => by rw [hK] at hv; simp at hv) (fun c t fr hc => by rw [hh] at hc; cases hc) (.inl rfl) ⟨hB,hK,es,kvs'.length,hbb,rfl,hk,hv⟩
 show (w.heap.setIfInBounds b (.map es kvs'.length))[c]? = _
 rw [Array.getElem?_setIfInBounds_ne (Ne.symm hc)]
theorem run_mapPut {P : Program} {w0 w : World} {K : Kn} {S : List En} (hS : RelS w0 K S w) {t kt e : TypeId} (hm : P.underlying t = some (.map kt e)) (hk : P.underlying kt = some .string)
  {b p : Nat} {l : List (List UInt8 × AV)} (hp : S[p]? = some (.map b (mkM l))) {s : List UInt8} {sv : Value} (hs : Rel K (.str s) sv) {v : AV} {x : Value} (hx : Rel K v x) :
  ∃ w',(Instr.mapUpdate t (.map (some b)) sv x).run P w = .ok () w' ∧ RelS w0 K (S.set p (.map b (mkM (mput s v l)))) w' := by
 obtain ⟨_,_,es,clk,hb,hclk,hkeys,hvals⟩ := hS.ents _ (List.mem_of_getElem? hp)
 cases hs with
 | str _ hmax =>
 have hkeys' := keys_eq hkeys
 have hK : IsKey .string (.string ⟨s.toArray⟩) := trivial
 have hlen : es.toList.length = l.length := by have := congrArg List.length hkeys'; simpa using this
 rcases findNow_str (s := s) l es.toList 0 hkeys' with ⟨h1,h2⟩ | ⟨j,en,q,h1,h2,h3,h4,h5,h6⟩
 ·have hl : clk = l.length := by rw [hclk,mkM,List.length_map]
  refine ⟨_,by simp [Instr.mapUpdate,run_underlying hm,Go.MapKept.run_getObj_map hb,run_checkKey hk hK,run_findKey hk h1,Go.MapKept.run_setObj_map _ hb,Result.andThen]; rfl,?_⟩
  rw [mput_no h2]
  have e1 : clk + 1 = (mkM (l ++ [(s,v)])).length := by rw [mkM,List.length_map,List.length_append,hl]; rfl
  rw [e1]
  refine hS.remap hp ?_ fun i kv en hi he => ?_
  ·have := RelL.append hkeys (RelL.cons (K := K) (Rel.str s hmax) RelL.nil)
   simpa [mkM] using this
  ·rw [mkM,List.map_append] at hi
   rw [Array.toList_push] at he
   by_cases hc : i < l.length
   ·rw [List.getElem?_append_left (by simpa using hc)] at hi
    rw [List.getElem?_append_left (by rw [hlen]; exact hc)] at he
    exact hvals i kv en hi he
   ·rw [List.getElem?_append_right (by simp; omega)] at hi
    rw [List.getElem?_append_right (by rw [hlen]; omega)] at he
    have hi0 : i - (l.map fun p => (AV.str p.1,p.2)).length = 0 := by
     have := (List.getElem?_eq_some_iff.1 hi).1
     simp at this
     simp; omega
    have he0 : i - es.toList.length = 0 := by rw [hlen]; simpa using hi0
    rw [hi0] at hi
    rw [he0] at he
    simp only [List.map_cons,List.map_nil,List.getElem?_cons_zero,Option.some.injEq] at hi he
    subst hi; subst he
    exact ⟨hx,by show clk = i; rw [hl]; rw [hlen] at he0; omega⟩
 ·have hj : es[j]? = some en := by simpa using h2
  have hkey : en.key = .string ⟨s.toArray⟩ := by
   have := congrArg (fun l => l[j]?) hkeys'
   simp only [List.getElem?_map,h2,h3,Option.map_some,Option.some.injEq] at this
   rw [this,h4]
  refine ⟨_,by simp [Instr.mapUpdate,run_underlying hm,Go.MapKept.run_getObj_map hb,run_checkKey hk hK,run_findKey hk h1,hj,hkey,run_keyThatStays hK,Go.MapKept.run_setObj_map _ hb,Result.andThen]; rfl,?_⟩
  rw [h6]
  have e1 : clk = (mkM (l.set j (s,v))).length := by rw [hclk,mkM,mkM,List.length_map,List.length_map,List.length_set]
  rw [e1]
  have hks : (l.set j (s,v)).map (fun p => Value.string ⟨p.1.toArray⟩) = l.map fun p => Value.string ⟨p.1.toArray⟩ := by
   apply List.ext_getElem?
   intro i
   rw [List.getElem?_map,List.getElem?_map,List.getElem?_set]
   by_cases hij : j = i
   ·subst hij
    have hjl := (List.getElem?_eq_some_iff.1 h3).1
    rw [if_pos rfl,if_pos hjl,h3]
    simp [h4]
   ·rw [if_neg hij]
  refine hS.remap hp ?_ fun i kv en' hi he => ?_
  ·rw [modify_keys j _ (fun e' he' => by rw [hj] at he'; cases he'; exact hkey.symm)]
   have e2 : (mkM (l.set j (s,v))).map (·.1) = (mkM l).map (·.1) := by
    apply List.ext_getElem?
    intro i
    rw [mkM,mkM,List.map_map,List.map_map,List.getElem?_map,List.getElem?_map,List.getElem?_set]
    by_cases hij : j = i
    ·subst hij
     have hjl := (List.getElem?_eq_some_iff.1 h3).1
     rw [if_pos rfl,if_pos hjl,h3]
     simp [h4]
    ·rw [if_neg hij]
   rw [e2]; exact hkeys
  ·rw [Array.getElem?_toList,Array.getElem?_modify] at he
   rw [mkM,List.getElem?_map,List.getElem?_set] at hi
   by_cases hij : j = i
   ·subst hij
    have hjl := (List.getElem?_eq_some_iff.1 h3).1
    rw [if_pos rfl,if_pos hjl] at hi
    rw [if_pos rfl,hj] at he
    simp only [Option.map_some,Option.some.injEq] at hi he
    subst hi; subst he
    exact ⟨hx,(hvals j (.str q.1,q.2) en (by rw [mkM,List.getElem?_map,h3]; rfl) h2).2⟩
   ·rw [if_neg hij] at hi he
    exact hvals i kv en' (by rw [mkM,List.getElem?_map]; exact hi) (by simpa using he)
theorem run_mapEnt {P : Program} {w0 w : World} {K : Kn} {S : List En} (hS : RelS w0 K S w) {t kt e : TypeId} (hm : P.underlying t = some (.map kt e)) (hk : P.underlying kt = some .string) {z : AV} (hz : zeroIs P e z)
  {b p : Nat} {l : List (List UInt8 × AV)} (hp : S[p]? = some (.map b (mkM l))) {s : List UInt8} {sv : Value} (hs : Rel K (.str s) sv) (hn : ∀ q ∈ l,q.1 ≠ s) (hl63 : l.length ≤ 9223372036854775807) :
  ∃ v w',(Instr.mapEntry t (.map (some b)) sv).run P w = .ok v w' ∧ Rel K (.tup [z, .int .i64 (l.length : Nat)]) v ∧ RelS w0 K (S.set p (.map b (mkM (l ++ [(s,z)])))) w' := by
 obtain ⟨_,_,es,clk,hb,hclk,hkeys,hvals⟩ := hS.ents _ (List.mem_of_getElem? hp)
 cases hs with
 | str _ hmax =>
 have hkeys' := keys_eq hkeys
 have hK : IsKey .string (.string ⟨s.toArray⟩) := trivial
 have hlen : es.toList.length = l.length := by have := congrArg List.length hkeys'; simpa using this
 rcases findNow_str (s := s) l es.toList 0 hkeys' with ⟨h1,h2⟩ | ⟨j,en,q,h1,h2,h3,h4,h5,h6⟩
 ·have hl : clk = l.length := by rw [hclk,mkM,List.length_map]
  obtain ⟨v,hv,hr⟩ := zero_run (w := w) (K := K) hz
  have hint : IntKind.i64.has ((l.length : Nat) : Int) := by simp only [IntKind.has,IntKind.min,IntKind.max,IntKind.bits,IntKind.signed]; simp; omega
  have ht := RelL.cons (K := K) hr (RelL.cons (.int .i64 ((l.length : Nat) : Int) hint) RelL.nil)
  refine ⟨.tuple #[v,goInt clk],_,by simp [Instr.mapEntry,run_underlying hm,Go.MapKept.run_getObj_map hb,run_checkKey hk hK,run_findKey hk h1,hv,Go.MapKept.run_setObj_map _ hb,Result.andThen]; rfl,?_,?_⟩
  ·rw [hl]; exact .tup ht.1 ht.2
  ·have e1 : clk + 1 = (mkM (l ++ [(s,z)])).length := by rw [mkM,List.length_map,List.length_append,hl]; rfl
   rw [e1]
   refine hS.remap hp ?_ fun i kv en hi he => ?_
   ·have := RelL.append hkeys (RelL.cons (K := K) (Rel.str s hmax) RelL.nil)
    simpa [mkM] using this
   ·rw [mkM,List.map_append] at hi
    rw [Array.toList_push] at he
    by_cases hc : i < l.length
    ·rw [List.getElem?_append_left (by simpa using hc)] at hi
     rw [List.getElem?_append_left (by rw [hlen]; exact hc)] at he
     exact hvals i kv en hi he
    ·rw [List.getElem?_append_right (by simp; omega)] at hi
     rw [List.getElem?_append_right (by rw [hlen]; omega)] at he
     have hi0 : i - (l.map fun p => (AV.str p.1,p.2)).length = 0 := by
      have := (List.getElem?_eq_some_iff.1 hi).1
      simp at this
      simp; omega
     have he0 : i - es.toList.length = 0 := by rw [hlen]; simpa using hi0
     rw [hi0] at hi
     rw [he0] at he
     simp only [List.map_cons,List.map_nil,List.getElem?_cons_zero,Option.some.injEq] at hi he
     subst hi; subst he
     exact ⟨hr,by show clk = i; rw [hl]; rw [hlen] at he0; omega⟩
 ·exact absurd h4 (hn q (List.mem_of_getElem? h3))
theorem run_entSet {P : Program} {w0 w : World} {K : Kn} {S : List En} (hS : RelS w0 K S w) (t : TypeId) {b p : Nat} {l : List (List UInt8 × AV)} (hp : S[p]? = some (.map b (mkM l))) {q0 : IntKind} {j : Nat} {q : List UInt8 × AV} (hj : l[j]? = some q) {v : AV} {x : Value} (hx : Rel K v x) :
  ∃ w',(Instr.entryStore t (.map (some b)) (.int q0 (j : Int)) x).run P w = .ok () w' ∧ RelS w0 K (S.set p (.map b (mkM (l.set j (q.1,v))))) w' := by
 obtain ⟨_,_,es,clk,hb,hclk,hkeys,hvals⟩ := hS.ents _ (List.mem_of_getElem? hp)
 have hkeys' := keys_eq hkeys
 have hlen : es.toList.length = l.length := by have := congrArg List.length hkeys'; simpa using this
 have hjl : j < l.length := (List.getElem?_eq_some_iff.1 hj).1
 have hborn : ∀ (i : Nat) (hi : i < es.toList.length),es.toList[i].born = i := fun i hi => by
  have hil : i < l.length := by omega
  exact (hvals i (.str l[i].1,l[i].2) es.toList[i] (by rw [mkM,List.getElem?_map,List.getElem?_eq_getElem hil]; rfl) (List.getElem?_eq_getElem hi)).2
 have hf : es.findIdx? (fun e => (e.born : Int) == (j : Int)) = some j := by
  have e : es.findIdx? (fun e => (e.born : Int) == (j : Int)) = es.toList.findIdx? (fun e => (e.born : Int) == (j : Int)) := by cases es; simp
  rw [e]
  refine List.findIdx?_eq_some_iff_getElem.2 ⟨by omega,?_,fun i hi => ?_⟩
  ·rw [hborn j (by omega)]; simp
  ·rw [hborn i (by omega)]
   have : (i : Int) ≠ (j : Int) := by omega
   simpa using this
 have hes : es[j]? = some es.toList[j] := by rw [← Array.getElem?_toList,List.getElem?_eq_getElem (by omega)]
 refine ⟨_,by simp [Instr.entryStore,Go.MapKept.run_getObj_map hb,asInt,asIntOf,hf,Go.MapKept.run_setObj_map _ hb,Result.andThen]; rfl,?_⟩
 have e1 : clk = (mkM (l.set j (q.1,v))).length := by rw [hclk,mkM,mkM,List.length_map,List.length_map,List.length_set]
 rw [e1]
 refine hS.remap hp ?_ fun i kv en' hi he => ?_
 ·rw [modify_keys j (fun e => { e with val := x }) (fun e' _ => rfl)]
  have e2 : (mkM (l.set j (q.1,v))).map (·.1) = (mkM l).map (·.1) := by
   apply List.ext_getElem?
   intro i
   rw [mkM,mkM,List.map_map,List.map_map,List.getElem?_map,List.getElem?_map,List.getElem?_set]
   by_cases hij : j = i
   ·subst hij
    rw [if_pos rfl,if_pos hjl,hj]; rfl
   ·rw [if_neg hij]
  rw [e2]; exact hkeys
 ·rw [Array.getElem?_toList,Array.getElem?_modify] at he
  rw [mkM,List.getElem?_map,List.getElem?_set] at hi
  by_cases hij : j = i
  ·subst hij
   rw [if_pos rfl,if_pos hjl] at hi
   rw [if_pos rfl,hes] at he
   simp only [Option.map_some,Option.some.injEq] at hi he
   subst hi; subst he
   exact ⟨hx,hborn j (by omega)⟩
  ·rw [if_neg hij] at hi he
   exact hvals i kv en' (by rw [mkM,List.getElem?_map]; exact hi) (by simpa using he)
theorem run_makeSl {P : Program} {w0 w : World} {K : Kn} {S : List En} (hS : RelS w0 K S w) {t e : TypeId} {i : TI} (ht : P.underlying t = some (.slice e)) (hi : TOk P e i) {kl kc : IntKind} {n m : Nat} (hnm : n ≤ m) (hr : roomFor m i.by_) :
  ∃ vs,(Instr.makeSlice t (.int kl (n : Int)) (.int kc (m : Int))).run P w = .ok (.slice (some ⟨w.heap.size,0,none⟩) n m) (w.alloc (.cells vs e)) ∧ vs.size = m * i.sz ∧ RelL K (zerosAV i.zero m) vs.toList ∧ (∀ c ∈ zerosAV i.zero m,c.one = true) := by
 obtain ⟨inf,z,hinf,hs,hb,hz,hzr,hz1⟩ := hi.get
 have hzl : z.cells.size = i.sz := by have := (hzr K).1; rw [hi.len] at this; simpa using this.symm
 refine ⟨madeCells z.cells (m * i.sz),?_,size_madeCells _ _,?_,zerosAV_one hz1 m⟩
 ·have hB : (inf.bytes : Int) * (m : Int) ≤ 281474976710656 := by
   have h2 := hr.1
   rw [Nat.mul_comm] at h2
   have h3 : ((i.by_ * m : Nat) : Int) ≤ 281474976710656 := by omega
   rw [hb]
   rwa [Int.natCast_mul] at h3
  have h63 : (m : Int) ≤ 9223372036854775807 := by have := hr.2.2; omega
  have h := run_make (P := P) w t e inf z ht hinf hz kl kc (n : Int) (m : Int) (by omega) (by omega) hB h63
  rw [Int.toNat_natCast,Int.toNat_natCast,hs] at h
  exact h
 ·have e1 : madeCells z.cells (m * i.sz) = Builtin.zeroCells z.cells m := by rw [madeCells,Builtin.zeroCells,hzl]
  rw [e1]; exact zeros_rel (hzr K) m
theorem run_makeOwn {P : Program} {w0 w : World} {K : Kn} {S : List En} (hS : RelS w0 K S w) {t e : TypeId} {i : TI} (ht : P.underlying t = some (.slice e)) (hi : TOk P e i) {kl kc : IntKind} {m : Nat} (hr : roomFor m i.by_) :
  ∃ v w' t',(Instr.makeSlice t (.int kl ((0 : Nat) : Int)) (.int kc (m : Int))).run P w = .ok v w' ∧ Rel K (.sl i.sz [] t') v ∧ RelS w0 K (.grow t' :: S) w' := by
 obtain ⟨vs,h1,h2,h3,h4⟩ := run_makeSl hS ht hi (kl := kl) (kc := kc) (Nat.zero_le m) hr
 have hm : m ≤ maxLen := by have := hr.2.2; simpa [maxLen] using this
 refine ⟨_,_, .own w.heap.size 0 (m * i.sz),h1,?_,hS.consNew (hS.allocObj _) (fun b hb => by simpa [En.blk] using hb.symm) ⟨hS.below.size,by rw [hS.klt (Nat.le_refl _)]; rfl,Nat.zero_le _,vs,e,heap_alloc_new _ _,h2⟩⟩
 have := Rel.sl (K := K) (sz := i.sz) (es := []) (t := .own w.heap.size 0 (m * i.sz)) (b := w.heap.size) (off := 0) (cap := m) (vs := []) (Nat.zero_le _) hm (by simp) (by simp [flat]) (by simp [flat]) (by simp [flat]) (by simp) (by simp [TkOk])
 exact this
theorem run_makeMut {P : Program} {w0 w : World} {K : Kn} {S : List En} (hS : RelS w0 K S w) {t e : TypeId} {i : TI} (ht : P.underlying t = some (.slice e)) (hi : TOk P e i) {kl kc : IntKind} {n m : Nat} (hnm : n ≤ m) (hr : roomFor m i.by_) :
  ∃ v w' b,(Instr.makeSlice t (.int kl (n : Int)) (.int kc (m : Int))).run P w = .ok v w' ∧ Rel K (.msl b 0 n m) v ∧ RelS w0 K (.cells b (zerosAV i.zero m) :: S) w' := by
 obtain ⟨vs,h1,h2,h3,h4⟩ := run_makeSl hS ht hi (kl := kl) (kc := kc) hnm hr
 have hm : m ≤ maxLen := by have := hr.2.2; simpa [maxLen] using this
 exact ⟨_,_,w.heap.size,h1, .msl _ 0 n m hnm hm (.inl ⟨rfl,rfl⟩),hS.allocCells e h4 h3⟩
end Go.Aw
