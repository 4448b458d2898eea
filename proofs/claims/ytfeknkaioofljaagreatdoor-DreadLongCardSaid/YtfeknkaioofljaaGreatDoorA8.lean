/-
 Regions that draw,looked at in another order of their operations. Own work.
-/
import Derived.Test.YtfeknkaioofljaaGreatDoorA7
set_option linter.all false
namespace Go.Aw
open Go.RowKit
def pureAt (op : Op) (ρ : Operand → AV) : Bool := match op with
 | .move _ | .assign _ => true
 | .binOp _ _ _ (.const (.slice ..)) _ => false
 | .binOp .. => true
 | .fieldAddr .. => true
 | .load _ x => match ρ x with
  | .ref _ => true
  | _ => false
 | _ => false
theorem pureAt_any {P : Program} {τ : List (TypeId × TI)} {op : Op} {ρ : Operand → AV} {S S2 : List En} {v : AV} (hp : pureAt op ρ = true) (h : astep P τ op ρ S (fun v' S' => AVle v' v ∧ S.Sublist S')) :
  astep P τ op ρ S2 (fun v' S' => AVle v' v ∧ S2.Sublist S') := by
 cases op <;> first | (exfalso; simp [pureAt] at hp; done) | skip
 case move x => exact pure_any rfl h
 case assign x => exact pure_any rfl h
 case binOp op t x y t' =>
  refine pure_any ?_ h
  unfold pureAt at hp
  unfold pureOp
  split at hp <;> simp_all
 case load t x =>
  simp only [astep] at h ⊢
  simp only [pureAt] at hp
  refine ⟨h.1,?_⟩
  cases hx : ρ x <;> rw [hx] at hp <;> simp only [] at hp <;> (try exact absurd hp Bool.false_ne_true)
  case ref cs =>
   have h2 := h.2
   rw [hx] at h2
   simp only [] at h2 ⊢
   obtain ⟨a,u,e,b⟩ := h2
   exact ⟨a,u,e,b.1,List.Sublist.refl _⟩
 case fieldAddr t x f =>
  simp only [astep] at h ⊢
  split at h
  ·obtain ⟨off,ft,a,b,c,d⟩ := h
   refine ⟨off,ft,a,b,c,?_⟩
   split at d
   ·exact ⟨d.1,List.Sublist.refl _⟩
   ·exact ⟨d.1,d.2.1,List.Sublist.refl _⟩
   ·exact d.elim
  ·exact h.elim
def aheadsL (P : Program) (τ : List (TypeId × TI)) (late : List Nat) : Nat → List Oper → Env → List En → (Env → Prop) → Prop
 | _, [],E,_,k => k E
 | n,o :: r,E,S,k => (bif memB late n then pureAt o.op (ev E) else true) = true ∧ ∃ v,astep P τ o.op (ev E) S (fun v' S' => AVle v' v ∧ S.Sublist S') ∧ aheadsL P τ late (n + 1) r (E.put o.dst v) S k
theorem headsL_of {P : Program} {τ : List (TypeId × TI)} {late : List Nat} {ops : List Oper} {S : List En} {k : Env → Prop} : ∀ (r : List Oper) (n : Nat) (E : Env),(∀ o ∈ r,o.guard = none) → aheadsL P τ late n r E S k →
  ∃ V,heads P τ ops S r V E ∧ (∀ (j : Nat) (o : Oper),r[j]? = some o → (n + j) ∈ late → pureAt o.op (ev (putAll E (r.take j) (V.take j))) = true) ∧ k (putAll E r V) := by
 intro r
 induction r with
 | nil => exact fun n E _ h => ⟨[],trivial,(fun j o h => by simp at h),h⟩
 | cons o r ih =>
  intro n E hg h
  obtain ⟨hl,v,hv,hr⟩ := h
  obtain ⟨V,h1,h2,h3⟩ := ih (n + 1) (E.put o.dst v) (fun x hx => hg x (.tail _ hx)) hr
  refine ⟨v :: V,⟨.inl ⟨.inl (hg o (.head _)),hv⟩,h1⟩,fun j oj hj hm => ?_,h3⟩
  cases j with
  | zero =>
   simp only [List.getElem?_cons_zero,Option.some.injEq] at hj
   subst hj
   rw [Nat.add_zero] at hm
   rw [memB_iff.2 hm] at hl
   exact hl
  | succ j => exact h2 j oj (by simpa using hj) (by rw [show n + 1 + j = n + (j + 1) by omega]; exact hm)
def permOps (ops : Array Oper) (ord inv : List Nat) : Array Oper :=
 (ord.map fun i => match ops[i]? with
  | some o => { o with after := ((deps o).map fun e => ({ on := inv.getD e 0,ground := .data } : Edge)).toArray }
  | none => default).toArray
def permOk (ops : Array Oper) (ord inv : List Nat) : Bool :=
 Nat.beq ord.length ops.size && Nat.beq inv.length ops.size &&
 (List.range ops.size).all (fun j => Nat.blt (ord.getD j 0) ops.size && Nat.blt (inv.getD j 0) ops.size && Nat.beq (inv.getD (ord.getD j 0) 0) j && Nat.beq (ord.getD (inv.getD j 0) 0) j) &&
 (List.range ops.size).all (fun j => match ops[j]? with | some o => (deps o).all (fun e => Nat.blt e ops.size) && o.guard.isNone | none => false)
structure PFacts (ops : Array Oper) (ord inv : List Nat) : Prop where
 ol : ord.length = ops.size
 il : inv.length = ops.size
 lt : ∀ j,j < ops.size → ord.getD j 0 < ops.size
 lt' : ∀ j,j < ops.size → inv.getD j 0 < ops.size
 io : ∀ j,j < ops.size → inv.getD (ord.getD j 0) 0 = j
 oi : ∀ j,j < ops.size → ord.getD (inv.getD j 0) 0 = j
 dl : ∀ (j : Nat) (o : Oper),ops[j]? = some o → (∀ e ∈ deps o,e < ops.size) ∧ o.guard = none
theorem pfacts_of {ops : Array Oper} {ord inv : List Nat} (h : permOk ops ord inv = true) : PFacts ops ord inv := by
 simp only [permOk,Bool.and_eq_true] at h
 obtain ⟨⟨⟨h1,h2⟩,h3⟩,h4⟩ := h
 have g : ∀ j,j < ops.size → ((ord.getD j 0 < ops.size ∧ inv.getD j 0 < ops.size) ∧ inv.getD (ord.getD j 0) 0 = j) ∧ ord.getD (inv.getD j 0) 0 = j := fun j hj => by
  have := List.all_eq_true.1 h3 j (List.mem_range.2 hj)
  simp only [Bool.and_eq_true] at this
  exact ⟨⟨⟨Nat.le_of_ble_eq_true this.1.1.1,Nat.le_of_ble_eq_true this.1.1.2⟩,Nat.eq_of_beq_eq_true this.1.2⟩,Nat.eq_of_beq_eq_true this.2⟩
 refine ⟨Nat.eq_of_beq_eq_true h1,Nat.eq_of_beq_eq_true h2,fun j hj => (g j hj).1.1.1,fun j hj => (g j hj).1.1.2,fun j hj => (g j hj).1.2,fun j hj => (g j hj).2,fun j o ho => ?_⟩
 have hj : j < ops.size := (Array.getElem?_eq_some_iff.1 ho).1
 have := List.all_eq_true.1 h4 j (List.mem_range.2 hj)
 simp only [ho,Bool.and_eq_true] at this
 exact ⟨fun e he => Nat.le_of_ble_eq_true (List.all_eq_true.1 this.1 e he),Option.isNone_iff_eq_none.1 this.2⟩
theorem permOps_size {ops : Array Oper} {ord inv : List Nat} (h : PFacts ops ord inv) : (permOps ops ord inv).size = ops.size := by
 unfold permOps; simp [h.ol]
theorem permOps_at {ops : Array Oper} {ord inv : List Nat} (h : PFacts ops ord inv) {j : Nat} {o : Oper} (ho : ops[ord.getD j 0]? = some o) (hj : j < ops.size) :
  (permOps ops ord inv)[j]? = some { o with after := ((deps o).map fun e => ({ on := inv.getD e 0,ground := .data } : Edge)).toArray } := by
 unfold permOps
 have hjo : j < ord.length := by rw [h.ol]; exact hj
 have e : ord.getD j 0 = ord[j] := by simp [List.getD_eq_getElem?_getD,hjo]
 rw [e] at ho
 simp [hjo,ho]
theorem mem_ready' {ops : Array Oper} {listed : Array Bool} {i : Nat} : i ∈ Region.ready .any ops listed ↔ listed.getD i true = false ∧ ∃ o,ops[i]? = some o ∧ ∀ e ∈ deps o,listed.getD e false = true := by
 rw [mem_ready]
 constructor
 ·rintro ⟨h1,o,ho,h⟩
  refine ⟨h1,o,ho,fun e he => ?_⟩
  obtain ⟨ed,hed,hb,rfl⟩ := mem_deps.1 he
  exact h ed hed hb
 ·rintro ⟨h1,o,ho,h⟩
  exact ⟨h1,o,ho,fun ed hed hb => h _ (mem_deps.2 ⟨ed,hed,hb,rfl⟩)⟩
theorem deps_perm {o : Oper} {inv : List Nat} {l : List Nat} : deps { o with after := (l.map fun e => ({ on := inv.getD e 0,ground := .data } : Edge)).toArray } = l.map fun e => inv.getD e 0 := by
 unfold deps
 simp only [List.toList_toArray]
 rw [List.filter_eq_self.2]
 ·rw [List.map_map]; rfl
 ·intro e he
  obtain ⟨x,_,rfl⟩ := List.mem_map.1 he
  rfl
theorem getD_set_same {l : Array Bool} {j : Nat} (h : j < l.size) : (l.setIfInBounds j true).getD j false = true := by simp [Array.getD_eq_getD_getElem?,h]
structure Alike (ops : Array Oper) (ord : List Nat) (listed listed' : Array Bool) : Prop where
 s : listed.size = ops.size
 s' : listed'.size = ops.size
 at_ : ∀ j,j < ops.size → listed'.getD j false = listed.getD (ord.getD j 0) false
theorem wpAny_perm {P : Program} {F : Fence} {ops : Array Oper} {ord inv : List Nat} (hf : PFacts ops ord inv) {Q : Exit → Act → World → Prop} : ∀ (f : Nat) (listed listed' : Array Bool) (a : Act) (w : World),Alike ops ord listed listed' →
  wpAnyIn F 0 P .any (permOps ops ord inv) Q f listed' a w → wpAnyIn F 0 P .any ops Q f listed a w := by
 have toNew : ∀ (listed listed' : Array Bool),Alike ops ord listed listed' → ∀ i,i ∈ Region.ready .any ops listed → inv.getD i 0 ∈ Region.ready .any (permOps ops ord inv) listed' := by
  intro listed listed' hl i hi
  obtain ⟨h1,o,ho,h2⟩ := mem_ready'.1 hi
  have his : i < ops.size := (Array.getElem?_eq_some_iff.1 ho).1
  have hj := hf.lt' i his
  have hio := hf.oi i his
  refine mem_ready'.2 ⟨?_,_,permOps_at hf (j := inv.getD i 0) (o := o) (by rw [hio]; exact ho) hj,fun e he => ?_⟩
  ·rw [getD_tf (by rw [hl.s']; exact hj) true false,hl.at_ _ hj,hio,getD_tf (by rw [hl.s]; exact his) false true]; exact h1
  ·rw [deps_perm] at he
   obtain ⟨x,hx,rfl⟩ := List.mem_map.1 he
   have hxs := (hf.dl i o ho).1 x hx
   rw [hl.at_ _ (hf.lt' x hxs),hf.oi x hxs]
   exact h2 x hx
 have toOld : ∀ (listed listed' : Array Bool),Alike ops ord listed listed' → ∀ j,j ∈ Region.ready .any (permOps ops ord inv) listed' → ord.getD j 0 ∈ Region.ready .any ops listed := by
  intro listed listed' hl j hj
  obtain ⟨h1,o',ho',h2⟩ := mem_ready'.1 hj
  have hjs : j < ops.size := by rw [← permOps_size hf]; exact (Array.getElem?_eq_some_iff.1 ho').1
  have hos := hf.lt j hjs
  have ho : ops[ord.getD j 0]? = some ops[ord.getD j 0] := Array.getElem?_eq_getElem hos
  have hp := permOps_at hf ho hjs
  rw [ho'] at hp
  obtain rfl := Option.some.inj hp
  refine mem_ready'.2 ⟨?_,_,ho,fun e he => ?_⟩
  ·rw [getD_tf (by rw [hl.s]; exact hos) true false, ← hl.at_ _ hjs,getD_tf (by rw [hl.s']; exact hjs) false true]; exact h1
  ·have hes := (hf.dl _ _ ho).1 e he
   have := h2 (inv.getD e 0) (by rw [deps_perm]; exact List.mem_map.2 ⟨e,he,rfl⟩)
   rw [hl.at_ _ (hf.lt' e hes),hf.oi e hes] at this
   exact this
 have nil : ∀ (listed listed' : Array Bool),Alike ops ord listed listed' → Region.ready .any ops listed = [] → Region.ready .any (permOps ops ord inv) listed' = [] := by
  intro listed listed' hl h
  apply List.eq_nil_iff_forall_not_mem.2
  intro j hj
  have := toOld _ _ hl j hj
  rw [h] at this; cases this
 have nil' : ∀ (listed listed' : Array Bool),Alike ops ord listed listed' → Region.ready .any (permOps ops ord inv) listed' = [] → Region.ready .any ops listed = [] := by
  intro listed listed' hl h
  apply List.eq_nil_iff_forall_not_mem.2
  intro i hi
  have := toNew _ _ hl i hi
  rw [h] at this; cases this
 intro f
 induction f with
 | zero => intro listed listed' a w hl h; exact ⟨nil' _ _ hl h.1,h.2⟩
 | succ f ih =>
  intro listed listed' a w hl h
  refine ⟨fun hn => h.1 (nil _ _ hl hn),fun i hi => ?_⟩
  have h1 := h.2 _ (toNew _ _ hl i hi)
  obtain ⟨_,o,ho,_⟩ := mem_ready'.1 hi
  have his : i < ops.size := (Array.getElem?_eq_some_iff.1 ho).1
  have hj := hf.lt' i his
  have hio := hf.oi i his
  have hp := permOps_at hf (j := inv.getD i 0) (o := o) (by rw [hio]; exact ho) hj
  have hg := (hf.dl i o ho).2
  have hw : ∀ y,Region.wanted o y = true := fun y => by simp [Region.wanted,hg]
  unfold wpOpIn at h1 ⊢
  rw [hp] at h1
  rw [ho]
  simp only [] at h1 ⊢
  rw [if_pos (by simp [Region.wanted,hg])] at h1
  rw [if_pos (hw _)]
  have h2 : o.wpIn F 0 P a w (wpAnyIn F 0 P .any (permOps ops ord inv) Q f (listed'.setIfInBounds (inv.getD i 0) true)) Q := by
   obtain ⟨dst,op,type,pos,after,guard⟩ := o
   exact h1
  refine Oper.wpIn_mono (fun a w hx => ih _ _ a w ⟨by simp [hl.s],by simp [hl.s'],fun j hjs => ?_⟩ hx) h2
  by_cases hji : inv.getD i 0 = j
  ·subst hji
   rw [hio,getD_set_same (by rw [hl.s']; exact hj),getD_set_same (by rw [hl.s]; exact his)]
  ·have hne : i ≠ ord.getD j 0 := fun e => hji (by rw [e,hf.io j hjs])
   rw [getD_set_ne false hji,getD_set_ne false hne]
   exact hl.at_ j hjs
theorem permOps_ok {ops : Array Oper} {ord inv : List Nat} (hf : PFacts ops ord inv) {N : Nat} (h : ops.toList.all (operOk N) = true) : (permOps ops ord inv).toList.all (operOk N) = true := by
 refine List.all_eq_true.2 fun o' ho' => ?_
 obtain ⟨j,hj,rfl⟩ := List.mem_iff_getElem.1 ho'
 have hjs : j < ops.size := by rw [← permOps_size hf]; simpa using hj
 have hos := hf.lt j hjs
 have ho : ops[ord.getD j 0]? = some ops[ord.getD j 0] := Array.getElem?_eq_getElem hos
 have hp := permOps_at hf ho hjs
 have e : (permOps ops ord inv).toList[j] = { ops[ord.getD j 0] with after := ((deps ops[ord.getD j 0]).map fun e => ({ on := inv.getD e 0,ground := .data } : Edge)).toArray } := by
  have h2 : (permOps ops ord inv)[j]? = some (permOps ops ord inv).toList[j] := by rw [← Array.getElem?_toList,List.getElem?_eq_getElem hj]
  rw [hp] at h2
  exact (Option.some.inj h2).symm
 rw [e]
 have := List.all_eq_true.1 h ops[ord.getD j 0] (by simp)
 generalize ops[ord.getD j 0] = o at this
 obtain ⟨dst,op,type,pos,after,guard⟩ := o
 exact this
theorem AW_drawp {P : Program} {N : Nat} {rd : Option Nat} {E : Env} {S : List En} {k : Kt} {τ : List (TypeId × TI)} (hτ : AllOk P τ) (hm : P.follows .mixedOrders = true) (ord inv : List Nat) (n : Nat) (late : List Nat) {id : Nat} {ops : Array Oper}
  (hp : permOk ops ord inv = true) (hd : lateOk0 (permOps ops ord inv) n late = true)
  (h : aheadsL P τ late 0 ((permOps ops ord inv).toList.take n) E S (fun E' => aops P τ (permOps ops ord inv).toList n ((permOps ops ord inv).toList.drop n) E' S (fun E' S' => k .normal E' S'))) : AW P N rd (.region id ops true) E S k := by
 unfold AW
 intro hc w0 K a w hE hS
 have hpf := pfacts_of hp
 have hf := lfacts_of hd
 have hsz := permOps_size hpf
 obtain ⟨V,hV,hl,hk⟩ := headsL_of (ops := (permOps ops ord inv).toList) _ _ _ (fun o ho => by
  obtain ⟨j,hj,rfl⟩ := List.mem_iff_getElem.1 (List.mem_of_mem_take ho)
  exact hf.ng j _ (by rw [← Array.getElem?_toList,List.getElem?_eq_getElem hj])) h
 refine wpIn_region_any hm ?_
 refine wpAny_perm hpf _ _ (Array.replicate ops.size false) a w.drew ⟨by simp,by simp,fun j hj => by rw [getD_replicate_false,getD_replicate_false]⟩ ?_
 have := late_all hτ n late hd hV (fun j o v hjl hj ho hv Sm => ?_) hk (permOps_ok hpf hc) (rd := rd) ⟨hE.size,hE.slot,hE.defers⟩ hS.drew
 ·rw [hsz] at this; exact this
 ·have hot : ((permOps ops ord inv).toList.take n)[j]? = some o := by rw [List.getElem?_take,if_pos hj]; simpa using ho
  have hhead := heads_at _ _ _ hV j o v hot hv
  have hpa := hl j o hot (by rw [Nat.zero_add]; exact hjl)
  rw [List.take_take,Nat.min_eq_left (Nat.le_of_lt hj)] at hhead hpa
  rcases hhead with ⟨_,hst⟩ | ⟨⟨g,want,hg,_⟩,_⟩
  ·exact pureAt_any hpa hst
  ·rw [hf.ng j o ho] at hg; cases hg
theorem erase_perm {α : Type} {l : List α} {i : Nat} {x : α} (h : l[i]? = some x) : (x :: l.eraseIdx i).Perm l := by
 obtain ⟨hi,hx⟩ := List.getElem?_eq_some_iff.1 h
 have e : l = l.take i ++ x :: l.drop (i + 1) := by rw [← hx,List.getElem_cons_drop,List.take_append_drop]
 rw [List.eraseIdx_eq_take_drop_succ]
 exact List.perm_middle.symm.trans (List.Perm.of_eq e.symm)
theorem AW_freezeP {P : Program} {N : Nat} {rd : Option Nat} {E : Env} {S : List En} {k : Kt} {c : Code} (t : Nat) {p b : Nat} {cs : List AV} (he : lk E.l t = .ptr b 0) (hp : S[p]? = some (.cells b cs)) (h : AW P N rd c ⟨(t, .ref cs) :: E.l,E.m⟩ (S.eraseIdx p) k) : AW P N rd c E S k := by
 refine AW_weak ?_ h
 intro w0 N K a w hE hS
 have hSp := hS.perm (erase_perm hp)
 obtain ⟨K',hK,h1,vs,e1,hr,ho⟩ := hSp.freeze (p := 0) rfl
 refine ⟨K',hK,⟨hE.size,fun i => ?_,hE.defers⟩,h1⟩
 simp only [lk]
 by_cases hi : t = i
 ·subst hi
  rw [Nat.beq_refl]
  have hv := hE.slot t
  rw [he] at hv
  generalize a.tmps.getD t undef = v at hv
  show Rel K' (.ref cs) v
  cases hv
  exact .ref ho hr.1 hr.2 (fun i v hv => by rw [Nat.zero_add,e1]; exact hv)
 ·rw [natBeq_ne hi]
  exact (hE.slot i).mono hK
end Go.Aw
namespace Go.Aw
open Go.RowKit
def ARoundX (P : Program) (N : Nat) (assign body : Code) (l : List (Nat × AV)) (α : Type) (st : Nat → α → List En) (inv : Nat → α → Prop) (Q : Exit → List En → Prop) (ps : List Nat) (X : Nat → α → List AV → Prop) : Prop :=
 ∀ (lp : Nat) (R : List En) (i : Nat) (args : List AV) (z : α),isLoopIn lp R → X i z args → inv i z →
  AW P N (some lp) assign ⟨zipE ps args l, []⟩ (st i z ++ R) (fun x E1 S1 => x = .normal ∧ ∃ Sc1,S1 = Sc1 ++ R ∧ ∀ R',isLoopIn lp R' →
   AW P N (some lp) body E1 (Sc1 ++ R') (fun x _ S' => match x with
    | .normal => ∃ z',inv (i + 1) z' ∧ SLe S' (st (i + 1) z' ++ R')
    | .exit _ | .ret | .goto _ => ∃ Sc',Q x Sc' ∧ SLe S' (Sc' ++ R')
    | _ => False))
def AGenX (P : Program) (f : AV) (own : List En) {α : Type} (st : Nat → α → List En) (inv : Nat → α → Prop) (X : Nat → α → List AV → Prop) (fin : Nat → α → Prop) : Prop :=
 ∀ (l : Nat) (RL : List En) (Z : List En → Prop),
  (∀ (o : List En) (i : Nat) (z : α) (args : List AV),X i z args → inv i z →
   AYield P l args (o ++ (st i z ++ RL)) (fun r S' => ∃ b Sc',r = .bool b ∧ S' = o ++ Sc' ∧ (b = true → ∃ z',inv (i + 1) z' ∧ Sc' = st (i + 1) z' ++ RL) ∧ (b = false → Z Sc'))) →
  ∀ z0,inv 0 z0 → aCallB P f [.fn (.yield l) [] []] (own ++ (st 0 z0 ++ RL)) (fun r S' => ∃ Sc',SLe S' Sc' ∧ ((∃ i z,fin i z ∧ inv i z ∧ Sc' = st i z ++ RL) ∨ Z Sc'))
section
variable {P : Program} {N : Nat} {assign body : Code} {le : List (Nat × AV)} {α : Type} {st : Nat → α → List En} {inv : Nat → α → Prop} {Q : Exit → List En → Prop} {ps : Array Nat} {X : Nat → α → List AV → Prop} {fin : Nat → α → Prop}
theorem yield_okX (hps : (ps.toList.all fun p => Nat.blt p N) = true) (ha : codeOk N assign = true) (hb : codeOk N body = true) (hr : ARoundX P N assign body le α st inv Q ps.toList X) (hlen : ∀ (i : Nat) (z : α) (args : List AV),X i z args → args.length = ps.size)
  {l : Nat} {fn : FuncId} {tmps : Array Value} (hts : tmps.size = N) {defers : Nat} {R0 : List En} (o : List En) (i : Nat) (z : α) (args : List AV) (hx : X i z args) (hz : inv i z) :
  AYield P l args (o ++ (st i z ++ .loop l (lk le) (recOf fn tmps ps assign body defers .ready none) :: R0)) (fun r S' => ∃ b Sc',r = .bool b ∧ S' = o ++ Sc' ∧ (b = true → Jof st inv l (lk le) (recOf fn tmps ps assign body defers) R0 (i + 1) Sc') ∧ (b = false → Zof Q l (lk le) (recOf fn tmps ps assign body defers) R0 Sc')) := by
 unfold AYield
 intro w0 K w vs hv hS
 have hS1 : RelS w0 K (st i z ++ (o ++ .loop l (lk le) (recOf fn tmps ps assign body defers .ready none) :: R0)) w := hS.perm (perm3 _ _ _)
 obtain ⟨hh,ht⟩ := hS.loopAt (l := l) (f := lk le) (r := recOf fn tmps ps assign body defers .ready none) (by simp)
 have hvl : vs.toArray.size = ps.size := by simp [← hv.1,hlen i z args hx]
 refine ⟨_,_,_,_,run_yield hh hvl,?_⟩
 have hz2 := zip_rel ps.toList args vs le tmps hv hps hts ht
 have he : ((ps.zip vs.toArray).foldl (fun (tmps : Array Value) (x : Tmp × Value) => match x with | (t,a) => tmps.setIfInBounds t a) tmps) = ((ps.toList.zip vs).foldl (fun t (x : Nat × Value) => t.setIfInBounds x.1 x.2) tmps) := by
  rw [← Array.foldl_toList,Array.toList_zip]
 refine roundIn_of_wpIn (F := Fence.wide) trivial ?_
 have hrr := hr l (o ++ .loop l (lk le) (recOf fn tmps ps assign body defers .ready none) :: R0) i args z ⟨_,_,mem_mid o R0 _⟩ hx hz
 unfold AW at hrr
 refine wpIn_mono (hrr ha w0 K _ w ⟨?_,?_,rfl⟩ hS1) ?_
 ·show Array.size (Array.foldl _ _ _) = N
  exact (congrArg Array.size he).trans hz2.1
 ·intro j
  have := hz2.2 j
  rw [← he] at this
  exact this
 rintro x a1 w1 ⟨K1,E1,S1,hK1,hE1,hS1',rfl,Sc1,rfl,hbody⟩
 have hS2 : RelS w0 K1 ((Sc1 ++ o) ++ .loop l (lk le) (recOf fn tmps ps assign body defers .ready none) :: R0) w1 := by rw [List.append_assoc]; exact hS1'
 obtain ⟨hh1,_⟩ := hS2.loopAt (mem_mid _ _ _)
 refine ⟨_,run_beginRound hh1 rfl,?_⟩
 have hS3 := hS2.reloop (recOf fn tmps ps assign body defers .busy none) rfl
 rw [List.append_assoc] at hS3
 have hbb := hbody (o ++ .loop l (lk le) (recOf fn tmps ps assign body defers .busy none) :: R0) ⟨_,_,mem_mid o R0 _⟩
 unfold AW at hbb
 refine wpIn_mono (hbb hb w0 K1 a1 _ hE1 hS3) ?_
 rintro x a2 w2 ⟨K2,E2,S2,hK2,hE2,hS4,hq⟩
 have fin : ∀ (jump : Option Code) (Sc' : List En),RelS w0 K2 (Sc' ++ (o ++ .loop l (lk le) (recOf fn tmps ps assign body defers .busy none) :: R0)) w2 →
   ∃ v w',(Instr.endRound l jump).run P w2 = .ok v w' ∧ v = .bool jump.isNone ∧ RelS w0 K2 (o ++ (Sc' ++ .loop l (lk le) (recOf fn tmps ps assign body defers (if jump.isNone then .ready else .done) jump) :: R0)) w' := by
  intro jump Sc' h
  rw [← List.append_assoc] at h
  obtain ⟨hh2,_⟩ := h.loopAt (mem_mid _ _ _)
  refine ⟨_,_,run_endRound jump hh2,rfl,?_⟩
  have h2 := h.reloop (recOf fn tmps ps assign body defers (if jump.isNone then .ready else .done) jump) rfl
  rw [List.append_assoc] at h2
  exact h2.perm (perm3 _ _ _)
 have stop : ∀ (c : Code) (x : Exit),jumpOf x = some c → (∃ Sc',Q x Sc' ∧ SLe S2 (Sc' ++ (o ++ .loop l (lk le) (recOf fn tmps ps assign body defers .busy none) :: R0))) →
   ∃ v w',(Instr.endRound l (some c)).run P w2 = .ok v w' ∧ ∃ v1 K' av S',Ending.returned v = .returned v1 ∧ Kle K K' ∧ Rel K' av v1 ∧ RelS w0 K' S' w' ∧
    ∃ b Sc',av = .bool b ∧ S' = o ++ Sc' ∧ (b = true → Jof st inv l (lk le) (recOf fn tmps ps assign body defers) R0 (i + 1) Sc') ∧ (b = false → Zof Q l (lk le) (recOf fn tmps ps assign body defers) R0 Sc') := by
  rintro c x hc ⟨Sc',hQ,hle⟩
  obtain ⟨v,w',e1,rfl,e3⟩ := fin (some c) Sc' (hle _ _ _ hS4)
  exact ⟨_,w',e1,_,K2, .bool false,_,rfl,hK1.trans hK2, .bool _,e3,false,_,rfl,rfl,(fun h => by cases h),fun _ => ⟨x,c,Sc',hc,hQ,rfl⟩⟩
 cases x with
 | normal =>
  obtain ⟨z',hz',hle⟩ := hq
  obtain ⟨v,w',e1,rfl,e3⟩ := fin none _ (hle _ _ _ hS4)
  exact ⟨_,w',e1,_,K2, .bool true,_,rfl,hK1.trans hK2, .bool _,e3,true,_,rfl,rfl,(fun _ => ⟨z',hz',rfl⟩),fun h => by cases h⟩
 | exit id => exact stop _ _ rfl hq
 | ret => exact stop _ _ rfl hq
 | goto t => exact stop _ _ rfl hq
 | panic _ => exact hq.elim
 | outgrown => exact hq.elim
theorem range_coreX {g : Operand} {gf : FuncId} {cap : List AV} {E : Env} {rd : Option Nat} {k : Kt} {w0 : World} {K : Kn} {a : Act} {w1 : World} {fnv : FuncId} {own R0 : List En} {x0 : α} {l defers : Nat} {mark : List Deferred} {m' : List Nat}
  (hps : (ps.toList.all fun p => Nat.blt p N) = true) (ha : codeOk N assign = true) (hb : codeOk N body = true) (hg : ev E g = .fn (.func gf) [] cap) (hgo : opdOk g = true) (hG : AGenX P (.fn (.func gf) [] cap) own st inv X fin)
  (h0 : inv 0 x0) (hlen : ∀ (i : Nat) (z : α) (args : List AV),X i z args → args.length = ps.size) (hr : ARoundX P N assign body E.l α st inv Q ps.toList X)
  (hE : RelE N K E a) (hmark : mark ++ a.defers = m'.map markOf)
  (hS : RelS w0 K (own ++ (st 0 x0 ++ .loop l (lk E.l) (recOf fnv a.tmps ps assign body defers .ready none) :: R0)) w1)
  (hn : ∀ i z,fin i z → inv i z → k .normal ⟨E.l,m'⟩ (st i z ++ R0)) (hq : ∀ x Sc,Q x Sc → (jumpOf x).isSome = true → k x ⟨E.l,m'⟩ (Sc ++ R0)) :
  ∃ (d : Deferred) (w₁' : World) (f : FuncId) (args : Array Value) (w₂ : World),(resolve a.eval (rangeCall g l) 0).run P w1 = .ok d w₁' ∧ (∀ f',Target.leads P w₁' d.target d.args = some f' → (Fw rd).fn f') ∧
   (invoke d.target d.args).run P w₁' = .ok (.enter f args) w₂ ∧ CallsIn (Fw rd) 0 P f args w₂ (rangePost (Fw rd) 0 P l (APost w0 N K k) { a with defers := mark ++ a.defers }) := by
 have hcall := hG l (.loop l (lk E.l) (recOf fnv a.tmps ps assign body defers .ready none) :: R0) (Zof Q l (lk E.l) (recOf fnv a.tmps ps assign body defers) R0)
  (fun o i z args hx hz => yield_okX hps ha hb hr hlen hE.size o i z args hx hz) x0 h0
 obtain ⟨hok,hcall⟩ : fnOk P gf ∧ ACall P gf ([] ++ [AV.fn (.yield l) [] []] ++ cap) _ _ := hcall
 have hgv := hE.ev g hgo
 rw [hg] at hgv
 generalize hgx : a.eval g = gv at hgv
 cases hgv with
 | @fn _ _ _ us cs hl hrr hl' hr' =>
  obtain rfl : us = [] := by simpa using hl.symm
  have hyv : RelL K [AV.fn (.yield l) [] []] [Value.func (.yield l) #[] #[]] :=
   RelL.cons (Rel.fn (.yield l) (first := []) (cap := []) (vs := []) (us := []) rfl (fun i c v hc _ => by simp at hc) rfl (fun i c v hc _ => by simp at hc)) RelL.nil
  unfold ACall at hcall
  have harg : RelL K ([] ++ [AV.fn (.yield l) [] []] ++ cap) ([Value.func (.yield l) #[] #[]] ++ cs) := RelL.append hyv ⟨hl',hr'⟩
  have hc := hcall w0 K w1 _ harg hS
  have e2 : ([Value.func (.yield l) #[] #[]] ++ cs).toArray = ([].toArray ++ #[Value.func (.yield l) #[] #[]]) ++ cs.toArray := by simp
  rw [e2] at hc
  refine ⟨{ target := .fn (.func gf) cs.toArray,args := [].toArray ++ #[.func (.yield l) #[] #[]] },w1,gf,([].toArray ++ #[.func (.yield l) #[] #[]]) ++ cs.toArray,w1,?_,fun _ _ => trivial,?_,?_⟩
  ·simp only [resolve,rangeCall,hgx]
   simp [Deferred.ofValue,Act.eval]
  ·simp only [invoke]
   exact run_callFunc hok _
  ·refine CallsIn.mono (F := Fw rd) hc ?_
   rintro e w2 ⟨v,K',av,S',rfl,hK',_,hS',Sc',hle,hor⟩
   have hS2 := hle _ _ _ hS'
   have hE2 : RelE N K' ⟨E.l,m'⟩ { a with defers := mark ++ a.defers } := ⟨hE.size,fun i => (hE.slot i).mono hK',hmark⟩
   rcases hor with ⟨i,z,hfz,hz,rfl⟩ | ⟨x,c,Sc1,hcx,hQ,rfl⟩
   ·obtain ⟨hh,_⟩ := hS2.loopAt (mem_mid _ _ _)
    refine ⟨_,_,run_endLoop hh (by simp [recOf]),?_⟩
    have hS3 := hS2.reloop { recOf fnv a.tmps ps assign body defers .ready none with state := .exhausted } rfl
    exact ⟨K',_,_,hK',hE2,hS3.sub (List.Sublist.append_left (List.sublist_cons_self _ _) _),hn i z hfz hz⟩
   ·obtain ⟨hh,_⟩ := hS2.loopAt (mem_mid _ _ _)
    refine ⟨_,_,run_endLoop hh (by simp [recOf]),?_⟩
    have hS3 := (hS2.reloop { recOf fnv a.tmps ps assign body defers .done (some c) with state := .exhausted } rfl).sub (List.Sublist.append_left (List.sublist_cons_self _ _) _)
    have hk := hq x Sc1 hQ (by rw [hcx]; rfl)
    cases x <;> simp only [jumpOf,Option.some.injEq,reduceCtorEq] at hcx <;> subst hcx
    ·exact wpIn_exit ⟨K',_,_,hK',hE2,hS3,hk⟩
    ·exact wpIn_goto ⟨K',_,_,hK',hE2,hS3,hk⟩
    ·exact wpIn_ret ⟨K',_,_,hK',hE2,hS3,hk⟩
theorem AW_rangeOutX {g : Operand} {gf : FuncId} {cap : List AV} {E : Env} {S : List En} {k : Kt} (own R0 : List En) (x0 : α) (hg : ev E g = .fn (.func gf) [] cap) (hG : AGenX P (.fn (.func gf) [] cap) own st inv X fin)
  (hS : SLe S (own ++ (st 0 x0 ++ R0))) (h0 : inv 0 x0) (hlen : ∀ (i : Nat) (z : α) (args : List AV),X i z args → args.length = ps.size) (hr : ARoundX P N assign body E.l α st inv Q ps.toList X)
  (hn : ∀ d i z,fin i z → inv i z → k .normal ⟨E.l,d :: E.m⟩ (st i z ++ .obj d (.deferred (some [])) :: R0)) (hq : ∀ d x Sc,Q x Sc → (jumpOf x).isSome = true → k x ⟨E.l,d :: E.m⟩ (Sc ++ .obj d (.deferred (some [])) :: R0)) :
  AW P N none (.rangeFunc g ps assign body) E S k := by
 unfold AW
 intro hc w0 K a w hE hS0
 simp only [codeOk,Bool.and_eq_true] at hc
 obtain ⟨⟨⟨hgo,hps⟩,ha⟩,hb⟩ := hc
 refine wpIn_rangeFunc (fun fnv _ => ?_)
 have hsz : (w.alloc (.deferred (some []))).heap.size = w.heap.size + 1 := World.size_alloc _ _
 have hS1 : RelS w0 K (.loop (w.heap.size + 1) (lk E.l) (recOf fnv a.tmps ps assign body w.heap.size .ready none) :: .obj w.heap.size (.deferred (some [])) :: (own ++ (st 0 x0 ++ R0))) ((w.alloc (.deferred (some []))).alloc (.loop (recOf fnv a.tmps ps assign body w.heap.size .ready none))) := by
  have hw := hS w0 K w hS0
  have h1 := (hw.allocObj (.deferred (some [])))
  have h2 : RelS w0 K (.obj w.heap.size (.deferred (some [])) :: (own ++ (st 0 x0 ++ R0))) (w.alloc (.deferred (some []))) :=
   hw.consNew h1 (fun b hb => by simpa [En.blk] using hb.symm) ⟨hS0.below.size,hS0.klt (Nat.le_refl _),World.alloc_heap_new _ _,rfl⟩
  have h3 := h2.allocObj (.loop (recOf fnv a.tmps ps assign body w.heap.size .ready none))
  refine h2.consNew h3 (fun b hb => by rw [hsz]; simpa [En.blk] using hb.symm) ⟨?_,?_,?_,fun i => hE.slot i⟩
  ·have := hS0.below.size; omega
  ·exact h2.klt (by rw [hsz]; exact Nat.le_refl _)
  ·rw [← hsz]; exact World.alloc_heap_new _ _
 have hS2 : RelS w0 K (own ++ (st 0 x0 ++ .loop (w.heap.size + 1) (lk E.l) (recOf fnv a.tmps ps assign body w.heap.size .ready none) :: (.obj w.heap.size (.deferred (some [])) :: R0))) ((w.alloc (.deferred (some []))).alloc (.loop (recOf fnv a.tmps ps assign body w.heap.size .ready none))) := by
  refine hS1.perm ?_
  have e1 := perm3 [En.loop (w.heap.size + 1) (lk E.l) (recOf fnv a.tmps ps assign body w.heap.size .ready none), .obj w.heap.size (.deferred (some []))] (own ++ st 0 x0) R0
  simp only [List.append_assoc,List.cons_append,List.nil_append] at e1
  exact e1.symm
 obtain ⟨d,w₁',f,args,w₂,r1,r2,r3,r4⟩ := range_coreX (k := k) (rd := none) (m' := w.heap.size :: E.m) (mark := [markOf w.heap.size]) hps ha hb hg hgo hG h0 hlen hr hE (by rw [hE.defers]; rfl) hS2 (fun i z hf hz => hn w.heap.size i z hf hz) (fun x Sc h1 h2 => hq w.heap.size x Sc h1 h2)
 exact ⟨_,_,_,d,w₁',f,args,w₂,run_enterLoop_outer _ _ _ _ _,r1,r2,r3,by simp [Fw,Fence.wide],r4⟩
end
end Go.Aw
