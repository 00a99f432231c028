/- Regions walked by one invariant; New of the reference's tree. Conditions: none. -/
import Derived.Test.YtjnbjcieepooaacRG2
import Derived.Test.YtjnbjcieepooaacTWC
namespace Go.Proofs.Ytjnbjcieepooaac
open Go.RowKit
set_option linter.unusedVariables false
set_option linter.unusedSimpArgs false

/-- What an operation waits for. -/
def depsO (o : Oper) : List Nat := (o.after.toList.filter (Region.binds .any)).map (·.on)
/-- Has it been carried out? -/
def dn (l : Array Bool) (i : Nat) : Bool := l.getD i false
theorem dn_set {l : Array Bool} {i : Nat} (hi : i < l.size) (j : Nat) : dn (l.setIfInBounds i true) j = if i = j then true else dn l j := by
  unfold dn
  by_cases e : i = j
  · subst e; simp [Array.getD, hi]
  · rw [if_neg e]
    simp only [Array.getD_eq_getD_getElem?]
    rw [Array.getElem?_setIfInBounds_ne e]
/-- Each operation, by the invariant. -/
def StepsJ (P : Program) (Q : Exit → Act → World → Prop) (J : Array Bool → Act → World → Prop) : Nat → List Oper → Prop
  | _, [] => True
  | k, o :: rest => (o.guard = none ∧ (∀ d ∈ depsO o, d < k) ∧ ∀ l a w, J l a w → dn l k = false → (∀ d ∈ depsO o, dn l d = true) → ∀ K : Act → World → Prop, (∀ a w, J (l.setIfInBounds k true) a w → K a w) → o.wp P a w K Q) ∧ StepsJ P Q J (k + 1) rest
theorem StepsJ.nil {P : Program} {Q : Exit → Act → World → Prop} {J : Array Bool → Act → World → Prop} {k : Nat} : StepsJ P Q J k [] := trivial
theorem StepsJ.cons {P : Program} {Q : Exit → Act → World → Prop} {J : Array Bool → Act → World → Prop} {k : Nat} {o : Oper} {rest : List Oper} (ds : List Nat) (hg : o.guard = none) (hd : depsO o = ds) (hb : ds.all (fun d => decide (d < k)) = true)
    (h : ∀ l a w, J l a w → dn l k = false → (∀ d ∈ ds, dn l d = true) → ∀ K : Act → World → Prop, (∀ a w, J (l.setIfInBounds k true) a w → K a w) → o.wp P a w K Q) (hr : StepsJ P Q J (k + 1) rest) : StepsJ P Q J k (o :: rest) := by
  subst hd
  exact ⟨⟨hg, fun d hd => by have := List.all_eq_true.1 hb d hd; simpa using this, h⟩, hr⟩
theorem StepsJ.get {P : Program} {Q : Exit → Act → World → Prop} {J : Array Bool → Act → World → Prop} : ∀ {ops : List Oper} {k j : Nat} {o : Oper}, StepsJ P Q J k ops → ops[j]? = some o →
    o.guard = none ∧ (∀ d ∈ depsO o, d < k + j) ∧ ∀ l a w, J l a w → dn l (k + j) = false → (∀ d ∈ depsO o, dn l d = true) → ∀ K : Act → World → Prop, (∀ a w, J (l.setIfInBounds (k + j) true) a w → K a w) → o.wp P a w K Q
  | [], _, _, _, _, h => by simp at h
  | o' :: rest, k, 0, o, hs, h => by
    simp at h
    subst h
    exact hs.1
  | o' :: rest, k, j + 1, o, hs, h => by
    have := StepsJ.get (j := j) hs.2 (by simpa using h)
    rw [show k + 1 + j = k + (j + 1) by omega] at this
    exact this
theorem ready_mem {ops : List Oper} {l : Array Bool} {i : Nat} : i ∈ Region.ready .any ops.toArray l ↔ i < ops.length ∧ l.getD i true = false ∧ ∃ o, ops[i]? = some o ∧ ∀ d ∈ depsO o, dn l d = true := by
  unfold Region.ready
  rw [List.mem_filter, List.mem_range]
  constructor
  · rintro ⟨h1, h2⟩
    have h1' : i < ops.length := by simpa using h1
    rw [Bool.and_eq_true] at h2
    refine ⟨h1', by simpa using h2.1, ops[i], List.getElem?_eq_getElem h1', fun d hd => ?_⟩
    have h3 := h2.2
    have e : ops.toArray[i]? = some ops[i] := by simp [h1']
    rw [e] at h3
    simp only [Option.map_some, Option.getD_some] at h3
    unfold depsO at hd
    obtain ⟨e', he', rfl⟩ := List.mem_map.1 hd
    obtain ⟨he1, he2⟩ := List.mem_filter.1 he'
    have := Array.all_eq_true'.1 h3 e' (by simpa using he1)
    rw [he2] at this
    simpa [dn] using this
  · rintro ⟨h1, h2, o, ho, hd⟩
    have e : ops.toArray[i]? = some o := by simpa using ho
    refine ⟨by simpa using h1, ?_⟩
    rw [e, h2]
    simp only [Option.map_some, Option.getD_some, Bool.not_false, Bool.true_and]
    refine Array.all_eq_true'.2 fun x hx => ?_
    cases hb : Region.binds .any x with
    | false => rfl
    | true =>
      have := hd x.on (List.mem_map.2 ⟨x, List.mem_filter.2 ⟨by simpa using hx, hb⟩, rfl⟩)
      simpa [dn] using this
theorem ready_nil {P : Program} {Q : Exit → Act → World → Prop} {J : Array Bool → Act → World → Prop} {ops : List Oper} {l : Array Bool} (hs : StepsJ P Q J 0 ops) (hl : l.size = ops.length) (h : Region.ready .any ops.toArray l = []) : ∀ i, i < ops.length → dn l i = true := by
  intro i
  induction i using Nat.strongRecOn with
  | ind i ih =>
    intro hi
    cases hd : dn l i with
    | true => rfl
    | false =>
      exfalso
      have hm : i ∈ Region.ready .any ops.toArray l := by
        refine ready_mem.2 ⟨hi, ?_, ops[i], List.getElem?_eq_getElem hi, fun d hd => ?_⟩
        · unfold dn at hd
          have hi' : i < l.size := by omega
          simpa [Array.getD, hi'] using hd
        · have hlt := (hs.get (List.getElem?_eq_getElem hi)).2.1 d hd
          rw [Nat.zero_add] at hlt
          exact ih d hlt (by omega)
      rw [h] at hm
      cases hm
theorem count_set (l : Array Bool) (i : Nat) (hi : i < l.size) (h : l.getD i true = false) : (l.setIfInBounds i true).toList.count false + 1 = l.toList.count false := by
  obtain ⟨l⟩ := l
  have hi' : i < l.length := by simpa using hi
  have h' : l[i] = false := by simpa [Array.getD, hi'] using h
  simp only [List.setIfInBounds_toArray]
  have e : l.set i true = l.take i ++ true :: l.drop (i + 1) := List.set_eq_take_append_cons_drop.trans (if_pos hi')
  have e2 : l = l.take i ++ false :: l.drop (i + 1) := by
    rw [← h', List.getElem_cons_drop, List.take_append_drop]
  show (l.set i true).count false + 1 = l.count false
  rw [e]
  conv => rhs; rw [e2]
  rw [List.count_append, List.count_append, List.count_cons, List.count_cons]
  simp
  omega
theorem wpAny_inv {P : Program} {Q : Exit → Act → World → Prop} {ops : List Oper} (J : Array Bool → Act → World → Prop) (hs : StepsJ P Q J 0 ops) (hsz : ∀ l a w, J l a w → l.size = ops.length)
    (hend : ∀ l a w, J l a w → (∀ i, i < ops.length → dn l i = true) → Q .normal a w) : ∀ (fuel : Nat) (l : Array Bool) (a : Act) (w : World), J l a w → l.toList.count false ≤ fuel → wpAny P .any ops.toArray Q fuel l a w := by
  intro fuel
  induction fuel with
  | zero =>
    intro l a w hJ hc
    have hr : Region.ready .any ops.toArray l = [] := by
      rw [List.eq_nil_iff_forall_not_mem]
      intro i hi
      obtain ⟨h1, h2, _⟩ := ready_mem.1 hi
      have := count_set l i (by rw [hsz _ _ _ hJ]; exact h1) h2
      omega
    exact ⟨hr, hend _ _ _ hJ (ready_nil hs (hsz _ _ _ hJ) hr)⟩
  | succ fuel ih =>
    intro l a w hJ hc
    refine ⟨fun hr => hend _ _ _ hJ (ready_nil hs (hsz _ _ _ hJ) hr), fun i hi => ?_⟩
    obtain ⟨h1, h2, o, ho, hd⟩ := ready_mem.1 hi
    have hi' : i < l.size := by rw [hsz _ _ _ hJ]; exact h1
    obtain ⟨hg, _, hst⟩ := hs.get ho
    rw [Nat.zero_add] at hst
    unfold wpOp
    have e : ops.toArray[i]? = some o := by simpa using ho
    rw [e]
    have hw : Region.wanted o (yielded ops.toArray a.tmps) = true := by simp [Region.wanted, hg]
    dsimp only
    rw [if_pos hw]
    refine .inl (hst l a w hJ ?_ hd _ fun a' w' h' => ih _ _ _ h' ?_)
    · unfold dn
      simpa [Array.getD, hi'] using h2
    · have := count_set l i hi' h2
      omega
theorem wp_region_inv {P : Program} {Q : Exit → Act → World → Prop} {id : Nat} {ops : List Oper} {a : Act} {w : World} (J : Array Bool → Act → World → Prop) (hm : P.follows .mixedOrders = true) (hs : StepsJ P Q J 0 ops) (hsz : ∀ l a w, J l a w → l.size = ops.length)
    (hend : ∀ l a w, J l a w → (∀ i, i < ops.length → dn l i = true) → Q .normal a w) (h0 : J (Array.replicate ops.length false) a w.drew) : (Code.region id ops.toArray true).wp P Q a w :=
  wp_region_any hm (wpAny_inv J hs hsz hend _ _ _ _ h0 (by simp))
/-- A frame in which some slots hold something else. -/
def ov (a : Act) (f : Nat → Option Value) : Act := { a with tmps := a.tmps.mapIdx fun i v => (f i).getD v }
theorem ov_size (a : Act) (f : Nat → Option Value) : (ov a f).tmps.size = a.tmps.size := by simp [ov]
theorem ov_at {a : Act} {f : Nat → Option Value} {t : Nat} {v : Value} (ht : t < a.tmps.size) (h : f t = some v) : (ov a f).eval (.tmp t) = v := by
  unfold ov Act.eval
  simp [Array.getD, ht, h]
theorem ov_old {a : Act} {f : Nat → Option Value} {t : Nat} (h : f t = none) : (ov a f).eval (.tmp t) = a.eval (.tmp t) := by
  unfold ov Act.eval
  by_cases ht : t < a.tmps.size
  · simp [Array.getD, ht, h]
  · simp [Array.getD, ht]
def updO (f : Nat → Option Value) (d : Nat) (v : Value) : Nat → Option Value := fun i => if i = d then some v else f i
theorem updO_self (f : Nat → Option Value) (d : Nat) (v : Value) : updO f d v d = some v := if_pos rfl
theorem updO_ne (f : Nat → Option Value) {d i : Nat} (v : Value) (h : i ≠ d) : updO f d v i = f i := if_neg h
theorem ov_put {a : Act} {f : Nat → Option Value} {d : Nat} (v : Value) (hd : d < a.tmps.size) : (ov a f).put (some d) v = ov a (updO f d v) := by
  unfold ov Act.put updO
  simp only [Act.mk.injEq, and_true]
  apply Array.ext_getElem?
  intro i
  by_cases e : i = d
  · subst e
    simp [hd]
  · rw [Array.getElem?_setIfInBounds_ne (fun h => e h.symm)]
    simp [Array.getElem?_mapIdx, e]
theorem ov_none (a : Act) : ov a (fun _ => none) = a := by
  unfold ov
  obtain ⟨t, d⟩ := a
  simp only [Act.mk.injEq, and_true, Option.getD_none]
  apply Array.ext_getElem?
  intro i
  simp [Array.getElem?_mapIdx]
/-- What an element of a new list is. -/
def zC (k : Nat) : Array Value := if k = 7 then #[.bool false] else pcell tp0 k
/-- The struct, in the making. -/
def cellsT (id : Int) (v : Nat → Value) : Array Value := #[.int .u64 id, v 1, v 2, v 3, v 4, v 5, v 6, v 7, v 8, v 9, v 10, v 11, v 12, v 13, v 14, .int .u64 0, .int .u64 0, .int .u64 0, .int .i64 0, .int .i64 0, .slice none 0 0, .int .i64 0, .slice none 0 0]
def updV (v : Nat → Value) (k : Nat) (x : Value) : Nat → Value := fun i => if i = k then x else v i
theorem cellsT_set (id : Int) (v : Nat → Value) (k : Nat) (hk : 1 ≤ k ∧ k ≤ 14) (x : Value) : (cellsT id v).setIfInBounds k x = cellsT id (updV v k x) := by
  have : k = 1 ∨ k = 2 ∨ k = 3 ∨ k = 4 ∨ k = 5 ∨ k = 6 ∨ k = 7 ∨ k = 8 ∨ k = 9 ∨ k = 10 ∨ k = 11 ∨ k = 12 ∨ k = 13 ∨ k = 14 := by omega
  rcases this with rfl | rfl | rfl | rfl | rfl | rfl | rfl | rfl | rfl | rfl | rfl | rfl | rfl | rfl <;> rfl
/-- What a region does: plain values, lists made, lists stored. -/
structure MSpec where
  N : Nat
  n : Nat
  id : Int
  tb : Nat
  a0 : Act
  w0 : World
  v0 : Nat → Value
  pu : List (Nat × Nat)
  pv : Nat → Value
  ml : List (Nat × Nat × Nat)
  st : List (Nat × Nat)
def MSpec.slots (S : MSpec) : List (Nat × Nat) := S.pu ++ S.ml.map (fun x => (x.1, x.2.1))
structure MSpec.Ok (S : MSpec) : Prop where
  sz : ∀ x ∈ S.slots, x.2 < S.a0.tmps.size
  un : ∀ x ∈ S.slots, ∀ y ∈ S.slots, x.2 = y.2 → x.1 = y.1
  ui : ∀ x ∈ S.slots, ∀ y ∈ S.slots, x.1 = y.1 → x.2 = y.2
  px : ∀ x ∈ S.pu, ∀ y ∈ S.ml, x.1 ≠ y.1
  um : ∀ x ∈ S.ml, ∀ y ∈ S.ml, x.2.2 = y.2.2 ∨ x.1 = y.1 → x = y
  us : ∀ x ∈ S.st, ∀ y ∈ S.st, x.2 = y.2 ∨ x.1 = y.1 → x = y
  in1 : ∀ x ∈ S.slots, x.1 < S.N
  in2 : ∀ x ∈ S.st, x.1 < S.N
  df : ∀ x ∈ S.slots, ∀ y ∈ S.st, x.1 ≠ y.1
  fm : ∀ x ∈ S.ml, 3 ≤ x.2.2 ∧ x.2.2 ≤ 14
  fs : ∀ x ∈ S.st, 3 ≤ x.2 ∧ x.2 ≤ 14
structure SJ (S : MSpec) (l : Array Bool) (f : Nat → Option Value) (b : Nat → Nat) (v : Nat → Value) (w : World) : Prop where
  size : l.size = S.N
  old : ∀ i, (∀ x ∈ S.slots, x.2 ≠ i) → f i = none
  pu : ∀ x ∈ S.pu, dn l x.1 = true → f x.2 = some (S.pv x.1)
  ml : ∀ x ∈ S.ml, dn l x.1 = true → f x.2.1 = some (.slice (some ⟨b x.2.2, 0, none⟩) S.n S.n) ∧ RowsB w (b x.2.2) (tyF x.2.2) (szF x.2.2) S.n (fun _ => zC x.2.2) ∧ S.w0.heap.size ≤ b x.2.2
  ne : ∀ x ∈ S.ml, ∀ y ∈ S.ml, x.2.2 ≠ y.2.2 → dn l x.1 = true → dn l y.1 = true → b x.2.2 ≠ b y.2.2
  t : Blk w S.tb (cellsT S.id v) 81
  st : ∀ x ∈ S.st, dn l x.1 = true → v x.2 = .slice (some ⟨b x.2, 0, none⟩) S.n S.n
  sm : ∀ x ∈ S.st, ∀ y ∈ S.ml, x.2 = y.2.2 → dn l x.1 = true → dn l y.1 = true
  vo : ∀ k, (∀ x ∈ S.st, x.2 ≠ k) → v k = S.v0 k
  fr : Fr (fun k => k = S.tb) S.w0 w
  tl : S.tb < S.w0.heap.size
/-- The invariant. -/
def SInv (S : MSpec) (l : Array Bool) (a : Act) (w : World) : Prop := ∃ f b v, a = ov S.a0 f ∧ SJ S l f b v w
theorem dn_old {l : Array Bool} {i j : Nat} (h : j ≠ i) : dn (l.setIfInBounds i true) j = dn l j := by
  unfold dn
  simp only [Array.getD_eq_getD_getElem?]
  rw [Array.getElem?_setIfInBounds_ne (fun e => h e.symm)]
theorem mem_pu {S : MSpec} {x : Nat × Nat} (h : x ∈ S.pu) : x ∈ S.slots := List.mem_append_left _ h
theorem mem_mk {S : MSpec} {x : Nat × Nat × Nat} (h : x ∈ S.ml) : (x.1, x.2.1) ∈ S.slots := List.mem_append_right _ (List.mem_map.2 ⟨_, h, rfl⟩)
theorem SJ.pure {S : MSpec} (ok : S.Ok) {l : Array Bool} {f : Nat → Option Value} {b : Nat → Nat} {v : Nat → Value} {w : World} (h : SJ S l f b v w) {j d : Nat} (hm : (j, d) ∈ S.pu) : SJ S (l.setIfInBounds j true) (updO f d (S.pv j)) b v w := by
  have hs := mem_pu hm
  have mj : ∀ y ∈ S.ml, y.1 ≠ j := fun y hy e => ok.px _ hm y hy e.symm
  have sj : ∀ y ∈ S.st, y.1 ≠ j := fun y hy e => ok.df _ hs y hy e.symm
  have sl : ∀ y ∈ S.slots, y.1 ≠ j → y.2 ≠ d := fun y hy e h => e (ok.un y hy _ hs h)
  refine ⟨by rw [Array.size_setIfInBounds]; exact h.size, fun i hi => ?_, fun y hy hd => ?_, fun y hy hd => ?_, fun x hx y hy hn h1 h2 => ?_, h.t, fun y hy hd => ?_, fun x hx y hy he hd => ?_, h.vo, h.fr, h.tl⟩
  · rw [updO_ne _ _ (fun e => hi _ hs e.symm)]; exact h.old i hi
  · by_cases e : y.1 = j
    · rw [ok.ui y (mem_pu hy) _ hs e, e]; exact updO_self _ _ _
    · rw [updO_ne _ _ (sl y (mem_pu hy) e)]
      rw [dn_old e] at hd
      exact h.pu y hy hd
  · rw [dn_old (mj y hy)] at hd
    rw [updO_ne _ _ (sl _ (mem_mk hy) (mj y hy))]
    exact h.ml y hy hd
  · rw [dn_old (mj x hx)] at h1
    rw [dn_old (mj y hy)] at h2
    exact h.ne x hx y hy hn h1 h2
  · rw [dn_old (sj y hy)] at hd
    exact h.st y hy hd
  · rw [dn_old (sj x hx)] at hd
    rw [dn_old (mj y hy)]
    exact h.sm x hx y hy he hd
theorem SJ.make {S : MSpec} (ok : S.Ok) {l : Array Bool} {f : Nat → Option Value} {b : Nat → Nat} {v : Nat → Value} {w : World} (h : SJ S l f b v w) {j d k : Nat} (hm : (j, d, k) ∈ S.ml) (hd : dn l j = false) {o : Obj} (hR : RowsB (w.alloc o) w.heap.size (tyF k) (szF k) S.n (fun _ => zC k)) :
    SJ S (l.setIfInBounds j true) (updO f d (.slice (some ⟨w.heap.size, 0, none⟩) S.n S.n)) (fun i => if i = k then w.heap.size else b i) v (w.alloc o) := by
  have hs := mem_mk hm
  have pj : ∀ y ∈ S.pu, y.1 ≠ j := fun y hy e => ok.px y hy _ hm e
  have sj : ∀ y ∈ S.st, y.1 ≠ j := fun y hy e => ok.df _ hs y hy e.symm
  have sl : ∀ y ∈ S.slots, y.1 ≠ j → y.2 ≠ d := fun y hy e h => e (ok.un y hy _ hs h)
  have mk' : ∀ y ∈ S.ml, y.1 ≠ j → y.2.2 ≠ k := fun y hy e h => e (by rw [ok.um y hy _ hm (.inl h)])
  have sk : ∀ y ∈ S.st, dn l y.1 = true → y.2 ≠ k := fun y hy e h' => by
    have := h.sm y hy _ hm h' e
    rw [hd] at this
    cases this
  have hfa : Fr (fun k => k = S.tb) w (w.alloc o) := (Fr.refl _ w).alloc o
  have hsz : S.w0.heap.size ≤ w.heap.size := h.fr.size
  have blt : ∀ y ∈ S.ml, dn l y.1 = true → b y.2.2 < w.heap.size := fun y hy hd => (h.ml y hy hd).2.1.lt
  refine ⟨by rw [Array.size_setIfInBounds]; exact h.size, fun i hi => ?_, fun y hy hd' => ?_, fun y hy hd' => ?_, fun x hx y hy hn h1 h2 => ?_, h.t.alloc o, fun y hy hd' => ?_, fun x hx y hy he hd' => ?_, h.vo, h.fr.trans hfa, h.tl⟩
  · rw [updO_ne _ _ (fun e => hi _ hs e.symm)]; exact h.old i hi
  · rw [dn_old (pj y hy)] at hd'
    rw [updO_ne _ _ (sl y (mem_pu hy) (pj y hy))]
    exact h.pu y hy hd'
  · by_cases e : y.1 = j
    · obtain rfl := ok.um y hy _ hm (.inr e)
      dsimp only
      rw [updO_self, if_pos rfl]
      exact ⟨rfl, hR, hsz⟩
    · rw [dn_old e] at hd'
      rw [updO_ne _ _ (sl _ (mem_mk hy) e)]
      rw [if_neg (mk' y hy e)]
      obtain ⟨a1, a2, a3⟩ := h.ml y hy hd'
      exact ⟨a1, a2.alloc o, a3⟩
  · by_cases e : x.1 = j
    · obtain rfl := ok.um x hx _ hm (.inr e)
      have e2 : y.1 ≠ j := fun e2 => hn (by rw [ok.um y hy _ hm (.inr e2)])
      rw [dn_old e2] at h2
      rw [if_pos rfl, if_neg (mk' y hy e2)]
      have := blt y hy h2
      omega
    · rw [dn_old e] at h1
      rw [if_neg (mk' x hx e)]
      by_cases e2 : y.1 = j
      · obtain rfl := ok.um y hy _ hm (.inr e2)
        rw [if_pos rfl]
        have := blt x hx h1
        omega
      · rw [dn_old e2] at h2
        rw [if_neg (mk' y hy e2)]
        exact h.ne x hx y hy hn h1 h2
  · rw [dn_old (sj y hy)] at hd'
    rw [if_neg (sk y hy hd')]
    exact h.st y hy hd'
  · rw [dn_old (sj x hx)] at hd'
    have := h.sm x hx y hy he hd'
    by_cases e : y.1 = j
    · rw [e] at this; rw [hd] at this; cases this
    · rw [dn_old e]; exact this
theorem SJ.store {S : MSpec} (ok : S.Ok) {l : Array Bool} {f : Nat → Option Value} {b : Nat → Nat} {v : Nat → Value} {w : World} (h : SJ S l f b v w) {j k m d : Nat} (hm : (j, k) ∈ S.st) (hmk : (m, d, k) ∈ S.ml) (hd : dn l m = true) :
    SJ S (l.setIfInBounds j true) f b (updV v k (.slice (some ⟨b k, 0, none⟩) S.n S.n)) (w.setCell ⟨S.tb, k, none⟩ (.slice (some ⟨b k, 0, none⟩) S.n S.n)) := by
  have pj : ∀ y ∈ S.slots, y.1 ≠ j := fun y hy e => ok.df y hy _ hm e
  have mj : ∀ y ∈ S.ml, y.1 ≠ j := fun y hy => pj _ (mem_mk hy)
  have hk := ok.fs _ hm
  have hf : Fr (fun k => k = S.tb) w (w.setCell ⟨S.tb, k, none⟩ (.slice (some ⟨b k, 0, none⟩) S.n S.n)) := (Fr.refl (fun k => k = S.tb) w).set (p := ⟨S.tb, k, none⟩) (.inl rfl) _
  refine ⟨by rw [Array.size_setIfInBounds]; exact h.size, h.old, fun y hy hd' => ?_, fun y hy hd' => ?_, fun x hx y hy hn h1 h2 => ?_, ?_, fun y hy hd' => ?_, fun x hx y hy he hd' => ?_, fun i hi => ?_, h.fr.trans hf, h.tl⟩
  · rw [dn_old (pj _ (mem_pu hy))] at hd'
    exact h.pu y hy hd'
  · rw [dn_old (mj y hy)] at hd'
    obtain ⟨a1, a2, a3⟩ := h.ml y hy hd'
    have := h.tl
    exact ⟨a1, a2.fr hf (fun e => by omega), a3⟩
  · rw [dn_old (mj x hx)] at h1
    rw [dn_old (mj y hy)] at h2
    exact h.ne x hx y hy hn h1 h2
  · have := h.t.set k (.slice (some ⟨b k, 0, none⟩) S.n S.n)
    rw [cellsT_set _ _ _ ⟨by omega, hk.2⟩] at this
    exact this
  · by_cases e : y.1 = j
    · obtain rfl := ok.us y hy _ hm (.inr e)
      exact if_pos rfl
    · have e2 : y.2 ≠ k := fun e2 => e (by rw [ok.us y hy _ hm (.inl e2)])
      rw [dn_old e] at hd'
      rw [show updV v k _ y.2 = v y.2 from if_neg e2]
      exact h.st y hy hd'
  · by_cases e : x.1 = j
    · obtain rfl := ok.us x hx _ hm (.inr e)
      have : y = (m, d, k) := ok.um y hy _ hmk (.inl he.symm)
      rw [this, dn_old (mj _ hmk)]
      exact hd
    · rw [dn_old e] at hd'
      rw [dn_old (mj y hy)]
      exact h.sm x hx y hy he hd'
  · rw [show updV v k _ i = v i from if_neg (fun e => hi _ hm e.symm)]
    exact h.vo i hi
/-- One operation. -/
theorem wp_mv {P : Program} {o : Oper} {a : Act} {w : World} {K : Act → World → Prop} {Q : Exit → Act → World → Prop} (x : Operand) (h : o.op = .move x) (hk : K (a.put o.dst (a.eval x)) w) : o.wp P a w K Q := by
  unfold Oper.wp
  rw [show (execOp a.eval o).run P w = .ok (.value (a.eval x)) w from by unfold execOp; simp only [h]; rfl]
  exact hk
theorem wp_nil {P : Program} {o : Oper} {a : Act} {w : World} {K : Act → World → Prop} {Q : Exit → Act → World → Prop} (x : Operand) (p : Addr) (h : o.op = .nilCheck x) (hx : a.eval x = .pointer (some p)) (hk : K (a.put o.dst (.pointer (some p))) w) : o.wp P a w K Q := by
  unfold Oper.wp execOp
  simp only [h, hx]
  exact hk
theorem wp_made {P : Program} {o : Oper} {a : Act} {w w' : World} {K : Act → World → Prop} {Q : Exit → Act → World → Prop} (t : TypeId) (x y : Operand) (v : Value) (h : o.op = .makeSlice t x y) (hr : (Instr.makeSlice t (a.eval x) (a.eval y)).run P w = .ok v w') (hk : K (a.put o.dst v) w') : o.wp P a w K Q := by
  unfold Oper.wp execOp
  simp only [h, Sem.run_bind, hr]
  exact hk
theorem rows_made (W : World) (k n : Nat) (hz : (zC k).size = szF k) (h0 : 0 < szF k) : RowsB (W.alloc (.cells (madeCells (zC k) (n * szF k)) (tyF k))) W.heap.size (tyF k) (szF k) n (fun _ => zC k) := by
  refine ⟨_, Blk.new W _ _, fun i o hi ho => ?_, by rw [size_madeCells]; exact Nat.le_refl _, fun _ _ => hz⟩
  have hlt := row_lt hi ho
  unfold madeCells
  rw [Array.getElem?_map, Array.getElem?_range, if_pos hlt]
  simp only [Option.map_some]
  have e : (i * szF k + o) % (zC k).size = o := by rw [hz, Nat.mul_comm, Nat.mul_add_mod, Nat.mod_eq_of_lt ho]
  rw [e]
  have ho' : o < (zC k).size := by rw [hz]; exact ho
  rw [getElem!_pos (zC k) o ho', Array.getElem?_eq_getElem ho']
set_option maxRecDepth 100000 in
theorem wp_fa {o : Oper} {a : Act} {w : World} {K : Act → World → Prop} {Q : Exit → Act → World → Prop} (x : Operand) (tb k : Nat) (hk : 3 ≤ k ∧ k ≤ 14) (h : o.op = .fieldAddr 81 x k) (hx : a.eval x = .pointer (some ⟨tb, 0, none⟩)) (hk : K (a.put o.dst (.pointer (some ⟨tb, k, none⟩))) w) : o.wp Try.prog a w K Q := by
  have : k = 3 ∨ k = 4 ∨ k = 5 ∨ k = 6 ∨ k = 7 ∨ k = 8 ∨ k = 9 ∨ k = 10 ∨ k = 11 ∨ k = 12 ∨ k = 13 ∨ k = 14 := by omega
  unfold Oper.wp execOp
  simp only [h, hx]
  rcases this with rfl | rfl | rfl | rfl | rfl | rfl | rfl | rfl | rfl | rfl | rfl | rfl
  all_goals
    go_simp
    exact hk
set_option maxRecDepth 100000 in
theorem wp_st {o : Oper} {a : Act} {w : World} {K : Act → World → Prop} {Q : Exit → Act → World → Prop} (t : TypeId) (ht : t = 37 ∨ t = 48 ∨ t = 70) (p x : Operand) (tb k : Nat) (y : Option Addr) (n c : Nat) (h : o.op = .store t p x) (hp : a.eval p = .pointer (some ⟨tb, k, none⟩)) (hx : a.eval x = .slice y n c)
   (hc : (w.cell? ⟨tb, k, none⟩).isSome = true) (hf : w.frozen? ⟨tb, k, none⟩ = false) (hk : K (a.put o.dst undef) (w.setCell ⟨tb, k, none⟩ (.slice y n c))) : o.wp Try.prog a w K Q := by
  unfold Oper.wp execOp
  simp only [h, hp, hx]
  obtain ⟨v, hv⟩ := Option.isSome_iff_exists.1 hc
  rcases ht with rfl | rfl | rfl
  all_goals
    go_simp
    exact hk
theorem run_made (k : Nat) (t : TypeId) (hk : t = 48 ∧ (k = 3 ∨ k = 4 ∨ k = 6 ∨ k = 7) ∨ t = 70 ∧ k = 8 ∨ t = 37 ∧ (9 ≤ k ∧ k ≤ 14)) (n : Nat) (hn : n ≤ 1000000) (W : World) :
    (Instr.makeSlice t (.int .i64 (n : Int)) (.int .i64 (n : Int))).run Try.prog W = .ok (.slice (some ⟨W.heap.size, 0, none⟩) n n) (W.alloc (.cells (madeCells (zC k) (n * szF k)) (tyF k))) := by
  rcases hk with ⟨rfl, hk⟩ | ⟨rfl, rfl⟩ | ⟨rfl, hk⟩
  · obtain ⟨i0, hi0, hz0, hz1, hz2⟩ := info_parts (show (Try.prog.info? 4).map (fun i => (i.zero, i.size, i.bytes)) = some (some (.bool false), 1, 1) by kernel_rfl)
    have := run_make (P := Try.prog) W 48 4 i0 (.bool false) Try.underlying48 hi0 hz0 .i64 .i64 (n : Int) (n : Int) (by omega) (Int.le_refl _) (by rw [hz2]; omega) (by omega)
    rw [hz1] at this
    rcases hk with rfl | rfl | rfl | rfl <;> exact this
  · obtain ⟨i0, hi0, hz0, hz1, hz2⟩ := info_parts (show (Try.prog.info? 27).map (fun i => (i.zero, i.size, i.bytes)) = some (some (.agg #[.int .u64 0, .int .u64 0, .int .u64 0, .int .i64 0]), 4, 32) by kernel_rfl)
    have := run_make (P := Try.prog) W 70 27 i0 _ Try.underlying70 hi0 hz0 .i64 .i64 (n : Int) (n : Int) (by omega) (Int.le_refl _) (by rw [hz2]; omega) (by omega)
    rw [hz1] at this
    exact this
  · obtain ⟨i0, hi0, hz0, hz1, hz2⟩ := info_parts (show (Try.prog.info? 3).map (fun i => (i.zero, i.size, i.bytes)) = some (some (.int .i64 0), 1, 8) by kernel_rfl)
    have := run_make (P := Try.prog) W 37 3 i0 (.int .i64 0) Try.underlying37 hi0 hz0 .i64 .i64 (n : Int) (n : Int) (by omega) (Int.le_refl _) (by rw [hz2]; omega) (by omega)
    rw [hz1] at this
    have hk' : k = 9 ∨ k = 10 ∨ k = 11 ∨ k = 12 ∨ k = 13 ∨ k = 14 := by omega
    rcases hk' with rfl | rfl | rfl | rfl | rfl | rfl <;> exact this
theorem zC_size (k : Nat) (hk : 3 ≤ k ∧ k ≤ 14) : (zC k).size = szF k ∧ 0 < szF k := by
  have : k = 3 ∨ k = 4 ∨ k = 5 ∨ k = 6 ∨ k = 7 ∨ k = 8 ∨ k = 9 ∨ k = 10 ∨ k = 11 ∨ k = 12 ∨ k = 13 ∨ k = 14 := by omega
  rcases this with rfl | rfl | rfl | rfl | rfl | rfl | rfl | rfl | rfl | rfl | rfl | rfl <;> exact ⟨rfl, by decide⟩
/-- The lists of a region, as they must be. -/
structure LOk (N M : Nat) (pu : List (Nat × Nat)) (ml : List (Nat × Nat × Nat)) (st : List (Nat × Nat)) : Prop where
  sz : ∀ x ∈ pu ++ ml.map (fun x => (x.1, x.2.1)), x.2 < M
  un : ∀ x ∈ pu ++ ml.map (fun x => (x.1, x.2.1)), ∀ y ∈ pu ++ ml.map (fun x => (x.1, x.2.1)), x.2 = y.2 → x.1 = y.1
  ui : ∀ x ∈ pu ++ ml.map (fun x => (x.1, x.2.1)), ∀ y ∈ pu ++ ml.map (fun x => (x.1, x.2.1)), x.1 = y.1 → x.2 = y.2
  px : ∀ x ∈ pu, ∀ y ∈ ml, x.1 ≠ y.1
  um : ∀ x ∈ ml, ∀ y ∈ ml, x.2.2 = y.2.2 ∨ x.1 = y.1 → x = y
  us : ∀ x ∈ st, ∀ y ∈ st, x.2 = y.2 ∨ x.1 = y.1 → x = y
  in1 : ∀ x ∈ pu ++ ml.map (fun x => (x.1, x.2.1)), x.1 < N
  in2 : ∀ x ∈ st, x.1 < N
  df : ∀ x ∈ pu ++ ml.map (fun x => (x.1, x.2.1)), ∀ y ∈ st, x.1 ≠ y.1
  fm : ∀ x ∈ ml, 3 ≤ x.2.2 ∧ x.2.2 ≤ 14
  fs : ∀ x ∈ st, 3 ≤ x.2 ∧ x.2 ≤ 14
theorem LOk.ok {S : MSpec} {M : Nat} (h : LOk S.N M S.pu S.ml S.st) (hM : S.a0.tmps.size = M) : S.Ok := ⟨fun x hx => by rw [hM]; exact h.sz x hx, h.un, h.ui, h.px, h.um, h.us, h.in1, h.in2, h.df, h.fm, h.fs⟩
theorem dn_rep (N i : Nat) : dn (Array.replicate N false) i = false := by
  unfold dn
  by_cases h : i < N
  · simp [Array.getD, h]
  · simp [Array.getD, h]
theorem dn_no {N i : Nat} {p : Prop} (h : dn (Array.replicate N false) i = true) : p := by rw [dn_rep] at h; cases h
theorem SJ.init {S : MSpec} (hB : Blk S.w0 S.tb (cellsT S.id S.v0) 81) (hl : S.tb < S.w0.heap.size) : SInv S (Array.replicate S.N false) S.a0 S.w0.drew :=
  ⟨fun _ => none, fun _ => 0, S.v0, (ov_none _).symm, ⟨by simp, fun _ _ => rfl, fun x _ h => dn_no h, fun x _ h => dn_no h, fun x _ y _ _ h _ => dn_no h, hB.fr (Fr.of_below (m := fun _ => False) (Below.refl S.w0.heap.size S.w0).drew) (fun x => x), fun x _ h => dn_no h, fun x _ y _ _ h => dn_no h, fun _ _ => rfl, Fr.of_below (Below.refl S.w0.heap.size S.w0).drew, hl⟩⟩
/-- A frame told by a list. -/
theorem ov_list {a : Act} (L : List (Nat × Value)) (hsz : ∀ x ∈ L, x.1 < a.tmps.size) : ov a (fun i => L.lookup i) = L.foldr (fun x a => a.put (some x.1) x.2) a := by
  induction L with
  | nil => exact ov_none a
  | cons x r ih =>
    have e : (fun i => List.lookup i (x :: r)) = updO (fun i => r.lookup i) x.1 x.2 := by
      funext i
      obtain ⟨d, v⟩ := x
      unfold updO
      dsimp only
      rw [List.lookup_cons]
      by_cases h : i = d
      · subst h; simp
      · rw [if_neg h, show (i == d) = false by simpa using h]
    rw [e, ← ov_put x.2 (hsz x (List.mem_cons_self ..)), ih fun y hy => hsz y (List.mem_cons_of_mem _ hy)]
    rfl
theorem f_list {f : Nat → Option Value} (L : List (Nat × Value)) (h1 : ∀ x ∈ L, f x.1 = some x.2) (h2 : ∀ i, (∀ x ∈ L, x.1 ≠ i) → f i = none) : f = fun i => L.lookup i := by
  funext i
  by_cases h : ∀ x ∈ L, x.1 ≠ i
  · rw [h2 i h]
    clear h1 h2
    induction L with
    | nil => rfl
    | cons x r ih =>
      obtain ⟨d, v⟩ := x
      rw [List.lookup_cons, show (i == d) = false by simpa using (fun e => h (d, v) (List.mem_cons_self ..) e.symm)]
      exact ih fun y hy => h y (List.mem_cons_of_mem _ hy)
  · clear h2
    induction L with
    | nil => exact absurd (fun x hx => by cases hx) h
    | cons x r ih =>
      obtain ⟨d, v⟩ := x
      rw [List.lookup_cons]
      by_cases e : i = d
      · subst e
        rw [show (i == i) = true by simp]
        exact h1 (i, v) (List.mem_cons_self ..)
      · rw [show (i == d) = false by simpa using e]
        refine ih (fun y hy => h1 y (List.mem_cons_of_mem _ hy)) fun h' => h fun y hy => ?_
        rcases List.mem_cons.1 hy with rfl | hy
        · exact fun e2 => e e2.symm
        · exact h' y hy
theorem StepsJ.cons' {P : Program} {Q : Exit → Act → World → Prop} {J : Array Bool → Act → World → Prop} {k : Nat} {o : Oper} {rest : List Oper} (ds : List Nat) (hg : o.guard = none) (hs : ds.all (fun d => (depsO o).contains d) = true) (hb : (depsO o).all (fun d => decide (d < k)) = true)
    (h : ∀ l a w, J l a w → dn l k = false → (∀ d ∈ ds, dn l d = true) → ∀ K : Act → World → Prop, (∀ a w, J (l.setIfInBounds k true) a w → K a w) → o.wp P a w K Q) (hr : StepsJ P Q J (k + 1) rest) : StepsJ P Q J k (o :: rest) :=
  ⟨⟨hg, fun d hd => by have := List.all_eq_true.1 hb d hd; simpa using this, fun l a w hJ hd hds K hK => h l a w hJ hd (fun d hd' => hds d (by have := List.all_eq_true.1 hs d hd'; simpa using this)) K hK⟩, hr⟩
theorem SJ.frame {S : MSpec} (ok : S.Ok) {l : Array Bool} {f : Nat → Option Value} {b : Nat → Nat} {v : Nat → Value} {w : World} (h : SJ S l f b v w) (hall : ∀ x ∈ S.slots, dn l x.1 = true) :
    ov S.a0 f = (S.pu.map (fun x => (x.2, S.pv x.1)) ++ S.ml.map (fun x => (x.2.1, Value.slice (some ⟨b x.2.2, 0, none⟩) S.n S.n))).foldr (fun x a => a.put (some x.1) x.2) S.a0 := by
  have hf := f_list (f := f) (S.pu.map (fun x => (x.2, S.pv x.1)) ++ S.ml.map (fun x => (x.2.1, Value.slice (some ⟨b x.2.2, 0, none⟩) S.n S.n))) (fun x hx => by
    rcases List.mem_append.1 hx with hx | hx
    · obtain ⟨y, hy, rfl⟩ := List.mem_map.1 hx
      exact h.pu y hy (hall y (mem_pu hy))
    · obtain ⟨y, hy, rfl⟩ := List.mem_map.1 hx
      exact (h.ml y hy (hall _ (mem_mk hy))).1) (fun i hi => h.old i fun x hx => by
    rcases List.mem_append.1 hx with hx | hx
    · exact hi _ (List.mem_append_left _ (List.mem_map.2 ⟨x, hx, rfl⟩))
    · obtain ⟨y, hy, rfl⟩ := List.mem_map.1 hx
      exact hi _ (List.mem_append_right _ (List.mem_map.2 ⟨y, hy, rfl⟩)))
  conv => lhs; rw [hf]
  refine ov_list _ fun x hx => ?_
  rcases List.mem_append.1 hx with hx | hx
  · obtain ⟨y, hy, rfl⟩ := List.mem_map.1 hx
    exact ok.sz y (mem_pu hy)
  · obtain ⟨y, hy, rfl⟩ := List.mem_map.1 hx
    exact ok.sz _ (mem_mk hy)
/-- A struct in the making: some of its lists are made. -/
structure MadeW (w0 : World) (id : Int) (tb n : Nat) (F : List Nat) (v0 v : Nat → Value) (b : Nat → Nat) (w : World) : Prop where
  t : Blk w tb (cellsT id v) 81
  m : ∀ k ∈ F, v k = .slice (some ⟨b k, 0, none⟩) n n ∧ RowsB w (b k) (tyF k) (szF k) n (fun _ => zC k) ∧ w0.heap.size ≤ b k
  ne : ∀ j ∈ F, ∀ k ∈ F, j ≠ k → b j ≠ b k
  vo : ∀ k, k ∉ F → v k = v0 k
  fr : Fr (fun k => k = tb) w0 w
  tl : tb < w0.heap.size
theorem MadeW.start {w0 : World} {id : Int} {tb n : Nat} {v0 : Nat → Value} (h : Blk w0 tb (cellsT id v0) 81) (hl : tb < w0.heap.size) : MadeW w0 id tb n [] v0 v0 (fun _ => 0) w0 :=
  ⟨h, fun k hk => absurd hk (List.not_mem_nil), fun k hk => absurd hk (List.not_mem_nil), fun _ _ => rfl, Fr.refl _ _, hl⟩
theorem MadeW.more {w0 w1 w : World} {id : Int} {tb n : Nat} {F : List Nat} {v0 v1 : Nat → Value} {b1 : Nat → Nat} (h : MadeW w0 id tb n F v0 v1 b1 w1) {N : Nat} {a0 : Act} {pu : List (Nat × Nat)} {pv : Nat → Value} {ml : List (Nat × Nat × Nat)} {st : List (Nat × Nat)}
    {l : Array Bool} {f : Nat → Option Value} {b : Nat → Nat} {v : Nat → Value} (hS : SJ ⟨N, n, id, tb, a0, w1, v1, pu, pv, ml, st⟩ l f b v w) (hall : ∀ i, i < N → dn l i = true) (hm : ∀ x ∈ ml, x.1 < N) (hs : ∀ x ∈ st, x.1 < N)
    (F' : List Nat) (h1 : ∀ k ∈ F', ∃ x ∈ ml, x.2.2 = k) (h2 : ∀ k ∈ F', ∃ x ∈ st, x.2 = k) (h3 : ∀ x ∈ st, x.2 ∈ F') (hd : ∀ k ∈ F, k ∉ F') :
    MadeW w0 id tb n (F ++ F') v0 v (fun k => if k ∈ F' then b k else b1 k) w := by
  have hlt : ∀ k ∈ F, b1 k < w1.heap.size := fun k hk => (h.m k hk).2.1.lt
  have hge : ∀ k ∈ F', v k = .slice (some ⟨b k, 0, none⟩) n n ∧ RowsB w (b k) (tyF k) (szF k) n (fun _ => zC k) ∧ w1.heap.size ≤ b k := fun k hk => by
    obtain ⟨x, hx, rfl⟩ := h1 k hk
    obtain ⟨y, hy, e⟩ := h2 _ hk
    have a := hS.ml x hx (hall _ (hm x hx))
    have c := hS.st y hy (hall _ (hs y hy))
    rw [e] at c
    exact ⟨c, a.2⟩
  refine ⟨hS.t, fun k hk => ?_, fun j hj k hk hne => ?_, fun k hk => ?_, h.fr.trans hS.fr, h.tl⟩
  · rcases List.mem_append.1 hk with hk | hk
    · rw [if_neg (hd k hk)]
      obtain ⟨a1, a2, a3⟩ := h.m k hk
      refine ⟨?_, a2.fr hS.fr (fun (e : b1 k = tb) => by have := h.tl; omega), a3⟩
      rw [← a1]
      exact hS.vo k fun x hx e => hd k hk (by rw [← e]; exact h3 x hx)
    · rw [if_pos hk]
      obtain ⟨a1, a2, a3⟩ := hge k hk
      exact ⟨a1, a2, Nat.le_trans h.fr.size a3⟩
  · rcases List.mem_append.1 hj with hj | hj
    · rw [if_neg (hd j hj)]
      rcases List.mem_append.1 hk with hk | hk
      · rw [if_neg (hd k hk)]; exact h.ne j hj k hk hne
      · rw [if_pos hk]
        have := hlt j hj
        have := (hge k hk).2.2
        omega
    · rw [if_pos hj]
      rcases List.mem_append.1 hk with hk | hk
      · rw [if_neg (hd k hk)]
        have := hlt k hk
        have := (hge j hj).2.2
        omega
      · rw [if_pos hk]
        obtain ⟨x, hx, rfl⟩ := h1 j hj
        obtain ⟨y, hy, rfl⟩ := h1 k hk
        exact hS.ne x hx y hy hne (hall _ (hm x hx)) (hall _ (hm y hy))
  · have e1 : k ∉ F := fun e => hk (List.mem_append_left _ e)
    have e2 : k ∉ F' := fun e => hk (List.mem_append_right _ e)
    rw [← h.vo k e1]
    exact hS.vo k fun x hx e => e2 (by rw [← e]; exact h3 x hx)
/-- A row that an element is appended to: the operations' numbers, their slots. -/
structure Ch where
  mo : Nat
  ms : Nat
  rg : Nat
  bo : Nat
  bs : Nat
  ao : Nat
  sl : Nat
  so : Nat
structure ASpec where
  N : Nat
  base : Nat
  k : Nat
  a0 : Act
  w0 : World
  pb : Nat
  pc : Array Value
  pt : TypeId
  pu : List (Nat × Nat)
  pv : Nat → Value
  ch : List Ch
  ty : Ch → TypeId
  el : Ch → Value
  V : Ch → Value
  xs : Ch → List Value
def Ch.sls (c : Ch) : List (Nat × Nat) := [(c.mo, c.ms), (c.bo, c.bs), (c.ao, c.sl), (c.so, c.rg)]
def ASpec.slots (S : ASpec) : List (Nat × Nat) := S.pu ++ S.ch.flatMap Ch.sls
/-- The numbers, as they must be. -/
structure AOk (N M : Nat) (pu : List (Nat × Nat)) (ch : List Ch) : Prop where
  sz : ∀ x ∈ pu ++ ch.flatMap Ch.sls, x.2 < M
  un : ∀ x ∈ pu ++ ch.flatMap Ch.sls, ∀ y ∈ pu ++ ch.flatMap Ch.sls, x.2 = y.2 → x.1 = y.1
  ui : ∀ x ∈ pu ++ ch.flatMap Ch.sls, ∀ y ∈ pu ++ ch.flatMap Ch.sls, x.1 = y.1 → x.2 = y.2
  px : ∀ x ∈ pu, ∀ c ∈ ch, x.1 ≠ c.mo ∧ x.1 ≠ c.bo ∧ x.1 ≠ c.ao ∧ x.1 ≠ c.so
  cc : ∀ c ∈ ch, c.mo ≠ c.bo ∧ c.mo ≠ c.ao ∧ c.mo ≠ c.so ∧ c.bo ≠ c.ao ∧ c.bo ≠ c.so ∧ c.ao ≠ c.so
  cd : ∀ c ∈ ch, ∀ d ∈ ch, c.mo ≠ d.mo → (c.mo ≠ d.bo ∧ c.mo ≠ d.ao ∧ c.mo ≠ d.so ∧ c.bo ≠ d.mo ∧ c.bo ≠ d.bo ∧ c.bo ≠ d.ao ∧ c.bo ≠ d.so ∧ c.ao ≠ d.mo ∧ c.ao ≠ d.bo ∧ c.ao ≠ d.ao ∧ c.ao ≠ d.so ∧ c.so ≠ d.mo ∧ c.so ≠ d.bo ∧ c.so ≠ d.ao ∧ c.so ≠ d.so)
structure AJ (S : ASpec) (l : Array Bool) (f : Nat → Option Value) (v : Nat → Value) (b : Nat → Nat) (w : World) : Prop where
  size : l.size = S.N
  old : ∀ i, (∀ x ∈ S.slots, x.2 ≠ i) → f i = none
  pu : ∀ x ∈ S.pu, dn l x.1 = true → f x.2 = some (S.pv x.1)
  mv : ∀ c ∈ S.ch, dn l c.mo = true → f c.ms = some (S.V c)
  bl : ∀ c ∈ S.ch, dn l c.bo = true → f c.bs = some (.slice (some ⟨b c.bo, 0, none⟩) 1 1)
  bk : ∀ c ∈ S.ch, dn l c.bo = true → dn l c.ao = false → Blk w (b c.bo) #[S.el c] (S.ty c)
  r0 : ∀ c ∈ S.ch, dn l c.ao = false → w.ownsRow S.base (S.ty c) 1 (S.V c) S.k (S.xs c)
  r1 : ∀ c ∈ S.ch, dn l c.ao = true → f c.sl = some (v c.ao) ∧ w.ownsRow S.base (S.ty c) 1 (v c.ao) (S.k + 1) (S.xs c ++ [S.el c])
  sg : ∀ c ∈ S.ch, f c.rg = if dn l c.so = true then some (v c.ao) else none
  so : ∀ c ∈ S.ch, dn l c.so = true → dn l c.mo = true ∧ dn l c.ao = true
  q : Blk w S.pb S.pc S.pt
  fr : Below S.base S.w0 w
  bs : S.base ≤ S.w0.heap.size
structure ASpec.Ok (S : ASpec) : Prop where
  a : ∃ M, AOk S.N M S.pu S.ch ∧ S.a0.tmps.size = M
  nt : ∀ c ∈ S.ch, ∀ d ∈ S.ch, c.mo ≠ d.mo → S.ty c ≠ S.ty d
  np : ∀ c ∈ S.ch, S.ty c ≠ S.pt
  ce : ∀ c ∈ S.ch, ∀ d ∈ S.ch, c.mo = d.mo → c = d
def AInv (S : ASpec) (l : Array Bool) (a : Act) (w : World) : Prop := ∃ f v b, a = ov S.a0 f ∧ AJ S l f v b w
theorem mem_ch {S : ASpec} {c : Ch} (h : c ∈ S.ch) {x : Nat × Nat} (hx : x ∈ c.sls) : x ∈ S.slots := List.mem_append_right _ (List.mem_flatMap.2 ⟨c, h, hx⟩)
theorem mem_apu {S : ASpec} {x : Nat × Nat} (h : x ∈ S.pu) : x ∈ S.slots := List.mem_append_left _ h
section
variable {S : ASpec} {l : Array Bool} {f : Nat → Option Value} {v : Nat → Value} {b : Nat → Nat} {w : World}
theorem sls_mo (c : Ch) : (c.mo, c.ms) ∈ c.sls := by simp [Ch.sls]
theorem sls_bo (c : Ch) : (c.bo, c.bs) ∈ c.sls := by simp [Ch.sls]
theorem sls_ao (c : Ch) : (c.ao, c.sl) ∈ c.sls := by simp [Ch.sls]
theorem sls_so (c : Ch) : (c.so, c.rg) ∈ c.sls := by simp [Ch.sls]
/-- Another slot's value, another operation's. -/
theorem ASpec.Ok.keep (ok : S.Ok) {j d : Nat} (hs : (j, d) ∈ S.slots) {x : Nat × Nat} (hx : x ∈ S.slots) (hne : x.1 ≠ j) (y : Value) : updO f d y x.2 = f x.2 := by
  obtain ⟨M, h, _⟩ := ok.a
  exact updO_ne _ _ fun e => hne (h.un x hx _ hs e)
theorem AJ.pure (ok : S.Ok) (h : AJ S l f v b w) {j d : Nat} (hm : (j, d) ∈ S.pu) : AJ S (l.setIfInBounds j true) (updO f d (S.pv j)) v b w := by
  obtain ⟨M, a, _⟩ := ok.a
  have hs := mem_apu hm
  have cj : ∀ c ∈ S.ch, c.mo ≠ j ∧ c.bo ≠ j ∧ c.ao ≠ j ∧ c.so ≠ j := fun c hc => by
    have := a.px _ hm c hc
    exact ⟨this.1.symm, this.2.1.symm, this.2.2.1.symm, this.2.2.2.symm⟩
  refine ⟨by rw [Array.size_setIfInBounds]; exact h.size, fun i hi => by rw [updO_ne _ _ (fun e => hi _ hs e.symm)]; exact h.old i hi, fun x hx hd => ?_, fun c hc hd => ?_, fun c hc hd => ?_, fun c hc h1 h2 => ?_, fun c hc hd => ?_, fun c hc hd => ?_, fun c hc => ?_, fun c hc hd => ?_, h.q, h.fr, h.bs⟩
  · by_cases e : x.1 = j
    · rw [a.ui x (mem_apu hx) _ hs e, e]; exact updO_self _ _ _
    · rw [ok.keep hs (mem_apu hx) e]
      rw [dn_old e] at hd
      exact h.pu x hx hd
  · rw [dn_old (cj c hc).1] at hd
    rw [ok.keep hs (mem_ch hc (sls_mo c)) (cj c hc).1]
    exact h.mv c hc hd
  · rw [dn_old (cj c hc).2.1] at hd
    rw [ok.keep hs (mem_ch hc (sls_bo c)) (cj c hc).2.1]
    exact h.bl c hc hd
  · rw [dn_old (cj c hc).2.1] at h1
    rw [dn_old (cj c hc).2.2.1] at h2
    exact h.bk c hc h1 h2
  · rw [dn_old (cj c hc).2.2.1] at hd
    exact h.r0 c hc hd
  · rw [dn_old (cj c hc).2.2.1] at hd
    rw [ok.keep hs (mem_ch hc (sls_ao c)) (cj c hc).2.2.1]
    exact h.r1 c hc hd
  · rw [ok.keep hs (mem_ch hc (sls_so c)) (cj c hc).2.2.2, dn_old (cj c hc).2.2.2]
    exact h.sg c hc
  · rw [dn_old (cj c hc).2.2.2] at hd
    rw [dn_old (cj c hc).1, dn_old (cj c hc).2.2.1]
    exact h.so c hc hd
/-- The other rows' numbers are others. -/
theorem ASpec.Ok.other (ok : S.Ok) {c d : Ch} (hc : c ∈ S.ch) (hd : d ∈ S.ch) (h : c ≠ d) : c.mo ≠ d.mo := fun e => h (ok.ce c hc d hd e)
theorem AJ.move (ok : S.Ok) (h : AJ S l f v b w) {c : Ch} (hm : c ∈ S.ch) : AJ S (l.setIfInBounds c.mo true) (updO f c.ms (S.V c)) v b w := by
  obtain ⟨M, a, _⟩ := ok.a
  have hs := mem_ch hm (sls_mo c)
  have pj : ∀ x ∈ S.pu, x.1 ≠ c.mo := fun x hx => (a.px x hx c hm).1
  have cj : ∀ d ∈ S.ch, d.bo ≠ c.mo ∧ d.ao ≠ c.mo ∧ d.so ≠ c.mo := fun d hd => by
    by_cases e : d = c
    · subst e; have := a.cc d hd; exact ⟨this.1.symm, this.2.1.symm, this.2.2.1.symm⟩
    · have := a.cd d hd c hm (ok.other hd hm e); exact ⟨this.2.2.2.1, this.2.2.2.2.2.2.2.1, this.2.2.2.2.2.2.2.2.2.2.2.1⟩
  refine ⟨by rw [Array.size_setIfInBounds]; exact h.size, fun i hi => by rw [updO_ne _ _ (fun e => hi _ hs e.symm)]; exact h.old i hi, fun x hx hd => ?_, fun d hd' hd => ?_, fun d hd' hd => ?_, fun d hd' h1 h2 => ?_, fun d hd' hd => ?_, fun d hd' hd => ?_, fun d hd' => ?_, fun d hd' hd => ?_, h.q, h.fr, h.bs⟩
  · rw [dn_old (pj x hx)] at hd
    rw [ok.keep hs (mem_apu hx) (pj x hx)]
    exact h.pu x hx hd
  · by_cases e : d = c
    · subst e; exact updO_self _ _ _
    · have ne := ok.other hd' hm e
      rw [dn_old ne] at hd
      rw [ok.keep hs (mem_ch hd' (sls_mo d)) ne]
      exact h.mv d hd' hd
  · rw [dn_old (cj d hd').1] at hd
    rw [ok.keep hs (mem_ch hd' (sls_bo d)) (cj d hd').1]
    exact h.bl d hd' hd
  · rw [dn_old (cj d hd').1] at h1
    rw [dn_old (cj d hd').2.1] at h2
    exact h.bk d hd' h1 h2
  · rw [dn_old (cj d hd').2.1] at hd
    exact h.r0 d hd' hd
  · rw [dn_old (cj d hd').2.1] at hd
    rw [ok.keep hs (mem_ch hd' (sls_ao d)) (cj d hd').2.1]
    exact h.r1 d hd' hd
  · rw [ok.keep hs (mem_ch hd' (sls_so d)) (cj d hd').2.2, dn_old (cj d hd').2.2]
    exact h.sg d hd'
  · rw [dn_old (cj d hd').2.2] at hd
    by_cases e : d = c
    · subst e
      have hj : d.mo < l.size := Classical.byContradiction fun g => by
        have := (h.so d hd' hd).1
        unfold dn at this
        rw [Array.getD_eq_getD_getElem?, Array.getElem?_eq_none (by omega)] at this
        cases this
      rw [dn_set hj, if_pos rfl, dn_old (cj d hd').2.1]
      exact ⟨rfl, (h.so d hd' hd).2⟩
    · rw [dn_old (ok.other hd' hm e), dn_old (cj d hd').2.1]
      exact h.so d hd' hd
theorem AJ.build (ok : S.Ok) (h : AJ S l f v b w) {c : Ch} (hm : c ∈ S.ch) : AJ S (l.setIfInBounds c.bo true) (updO f c.bs (.slice (some ⟨w.heap.size, 0, none⟩) 1 1)) v (fun i => if i = c.bo then w.heap.size else b i) (w.alloc (.cells #[S.el c] (S.ty c))) := by
  obtain ⟨M, a, _⟩ := ok.a
  have hs := mem_ch hm (sls_bo c)
  have pj : ∀ x ∈ S.pu, x.1 ≠ c.bo := fun x hx => (a.px x hx c hm).2.1
  have cj : ∀ d ∈ S.ch, d.mo ≠ c.bo ∧ d.ao ≠ c.bo ∧ d.so ≠ c.bo := fun d hd => by
    by_cases e : d = c
    · subst e; have := a.cc d hd; exact ⟨this.1, this.2.2.2.1.symm, this.2.2.2.2.1.symm⟩
    · have := a.cd d hd c hm (ok.other hd hm e); exact ⟨this.1, this.2.2.2.2.2.2.2.2.1, this.2.2.2.2.2.2.2.2.2.2.2.2.1⟩
  have bj : ∀ d ∈ S.ch, d ≠ c → d.bo ≠ c.bo := fun d hd e => (a.cd d hd c hm (ok.other hd hm e)).2.2.2.2.1
  have ha := (Below.refl w.heap.size w).alloc (Nat.le_refl _) (.cells #[S.el c] (S.ty c))
  have hf : Fr (fun _ => False) w (w.alloc (.cells #[S.el c] (S.ty c))) := Fr.of_below ha
  refine ⟨by rw [Array.size_setIfInBounds]; exact h.size, fun i hi => by rw [updO_ne _ _ (fun e => hi _ hs e.symm)]; exact h.old i hi, fun x hx hd => ?_, fun d hd' hd => ?_, fun d hd' hd => ?_, fun d hd' h1 h2 => ?_, fun d hd' hd => ?_, fun d hd' hd => ?_, fun d hd' => ?_, fun d hd' hd => ?_, h.q.fr hf (fun x => x), h.fr.trans (ha.mono (Nat.le_trans h.bs h.fr.size)), h.bs⟩
  · rw [dn_old (pj x hx)] at hd
    rw [ok.keep hs (mem_apu hx) (pj x hx)]
    exact h.pu x hx hd
  · rw [dn_old (cj d hd').1] at hd
    rw [ok.keep hs (mem_ch hd' (sls_mo d)) (cj d hd').1]
    exact h.mv d hd' hd
  · by_cases e : d = c
    · subst e; rw [updO_self, if_pos rfl]
    · rw [dn_old (bj d hd' e)] at hd
      rw [ok.keep hs (mem_ch hd' (sls_bo d)) (bj d hd' e), if_neg (bj d hd' e)]
      exact h.bl d hd' hd
  · rw [dn_old (cj d hd').2.1] at h2
    by_cases e : d = c
    · subst e
      rw [if_pos rfl]
      exact Blk.new w _ _
    · rw [dn_old (bj d hd' e)] at h1
      rw [if_neg (bj d hd' e)]
      exact (h.bk d hd' h1 h2).fr hf (fun x => x)
  · rw [dn_old (cj d hd').2.1] at hd
    exact own_below (h.r0 d hd' hd) ha
  · rw [dn_old (cj d hd').2.1] at hd
    rw [ok.keep hs (mem_ch hd' (sls_ao d)) (cj d hd').2.1]
    exact ⟨(h.r1 d hd' hd).1, own_below (h.r1 d hd' hd).2 ha⟩
  · rw [ok.keep hs (mem_ch hd' (sls_so d)) (cj d hd').2.2, dn_old (cj d hd').2.2]
    exact h.sg d hd'
  · rw [dn_old (cj d hd').2.2] at hd
    rw [dn_old (cj d hd').1, dn_old (cj d hd').2.1]
    exact h.so d hd' hd
theorem AJ.app (ok : S.Ok) (h : AJ S l f v b w) {c : Ch} (hm : c ∈ S.ch) (hd0 : dn l c.ao = false) (hj : c.ao < S.N) {v' : Value} {w' : World} (hown : w'.ownsRow S.base (S.ty c) 1 v' (S.k + 1) (S.xs c ++ [S.el c])) (hfr : Fr (InRow (S.V c)) w w') :
    AJ S (l.setIfInBounds c.ao true) (updO f c.sl v') (fun i => if i = c.ao then v' else v i) b w' := by
  obtain ⟨M, a, _⟩ := ok.a
  have hs := mem_ch hm (sls_ao c)
  have pj : ∀ x ∈ S.pu, x.1 ≠ c.ao := fun x hx => (a.px x hx c hm).2.2.1
  have cj : ∀ d ∈ S.ch, d.mo ≠ c.ao ∧ d.bo ≠ c.ao ∧ d.so ≠ c.ao := fun d hd => by
    by_cases e : d = c
    · subst e; have := a.cc d hd; exact ⟨this.2.1, this.2.2.2.1, this.2.2.2.2.2.symm⟩
    · have := a.cd d hd c hm (ok.other hd hm e); exact ⟨this.2.1, this.2.2.2.2.2.1, this.2.2.2.2.2.2.2.2.2.2.2.2.2.1⟩
  have aj : ∀ d ∈ S.ch, d ≠ c → d.ao ≠ c.ao := fun d hd e => (a.cd d hd c hm (ok.other hd hm e)).2.2.2.2.2.2.2.2.2.1
  have hr := h.r0 c hm hd0
  have tn : ∀ d ∈ S.ch, d ≠ c → S.ty c ≠ S.ty d := fun d hd e => ok.nt c hm d hd (ok.other hm hd (fun x => e x.symm))
  refine ⟨by rw [Array.size_setIfInBounds]; exact h.size, fun i hi => by rw [updO_ne _ _ (fun e => hi _ hs e.symm)]; exact h.old i hi, fun x hx hd => ?_, fun d hd' hd => ?_, fun d hd' hd => ?_, fun d hd' h1 h2 => ?_, fun d hd' hd => ?_, fun d hd' hd => ?_, fun d hd' => ?_, fun d hd' hd => ?_, h.q.fr hfr (own_ne_blk hr h.q (ok.np c hm)), Below.fr h.fr hfr (Nat.le_trans h.bs h.fr.size) fun i _ hi => (own_ge hr hi).1, h.bs⟩
  · rw [dn_old (pj x hx)] at hd
    rw [ok.keep hs (mem_apu hx) (pj x hx)]
    exact h.pu x hx hd
  · rw [dn_old (cj d hd').1] at hd
    rw [ok.keep hs (mem_ch hd' (sls_mo d)) (cj d hd').1]
    exact h.mv d hd' hd
  · rw [dn_old (cj d hd').2.1] at hd
    rw [ok.keep hs (mem_ch hd' (sls_bo d)) (cj d hd').2.1]
    exact h.bl d hd' hd
  · rw [dn_old (cj d hd').2.1] at h1
    by_cases e : d = c
    · subst e
      rw [dn_set (by rw [h.size]; exact hj), if_pos rfl] at h2
      cases h2
    · rw [dn_old (aj d hd' e)] at h2
      have hb := h.bk d hd' h1 h2
      exact hb.fr hfr (own_ne_blk hr hb (tn d hd' e))
  · by_cases e : d = c
    · subst e
      rw [dn_set (by rw [h.size]; exact hj), if_pos rfl] at hd
      cases hd
    · rw [dn_old (aj d hd' e)] at hd
      have h0 := h.r0 d hd' hd
      exact own_fr h0 hfr fun k hk hi => own_ne_own hr h0 (tn d hd' e) hi hk
  · by_cases e : d = c
    · subst e
      rw [updO_self, if_pos rfl]
      exact ⟨rfl, hown⟩
    · rw [dn_old (aj d hd' e)] at hd
      rw [ok.keep hs (mem_ch hd' (sls_ao d)) (aj d hd' e), if_neg (aj d hd' e)]
      have h1 := h.r1 d hd' hd
      exact ⟨h1.1, own_fr h1.2 hfr fun k hk hi => own_ne_own hr h1.2 (tn d hd' e) hi hk⟩
  · rw [ok.keep hs (mem_ch hd' (sls_so d)) (cj d hd').2.2, dn_old (cj d hd').2.2]
    by_cases e : d = c
    · subst e
      rw [if_pos rfl]
      have hg := h.sg d hd'
      by_cases g : dn l d.so = true
      · exact absurd (h.so d hd' g).2 (by rw [hd0]; simp)
      · rw [if_neg g] at hg ⊢; exact hg
    · rw [if_neg (aj d hd' e)]
      exact h.sg d hd'
  · rw [dn_old (cj d hd').2.2] at hd
    rw [dn_old (cj d hd').1]
    obtain ⟨g1, g2⟩ := h.so d hd' hd
    refine ⟨g1, ?_⟩
    by_cases e : d = c
    · subst e; rw [dn_set (by rw [h.size]; exact hj), if_pos rfl]
    · rw [dn_old (aj d hd' e)]; exact g2
theorem AJ.asg (ok : S.Ok) (h : AJ S l f v b w) {c : Ch} (hm : c ∈ S.ch) (hmo : dn l c.mo = true) (hao : dn l c.ao = true) (hj : c.so < S.N) : AJ S (l.setIfInBounds c.so true) (updO f c.rg (v c.ao)) v b w := by
  obtain ⟨M, a, _⟩ := ok.a
  have hs := mem_ch hm (sls_so c)
  have pj : ∀ x ∈ S.pu, x.1 ≠ c.so := fun x hx => (a.px x hx c hm).2.2.2
  have cj : ∀ d ∈ S.ch, d.mo ≠ c.so ∧ d.bo ≠ c.so ∧ d.ao ≠ c.so := fun d hd => by
    by_cases e : d = c
    · subst e; have := a.cc d hd; exact ⟨this.2.2.1, this.2.2.2.2.1, this.2.2.2.2.2⟩
    · have := a.cd d hd c hm (ok.other hd hm e); exact ⟨this.2.2.1, this.2.2.2.2.2.2.1, this.2.2.2.2.2.2.2.2.2.2.1⟩
  have sj : ∀ d ∈ S.ch, d ≠ c → d.so ≠ c.so := fun d hd e => (a.cd d hd c hm (ok.other hd hm e)).2.2.2.2.2.2.2.2.2.2.2.2.2.2
  refine ⟨by rw [Array.size_setIfInBounds]; exact h.size, fun i hi => by rw [updO_ne _ _ (fun e => hi _ hs e.symm)]; exact h.old i hi, fun x hx hd => ?_, fun d hd' hd => ?_, fun d hd' hd => ?_, fun d hd' h1 h2 => ?_, fun d hd' hd => ?_, fun d hd' hd => ?_, fun d hd' => ?_, fun d hd' hd => ?_, h.q, h.fr, h.bs⟩
  · rw [dn_old (pj x hx)] at hd
    rw [ok.keep hs (mem_apu hx) (pj x hx)]
    exact h.pu x hx hd
  · rw [dn_old (cj d hd').1] at hd
    rw [ok.keep hs (mem_ch hd' (sls_mo d)) (cj d hd').1]
    exact h.mv d hd' hd
  · rw [dn_old (cj d hd').2.1] at hd
    rw [ok.keep hs (mem_ch hd' (sls_bo d)) (cj d hd').2.1]
    exact h.bl d hd' hd
  · rw [dn_old (cj d hd').2.1] at h1
    rw [dn_old (cj d hd').2.2] at h2
    exact h.bk d hd' h1 h2
  · rw [dn_old (cj d hd').2.2] at hd
    exact h.r0 d hd' hd
  · rw [dn_old (cj d hd').2.2] at hd
    rw [ok.keep hs (mem_ch hd' (sls_ao d)) (cj d hd').2.2]
    exact h.r1 d hd' hd
  · by_cases e : d = c
    · subst e
      rw [updO_self, dn_set (by rw [h.size]; exact hj), if_pos rfl, if_pos rfl]
    · rw [ok.keep hs (mem_ch hd' (sls_so d)) (sj d hd' e), dn_old (sj d hd' e)]
      exact h.sg d hd'
  · rw [dn_old (cj d hd').1, dn_old (cj d hd').2.2]
    by_cases e : d = c
    · subst e; exact ⟨hmo, hao⟩
    · rw [dn_old (sj d hd' e)] at hd
      exact h.so d hd' hd
theorem AJ.init (hq : Blk S.w0 S.pb S.pc S.pt) (hr : ∀ c ∈ S.ch, S.w0.ownsRow S.base (S.ty c) 1 (S.V c) S.k (S.xs c)) (hb : S.base ≤ S.w0.heap.size) : AInv S (Array.replicate S.N false) S.a0 S.w0.drew := by
  have hd : Below S.w0.heap.size S.w0 S.w0.drew := (Below.refl S.w0.heap.size S.w0).drew
  have hf : Fr (fun _ => False) S.w0 S.w0.drew := Fr.of_below hd
  exact ⟨fun _ => none, fun _ => undef, fun _ => 0, (ov_none _).symm, ⟨by simp, fun _ _ => rfl, fun x _ h => dn_no h, fun c _ h => dn_no h, fun c _ h => dn_no h, fun c _ h _ => dn_no h, fun c hc _ => own_below (hr c hc) hd, fun c _ h => dn_no h, fun c _ => by rw [dn_rep]; rfl, fun c _ h => dn_no h, hq.fr hf (fun x => x), hd.mono hb, hb⟩⟩
theorem AJ.frame (ok : S.Ok) (h : AJ S l f v b w) (hall : ∀ x ∈ S.slots, dn l x.1 = true) :
    ov S.a0 f = (S.pu.map (fun x => (x.2, S.pv x.1)) ++ S.ch.flatMap (fun c => [(c.ms, S.V c), (c.bs, Value.slice (some ⟨b c.bo, 0, none⟩) 1 1), (c.sl, v c.ao), (c.rg, v c.ao)])).foldr (fun x a => a.put (some x.1) x.2) S.a0 := by
  obtain ⟨M, a, hM⟩ := ok.a
  have key : ∀ x ∈ S.pu.map (fun x => (x.2, S.pv x.1)) ++ S.ch.flatMap (fun c => [(c.ms, S.V c), (c.bs, Value.slice (some ⟨b c.bo, 0, none⟩) 1 1), (c.sl, v c.ao), (c.rg, v c.ao)]), f x.1 = some x.2 ∧ x.1 < S.a0.tmps.size := fun x hx => by
    rw [hM]
    rcases List.mem_append.1 hx with hx | hx
    · obtain ⟨y, hy, rfl⟩ := List.mem_map.1 hx
      exact ⟨h.pu y hy (hall y (mem_apu hy)), a.sz y (mem_apu hy)⟩
    · obtain ⟨c, hc, hx⟩ := List.mem_flatMap.1 hx
      have hso := hall _ (mem_ch hc (sls_so c))
      rcases List.mem_cons.1 hx with rfl | hx
      · exact ⟨h.mv c hc (hall _ (mem_ch hc (sls_mo c))), a.sz _ (mem_ch hc (sls_mo c))⟩
      rcases List.mem_cons.1 hx with rfl | hx
      · exact ⟨h.bl c hc (hall _ (mem_ch hc (sls_bo c))), a.sz _ (mem_ch hc (sls_bo c))⟩
      rcases List.mem_cons.1 hx with rfl | hx
      · exact ⟨(h.r1 c hc (hall _ (mem_ch hc (sls_ao c)))).1, a.sz _ (mem_ch hc (sls_ao c))⟩
      rcases List.mem_cons.1 hx with rfl | hx
      · exact ⟨by have := h.sg c hc; rw [if_pos hso] at this; exact this, a.sz _ (mem_ch hc (sls_so c))⟩
      · cases hx
  have hf := f_list (f := f) (S.pu.map (fun x => (x.2, S.pv x.1)) ++ S.ch.flatMap (fun c => [(c.ms, S.V c), (c.bs, Value.slice (some ⟨b c.bo, 0, none⟩) 1 1), (c.sl, v c.ao), (c.rg, v c.ao)])) (fun x hx => (key x hx).1) (fun i hi => h.old i fun x hx => by
    rcases List.mem_append.1 hx with hx | hx
    · exact hi _ (List.mem_append_left _ (List.mem_map.2 ⟨x, hx, rfl⟩))
    · obtain ⟨c, hc, hx⟩ := List.mem_flatMap.1 hx
      have g := fun y hy => hi y (List.mem_append_right _ (List.mem_flatMap.2 ⟨c, hc, hy⟩))
      have g1 := g (c.ms, S.V c) (by simp)
      have g2 := g (c.bs, Value.slice (some ⟨b c.bo, 0, none⟩) 1 1) (by simp)
      have g3 := g (c.sl, v c.ao) (by simp)
      have g4 := g (c.rg, v c.ao) (by simp)
      unfold Ch.sls at hx
      rcases List.mem_cons.1 hx with rfl | hx
      · exact g1
      rcases List.mem_cons.1 hx with rfl | hx
      · exact g2
      rcases List.mem_cons.1 hx with rfl | hx
      · exact g3
      rcases List.mem_cons.1 hx with rfl | hx
      · exact g4
      · cases hx)
  conv => lhs; rw [hf]
  exact ov_list _ fun x hx => (key x hx).2
end
/-- A list of one of the ports' variables. -/
def rowL (f : Nat → TP) (g k : Nat) : List Value := (List.range k).flatMap fun i => (pcell (newP (f i)) g).toList
def NewR (w : World) (vi vc : Value) (U : Tr) (e : Ending) (w' : World) : Prop := ∃ B : RB, e = .returned (.pointer (some ⟨B.tb, 0, none⟩)) ∧ RefW w' B U ∧ Below w.heap.size w w' ∧ ∀ k, ROwn B U.n k → InRow vi k ∨ InRow vc k ∨ w.heap.size ≤ k
theorem infb : (Try.prog.info? 4).map (fun i => (i.zero, i.size, i.bytes)) = some (some (.bool false), 1, 1) := by kernel_rfl
def pu3 : List (Nat × Nat) := [(0, 21), (1, 22), (2, 23), (3, 24), (4, 25), (6, 27), (8, 29), (10, 31), (12, 33), (13, 34), (15, 35), (16, 36), (18, 37), (19, 38), (21, 39), (22, 40)]
def ml3 : List (Nat × Nat × Nat) := [(5, 26, 3), (7, 28, 4), (9, 30, 6), (11, 32, 7)]
def st3 : List (Nat × Nat) := [(14, 3), (17, 4), (20, 6), (23, 7)]
def pv3 (n tb : Nat) : Nat → Value
  | 4 => .int .i64 (n : Int)
  | 6 => .int .i64 (n : Int)
  | 8 => .int .i64 (n : Int)
  | 10 => .int .i64 (n : Int)
  | 13 => .pointer (some ⟨tb, 3, none⟩)
  | 16 => .pointer (some ⟨tb, 4, none⟩)
  | 19 => .pointer (some ⟨tb, 6, none⟩)
  | 22 => .pointer (some ⟨tb, 7, none⟩)
  | _ => .pointer (some ⟨tb, 0, none⟩)
set_option maxRecDepth 20000 in
theorem lok3 : LOk 24 79 pu3 ml3 st3 := ⟨by decide, by decide, by decide, by decide, by decide, by decide, by decide, by decide, by decide, by decide, by decide⟩
theorem out3 : (∀ x ∈ pu3 ++ ml3.map (fun x => (x.1, x.2.1)), x.2 ≠ 9) ∧ ∀ x ∈ pu3 ++ ml3.map (fun x => (x.1, x.2.1)), x.2 ≠ 10 := by decide
def pu4 : List (Nat × Nat) := [(0, 41), (1, 42), (2, 43), (3, 44), (5, 46), (7, 48), (9, 50), (10, 51), (12, 52), (13, 53), (15, 54), (16, 55)]
def ml4 : List (Nat × Nat × Nat) := [(4, 45, 8), (6, 47, 9), (8, 49, 10)]
def st4 : List (Nat × Nat) := [(11, 8), (14, 9), (17, 10)]
def pv4 (n tb : Nat) : Nat → Value
  | 3 => .int .i64 (n : Int)
  | 5 => .int .i64 (n : Int)
  | 7 => .int .i64 (n : Int)
  | 10 => .pointer (some ⟨tb, 8, none⟩)
  | 13 => .pointer (some ⟨tb, 9, none⟩)
  | 16 => .pointer (some ⟨tb, 10, none⟩)
  | _ => .pointer (some ⟨tb, 0, none⟩)
set_option maxRecDepth 20000 in
theorem lok4 : LOk 18 79 pu4 ml4 st4 := ⟨by decide, by decide, by decide, by decide, by decide, by decide, by decide, by decide, by decide, by decide, by decide⟩
theorem out4 : (∀ x ∈ pu4 ++ ml4.map (fun x => (x.1, x.2.1)), x.2 ≠ 9) ∧ ∀ x ∈ pu4 ++ ml4.map (fun x => (x.1, x.2.1)), x.2 ≠ 10 := by decide
def pu5 : List (Nat × Nat) := [(0, 56), (1, 57), (2, 58), (3, 59), (4, 60), (6, 62), (8, 64), (10, 66), (12, 68), (13, 69), (15, 70), (16, 71), (18, 72), (19, 73), (21, 74), (22, 75)]
def ml5 : List (Nat × Nat × Nat) := [(5, 61, 11), (7, 63, 12), (9, 65, 13), (11, 67, 14)]
def st5 : List (Nat × Nat) := [(14, 11), (17, 12), (20, 13), (23, 14)]
def pv5 (n tb : Nat) : Nat → Value
  | 4 => .int .i64 (n : Int)
  | 6 => .int .i64 (n : Int)
  | 8 => .int .i64 (n : Int)
  | 10 => .int .i64 (n : Int)
  | 13 => .pointer (some ⟨tb, 11, none⟩)
  | 16 => .pointer (some ⟨tb, 12, none⟩)
  | 19 => .pointer (some ⟨tb, 13, none⟩)
  | 22 => .pointer (some ⟨tb, 14, none⟩)
  | _ => .pointer (some ⟨tb, 0, none⟩)
set_option maxRecDepth 20000 in
theorem lok5 : LOk 24 79 pu5 ml5 st5 := ⟨by decide, by decide, by decide, by decide, by decide, by decide, by decide, by decide, by decide, by decide, by decide⟩
theorem out5 : (∀ x ∈ pu5 ++ ml5.map (fun x => (x.1, x.2.1)), x.2 ≠ 9) ∧ ∀ x ∈ pu5 ++ ml5.map (fun x => (x.1, x.2.1)), x.2 ≠ 10 := by decide
/-- The struct, all lists made but what is told. -/
theorem refV_of {w0 w : World} {id : Int} {tb n : Nat} {f : Nat → TP} {v0 v : Nat → Value} {b : Nat → Nat} {base base5 : Nat} (M : MadeW w0 id tb n [3, 4, 6, 7, 8, 9, 10, 11, 12, 13, 14] v0 v b w) {ai ac ae : Option Addr} {ci cc ce : Nat}
    (hv1 : v0 1 = .slice ai n ci) (hv2 : v0 2 = .slice ac n cc) (hv5 : v0 5 = .slice ae n ce) (hI : w0.ownsRow base 3 1 (.slice ai n ci) n (rowL f 1 n)) (hC : w0.ownsRow base 25 1 (.slice ac n cc) n (rowL f 2 n)) (hE : w0.ownsRow base5 4 1 (.slice ae n ce) n (rowL f 5 n)) (hbt : base5 ≤ tb)
    (h0 : ∃ cs, Blk w0 tb cs 81) : ∃ B : RB, B.tb = tb ∧ B.ov = .slice none 0 0 ∧ RefV w B (preT id f n) (.slice none 0 0) ∧ ∀ k, inV k → 0 < n → InRow (.slice ai n ci) (B.b k) ∨ InRow (.slice ac n cc) (B.b k) ∨ base5 ≤ B.b k := by
  obtain ⟨cs0, hB0⟩ := h0
  have hn : (preT id f n).n = n := preT_n id f n
  have row : ∀ {e : TypeId} {g : Nat} {a : Option Addr} {c base : Nat}, e ≠ 81 → (∀ i, (pcell (newP (f i)) g).size = 1) → w0.ownsRow base e 1 (.slice a n c) n (rowL f g n) → ∃ x, 0 < n → a = some ⟨x, 0, none⟩ ∧ RowsB w x e 1 n (fun i => pcell (newP (f i)) g) ∧ base ≤ x ∧ x < w0.heap.size ∧ x ≠ tb ∧ InRow (.slice a n c) x := fun {e g a c base} he hs h => by
    by_cases h0 : 0 < n
    · obtain ⟨x, c', hv, h1, h2, h3, h4⟩ := own_at h h0
      simp only [Value.slice.injEq] at hv
      obtain ⟨rfl, _, rfl⟩ := hv
      have hne : x ≠ tb := fun e2 => own_ne_blk h hB0 he (show InRow (.slice (some ⟨x, 0, none⟩) n c) tb from by rw [← e2]; rfl)
      exact ⟨x, fun _ => ⟨rfl, (RowsB.of_own (f := fun i => pcell (newP (f i)) g) hs h).fr M.fr hne, h1, h2, hne, rfl⟩⟩
    · exact ⟨0, fun h => absurd h h0⟩
  obtain ⟨gi, hgi⟩ := row (g := 1) (by decide) (fun _ => rfl) hI
  obtain ⟨gc, hgc⟩ := row (g := 2) (by decide) (fun _ => rfl) hC
  obtain ⟨ge, hge⟩ := row (g := 5) (by decide) (fun _ => rfl) hE
  have tl := M.tl
  have made : ∀ k, inV k → k ≠ 1 → k ≠ 2 → k ≠ 5 → k ∈ [3, 4, 6, 7, 8, 9, 10, 11, 12, 13, 14] := fun k hk a c d => by
    have := hk.1
    have := hk.2
    have : k = 3 ∨ k = 4 ∨ k = 6 ∨ k = 7 ∨ k = 8 ∨ k = 9 ∨ k = 10 ∨ k = 11 ∨ k = 12 ∨ k = 13 ∨ k = 14 := by omega
    simpa using this
  have lo : ∀ k, k = 1 ∨ k = 2 ∨ k = 5 → 0 < n → (if k = 1 then gi else if k = 2 then gc else if k = 5 then ge else b k) < w0.heap.size ∧ (if k = 1 then gi else if k = 2 then gc else if k = 5 then ge else b k) ≠ tb ∧ (InRow (.slice ai n ci) (if k = 1 then gi else if k = 2 then gc else if k = 5 then ge else b k) ∨ InRow (.slice ac n cc) (if k = 1 then gi else if k = 2 then gc else if k = 5 then ge else b k) ∨ base5 ≤ (if k = 1 then gi else if k = 2 then gc else if k = 5 then ge else b k)) := fun k hk h0 => by
    rcases hk with rfl | rfl | rfl
    · exact ⟨(hgi h0).2.2.2.1, (hgi h0).2.2.2.2.1, .inl (hgi h0).2.2.2.2.2⟩
    · exact ⟨(hgc h0).2.2.2.1, (hgc h0).2.2.2.2.1, .inr (.inl (hgc h0).2.2.2.2.2)⟩
    · exact ⟨(hge h0).2.2.2.1, (hge h0).2.2.2.2.1, .inr (.inr (hge h0).2.2.1)⟩
  have hi : ∀ k, inV k → ¬ (k = 1 ∨ k = 2 ∨ k = 5) → (if k = 1 then gi else if k = 2 then gc else if k = 5 then ge else b k) = b k ∧ w0.heap.size ≤ b k ∧ k ∈ [3, 4, 6, 7, 8, 9, 10, 11, 12, 13, 14] := fun k hk h => by
    have h1 : k ≠ 1 := fun e => h (.inl e)
    have h2 : k ≠ 2 := fun e => h (.inr (.inl e))
    have h5 : k ≠ 5 := fun e => h (.inr (.inr e))
    have hm := made k hk h1 h2 h5
    exact ⟨by rw [if_neg h1, if_neg h2, if_neg h5], (M.m k hm).2.2, hm⟩
  have n12 : 0 < n → gi ≠ gc := fun h0 e => own_ne_own hI hC (by decide) (hgi h0).2.2.2.2.2 (by rw [e]; exact (hgc h0).2.2.2.2.2)
  have n15 : 0 < n → gi ≠ ge := fun h0 e => own_ne_own hI hE (by decide) (hgi h0).2.2.2.2.2 (by rw [e]; exact (hge h0).2.2.2.2.2)
  have n25 : 0 < n → gc ≠ ge := fun h0 e => own_ne_own hC hE (by decide) (hgc h0).2.2.2.2.2 (by rw [e]; exact (hge h0).2.2.2.2.2)
  refine ⟨{ tb := tb, b := fun k => if k = 1 then gi else if k = 2 then gc else if k = 5 then ge else b k, a := fun k => if k = 1 then ai else if k = 2 then ac else if k = 5 then ae else some ⟨b k, 0, none⟩, c := fun k => if k = 1 then ci else if k = 2 then cc else if k = 5 then ce else n, ov := .slice none 0 0 }, rfl, rfl, ⟨?_, fun h0 k hk => ?_, fun h0 k hk => ?_, fun h0 j k hj hk hne => ?_, fun h0 k hk => ?_, World.ownsRow_nil _ _ _ _⟩, fun k hk h0 => ?_⟩
  · have e : refCV { tb := tb, b := fun k => if k = 1 then gi else if k = 2 then gc else if k = 5 then ge else b k, a := fun k => if k = 1 then ai else if k = 2 then ac else if k = 5 then ae else some ⟨b k, 0, none⟩, c := fun k => if k = 1 then ci else if k = 2 then cc else if k = 5 then ce else n, ov := .slice none 0 0 } (preT id f n) (.slice none 0 0) = cellsT id v := by
      have g : ∀ k, k ∈ [3, 4, 6, 7, 8, 9, 10, 11, 12, 13, 14] → v k = .slice (some ⟨b k, 0, none⟩) n n := fun k hk => (M.m k hk).1
      unfold refCV cellsT
      rw [hn, g 3 (by decide), g 4 (by decide), g 6 (by decide), g 7 (by decide), g 8 (by decide), g 9 (by decide), g 10 (by decide), g 11 (by decide), g 12 (by decide), g 13 (by decide), g 14 (by decide), M.vo 1 (by decide), M.vo 2 (by decide), M.vo 5 (by decide), hv1, hv2, hv5]
      rfl
    rw [e]
    exact M.t
  · rw [hn] at h0
    dsimp only
    by_cases h : k = 1 ∨ k = 2 ∨ k = 5
    · rcases h with rfl | rfl | rfl
      · exact (hgi h0).1
      · exact (hgc h0).1
      · exact (hge h0).1
    · have h1 : k ≠ 1 := fun e => h (.inl e)
      have h2 : k ≠ 2 := fun e => h (.inr (.inl e))
      have h5 : k ≠ 5 := fun e => h (.inr (.inr e))
      rw [if_neg h1, if_neg h2, if_neg h5, if_neg h1, if_neg h2, if_neg h5]
  · rw [hn] at h0 ⊢
    dsimp only
    by_cases h : k = 1 ∨ k = 2 ∨ k = 5
    · have hat : ∀ i, i < n → (preT id f n).at_ i = newP (f i) := fun i hi => preT_at id f n i hi
      rcases h with rfl | rfl | rfl
      · exact (hgi h0).2.1.congr fun i hi => by show pcell ((preT id f n).at_ i) 1 = _; rw [hat i hi]
      · exact (hgc h0).2.1.congr fun i hi => by show pcell ((preT id f n).at_ i) 2 = _; rw [hat i hi]
      · exact (hge h0).2.1.congr fun i hi => by show pcell ((preT id f n).at_ i) 5 = _; rw [hat i hi]
    · obtain ⟨e1, _, hm⟩ := hi k hk h
      rw [e1]
      refine (M.m k hm).2.1.congr fun i hi => ?_
      by_cases h7 : k = 7
      · subst h7
        show #[Value.bool ((preT id f n).flush.getD i false)] = #[.bool false]
        have : (preT id f n).flush.getD i false = false := by simp [preT, List.getD, hi]
        rw [this]
      · have h17 : k ≠ 17 := by have := hk.2; omega
        unfold cont zC
        rw [if_neg h7, if_neg h17, if_neg h7, preT_at id f n i hi]
        have hk' : k = 3 ∨ k = 4 ∨ k = 6 ∨ k = 8 ∨ k = 9 ∨ k = 10 ∨ k = 11 ∨ k = 12 ∨ k = 13 ∨ k = 14 := by simp at hm; omega
        rcases hk' with rfl | rfl | rfl | rfl | rfl | rfl | rfl | rfl | rfl | rfl <;> rfl
  · rw [hn] at h0
    dsimp only
    by_cases hj' : j = 1 ∨ j = 2 ∨ j = 5
    · by_cases hk' : k = 1 ∨ k = 2 ∨ k = 5
      · rcases hj' with rfl | rfl | rfl <;> rcases hk' with rfl | rfl | rfl
        · exact absurd rfl hne
        · exact n12 h0
        · exact n15 h0
        · exact (n12 h0).symm
        · exact absurd rfl hne
        · exact n25 h0
        · exact (n15 h0).symm
        · exact (n25 h0).symm
        · exact absurd rfl hne
      · obtain ⟨e1, e2, _⟩ := hi k hk hk'
        have := (lo j hj' h0).1
        rw [e1]
        omega
    · obtain ⟨e1, e2, m1⟩ := hi j hj hj'
      by_cases hk' : k = 1 ∨ k = 2 ∨ k = 5
      · have := (lo k hk' h0).1
        rw [e1]
        omega
      · obtain ⟨e3, _, m2⟩ := hi k hk hk'
        rw [e1, e3]
        exact M.ne j m1 k m2 hne
  · rw [hn] at h0
    dsimp only
    by_cases h : k = 1 ∨ k = 2 ∨ k = 5
    · exact (lo k h h0).2.1.symm
    · obtain ⟨e1, e2, _⟩ := hi k hk h
      rw [e1]
      omega
  · dsimp only
    by_cases h : k = 1 ∨ k = 2 ∨ k = 5
    · exact (lo k h h0).2.2
    · obtain ⟨e1, e2, _⟩ := hi k hk h
      rw [e1]
      exact .inr (.inr (by omega))
theorem rowL_len (f : Nat → TP) (k : Nat) : (rowL f 5 k).length = k * 1 := by
  unfold rowL
  rw [flat_len (fun i => (pcell (newP (f i)) 5).toList) 1 (fun i => rfl) k]
theorem rowL_one (f : Nat → TP) (k : Nat) : ∀ u ∈ rowL f 5 k, u.oneCell' = true := fun u hu => by
  obtain ⟨i, _, hi⟩ := List.mem_flatMap.1 hu
  simp [pcell] at hi
  rw [hi]
  rfl
set_option maxRecDepth 20000 in
set_option maxHeartbeats 16000000 in
theorem rnew_calls (id : Int) (f : Nat → TP) (n : Nat) (hn : n ≤ 10) (hok : ∀ i, i < n → 0 ≤ (f i).p.cost ∧ (f i).p.cost ≤ 18446744073709551615) (ai ac ae : Option Addr) (ci cc ce base : Nat) (w : World) (hbs : base ≤ w.heap.size)
    (hI : w.ownsRow base 3 1 (.slice ai n ci) n (rowL f 1 n)) (hC : w.ownsRow base 25 1 (.slice ac n cc) n (rowL f 2 n)) (hE : w.ownsRow base 4 1 (.slice ae n ce) n (rowL f 5 n)) (U : Tr) (hU : newN id f n = U) :
    Calls Try.prog 20 #[.int .u64 id, .slice ai n ci, .slice ac n cc, .slice ae n ce] w (NewR w (.slice ai n ci) (.slice ac n cc) U) := by
  have HU := Lib.hid hU
  have HOK := Lib.hid hok
  have hn6 : n ≤ 1000000 := by omega
  have hb1 := (Below.refl w.heap.size w).alloc (Nat.le_refl _) (.cells #[] 4)
  have HI1 := Lib.hid (own_below hI hb1)
  have HC1 := Lib.hid (own_below hC hb1)
  have HNW : Hid (NewsAt (w.alloc (.cells #[] 4)) ae n (rowL f 5 n)) := Lib.hid fun h0 => by
    obtain ⟨g, c', hv, h1, h2, h3, h4⟩ := own_at (own_below hE hb1) h0
    simp only [Value.slice.injEq] at hv
    obtain ⟨rfl, _, _⟩ := hv
    refine ⟨g, 0, rfl, fun j u hj => ?_⟩
    have hl : j < (rowL f 5 n).length := (List.getElem?_eq_some_iff.1 hj).1
    rw [rowL_len] at hl
    rw [Nat.zero_add, h4 j hl, hj]
  have HEM := Lib.hid (own_empty w w.heap.size (Nat.le_refl _) 4 1)
  have HB1 := Lib.hid hb1
  clear hU hok hI hC hE hb1
  go_enter Try.func20, Try.ntmps20
  go_upto_region 3 with (refine wpList_append_any rfl _ _ 48 rfl w.heap.size 4 _ 1 1 Try.underlying48 infb rfl (by decide) (.slice (some ⟨w.heap.size, 0, none⟩) 0 0) 0 [] rfl HEM.out ae n ce (rowL f 5 n) rfl (rowL_len f n) HNW.out (rowL_one f n) (by unfold maxLen; omega) (by omega) HB1.out.size ?_; intro v5 w5 hown5 hfr5; rw [Nat.zero_add, List.nil_append] at hown5; obtain ⟨a5, c5, rfl⟩ := own_slice hown5)
  have hb5 : Below w.heap.size w w5 := Below.fr HB1.out hfr5 HB1.out.size fun i _ hi => by have := (own_ge HEM.out hi).1; omega
  have hI5 := own_fr HI1.out hfr5 (fun k hk hi => own_ne_own HI1.out HEM.out (by decide) hk hi)
  have hC5 := own_fr HC1.out hfr5 (fun k hk hi => own_ne_own HC1.out HEM.out (by decide) hk hi)
  have ha := (Below.refl w5.heap.size w5).alloc (Nat.le_refl _) (.cells (cellsT id (fun k => if k = 1 then .slice ai n ci else if k = 2 then .slice ac n cc else if k = 5 then .slice a5 n c5 else .slice none 0 0)) 81)
  have hB0 := Blk.new w5 (cellsT id (fun k => if k = 1 then Value.slice ai n ci else if k = 2 then Value.slice ac n cc else if k = 5 then Value.slice a5 n c5 else Value.slice none 0 0)) 81
  have hsz0 : (w5.alloc (.cells (cellsT id (fun k => if k = 1 then .slice ai n ci else if k = 2 then .slice ac n cc else if k = 5 then .slice a5 n c5 else .slice none 0 0)) 81)).heap.size = w5.heap.size + 1 := size_alloc' _ _
  have HI := Lib.hid (own_below hI5 ha)
  have HC := Lib.hid (own_below hC5 ha)
  have HE := Lib.hid (own_below hown5 ha)
  have HB := Lib.hid (hb5.trans (ha.mono hb5.size))
  have HSZ := Lib.hid hb5.size
  change Code.wp _ _ _ _ (w5.alloc (.cells (cellsT id (fun k => if k = 1 then .slice ai n ci else if k = 2 then .slice ac n cc else if k = 5 then .slice a5 n c5 else .slice none 0 0)) 81))
  generalize w5.alloc (.cells (cellsT id (fun k => if k = 1 then .slice ai n ci else if k = 2 then .slice ac n cc else if k = 5 then .slice a5 n c5 else .slice none 0 0)) 81) = W0 at hB0 hsz0 HI HC HE HB ⊢
  generalize htb : w5.heap.size = tb at hB0 hsz0 HSZ ⊢
  have HBT : Hid (w.heap.size ≤ tb) := Lib.hid HSZ.out
  have HTB : Hid (w.heap.size ≤ tb) := Lib.hid HSZ.out
  have hlt : tb < W0.heap.size := by omega
  have HB0 := Lib.hid hB0
  have HM0 := Lib.hid (MadeW.start (n := n) hB0 hlt)
  clear htb hb5 hI5 hC5 ha hown5 hfr5 hB0 hsz0 hlt HI1 HC1 HNW HEM HB1 HSZ
  go_cut [] (fun wx => ∃ v b, MadeW W0 id tb n [3, 4, 6, 7] (fun k => if k = 1 then Value.slice ai n ci else if k = 2 then Value.slice ac n cc else if k = 5 then Value.slice a5 n c5 else Value.slice none 0 0) v b wx)
  case first => as_aux_lemma =>
    have hM := HM0.out
    generalize hA : Act.mk _ _ = A0
    have hsz : A0.tmps.size = 79 := by rw [← hA]; rfl
    have h10 : A0.eval (.tmp 10) = .pointer (some ⟨tb, 0, none⟩) := by rw [← hA]; rfl
    have h9 : A0.eval (.tmp 9) = .int .i64 (n : Int) := by rw [← hA]; rfl
    have HA := Lib.hid hA
    clear hA
    have OK : (MSpec.mk 24 n id tb A0 W0 (fun k => if k = 1 then Value.slice ai n ci else if k = 2 then Value.slice ac n cc else if k = 5 then Value.slice a5 n c5 else Value.slice none 0 0) pu3 (pv3 n tb) ml3 st3).Ok := LOk.ok lok3 hsz
    refine wp_region_inv (SInv ⟨24, n, id, tb, A0, W0, (fun k => if k = 1 then Value.slice ai n ci else if k = 2 then Value.slice ac n cc else if k = 5 then Value.slice a5 n c5 else Value.slice none 0 0), pu3, pv3 n tb, ml3, st3⟩) (by kernel_rfl) ?hs (fun l a w ⟨f, b, v, _, h⟩ => h.size) (fun l a w' hJ hall => ?he) (SJ.init hM.t (Nat.lt_of_lt_of_le hM.tl hM.fr.size))
    case hs =>
      refine StepsJ.cons' [] rfl (by kernel_rfl) (by kernel_rfl) (fun l a w hJ hd hds K hK => ?_) ?_
      · obtain ⟨f, b, v, rfl, h⟩ := hJ
        exact wp_mv (.tmp 10) rfl (hK _ _ ⟨_, b, v, by rw [ov_old (h.old 10 out3.2), h10]; exact ov_put _ (by rw [hsz]; decide), h.pure OK (j := 0) (d := 21) (show (0, 21) ∈ pu3 from by decide)⟩)
      refine StepsJ.cons' [] rfl (by kernel_rfl) (by kernel_rfl) (fun l a w hJ hd hds K hK => ?_) ?_
      · obtain ⟨f, b, v, rfl, h⟩ := hJ
        exact wp_mv (.tmp 10) rfl (hK _ _ ⟨_, b, v, by rw [ov_old (h.old 10 out3.2), h10]; exact ov_put _ (by rw [hsz]; decide), h.pure OK (j := 1) (d := 22) (show (1, 22) ∈ pu3 from by decide)⟩)
      refine StepsJ.cons' [] rfl (by kernel_rfl) (by kernel_rfl) (fun l a w hJ hd hds K hK => ?_) ?_
      · obtain ⟨f, b, v, rfl, h⟩ := hJ
        exact wp_mv (.tmp 10) rfl (hK _ _ ⟨_, b, v, by rw [ov_old (h.old 10 out3.2), h10]; exact ov_put _ (by rw [hsz]; decide), h.pure OK (j := 2) (d := 23) (show (2, 23) ∈ pu3 from by decide)⟩)
      refine StepsJ.cons' [] rfl (by kernel_rfl) (by kernel_rfl) (fun l a w hJ hd hds K hK => ?_) ?_
      · obtain ⟨f, b, v, rfl, h⟩ := hJ
        exact wp_mv (.tmp 10) rfl (hK _ _ ⟨_, b, v, by rw [ov_old (h.old 10 out3.2), h10]; exact ov_put _ (by rw [hsz]; decide), h.pure OK (j := 3) (d := 24) (show (3, 24) ∈ pu3 from by decide)⟩)
      refine StepsJ.cons' [] rfl (by kernel_rfl) (by kernel_rfl) (fun l a w hJ hd hds K hK => ?_) ?_
      · obtain ⟨f, b, v, rfl, h⟩ := hJ
        exact wp_mv (.tmp 9) rfl (hK _ _ ⟨_, b, v, by rw [ov_old (h.old 9 out3.1), h9]; exact ov_put _ (by rw [hsz]; decide), h.pure OK (j := 4) (d := 25) (show (4, 25) ∈ pu3 from by decide)⟩)
      refine StepsJ.cons' [4] rfl (by kernel_rfl) (by kernel_rfl) (fun l a w hJ hd hds K hK => ?_) ?_
      · obtain ⟨f, b, v, rfl, h⟩ := hJ
        have e := ov_at (a := A0) (t := 25) (by rw [hsz]; decide) (h.pu (4, 25) (show (4, 25) ∈ pu3 from by decide) (hds 4 (by decide)))
        exact wp_made 48 (.tmp 25) (.tmp 25) _ rfl (by rw [e]; exact run_made 3 _ (by decide) n hn6 w) (hK _ _ ⟨_, _, v, ov_put _ (by rw [hsz]; decide), h.make OK (j := 5) (d := 26) (k := 3) (show (5, 26, 3) ∈ ml3 from by decide) hd (rows_made w 3 n (zC_size 3 (by decide)).1 (zC_size 3 (by decide)).2)⟩)
      refine StepsJ.cons' [] rfl (by kernel_rfl) (by kernel_rfl) (fun l a w hJ hd hds K hK => ?_) ?_
      · obtain ⟨f, b, v, rfl, h⟩ := hJ
        exact wp_mv (.tmp 9) rfl (hK _ _ ⟨_, b, v, by rw [ov_old (h.old 9 out3.1), h9]; exact ov_put _ (by rw [hsz]; decide), h.pure OK (j := 6) (d := 27) (show (6, 27) ∈ pu3 from by decide)⟩)
      refine StepsJ.cons' [6] rfl (by kernel_rfl) (by kernel_rfl) (fun l a w hJ hd hds K hK => ?_) ?_
      · obtain ⟨f, b, v, rfl, h⟩ := hJ
        have e := ov_at (a := A0) (t := 27) (by rw [hsz]; decide) (h.pu (6, 27) (show (6, 27) ∈ pu3 from by decide) (hds 6 (by decide)))
        exact wp_made 48 (.tmp 27) (.tmp 27) _ rfl (by rw [e]; exact run_made 4 _ (by decide) n hn6 w) (hK _ _ ⟨_, _, v, ov_put _ (by rw [hsz]; decide), h.make OK (j := 7) (d := 28) (k := 4) (show (7, 28, 4) ∈ ml3 from by decide) hd (rows_made w 4 n (zC_size 4 (by decide)).1 (zC_size 4 (by decide)).2)⟩)
      refine StepsJ.cons' [] rfl (by kernel_rfl) (by kernel_rfl) (fun l a w hJ hd hds K hK => ?_) ?_
      · obtain ⟨f, b, v, rfl, h⟩ := hJ
        exact wp_mv (.tmp 9) rfl (hK _ _ ⟨_, b, v, by rw [ov_old (h.old 9 out3.1), h9]; exact ov_put _ (by rw [hsz]; decide), h.pure OK (j := 8) (d := 29) (show (8, 29) ∈ pu3 from by decide)⟩)
      refine StepsJ.cons' [8] rfl (by kernel_rfl) (by kernel_rfl) (fun l a w hJ hd hds K hK => ?_) ?_
      · obtain ⟨f, b, v, rfl, h⟩ := hJ
        have e := ov_at (a := A0) (t := 29) (by rw [hsz]; decide) (h.pu (8, 29) (show (8, 29) ∈ pu3 from by decide) (hds 8 (by decide)))
        exact wp_made 48 (.tmp 29) (.tmp 29) _ rfl (by rw [e]; exact run_made 6 _ (by decide) n hn6 w) (hK _ _ ⟨_, _, v, ov_put _ (by rw [hsz]; decide), h.make OK (j := 9) (d := 30) (k := 6) (show (9, 30, 6) ∈ ml3 from by decide) hd (rows_made w 6 n (zC_size 6 (by decide)).1 (zC_size 6 (by decide)).2)⟩)
      refine StepsJ.cons' [] rfl (by kernel_rfl) (by kernel_rfl) (fun l a w hJ hd hds K hK => ?_) ?_
      · obtain ⟨f, b, v, rfl, h⟩ := hJ
        exact wp_mv (.tmp 9) rfl (hK _ _ ⟨_, b, v, by rw [ov_old (h.old 9 out3.1), h9]; exact ov_put _ (by rw [hsz]; decide), h.pure OK (j := 10) (d := 31) (show (10, 31) ∈ pu3 from by decide)⟩)
      refine StepsJ.cons' [10] rfl (by kernel_rfl) (by kernel_rfl) (fun l a w hJ hd hds K hK => ?_) ?_
      · obtain ⟨f, b, v, rfl, h⟩ := hJ
        have e := ov_at (a := A0) (t := 31) (by rw [hsz]; decide) (h.pu (10, 31) (show (10, 31) ∈ pu3 from by decide) (hds 10 (by decide)))
        exact wp_made 48 (.tmp 31) (.tmp 31) _ rfl (by rw [e]; exact run_made 7 _ (by decide) n hn6 w) (hK _ _ ⟨_, _, v, ov_put _ (by rw [hsz]; decide), h.make OK (j := 11) (d := 32) (k := 7) (show (11, 32, 7) ∈ ml3 from by decide) hd (rows_made w 7 n (zC_size 7 (by decide)).1 (zC_size 7 (by decide)).2)⟩)
      refine StepsJ.cons' [0] rfl (by kernel_rfl) (by kernel_rfl) (fun l a w hJ hd hds K hK => ?_) ?_
      · obtain ⟨f, b, v, rfl, h⟩ := hJ
        have e := ov_at (a := A0) (t := 21) (by rw [hsz]; decide) (h.pu (0, 21) (show (0, 21) ∈ pu3 from by decide) (hds 0 (by decide)))
        exact wp_nil (.tmp 21) ⟨tb, 0, none⟩ rfl e (hK _ _ ⟨_, b, v, ov_put _ (by rw [hsz]; decide), h.pure OK (j := 12) (d := 33) (show (12, 33) ∈ pu3 from by decide)⟩)
      refine StepsJ.cons' [12] rfl (by kernel_rfl) (by kernel_rfl) (fun l a w hJ hd hds K hK => ?_) ?_
      · obtain ⟨f, b, v, rfl, h⟩ := hJ
        have e := ov_at (a := A0) (t := 33) (by rw [hsz]; decide) (h.pu (12, 33) (show (12, 33) ∈ pu3 from by decide) (hds 12 (by decide)))
        exact wp_fa (.tmp 33) tb 3 (by decide) rfl e (hK _ _ ⟨_, b, v, ov_put _ (by rw [hsz]; decide), h.pure OK (j := 13) (d := 34) (show (13, 34) ∈ pu3 from by decide)⟩)
      refine StepsJ.cons' [13, 5] rfl (by kernel_rfl) (by kernel_rfl) (fun l a w hJ hd hds K hK => ?_) ?_
      · obtain ⟨f, b, v, rfl, h⟩ := hJ
        have e1 := ov_at (a := A0) (t := 34) (by rw [hsz]; decide) (h.pu (13, 34) (show (13, 34) ∈ pu3 from by decide) (hds 13 (by decide)))
        have e2 := ov_at (a := A0) (t := 26) (by rw [hsz]; decide) (h.ml (5, 26, 3) (show (5, 26, 3) ∈ ml3 from by decide) (hds 5 (by decide))).1
        exact wp_st 48 (by decide) (.tmp 34) (.tmp 26) tb 3 _ _ _ rfl e1 e2 (by rw [h.t.cell]; rfl) (h.t.free 3) (hK _ _ ⟨f, b, _, rfl, h.store OK (j := 14) (k := 3) (m := 5) (d := 26) (show (14, 3) ∈ st3 from by decide) (show (5, 26, 3) ∈ ml3 from by decide) (hds 5 (by decide))⟩)
      refine StepsJ.cons' [1] rfl (by kernel_rfl) (by kernel_rfl) (fun l a w hJ hd hds K hK => ?_) ?_
      · obtain ⟨f, b, v, rfl, h⟩ := hJ
        have e := ov_at (a := A0) (t := 22) (by rw [hsz]; decide) (h.pu (1, 22) (show (1, 22) ∈ pu3 from by decide) (hds 1 (by decide)))
        exact wp_nil (.tmp 22) ⟨tb, 0, none⟩ rfl e (hK _ _ ⟨_, b, v, ov_put _ (by rw [hsz]; decide), h.pure OK (j := 15) (d := 35) (show (15, 35) ∈ pu3 from by decide)⟩)
      refine StepsJ.cons' [15] rfl (by kernel_rfl) (by kernel_rfl) (fun l a w hJ hd hds K hK => ?_) ?_
      · obtain ⟨f, b, v, rfl, h⟩ := hJ
        have e := ov_at (a := A0) (t := 35) (by rw [hsz]; decide) (h.pu (15, 35) (show (15, 35) ∈ pu3 from by decide) (hds 15 (by decide)))
        exact wp_fa (.tmp 35) tb 4 (by decide) rfl e (hK _ _ ⟨_, b, v, ov_put _ (by rw [hsz]; decide), h.pure OK (j := 16) (d := 36) (show (16, 36) ∈ pu3 from by decide)⟩)
      refine StepsJ.cons' [16, 7] rfl (by kernel_rfl) (by kernel_rfl) (fun l a w hJ hd hds K hK => ?_) ?_
      · obtain ⟨f, b, v, rfl, h⟩ := hJ
        have e1 := ov_at (a := A0) (t := 36) (by rw [hsz]; decide) (h.pu (16, 36) (show (16, 36) ∈ pu3 from by decide) (hds 16 (by decide)))
        have e2 := ov_at (a := A0) (t := 28) (by rw [hsz]; decide) (h.ml (7, 28, 4) (show (7, 28, 4) ∈ ml3 from by decide) (hds 7 (by decide))).1
        exact wp_st 48 (by decide) (.tmp 36) (.tmp 28) tb 4 _ _ _ rfl e1 e2 (by rw [h.t.cell]; rfl) (h.t.free 4) (hK _ _ ⟨f, b, _, rfl, h.store OK (j := 17) (k := 4) (m := 7) (d := 28) (show (17, 4) ∈ st3 from by decide) (show (7, 28, 4) ∈ ml3 from by decide) (hds 7 (by decide))⟩)
      refine StepsJ.cons' [2] rfl (by kernel_rfl) (by kernel_rfl) (fun l a w hJ hd hds K hK => ?_) ?_
      · obtain ⟨f, b, v, rfl, h⟩ := hJ
        have e := ov_at (a := A0) (t := 23) (by rw [hsz]; decide) (h.pu (2, 23) (show (2, 23) ∈ pu3 from by decide) (hds 2 (by decide)))
        exact wp_nil (.tmp 23) ⟨tb, 0, none⟩ rfl e (hK _ _ ⟨_, b, v, ov_put _ (by rw [hsz]; decide), h.pure OK (j := 18) (d := 37) (show (18, 37) ∈ pu3 from by decide)⟩)
      refine StepsJ.cons' [18] rfl (by kernel_rfl) (by kernel_rfl) (fun l a w hJ hd hds K hK => ?_) ?_
      · obtain ⟨f, b, v, rfl, h⟩ := hJ
        have e := ov_at (a := A0) (t := 37) (by rw [hsz]; decide) (h.pu (18, 37) (show (18, 37) ∈ pu3 from by decide) (hds 18 (by decide)))
        exact wp_fa (.tmp 37) tb 6 (by decide) rfl e (hK _ _ ⟨_, b, v, ov_put _ (by rw [hsz]; decide), h.pure OK (j := 19) (d := 38) (show (19, 38) ∈ pu3 from by decide)⟩)
      refine StepsJ.cons' [19, 9] rfl (by kernel_rfl) (by kernel_rfl) (fun l a w hJ hd hds K hK => ?_) ?_
      · obtain ⟨f, b, v, rfl, h⟩ := hJ
        have e1 := ov_at (a := A0) (t := 38) (by rw [hsz]; decide) (h.pu (19, 38) (show (19, 38) ∈ pu3 from by decide) (hds 19 (by decide)))
        have e2 := ov_at (a := A0) (t := 30) (by rw [hsz]; decide) (h.ml (9, 30, 6) (show (9, 30, 6) ∈ ml3 from by decide) (hds 9 (by decide))).1
        exact wp_st 48 (by decide) (.tmp 38) (.tmp 30) tb 6 _ _ _ rfl e1 e2 (by rw [h.t.cell]; rfl) (h.t.free 6) (hK _ _ ⟨f, b, _, rfl, h.store OK (j := 20) (k := 6) (m := 9) (d := 30) (show (20, 6) ∈ st3 from by decide) (show (9, 30, 6) ∈ ml3 from by decide) (hds 9 (by decide))⟩)
      refine StepsJ.cons' [3] rfl (by kernel_rfl) (by kernel_rfl) (fun l a w hJ hd hds K hK => ?_) ?_
      · obtain ⟨f, b, v, rfl, h⟩ := hJ
        have e := ov_at (a := A0) (t := 24) (by rw [hsz]; decide) (h.pu (3, 24) (show (3, 24) ∈ pu3 from by decide) (hds 3 (by decide)))
        exact wp_nil (.tmp 24) ⟨tb, 0, none⟩ rfl e (hK _ _ ⟨_, b, v, ov_put _ (by rw [hsz]; decide), h.pure OK (j := 21) (d := 39) (show (21, 39) ∈ pu3 from by decide)⟩)
      refine StepsJ.cons' [21] rfl (by kernel_rfl) (by kernel_rfl) (fun l a w hJ hd hds K hK => ?_) ?_
      · obtain ⟨f, b, v, rfl, h⟩ := hJ
        have e := ov_at (a := A0) (t := 39) (by rw [hsz]; decide) (h.pu (21, 39) (show (21, 39) ∈ pu3 from by decide) (hds 21 (by decide)))
        exact wp_fa (.tmp 39) tb 7 (by decide) rfl e (hK _ _ ⟨_, b, v, ov_put _ (by rw [hsz]; decide), h.pure OK (j := 22) (d := 40) (show (22, 40) ∈ pu3 from by decide)⟩)
      refine StepsJ.cons' [22, 11] rfl (by kernel_rfl) (by kernel_rfl) (fun l a w hJ hd hds K hK => ?_) ?_
      · obtain ⟨f, b, v, rfl, h⟩ := hJ
        have e1 := ov_at (a := A0) (t := 40) (by rw [hsz]; decide) (h.pu (22, 40) (show (22, 40) ∈ pu3 from by decide) (hds 22 (by decide)))
        have e2 := ov_at (a := A0) (t := 32) (by rw [hsz]; decide) (h.ml (11, 32, 7) (show (11, 32, 7) ∈ ml3 from by decide) (hds 11 (by decide))).1
        exact wp_st 48 (by decide) (.tmp 40) (.tmp 32) tb 7 _ _ _ rfl e1 e2 (by rw [h.t.cell]; rfl) (h.t.free 7) (hK _ _ ⟨f, b, _, rfl, h.store OK (j := 23) (k := 7) (m := 11) (d := 32) (show (23, 7) ∈ st3 from by decide) (show (11, 32, 7) ∈ ml3 from by decide) (hds 11 (by decide))⟩)
      exact StepsJ.nil
    case he =>
      obtain ⟨f', b', v', rfl, h⟩ := hJ
      have hfr := h.frame OK (fun x hx => hall _ (OK.in1 x hx))
      have hM := hM.more h (fun i hi => hall i hi) (by decide) (by decide) [3, 4, 6, 7] (by decide) (by decide) (by decide) (by decide)
      have hfr' : ov A0 f' = List.foldr (fun x a => Act.put a (some x.1) x.2) A0 [(21, Value.pointer (some ⟨tb, 0, none⟩)), (22, Value.pointer (some ⟨tb, 0, none⟩)), (23, Value.pointer (some ⟨tb, 0, none⟩)), (24, Value.pointer (some ⟨tb, 0, none⟩)), (25, Value.int .i64 (n : Int)), (27, Value.int .i64 (n : Int)), (29, Value.int .i64 (n : Int)), (31, Value.int .i64 (n : Int)), (33, Value.pointer (some ⟨tb, 0, none⟩)), (34, Value.pointer (some ⟨tb, 3, none⟩)), (35, Value.pointer (some ⟨tb, 0, none⟩)), (36, Value.pointer (some ⟨tb, 4, none⟩)), (37, Value.pointer (some ⟨tb, 0, none⟩)), (38, Value.pointer (some ⟨tb, 6, none⟩)), (39, Value.pointer (some ⟨tb, 0, none⟩)), (40, Value.pointer (some ⟨tb, 7, none⟩)), (26, Value.slice (some ⟨b' 3, 0, none⟩) n n), (28, Value.slice (some ⟨b' 4, 0, none⟩) n n), (30, Value.slice (some ⟨b' 6, 0, none⟩) n n), (32, Value.slice (some ⟨b' 7, 0, none⟩) n n)] := hfr
      rw [hfr', ← HA.out]
      have HM := Lib.hid hM
      clear hfr hfr' hM h hall h9 h10 hsz OK HA
      simp only [List.foldr, Act.put, List.setIfInBounds_toArray, List.set_cons_zero, List.set_cons_succ]
      go_wp2
      go_meet
      exact ⟨_, _, HM.out⟩
  case rest =>
    obtain ⟨v3, b3, hM3⟩ := hcut
    obtain ⟨W3, hW3⟩ : ∃ x, x = wc := ⟨_, rfl⟩
    subst hW3
    have HM3 := Lib.hid hM3
    clear hM3 HM0
    go_upto_region 4 with (fail)
    go_cut [] (fun wx => ∃ v b, MadeW W0 id tb n [3, 4, 6, 7, 8, 9, 10] (fun k => if k = 1 then Value.slice ai n ci else if k = 2 then Value.slice ac n cc else if k = 5 then Value.slice a5 n c5 else Value.slice none 0 0) v b wx)
    case first => as_aux_lemma =>
      have hM := HM3.out
      generalize hA : Act.mk _ _ = A0
      have hsz : A0.tmps.size = 79 := by rw [← hA]; rfl
      have h10 : A0.eval (.tmp 10) = .pointer (some ⟨tb, 0, none⟩) := by rw [← hA]; rfl
      have h9 : A0.eval (.tmp 9) = .int .i64 (n : Int) := by rw [← hA]; rfl
      have HA := Lib.hid hA
      clear hA
      have OK : (MSpec.mk 18 n id tb A0 W3 v3 pu4 (pv4 n tb) ml4 st4).Ok := LOk.ok lok4 hsz
      refine wp_region_inv (SInv ⟨18, n, id, tb, A0, W3, v3, pu4, pv4 n tb, ml4, st4⟩) (by kernel_rfl) ?hs (fun l a w ⟨f, b, v, _, h⟩ => h.size) (fun l a w' hJ hall => ?he) (SJ.init hM.t (Nat.lt_of_lt_of_le hM.tl hM.fr.size))
      case hs =>
        refine StepsJ.cons' [] rfl (by kernel_rfl) (by kernel_rfl) (fun l a w hJ hd hds K hK => ?_) ?_
        · obtain ⟨f, b, v, rfl, h⟩ := hJ
          exact wp_mv (.tmp 10) rfl (hK _ _ ⟨_, b, v, by rw [ov_old (h.old 10 out4.2), h10]; exact ov_put _ (by rw [hsz]; decide), h.pure OK (j := 0) (d := 41) (show (0, 41) ∈ pu4 from by decide)⟩)
        refine StepsJ.cons' [] rfl (by kernel_rfl) (by kernel_rfl) (fun l a w hJ hd hds K hK => ?_) ?_
        · obtain ⟨f, b, v, rfl, h⟩ := hJ
          exact wp_mv (.tmp 10) rfl (hK _ _ ⟨_, b, v, by rw [ov_old (h.old 10 out4.2), h10]; exact ov_put _ (by rw [hsz]; decide), h.pure OK (j := 1) (d := 42) (show (1, 42) ∈ pu4 from by decide)⟩)
        refine StepsJ.cons' [] rfl (by kernel_rfl) (by kernel_rfl) (fun l a w hJ hd hds K hK => ?_) ?_
        · obtain ⟨f, b, v, rfl, h⟩ := hJ
          exact wp_mv (.tmp 10) rfl (hK _ _ ⟨_, b, v, by rw [ov_old (h.old 10 out4.2), h10]; exact ov_put _ (by rw [hsz]; decide), h.pure OK (j := 2) (d := 43) (show (2, 43) ∈ pu4 from by decide)⟩)
        refine StepsJ.cons' [] rfl (by kernel_rfl) (by kernel_rfl) (fun l a w hJ hd hds K hK => ?_) ?_
        · obtain ⟨f, b, v, rfl, h⟩ := hJ
          exact wp_mv (.tmp 9) rfl (hK _ _ ⟨_, b, v, by rw [ov_old (h.old 9 out4.1), h9]; exact ov_put _ (by rw [hsz]; decide), h.pure OK (j := 3) (d := 44) (show (3, 44) ∈ pu4 from by decide)⟩)
        refine StepsJ.cons' [3] rfl (by kernel_rfl) (by kernel_rfl) (fun l a w hJ hd hds K hK => ?_) ?_
        · obtain ⟨f, b, v, rfl, h⟩ := hJ
          have e := ov_at (a := A0) (t := 44) (by rw [hsz]; decide) (h.pu (3, 44) (show (3, 44) ∈ pu4 from by decide) (hds 3 (by decide)))
          exact wp_made 70 (.tmp 44) (.tmp 44) _ rfl (by rw [e]; exact run_made 8 _ (by decide) n hn6 w) (hK _ _ ⟨_, _, v, ov_put _ (by rw [hsz]; decide), h.make OK (j := 4) (d := 45) (k := 8) (show (4, 45, 8) ∈ ml4 from by decide) hd (rows_made w 8 n (zC_size 8 (by decide)).1 (zC_size 8 (by decide)).2)⟩)
        refine StepsJ.cons' [] rfl (by kernel_rfl) (by kernel_rfl) (fun l a w hJ hd hds K hK => ?_) ?_
        · obtain ⟨f, b, v, rfl, h⟩ := hJ
          exact wp_mv (.tmp 9) rfl (hK _ _ ⟨_, b, v, by rw [ov_old (h.old 9 out4.1), h9]; exact ov_put _ (by rw [hsz]; decide), h.pure OK (j := 5) (d := 46) (show (5, 46) ∈ pu4 from by decide)⟩)
        refine StepsJ.cons' [5] rfl (by kernel_rfl) (by kernel_rfl) (fun l a w hJ hd hds K hK => ?_) ?_
        · obtain ⟨f, b, v, rfl, h⟩ := hJ
          have e := ov_at (a := A0) (t := 46) (by rw [hsz]; decide) (h.pu (5, 46) (show (5, 46) ∈ pu4 from by decide) (hds 5 (by decide)))
          exact wp_made 37 (.tmp 46) (.tmp 46) _ rfl (by rw [e]; exact run_made 9 _ (by decide) n hn6 w) (hK _ _ ⟨_, _, v, ov_put _ (by rw [hsz]; decide), h.make OK (j := 6) (d := 47) (k := 9) (show (6, 47, 9) ∈ ml4 from by decide) hd (rows_made w 9 n (zC_size 9 (by decide)).1 (zC_size 9 (by decide)).2)⟩)
        refine StepsJ.cons' [] rfl (by kernel_rfl) (by kernel_rfl) (fun l a w hJ hd hds K hK => ?_) ?_
        · obtain ⟨f, b, v, rfl, h⟩ := hJ
          exact wp_mv (.tmp 9) rfl (hK _ _ ⟨_, b, v, by rw [ov_old (h.old 9 out4.1), h9]; exact ov_put _ (by rw [hsz]; decide), h.pure OK (j := 7) (d := 48) (show (7, 48) ∈ pu4 from by decide)⟩)
        refine StepsJ.cons' [7] rfl (by kernel_rfl) (by kernel_rfl) (fun l a w hJ hd hds K hK => ?_) ?_
        · obtain ⟨f, b, v, rfl, h⟩ := hJ
          have e := ov_at (a := A0) (t := 48) (by rw [hsz]; decide) (h.pu (7, 48) (show (7, 48) ∈ pu4 from by decide) (hds 7 (by decide)))
          exact wp_made 37 (.tmp 48) (.tmp 48) _ rfl (by rw [e]; exact run_made 10 _ (by decide) n hn6 w) (hK _ _ ⟨_, _, v, ov_put _ (by rw [hsz]; decide), h.make OK (j := 8) (d := 49) (k := 10) (show (8, 49, 10) ∈ ml4 from by decide) hd (rows_made w 10 n (zC_size 10 (by decide)).1 (zC_size 10 (by decide)).2)⟩)
        refine StepsJ.cons' [0] rfl (by kernel_rfl) (by kernel_rfl) (fun l a w hJ hd hds K hK => ?_) ?_
        · obtain ⟨f, b, v, rfl, h⟩ := hJ
          have e := ov_at (a := A0) (t := 41) (by rw [hsz]; decide) (h.pu (0, 41) (show (0, 41) ∈ pu4 from by decide) (hds 0 (by decide)))
          exact wp_nil (.tmp 41) ⟨tb, 0, none⟩ rfl e (hK _ _ ⟨_, b, v, ov_put _ (by rw [hsz]; decide), h.pure OK (j := 9) (d := 50) (show (9, 50) ∈ pu4 from by decide)⟩)
        refine StepsJ.cons' [9] rfl (by kernel_rfl) (by kernel_rfl) (fun l a w hJ hd hds K hK => ?_) ?_
        · obtain ⟨f, b, v, rfl, h⟩ := hJ
          have e := ov_at (a := A0) (t := 50) (by rw [hsz]; decide) (h.pu (9, 50) (show (9, 50) ∈ pu4 from by decide) (hds 9 (by decide)))
          exact wp_fa (.tmp 50) tb 8 (by decide) rfl e (hK _ _ ⟨_, b, v, ov_put _ (by rw [hsz]; decide), h.pure OK (j := 10) (d := 51) (show (10, 51) ∈ pu4 from by decide)⟩)
        refine StepsJ.cons' [10, 4] rfl (by kernel_rfl) (by kernel_rfl) (fun l a w hJ hd hds K hK => ?_) ?_
        · obtain ⟨f, b, v, rfl, h⟩ := hJ
          have e1 := ov_at (a := A0) (t := 51) (by rw [hsz]; decide) (h.pu (10, 51) (show (10, 51) ∈ pu4 from by decide) (hds 10 (by decide)))
          have e2 := ov_at (a := A0) (t := 45) (by rw [hsz]; decide) (h.ml (4, 45, 8) (show (4, 45, 8) ∈ ml4 from by decide) (hds 4 (by decide))).1
          exact wp_st 70 (by decide) (.tmp 51) (.tmp 45) tb 8 _ _ _ rfl e1 e2 (by rw [h.t.cell]; rfl) (h.t.free 8) (hK _ _ ⟨f, b, _, rfl, h.store OK (j := 11) (k := 8) (m := 4) (d := 45) (show (11, 8) ∈ st4 from by decide) (show (4, 45, 8) ∈ ml4 from by decide) (hds 4 (by decide))⟩)
        refine StepsJ.cons' [1] rfl (by kernel_rfl) (by kernel_rfl) (fun l a w hJ hd hds K hK => ?_) ?_
        · obtain ⟨f, b, v, rfl, h⟩ := hJ
          have e := ov_at (a := A0) (t := 42) (by rw [hsz]; decide) (h.pu (1, 42) (show (1, 42) ∈ pu4 from by decide) (hds 1 (by decide)))
          exact wp_nil (.tmp 42) ⟨tb, 0, none⟩ rfl e (hK _ _ ⟨_, b, v, ov_put _ (by rw [hsz]; decide), h.pure OK (j := 12) (d := 52) (show (12, 52) ∈ pu4 from by decide)⟩)
        refine StepsJ.cons' [12] rfl (by kernel_rfl) (by kernel_rfl) (fun l a w hJ hd hds K hK => ?_) ?_
        · obtain ⟨f, b, v, rfl, h⟩ := hJ
          have e := ov_at (a := A0) (t := 52) (by rw [hsz]; decide) (h.pu (12, 52) (show (12, 52) ∈ pu4 from by decide) (hds 12 (by decide)))
          exact wp_fa (.tmp 52) tb 9 (by decide) rfl e (hK _ _ ⟨_, b, v, ov_put _ (by rw [hsz]; decide), h.pure OK (j := 13) (d := 53) (show (13, 53) ∈ pu4 from by decide)⟩)
        refine StepsJ.cons' [13, 6] rfl (by kernel_rfl) (by kernel_rfl) (fun l a w hJ hd hds K hK => ?_) ?_
        · obtain ⟨f, b, v, rfl, h⟩ := hJ
          have e1 := ov_at (a := A0) (t := 53) (by rw [hsz]; decide) (h.pu (13, 53) (show (13, 53) ∈ pu4 from by decide) (hds 13 (by decide)))
          have e2 := ov_at (a := A0) (t := 47) (by rw [hsz]; decide) (h.ml (6, 47, 9) (show (6, 47, 9) ∈ ml4 from by decide) (hds 6 (by decide))).1
          exact wp_st 37 (by decide) (.tmp 53) (.tmp 47) tb 9 _ _ _ rfl e1 e2 (by rw [h.t.cell]; rfl) (h.t.free 9) (hK _ _ ⟨f, b, _, rfl, h.store OK (j := 14) (k := 9) (m := 6) (d := 47) (show (14, 9) ∈ st4 from by decide) (show (6, 47, 9) ∈ ml4 from by decide) (hds 6 (by decide))⟩)
        refine StepsJ.cons' [2] rfl (by kernel_rfl) (by kernel_rfl) (fun l a w hJ hd hds K hK => ?_) ?_
        · obtain ⟨f, b, v, rfl, h⟩ := hJ
          have e := ov_at (a := A0) (t := 43) (by rw [hsz]; decide) (h.pu (2, 43) (show (2, 43) ∈ pu4 from by decide) (hds 2 (by decide)))
          exact wp_nil (.tmp 43) ⟨tb, 0, none⟩ rfl e (hK _ _ ⟨_, b, v, ov_put _ (by rw [hsz]; decide), h.pure OK (j := 15) (d := 54) (show (15, 54) ∈ pu4 from by decide)⟩)
        refine StepsJ.cons' [15] rfl (by kernel_rfl) (by kernel_rfl) (fun l a w hJ hd hds K hK => ?_) ?_
        · obtain ⟨f, b, v, rfl, h⟩ := hJ
          have e := ov_at (a := A0) (t := 54) (by rw [hsz]; decide) (h.pu (15, 54) (show (15, 54) ∈ pu4 from by decide) (hds 15 (by decide)))
          exact wp_fa (.tmp 54) tb 10 (by decide) rfl e (hK _ _ ⟨_, b, v, ov_put _ (by rw [hsz]; decide), h.pure OK (j := 16) (d := 55) (show (16, 55) ∈ pu4 from by decide)⟩)
        refine StepsJ.cons' [16, 8] rfl (by kernel_rfl) (by kernel_rfl) (fun l a w hJ hd hds K hK => ?_) ?_
        · obtain ⟨f, b, v, rfl, h⟩ := hJ
          have e1 := ov_at (a := A0) (t := 55) (by rw [hsz]; decide) (h.pu (16, 55) (show (16, 55) ∈ pu4 from by decide) (hds 16 (by decide)))
          have e2 := ov_at (a := A0) (t := 49) (by rw [hsz]; decide) (h.ml (8, 49, 10) (show (8, 49, 10) ∈ ml4 from by decide) (hds 8 (by decide))).1
          exact wp_st 37 (by decide) (.tmp 55) (.tmp 49) tb 10 _ _ _ rfl e1 e2 (by rw [h.t.cell]; rfl) (h.t.free 10) (hK _ _ ⟨f, b, _, rfl, h.store OK (j := 17) (k := 10) (m := 8) (d := 49) (show (17, 10) ∈ st4 from by decide) (show (8, 49, 10) ∈ ml4 from by decide) (hds 8 (by decide))⟩)
        exact StepsJ.nil
      case he =>
        obtain ⟨f', b', v', rfl, h⟩ := hJ
        have hfr := h.frame OK (fun x hx => hall _ (OK.in1 x hx))
        have hM := hM.more h (fun i hi => hall i hi) (by decide) (by decide) [8, 9, 10] (by decide) (by decide) (by decide) (by decide)
        have hfr' : ov A0 f' = List.foldr (fun x a => Act.put a (some x.1) x.2) A0 [(41, Value.pointer (some ⟨tb, 0, none⟩)), (42, Value.pointer (some ⟨tb, 0, none⟩)), (43, Value.pointer (some ⟨tb, 0, none⟩)), (44, Value.int .i64 (n : Int)), (46, Value.int .i64 (n : Int)), (48, Value.int .i64 (n : Int)), (50, Value.pointer (some ⟨tb, 0, none⟩)), (51, Value.pointer (some ⟨tb, 8, none⟩)), (52, Value.pointer (some ⟨tb, 0, none⟩)), (53, Value.pointer (some ⟨tb, 9, none⟩)), (54, Value.pointer (some ⟨tb, 0, none⟩)), (55, Value.pointer (some ⟨tb, 10, none⟩)), (45, Value.slice (some ⟨b' 8, 0, none⟩) n n), (47, Value.slice (some ⟨b' 9, 0, none⟩) n n), (49, Value.slice (some ⟨b' 10, 0, none⟩) n n)] := hfr
        rw [hfr', ← HA.out]
        have HM := Lib.hid hM
        clear hfr hfr' hM h hall h9 h10 hsz OK HA
        simp only [List.foldr, Act.put, List.setIfInBounds_toArray, List.set_cons_zero, List.set_cons_succ]
        go_wp2
        go_meet
        exact ⟨_, _, HM.out⟩
    case rest =>
      obtain ⟨v4, b4, hM4⟩ := hcut
      obtain ⟨W4, hW4⟩ : ∃ x, x = wc := ⟨_, rfl⟩
      subst hW4
      have HM4 := Lib.hid hM4
      clear hM4 HM3
      go_upto_region 5 with (fail)
      go_cut [] (fun wx => ∃ v b, MadeW W0 id tb n [3, 4, 6, 7, 8, 9, 10, 11, 12, 13, 14] (fun k => if k = 1 then Value.slice ai n ci else if k = 2 then Value.slice ac n cc else if k = 5 then Value.slice a5 n c5 else Value.slice none 0 0) v b wx)
      case first => as_aux_lemma =>
        have hM := HM4.out
        generalize hA : Act.mk _ _ = A0
        have hsz : A0.tmps.size = 79 := by rw [← hA]; rfl
        have h10 : A0.eval (.tmp 10) = .pointer (some ⟨tb, 0, none⟩) := by rw [← hA]; rfl
        have h9 : A0.eval (.tmp 9) = .int .i64 (n : Int) := by rw [← hA]; rfl
        have HA := Lib.hid hA
        clear hA
        have OK : (MSpec.mk 24 n id tb A0 W4 v4 pu5 (pv5 n tb) ml5 st5).Ok := LOk.ok lok5 hsz
        refine wp_region_inv (SInv ⟨24, n, id, tb, A0, W4, v4, pu5, pv5 n tb, ml5, st5⟩) (by kernel_rfl) ?hs (fun l a w ⟨f, b, v, _, h⟩ => h.size) (fun l a w' hJ hall => ?he) (SJ.init hM.t (Nat.lt_of_lt_of_le hM.tl hM.fr.size))
        case hs =>
          refine StepsJ.cons' [] rfl (by kernel_rfl) (by kernel_rfl) (fun l a w hJ hd hds K hK => ?_) ?_
          · obtain ⟨f, b, v, rfl, h⟩ := hJ
            exact wp_mv (.tmp 10) rfl (hK _ _ ⟨_, b, v, by rw [ov_old (h.old 10 out5.2), h10]; exact ov_put _ (by rw [hsz]; decide), h.pure OK (j := 0) (d := 56) (show (0, 56) ∈ pu5 from by decide)⟩)
          refine StepsJ.cons' [] rfl (by kernel_rfl) (by kernel_rfl) (fun l a w hJ hd hds K hK => ?_) ?_
          · obtain ⟨f, b, v, rfl, h⟩ := hJ
            exact wp_mv (.tmp 10) rfl (hK _ _ ⟨_, b, v, by rw [ov_old (h.old 10 out5.2), h10]; exact ov_put _ (by rw [hsz]; decide), h.pure OK (j := 1) (d := 57) (show (1, 57) ∈ pu5 from by decide)⟩)
          refine StepsJ.cons' [] rfl (by kernel_rfl) (by kernel_rfl) (fun l a w hJ hd hds K hK => ?_) ?_
          · obtain ⟨f, b, v, rfl, h⟩ := hJ
            exact wp_mv (.tmp 10) rfl (hK _ _ ⟨_, b, v, by rw [ov_old (h.old 10 out5.2), h10]; exact ov_put _ (by rw [hsz]; decide), h.pure OK (j := 2) (d := 58) (show (2, 58) ∈ pu5 from by decide)⟩)
          refine StepsJ.cons' [] rfl (by kernel_rfl) (by kernel_rfl) (fun l a w hJ hd hds K hK => ?_) ?_
          · obtain ⟨f, b, v, rfl, h⟩ := hJ
            exact wp_mv (.tmp 10) rfl (hK _ _ ⟨_, b, v, by rw [ov_old (h.old 10 out5.2), h10]; exact ov_put _ (by rw [hsz]; decide), h.pure OK (j := 3) (d := 59) (show (3, 59) ∈ pu5 from by decide)⟩)
          refine StepsJ.cons' [] rfl (by kernel_rfl) (by kernel_rfl) (fun l a w hJ hd hds K hK => ?_) ?_
          · obtain ⟨f, b, v, rfl, h⟩ := hJ
            exact wp_mv (.tmp 9) rfl (hK _ _ ⟨_, b, v, by rw [ov_old (h.old 9 out5.1), h9]; exact ov_put _ (by rw [hsz]; decide), h.pure OK (j := 4) (d := 60) (show (4, 60) ∈ pu5 from by decide)⟩)
          refine StepsJ.cons' [4] rfl (by kernel_rfl) (by kernel_rfl) (fun l a w hJ hd hds K hK => ?_) ?_
          · obtain ⟨f, b, v, rfl, h⟩ := hJ
            have e := ov_at (a := A0) (t := 60) (by rw [hsz]; decide) (h.pu (4, 60) (show (4, 60) ∈ pu5 from by decide) (hds 4 (by decide)))
            exact wp_made 37 (.tmp 60) (.tmp 60) _ rfl (by rw [e]; exact run_made 11 _ (by decide) n hn6 w) (hK _ _ ⟨_, _, v, ov_put _ (by rw [hsz]; decide), h.make OK (j := 5) (d := 61) (k := 11) (show (5, 61, 11) ∈ ml5 from by decide) hd (rows_made w 11 n (zC_size 11 (by decide)).1 (zC_size 11 (by decide)).2)⟩)
          refine StepsJ.cons' [] rfl (by kernel_rfl) (by kernel_rfl) (fun l a w hJ hd hds K hK => ?_) ?_
          · obtain ⟨f, b, v, rfl, h⟩ := hJ
            exact wp_mv (.tmp 9) rfl (hK _ _ ⟨_, b, v, by rw [ov_old (h.old 9 out5.1), h9]; exact ov_put _ (by rw [hsz]; decide), h.pure OK (j := 6) (d := 62) (show (6, 62) ∈ pu5 from by decide)⟩)
          refine StepsJ.cons' [6] rfl (by kernel_rfl) (by kernel_rfl) (fun l a w hJ hd hds K hK => ?_) ?_
          · obtain ⟨f, b, v, rfl, h⟩ := hJ
            have e := ov_at (a := A0) (t := 62) (by rw [hsz]; decide) (h.pu (6, 62) (show (6, 62) ∈ pu5 from by decide) (hds 6 (by decide)))
            exact wp_made 37 (.tmp 62) (.tmp 62) _ rfl (by rw [e]; exact run_made 12 _ (by decide) n hn6 w) (hK _ _ ⟨_, _, v, ov_put _ (by rw [hsz]; decide), h.make OK (j := 7) (d := 63) (k := 12) (show (7, 63, 12) ∈ ml5 from by decide) hd (rows_made w 12 n (zC_size 12 (by decide)).1 (zC_size 12 (by decide)).2)⟩)
          refine StepsJ.cons' [] rfl (by kernel_rfl) (by kernel_rfl) (fun l a w hJ hd hds K hK => ?_) ?_
          · obtain ⟨f, b, v, rfl, h⟩ := hJ
            exact wp_mv (.tmp 9) rfl (hK _ _ ⟨_, b, v, by rw [ov_old (h.old 9 out5.1), h9]; exact ov_put _ (by rw [hsz]; decide), h.pure OK (j := 8) (d := 64) (show (8, 64) ∈ pu5 from by decide)⟩)
          refine StepsJ.cons' [8] rfl (by kernel_rfl) (by kernel_rfl) (fun l a w hJ hd hds K hK => ?_) ?_
          · obtain ⟨f, b, v, rfl, h⟩ := hJ
            have e := ov_at (a := A0) (t := 64) (by rw [hsz]; decide) (h.pu (8, 64) (show (8, 64) ∈ pu5 from by decide) (hds 8 (by decide)))
            exact wp_made 37 (.tmp 64) (.tmp 64) _ rfl (by rw [e]; exact run_made 13 _ (by decide) n hn6 w) (hK _ _ ⟨_, _, v, ov_put _ (by rw [hsz]; decide), h.make OK (j := 9) (d := 65) (k := 13) (show (9, 65, 13) ∈ ml5 from by decide) hd (rows_made w 13 n (zC_size 13 (by decide)).1 (zC_size 13 (by decide)).2)⟩)
          refine StepsJ.cons' [] rfl (by kernel_rfl) (by kernel_rfl) (fun l a w hJ hd hds K hK => ?_) ?_
          · obtain ⟨f, b, v, rfl, h⟩ := hJ
            exact wp_mv (.tmp 9) rfl (hK _ _ ⟨_, b, v, by rw [ov_old (h.old 9 out5.1), h9]; exact ov_put _ (by rw [hsz]; decide), h.pure OK (j := 10) (d := 66) (show (10, 66) ∈ pu5 from by decide)⟩)
          refine StepsJ.cons' [10] rfl (by kernel_rfl) (by kernel_rfl) (fun l a w hJ hd hds K hK => ?_) ?_
          · obtain ⟨f, b, v, rfl, h⟩ := hJ
            have e := ov_at (a := A0) (t := 66) (by rw [hsz]; decide) (h.pu (10, 66) (show (10, 66) ∈ pu5 from by decide) (hds 10 (by decide)))
            exact wp_made 37 (.tmp 66) (.tmp 66) _ rfl (by rw [e]; exact run_made 14 _ (by decide) n hn6 w) (hK _ _ ⟨_, _, v, ov_put _ (by rw [hsz]; decide), h.make OK (j := 11) (d := 67) (k := 14) (show (11, 67, 14) ∈ ml5 from by decide) hd (rows_made w 14 n (zC_size 14 (by decide)).1 (zC_size 14 (by decide)).2)⟩)
          refine StepsJ.cons' [0] rfl (by kernel_rfl) (by kernel_rfl) (fun l a w hJ hd hds K hK => ?_) ?_
          · obtain ⟨f, b, v, rfl, h⟩ := hJ
            have e := ov_at (a := A0) (t := 56) (by rw [hsz]; decide) (h.pu (0, 56) (show (0, 56) ∈ pu5 from by decide) (hds 0 (by decide)))
            exact wp_nil (.tmp 56) ⟨tb, 0, none⟩ rfl e (hK _ _ ⟨_, b, v, ov_put _ (by rw [hsz]; decide), h.pure OK (j := 12) (d := 68) (show (12, 68) ∈ pu5 from by decide)⟩)
          refine StepsJ.cons' [12] rfl (by kernel_rfl) (by kernel_rfl) (fun l a w hJ hd hds K hK => ?_) ?_
          · obtain ⟨f, b, v, rfl, h⟩ := hJ
            have e := ov_at (a := A0) (t := 68) (by rw [hsz]; decide) (h.pu (12, 68) (show (12, 68) ∈ pu5 from by decide) (hds 12 (by decide)))
            exact wp_fa (.tmp 68) tb 11 (by decide) rfl e (hK _ _ ⟨_, b, v, ov_put _ (by rw [hsz]; decide), h.pure OK (j := 13) (d := 69) (show (13, 69) ∈ pu5 from by decide)⟩)
          refine StepsJ.cons' [13, 5] rfl (by kernel_rfl) (by kernel_rfl) (fun l a w hJ hd hds K hK => ?_) ?_
          · obtain ⟨f, b, v, rfl, h⟩ := hJ
            have e1 := ov_at (a := A0) (t := 69) (by rw [hsz]; decide) (h.pu (13, 69) (show (13, 69) ∈ pu5 from by decide) (hds 13 (by decide)))
            have e2 := ov_at (a := A0) (t := 61) (by rw [hsz]; decide) (h.ml (5, 61, 11) (show (5, 61, 11) ∈ ml5 from by decide) (hds 5 (by decide))).1
            exact wp_st 37 (by decide) (.tmp 69) (.tmp 61) tb 11 _ _ _ rfl e1 e2 (by rw [h.t.cell]; rfl) (h.t.free 11) (hK _ _ ⟨f, b, _, rfl, h.store OK (j := 14) (k := 11) (m := 5) (d := 61) (show (14, 11) ∈ st5 from by decide) (show (5, 61, 11) ∈ ml5 from by decide) (hds 5 (by decide))⟩)
          refine StepsJ.cons' [1] rfl (by kernel_rfl) (by kernel_rfl) (fun l a w hJ hd hds K hK => ?_) ?_
          · obtain ⟨f, b, v, rfl, h⟩ := hJ
            have e := ov_at (a := A0) (t := 57) (by rw [hsz]; decide) (h.pu (1, 57) (show (1, 57) ∈ pu5 from by decide) (hds 1 (by decide)))
            exact wp_nil (.tmp 57) ⟨tb, 0, none⟩ rfl e (hK _ _ ⟨_, b, v, ov_put _ (by rw [hsz]; decide), h.pure OK (j := 15) (d := 70) (show (15, 70) ∈ pu5 from by decide)⟩)
          refine StepsJ.cons' [15] rfl (by kernel_rfl) (by kernel_rfl) (fun l a w hJ hd hds K hK => ?_) ?_
          · obtain ⟨f, b, v, rfl, h⟩ := hJ
            have e := ov_at (a := A0) (t := 70) (by rw [hsz]; decide) (h.pu (15, 70) (show (15, 70) ∈ pu5 from by decide) (hds 15 (by decide)))
            exact wp_fa (.tmp 70) tb 12 (by decide) rfl e (hK _ _ ⟨_, b, v, ov_put _ (by rw [hsz]; decide), h.pure OK (j := 16) (d := 71) (show (16, 71) ∈ pu5 from by decide)⟩)
          refine StepsJ.cons' [16, 7] rfl (by kernel_rfl) (by kernel_rfl) (fun l a w hJ hd hds K hK => ?_) ?_
          · obtain ⟨f, b, v, rfl, h⟩ := hJ
            have e1 := ov_at (a := A0) (t := 71) (by rw [hsz]; decide) (h.pu (16, 71) (show (16, 71) ∈ pu5 from by decide) (hds 16 (by decide)))
            have e2 := ov_at (a := A0) (t := 63) (by rw [hsz]; decide) (h.ml (7, 63, 12) (show (7, 63, 12) ∈ ml5 from by decide) (hds 7 (by decide))).1
            exact wp_st 37 (by decide) (.tmp 71) (.tmp 63) tb 12 _ _ _ rfl e1 e2 (by rw [h.t.cell]; rfl) (h.t.free 12) (hK _ _ ⟨f, b, _, rfl, h.store OK (j := 17) (k := 12) (m := 7) (d := 63) (show (17, 12) ∈ st5 from by decide) (show (7, 63, 12) ∈ ml5 from by decide) (hds 7 (by decide))⟩)
          refine StepsJ.cons' [2] rfl (by kernel_rfl) (by kernel_rfl) (fun l a w hJ hd hds K hK => ?_) ?_
          · obtain ⟨f, b, v, rfl, h⟩ := hJ
            have e := ov_at (a := A0) (t := 58) (by rw [hsz]; decide) (h.pu (2, 58) (show (2, 58) ∈ pu5 from by decide) (hds 2 (by decide)))
            exact wp_nil (.tmp 58) ⟨tb, 0, none⟩ rfl e (hK _ _ ⟨_, b, v, ov_put _ (by rw [hsz]; decide), h.pure OK (j := 18) (d := 72) (show (18, 72) ∈ pu5 from by decide)⟩)
          refine StepsJ.cons' [18] rfl (by kernel_rfl) (by kernel_rfl) (fun l a w hJ hd hds K hK => ?_) ?_
          · obtain ⟨f, b, v, rfl, h⟩ := hJ
            have e := ov_at (a := A0) (t := 72) (by rw [hsz]; decide) (h.pu (18, 72) (show (18, 72) ∈ pu5 from by decide) (hds 18 (by decide)))
            exact wp_fa (.tmp 72) tb 13 (by decide) rfl e (hK _ _ ⟨_, b, v, ov_put _ (by rw [hsz]; decide), h.pure OK (j := 19) (d := 73) (show (19, 73) ∈ pu5 from by decide)⟩)
          refine StepsJ.cons' [19, 9] rfl (by kernel_rfl) (by kernel_rfl) (fun l a w hJ hd hds K hK => ?_) ?_
          · obtain ⟨f, b, v, rfl, h⟩ := hJ
            have e1 := ov_at (a := A0) (t := 73) (by rw [hsz]; decide) (h.pu (19, 73) (show (19, 73) ∈ pu5 from by decide) (hds 19 (by decide)))
            have e2 := ov_at (a := A0) (t := 65) (by rw [hsz]; decide) (h.ml (9, 65, 13) (show (9, 65, 13) ∈ ml5 from by decide) (hds 9 (by decide))).1
            exact wp_st 37 (by decide) (.tmp 73) (.tmp 65) tb 13 _ _ _ rfl e1 e2 (by rw [h.t.cell]; rfl) (h.t.free 13) (hK _ _ ⟨f, b, _, rfl, h.store OK (j := 20) (k := 13) (m := 9) (d := 65) (show (20, 13) ∈ st5 from by decide) (show (9, 65, 13) ∈ ml5 from by decide) (hds 9 (by decide))⟩)
          refine StepsJ.cons' [3] rfl (by kernel_rfl) (by kernel_rfl) (fun l a w hJ hd hds K hK => ?_) ?_
          · obtain ⟨f, b, v, rfl, h⟩ := hJ
            have e := ov_at (a := A0) (t := 59) (by rw [hsz]; decide) (h.pu (3, 59) (show (3, 59) ∈ pu5 from by decide) (hds 3 (by decide)))
            exact wp_nil (.tmp 59) ⟨tb, 0, none⟩ rfl e (hK _ _ ⟨_, b, v, ov_put _ (by rw [hsz]; decide), h.pure OK (j := 21) (d := 74) (show (21, 74) ∈ pu5 from by decide)⟩)
          refine StepsJ.cons' [21] rfl (by kernel_rfl) (by kernel_rfl) (fun l a w hJ hd hds K hK => ?_) ?_
          · obtain ⟨f, b, v, rfl, h⟩ := hJ
            have e := ov_at (a := A0) (t := 74) (by rw [hsz]; decide) (h.pu (21, 74) (show (21, 74) ∈ pu5 from by decide) (hds 21 (by decide)))
            exact wp_fa (.tmp 74) tb 14 (by decide) rfl e (hK _ _ ⟨_, b, v, ov_put _ (by rw [hsz]; decide), h.pure OK (j := 22) (d := 75) (show (22, 75) ∈ pu5 from by decide)⟩)
          refine StepsJ.cons' [22, 11] rfl (by kernel_rfl) (by kernel_rfl) (fun l a w hJ hd hds K hK => ?_) ?_
          · obtain ⟨f, b, v, rfl, h⟩ := hJ
            have e1 := ov_at (a := A0) (t := 75) (by rw [hsz]; decide) (h.pu (22, 75) (show (22, 75) ∈ pu5 from by decide) (hds 22 (by decide)))
            have e2 := ov_at (a := A0) (t := 67) (by rw [hsz]; decide) (h.ml (11, 67, 14) (show (11, 67, 14) ∈ ml5 from by decide) (hds 11 (by decide))).1
            exact wp_st 37 (by decide) (.tmp 75) (.tmp 67) tb 14 _ _ _ rfl e1 e2 (by rw [h.t.cell]; rfl) (h.t.free 14) (hK _ _ ⟨f, b, _, rfl, h.store OK (j := 23) (k := 14) (m := 11) (d := 67) (show (23, 14) ∈ st5 from by decide) (show (11, 67, 14) ∈ ml5 from by decide) (hds 11 (by decide))⟩)
          exact StepsJ.nil
        case he =>
          obtain ⟨f', b', v', rfl, h⟩ := hJ
          have hfr := h.frame OK (fun x hx => hall _ (OK.in1 x hx))
          have hM := hM.more h (fun i hi => hall i hi) (by decide) (by decide) [11, 12, 13, 14] (by decide) (by decide) (by decide) (by decide)
          have hfr' : ov A0 f' = List.foldr (fun x a => Act.put a (some x.1) x.2) A0 [(56, Value.pointer (some ⟨tb, 0, none⟩)), (57, Value.pointer (some ⟨tb, 0, none⟩)), (58, Value.pointer (some ⟨tb, 0, none⟩)), (59, Value.pointer (some ⟨tb, 0, none⟩)), (60, Value.int .i64 (n : Int)), (62, Value.int .i64 (n : Int)), (64, Value.int .i64 (n : Int)), (66, Value.int .i64 (n : Int)), (68, Value.pointer (some ⟨tb, 0, none⟩)), (69, Value.pointer (some ⟨tb, 11, none⟩)), (70, Value.pointer (some ⟨tb, 0, none⟩)), (71, Value.pointer (some ⟨tb, 12, none⟩)), (72, Value.pointer (some ⟨tb, 0, none⟩)), (73, Value.pointer (some ⟨tb, 13, none⟩)), (74, Value.pointer (some ⟨tb, 0, none⟩)), (75, Value.pointer (some ⟨tb, 14, none⟩)), (61, Value.slice (some ⟨b' 11, 0, none⟩) n n), (63, Value.slice (some ⟨b' 12, 0, none⟩) n n), (65, Value.slice (some ⟨b' 13, 0, none⟩) n n), (67, Value.slice (some ⟨b' 14, 0, none⟩) n n)] := hfr
          rw [hfr', ← HA.out]
          have HM := Lib.hid hM
          clear hfr hfr' hM h hall h9 h10 hsz OK HA
          simp only [List.foldr, Act.put, List.setIfInBounds_toArray, List.set_cons_zero, List.set_cons_succ]
          go_wp2
          go_meet
          exact ⟨_, _, HM.out⟩
      case rest =>
        obtain ⟨v5, b5, hM5⟩ := hcut
        obtain ⟨W5, hW5⟩ : ∃ x, x = wc := ⟨_, rfl⟩
        subst hW5
        obtain ⟨⟨tb', b', a', c', ov'⟩, e1, e2, hV, hbb⟩ := refV_of (f := f) hM5 rfl rfl rfl HI.out HC.out HE.out HBT.out ⟨_, HB0.out⟩
        have e1' : tb = tb' := e1.symm
        have e2' : Value.slice none 0 0 = ov' := e2.symm
        clear e1 e2
        subst e1' e2'
        have HV := Lib.hid hV
        have HBB := Lib.hid hbb
        have HMF := Lib.hid hM5.fr
        have hpn : (preT id f n).n = n := preT_n id f n
        have HCC : Hid (Calls Try.prog 36 #[.pointer (some ⟨tb, 0, none⟩)] W5 (ChooseV W5 ⟨tb, b', a', c', .slice none 0 0⟩ (preT id f n))) := Lib.hid (chooseV_calls (preT id f n) ⟨tb, b', a', c', .slice none 0 0⟩ (.slice none 0 0) (by rw [hpn]; omega) (fun i hi => by
          rw [hpn] at hi
          show ((preT id f n).at_ i).p.ok
          rw [preT_at id f n i hi]
          exact ⟨(HOK.out i hi).1, (HOK.out i hi).2, v0_ok⟩) W5 hV)
        have HPN := Lib.hid hpn
        clear hM5 hV hbb hpn HM4
        go_wp2_with (go_at_call 36; (with_reducible refine HCC.out.mono ?_); rintro e w6 ⟨⟨tb6, b6, a6, c6, ov6⟩, vr, rfl, hR, hF, e1, e2, hbk, hb17⟩)
        have e1' : tb6 = tb := e1
        have e2' : Value.slice none 0 0 = ov6 := e2.symm
        clear e1 e2
        subst e1' e2'
        have HFIN : Hid (NewR w (.slice ai n ci) (.slice ac n cc) U (.returned (.pointer (some ⟨tb6, 0, none⟩))) w6) := Lib.hid ⟨⟨tb6, b6, a6, c6, .slice none 0 0⟩, rfl, by rw [← HU.out]; exact hR, (Below.fr (Below.fr HB.out HMF.out HB.out.size fun i _ hi => by have := HTB.out; omega) hF (Nat.le_trans HB.out.size HMF.out.size) fun i _ hi => by have := HTB.out; have hi' : i = tb6 := hi; omega), fun k hk => by
          rw [← HU.out] at hk
          rcases hk with rfl | ⟨h0, j, hj, rfl⟩ | hk
          · exact .inr (.inr HBT.out)
          · have h0' : 0 < n := by have : (newN id f n).n = n := preT_n id f n; omega
            rcases hj with hj | rfl
            · show InRow _ (b6 j) ∨ InRow _ (b6 j) ∨ w.heap.size ≤ b6 j
              rw [hbk j hj]
              exact HBB.out j hj h0'
            · have := hb17 (by rw [HPN.out]; exact h0')
              have := HMF.out.size
              have := HB.out.size
              exact .inr (.inr (by show w.heap.size ≤ b6 17; omega))
          · cases hk⟩
        clear hR hF hbk hb17 HU HV HBB HMF HB
        go_wp2
        go_ret
        exact HFIN.out
end Go.Proofs.Ytjnbjcieepooaac
