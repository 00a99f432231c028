/- Two trees that are alike but for the names of bridges and ports: what a function makes of them is alike again. -/
import Derived.Test.YtjnbjcieepooaacTInv
namespace Go.Proofs.Ytjnbjcieepooaac
open Go.RowKit
set_option linter.unusedVariables false
set_option linter.unusedSimpArgs false

/-- Names that keep their order. -/
structure Oiso (R : Int → Int → Prop) : Prop where
  lt : ∀ {a a' b b' : Int}, R a a' → R b b' → (a < b ↔ a' < b')
theorem Oiso.eq {R : Int → Int → Prop} (h : Oiso R) {a a' b b' : Int} (ha : R a a') (hb : R b b') : a = b ↔ a' = b' := by
  have h1 := h.lt ha hb
  have h2 := h.lt hb ha
  constructor <;> intro e <;> omega
theorem Oiso.ord {R : Int → Int → Prop} (h : Oiso R) {a a' b b' : Int} (ha : R a a') (hb : R b b') : ordI a b = ordI a' b' := by
  unfold ordI
  simp only [h.lt ha hb, h.lt hb ha]
structure Names (RI RP : Int → Int → Prop) : Prop where
  i : Oiso RI
  p : Oiso RP
  p0 : RP 0 0
  r : ∀ {a a' : Int}, RP a a' → ((0 ≤ a ∧ a ≤ 65535) ↔ (0 ≤ a' ∧ a' ≤ 65535))
structure RV (RI RP : Int → Int → Prop) (v v' : Vec) : Prop where
  root : RI v.root v'.root
  cost : v'.cost = v.cost
  bridge : RI v.bridge v'.bridge
  port : RP v.port v'.port
section
variable {RI RP : Int → Int → Prop}
theorem RV.cmp (N : Names RI RP) {a a' b b' : Vec} (ha : RV RI RP a a') (hb : RV RI RP b b') : cmpV a b = cmpV a' b' := by
  unfold cmpV
  congr 1
  funext k
  unfold cmpC
  rw [N.i.ord ha.root hb.root, N.i.ord ha.bridge hb.bridge, N.p.ord ha.port hb.port, ha.cost, hb.cost]
theorem RV.bet (N : Names RI RP) {a a' b b' : Vec} (ha : RV RI RP a a') (hb : RV RI RP b b') : betB a b = betB a' b' := by unfold betB; rw [RV.cmp N ha hb]
theorem RV.sup (N : Names RI RP) {a a' b b' : Vec} (ha : RV RI RP a a') (hb : RV RI RP b b') : supB a b = supB a' b' := by
  unfold supB
  rw [RV.bet N ha hb]
  have h1 := N.i.eq ha.bridge hb.bridge
  have h2 := N.p.eq ha.port hb.port
  have e1 : (a.bridge == b.bridge) = (a'.bridge == b'.bridge) := by rw [Bool.eq_iff_iff]; simpa using h1
  have e2 : (a.port == b.port) = (a'.port == b'.port) := by rw [Bool.eq_iff_iff]; simpa using h2
  rw [e1, e2]
theorem RV.over {a a' : Vec} (ha : RV RI RP a a') (c : Int) : RV RI RP (overV a c) (overV a' c) := by
  unfold overV
  rw [ha.cost]
  split
  · exact ⟨ha.root, rfl, ha.bridge, ha.port⟩
  · exact ⟨ha.root, rfl, ha.bridge, ha.port⟩
theorem RV.own {x x' p p' : Int} (hx : RI x x') (hp : RP p p') : RV RI RP (ownV x p) (ownV x' p') := ⟨hx, rfl, hx, hp⟩
structure RQ (RI RP : Int → Int → Prop) (q q' : TP) : Prop where
  i : RP q.p.id q'.p.id
  t : q.p.has = true → RV RI RP q.p.told q'.p.told
  e : q' = { q with p := { q.p with id := q'.p.id, told := q'.p.told } }
theorem RQ.role {q q' : TP} (h : RQ RI RP q q') : q'.role = q.role := by rw [h.e]
theorem RQ.edge {q q' : TP} (h : RQ RI RP q q') : q'.edge = q.edge := by rw [h.e]
theorem RQ.state {q q' : TP} (h : RQ RI RP q q') : q'.state = q.state := by rw [h.e]
theorem RQ.age {q q' : TP} (h : RQ RI RP q q') : q'.age = q.age := by rw [h.e]
theorem RQ.left {q q' : TP} (h : RQ RI RP q q') : q'.left = q.left := by rw [h.e]
theorem RQ.wait {q q' : TP} (h : RQ RI RP q q') : q'.wait = q.wait := by rw [h.e]
theorem RQ.change {q q' : TP} (h : RQ RI RP q q') : q'.change = q.change := by rw [h.e]
theorem RQ.agreed {q q' : TP} (h : RQ RI RP q q') : q'.agreed = q.agreed := by rw [h.e]
theorem RQ.up {q q' : TP} (h : RQ RI RP q q') : q'.p.up = q.p.up := by rw [h.e]
theorem RQ.has {q q' : TP} (h : RQ RI RP q q') : q'.p.has = q.p.has := by rw [h.e]
theorem RQ.cost {q q' : TP} (h : RQ RI RP q q') : q'.p.cost = q.p.cost := by rw [h.e]
theorem RQ.map {q q' : TP} (h : RQ RI RP q q') (F : TP → TP) (hp : ∀ q, (F q).p = q.p) (hc : ∀ q x, F { q with p := x } = { F q with p := x }) : RQ RI RP (F q) (F q') := by
  refine ⟨by rw [hp, hp]; exact h.i, by rw [hp, hp]; exact h.t, ?_⟩
  rw [hp q', hp q]
  exact (congrArg F h.e).trans (hc q _)
structure RM (RI RP : Int → Int → Prop) (m m' : Msg) : Prop where
  v : RV RI RP m.v m'.v
  k : m.kind = 1
  e : m' = { m with v := m'.v }
structure RO (RI RP : Int → Int → Prop) (o o' : OutM) : Prop where
  port : o'.port = o.port
  m : RM RI RP o.m o'.m
/-- As long, and each element related. -/
def All2 {α β : Type} (R : α → β → Prop) (l : List α) (l' : List β) : Prop := l'.length = l.length ∧ ∀ (i : Nat) (o : α) (o' : β), l[i]? = some o → l'[i]? = some o' → R o o'
theorem All2.nil {α β : Type} (R : α → β → Prop) : All2 R [] [] := ⟨rfl, fun i o o' h => (by simp at h)⟩
theorem All2.snoc {α β : Type} {R : α → β → Prop} {l : List α} {l' : List β} (h : All2 R l l') {x : α} {y : β} (hx : R x y) : All2 R (l ++ [x]) (l' ++ [y]) := by
  refine ⟨by simp [h.1], fun i o o' h1 h2 => ?_⟩
  by_cases hi : i < l.length
  · rw [List.getElem?_append_left hi] at h1
    rw [List.getElem?_append_left (by rw [h.1]; exact hi)] at h2
    exact h.2 i o o' h1 h2
  · rw [List.getElem?_append_right (by omega)] at h1
    rw [List.getElem?_append_right (by rw [h.1]; omega)] at h2
    rw [h.1] at h2
    have h0 : i - l.length = 0 := by
      have := (List.getElem?_eq_some_iff.1 h1).1
      simp at this
      omega
    rw [h0] at h1 h2
    simp at h1 h2
    subst h1 h2
    exact hx
structure RT (RI RP : Int → Int → Prop) (T T' : Tr) : Prop where
  id : RI T.id T'.id
  n : T'.n = T.n
  ps : ∀ i, RQ RI RP (T.at_ i) (T'.at_ i)
  vec : RV RI RP T.vec T'.vec
  rp : T'.rp = T.rp
  roles : T'.roles = T.roles
  tells : ∀ i, i < T.n → RV RI RP (T.tell_ i) (T'.tell_ i)
  hello : T'.hello = T.hello
  outs : All2 (RO RI RP) T.outs T'.outs
  flush : T'.flush = T.flush
/-- What a selection reads, and leaves. -/
structure RT0 (RI RP : Int → Int → Prop) (T T' : Tr) : Prop where
  id : RI T.id T'.id
  n : T'.n = T.n
  ps : ∀ i, RQ RI RP (T.at_ i) (T'.at_ i)
  hello : T'.hello = T.hello
  outs : All2 (RO RI RP) T.outs T'.outs
  flush : T'.flush = T.flush
theorem RT.to0 {T T' : Tr} (h : RT RI RP T T') : RT0 RI RP T T' := ⟨h.id, h.n, h.ps, h.hello, h.outs, h.flush⟩
theorem upd_at_ge (T : Tr) {i j : Nat} (x : TP) (h : ¬ i < T.n) : (T.upd i x).at_ j = T.at_ j := by
  unfold Tr.upd Tr.at_
  dsimp only
  rw [List.set_eq_of_length_le (by show T.ps.length ≤ i; have : T.n = T.ps.length := rfl; omega)]
theorem RT.upd {T T' : Tr} (h : RT RI RP T T') (i : Nat) {x x' : TP} (hx : RQ RI RP x x') : RT RI RP (T.upd i x) (T'.upd i x') :=
  ⟨h.id, by rw [upd_n, upd_n]; exact h.n, fun j => by
    by_cases hi : i < T.n
    · have hi' : i < T'.n := by rw [h.n]; exact hi
      by_cases e : i = j
      · subst e; rw [upd_at T x hi, upd_at T' x' hi']; exact hx
      · rw [upd_ne T x e, upd_ne T' x' e]; exact h.ps j
    · rw [upd_at_ge T x hi, upd_at_ge T' x' (by rw [h.n]; exact hi)]; exact h.ps j, h.vec, h.rp, h.roles, fun j hj => h.tells j (by rw [upd_n] at hj; exact hj), h.hello, h.outs, h.flush⟩
theorem RT.fl {T T' : Tr} (h : RT RI RP T T') (i : Nat) : RT RI RP (T.fl i) (T'.fl i) :=
  ⟨h.id, h.n, h.ps, h.vec, h.rp, h.roles, h.tells, h.hello, h.outs, by show T'.flush.set i true = T.flush.set i true; rw [h.flush]⟩
theorem RT.upto {f f' : Nat → Tr → Tr} (hf : ∀ i T T', RT RI RP T T' → RT RI RP (f i T) (f' i T')) (k : Nat) {T T' : Tr} (h : RT RI RP T T') : RT RI RP (upto f k T) (upto f' k T') := by
  induction k with
  | zero => exact h
  | succ k ih => exact hf k _ _ ih
theorem RT.turn {T T' : Tr} (h : RT RI RP T T') (i : Nat) (r : Int) : RT RI RP (turnF i r T) (turnF i r T') := by
  have h1 := h.upd i ((h.ps i).map (fun q => turnP q r) (fun _ => rfl) (fun _ _ => rfl))
  unfold turnF
  dsimp only
  split
  · exact h1
  · exact h1.fl i
theorem RQ.act {q q' : TP} (h : RQ RI RP q q') : actB q' = actB q := by unfold actB; rw [h.role]
theorem RT.ch {T T' : Tr} (h : RT RI RP T T') (a i : Nat) : RT RI RP (chStep a i T) (chStep a i T') := by
  have h1 := h.upd i ((h.ps i).map (fun q => { q with change := 4 }) (fun _ => rfl) (fun _ _ => rfl))
  unfold chStep
  rw [(h.ps i).act, (h.ps i).edge]
  split
  · dsimp only
    split
    · exact h1
    · exact h1.fl i
  · exact h
theorem RT.changed {T T' : Tr} (h : RT RI RP T T') (a : Nat) : RT RI RP (changedF a T) (changedF a T') := by
  unfold changedF
  rw [h.n]
  exact RT.upto (fun i T T' h => h.ch a i) _ h
theorem RT.forward {T T' : Tr} (h : RT RI RP T T') (i : Nat) : RT RI RP (forwardF i T) (forwardF i T') := by
  have h1 := h.upd i ((h.ps i).map fwdP (fun _ => rfl) (fun _ _ => rfl))
  unfold forwardF
  dsimp only
  rw [(h.ps i).edge]
  split
  · exact h1
  · exact h1.changed i
theorem RT.no {T T' : Tr} (h : RT RI RP T T') (a i : Nat) : RT RI RP (noStep a i T) (noStep a i T') := by
  have h1 := (h.fl i).upd i ((h.ps i).map (fun q => { q with change := 4 }) (fun _ => rfl) (fun _ _ => rfl))
  unfold noStep
  rw [(h.ps i).act, (h.ps i).edge]
  split
  · exact h
  · exact h1
theorem RT.notice {T T' : Tr} (h : RT RI RP T T') (a : Nat) : RT RI RP (noticeF a T) (noticeF a T') := by
  unfold noticeF
  rw [(h.ps a).act, h.n]
  split
  · exact RT.upto (fun i T T' h => h.no a i) _ h
  · exact h
theorem RT.msg {T T' : Tr} (h : RT RI RP T T') (i : Nat) (hi : i < T.n) : RM RI RP (msgF T i) (msgF T' i) := by
  refine ⟨h.tells i hi, rfl, ?_⟩
  unfold msgF ageF mroleF
  rw [(h.ps i).role, (h.ps i).state, (h.ps i).edge, (h.ps i).change, h.rp, (h.ps T.rp.toNat).age]
theorem RM.chk (N : Names RI RP) {m m' : Msg} (h : RM RI RP m m') : chkF m' = chkF m := by
  have hk := h.k
  have e := h.e
  have hc := h.v.cost
  have hp := N.r h.v.port
  obtain ⟨k, v, c1, c2, c3, c4, c5, c6, r, a0, a1, a2, a3⟩ := m
  obtain ⟨k', v', c1', c2', c3', c4', c5', c6', r', a0', a1', a2', a3'⟩ := m'
  simp only [Msg.mk.injEq, true_and, and_true] at e
  simp only at hk hc hp
  obtain ⟨rfl, rfl, rfl, rfl, rfl, rfl, rfl, rfl, rfl, rfl, rfl, rfl⟩ := e
  subst hk
  unfold chkF
  simp only
  have ec : (4294967295 < v'.cost ∨ v'.port < 0 ∨ 65535 < v'.port) = (4294967295 < v.cost ∨ v.port < 0 ∨ 65535 < v.port) := by
    rw [hc]
    apply propext
    constructor <;> intro g <;> omega
  have n2 : ¬ (1 : Int) = 2 := by decide
  simp only [ec, if_neg n2]
theorem RT.send (N : Names RI RP) {T T' : Tr} (h : RT RI RP T T') (i : Nat) (hi : i < T.n) (b : Bool) : RT RI RP (sendF i b T) (sendF i b T') := by
  have hm := h.msg i hi
  unfold sendF
  rw [hm.chk N]
  split
  · refine ⟨h.id, h.n, h.ps, h.vec, h.rp, h.roles, h.tells, h.hello, ?_, h.flush⟩
    refine h.outs.snoc ⟨rfl, hm.v, hm.k, ?_⟩
    exact congrArg (fun m : Msg => { m with agreement := b }) hm.e
  · exact h
theorem RT.uptoN {f f' : Nat → Tr → Tr} {n : Nat} (hn : ∀ i T, (f i T).n = T.n) (hf : ∀ i T T', i < n → T.n = n → RT RI RP T T' → RT RI RP (f i T) (f' i T')) (k : Nat) (hk : k ≤ n) {T T' : Tr} (hT : T.n = n) (h : RT RI RP T T') : RT RI RP (_root_.Go.Proofs.Ytjnbjcieepooaac.upto f k T) (_root_.Go.Proofs.Ytjnbjcieepooaac.upto f' k T') ∧ (_root_.Go.Proofs.Ytjnbjcieepooaac.upto f k T).n = n := by
  induction k with
  | zero => exact ⟨h, hT⟩
  | succ k ih =>
    obtain ⟨h1, h2⟩ := ih (by omega)
    exact ⟨hf k _ _ (by omega) h2 h1, (hn k _).trans h2⟩
theorem RT.tellS (N : Names RI RP) {T T' : Tr} (h : RT RI RP T T') (i : Nat) (hi : i < T.n) : RT RI RP (tellStep i T) (tellStep i T') := by
  unfold tellStep
  rw [(h.ps i).role, (h.ps i).change]
  split
  · exact h.send N i hi false
  · exact h
theorem RT.tellAll (N : Names RI RP) {T T' : Tr} (h : RT RI RP T T') : RT RI RP (tellAll T) (tellAll T') := by
  unfold _root_.Go.Proofs.Ytjnbjcieepooaac.tellAll
  rw [h.n]
  exact (RT.uptoN (n := T.n) (fun i T => (shp_tellStep i T).n) (fun i T T' hi hn h => h.tellS N i (by omega)) T.n (Nat.le_refl _) rfl h).1
/-- The best way. -/
structure RWay (RI RP : Int → Int → Prop) (S S' : Way) : Prop where
  v : RV RI RP S.v S'.v
  p : S'.p = S.p
theorem RT0.take (N : Names RI RP) {T T' : Tr} (h : RT0 RI RP T T') {S S' : Way} (hS : RWay RI RP S S') (k : Nat) : takeW T'.id T'.qs S' k = takeW T.id T.qs S k := by
  have hq := h.ps k
  have hup : (T'.qs k).up = (T.qs k).up := hq.up
  have hha : (T'.qs k).has = (T.qs k).has := hq.has
  have hco : (T'.qs k).cost = (T.qs k).cost := hq.cost
  unfold takeW
  rw [hup, hha]
  cases hh : (T.qs k).has with
  | false => simp
  | true =>
    have hv : RV RI RP (T.qs k).told (T'.qs k).told := hq.t hh
    have ho := RV.over hv (T.qs k).cost
    rw [hco, hS.p]
    have e1 : decide ((T'.qs k).told.bridge = T'.id) = decide ((T.qs k).told.bridge = T.id) := by rw [decide_eq_decide]; exact (N.i.eq hv.bridge h.id).symm
    have e2 : decide ((overV (T'.qs k).told (T.qs k).cost).root < S'.v.root) = decide ((overV (T.qs k).told (T.qs k).cost).root < S.v.root) := by rw [decide_eq_decide]; exact (N.i.lt ho.root hS.v.root).symm
    have e3 : betterF (fun i => (T'.qs i).id) (overV (T'.qs k).told (T.qs k).cost) k S'.v S.p.toNat = betterF (fun i => (T.qs i).id) (overV (T.qs k).told (T.qs k).cost) k S.v S.p.toNat := by
      unfold betterF
      rw [RV.cmp N ho hS.v]
      have e4 : decide ((T'.qs k).id < (T'.qs S.p.toNat).id) = decide ((T.qs k).id < (T.qs S.p.toNat).id) := by rw [decide_eq_decide]; exact (N.p.lt hq.i (h.ps S.p.toNat).i).symm
      simp only
      rw [e4]
    rw [e1, e2, e3]
theorem RT0.way (N : Names RI RP) {T T' : Tr} (h : RT0 RI RP T T') (k : Nat) : RWay RI RP (wayN T.id T.qs k) (wayN T'.id T'.qs k) := by
  induction k with
  | zero => exact ⟨RV.own h.id N.p0, rfl⟩
  | succ k ih =>
    have e := h.take N ih k
    show RWay RI RP (if takeW T.id T.qs (wayN T.id T.qs k) k = true then _ else _) (if takeW T'.id T'.qs (wayN T'.id T'.qs k) k = true then _ else _)
    rw [e]
    by_cases hk : takeW T.id T.qs (wayN T.id T.qs k) k = true
    · rw [if_pos hk, if_pos hk]
      have hha : (T.qs k).has = true := by
        cases hh : (T.qs k).has with
        | true => rfl
        | false => rw [take_none hh] at hk; cases hk
      have hv : RV RI RP (T.qs k).told (T'.qs k).told := (h.ps k).t hha
      have hco : (T'.qs k).cost = (T.qs k).cost := (h.ps k).cost
      refine ⟨?_, rfl⟩
      show RV RI RP (overV (T.qs k).told (T.qs k).cost) (overV (T'.qs k).told (T'.qs k).cost)
      rw [hco]; exact RV.over hv _
    · rw [if_neg hk, if_neg hk]; exact ih
theorem RT0.tellV {T T' : Tr} (h : RT0 RI RP T T') {S S' : Way} (hS : RWay RI RP S S') (i : Nat) : RV RI RP (tellF T.id T.qs S i) (tellF T'.id T'.qs S' i) := ⟨hS.v.root, hS.v.cost, h.id, (h.ps i).i⟩
theorem RT0.roleV (N : Names RI RP) {T T' : Tr} (h : RT0 RI RP T T') {S S' : Way} (hS : RWay RI RP S S') (i : Nat) : roleF T'.id T'.qs S' i = roleF T.id T.qs S i := by
  have hq := h.ps i
  have hup : (T'.qs i).up = (T.qs i).up := hq.up
  have hha : (T'.qs i).has = (T.qs i).has := hq.has
  have ht := h.tellV hS i
  unfold roleF ofF
  rw [hup, hha, hS.p]
  cases hh : (T.qs i).has with
  | false => simp
  | true =>
    have hv : RV RI RP (T.qs i).told (T'.qs i).told := hq.t hh
    have e1 := RV.bet N hv ht
    have e2 : ((T'.qs i).told.bridge = (tellF T'.id T'.qs S' i).bridge) = ((T.qs i).told.bridge = (tellF T.id T.qs S i).bridge) := propext (N.i.eq hv.bridge ht.bridge).symm
    rw [e1]
    simp only [e2]
theorem sel_role (T : Tr) (i : Nat) (hi : i < T.n) : (selF T).role_ i = roleF T.id T.qs (selW T) i := by
  unfold Tr.role_ selF
  have hi' : i < T.n := hi
  simp [List.getD, hi']
theorem sel_tell (T : Tr) (i : Nat) (hi : i < T.n) : (selF T).tell_ i = tellF T.id T.qs (selW T) i := by
  unfold Tr.tell_ selF
  have hi' : i < T.n := hi
  simp [List.getD, hi']
theorem RT0.sel (N : Names RI RP) {T T' : Tr} (h : RT0 RI RP T T') : RT RI RP (selF T) (selF T') := by
  have hw : RWay RI RP (selW T) (selW T') := by
    have := h.way N T.n
    unfold selW
    rw [h.n]
    exact this
  refine ⟨h.id, h.n, h.ps, hw.v, hw.p, ?_, fun i hi => ?_, h.hello, h.outs, h.flush⟩
  · show (List.range T'.n).map (roleF T'.id T'.qs (selW T')) = (List.range T.n).map (roleF T.id T.qs (selW T))
    rw [h.n]
    exact List.map_congr_left fun i _ => h.roleV N hw i
  · have hi' : i < T.n := hi
    rw [sel_tell T i hi', sel_tell T' i (by rw [h.n]; exact hi')]
    exact h.tellV hw i
theorem RT.sel (N : Names RI RP) {T T' : Tr} (h : RT RI RP T T') : RT RI RP (selF T) (selF T') := h.to0.sel N
theorem RT.again1 (N : Names RI RP) {T T' : Tr} (h : RT RI RP T T') (b : Bool) : RT RI RP (again1 T b).1 (again1 T' b).1 ∧ (again1 T' b).2 = (again1 T b).2 := by
  have hs := h.sel N
  have e : (T'.vec.root ≠ (selF T').vec.root ∨ T'.vec.cost ≠ (selF T').vec.cost) = (T.vec.root ≠ (selF T).vec.root ∨ T.vec.cost ≠ (selF T).vec.cost) := by
    have e1 := N.i.eq h.vec.root hs.vec.root
    rw [h.vec.cost, hs.vec.cost]
    apply propext
    constructor
    · rintro (x | x)
      · exact .inl fun y => x (e1.1 y)
      · exact .inr x
    · rintro (x | x)
      · exact .inl fun y => x (e1.2 y)
      · exact .inr x
  unfold _root_.Go.Proofs.Ytjnbjcieepooaac.again1
  dsimp only
  by_cases hc : T.vec.root ≠ (selF T).vec.root ∨ T.vec.cost ≠ (selF T).vec.cost
  · rw [if_pos hc, if_pos (e ▸ hc)]
    refine ⟨?_, rfl⟩
    show RT RI RP (_root_.Go.Proofs.Ytjnbjcieepooaac.upto noAgree (selF T).n (selF T)) (_root_.Go.Proofs.Ytjnbjcieepooaac.upto noAgree (selF T').n (selF T'))
    rw [hs.n]
    exact RT.upto (fun i T T' h => h.upd i ((h.ps i).map (fun q => { q with agreed := false }) (fun _ => rfl) (fun _ _ => rfl))) _ hs
  · rw [if_neg hc, if_neg (e ▸ hc)]
    exact ⟨hs, rfl⟩
theorem RT.role1 {X X' : Tr × Bool} (h : RT RI RP X.1 X'.1) (hb : X'.2 = X.2) (i : Nat) : RT RI RP (roleStep i X).1 (roleStep i X').1 ∧ (roleStep i X').2 = (roleStep i X).2 := by
  have e1 : X'.1.role_ i = X.1.role_ i := by unfold Tr.role_; rw [h.roles]
  unfold roleStep
  rw [e1, (h.ps i).role]
  split
  · exact ⟨h, hb⟩
  · exact ⟨h.turn i _, rfl⟩
theorem RT.uptoB {f : Nat → Tr × Bool → Tr × Bool} (hf : ∀ i X X', RT RI RP X.1 X'.1 → X'.2 = X.2 → RT RI RP (f i X).1 (f i X').1 ∧ (f i X').2 = (f i X).2) (k : Nat) {X X' : Tr × Bool} (h : RT RI RP X.1 X'.1) (hb : X'.2 = X.2) :
    RT RI RP (uptoB f k X).1 (uptoB f k X').1 ∧ (_root_.Go.Proofs.Ytjnbjcieepooaac.uptoB f k X').2 = (_root_.Go.Proofs.Ytjnbjcieepooaac.uptoB f k X).2 := by
  induction k with
  | zero => exact ⟨h, hb⟩
  | succ k ih => exact hf k _ _ ih.1 ih.2
theorem RT.again2 (N : Names RI RP) {T T' : Tr} (h : RT RI RP T T') (b : Bool) : RT RI RP (again2 T b).1 (again2 T' b).1 ∧ (again2 T' b).2 = (again2 T b).2 := by
  obtain ⟨h1, h2⟩ := h.again1 N b
  unfold _root_.Go.Proofs.Ytjnbjcieepooaac.again2
  rw [h1.n]
  exact RT.uptoB (fun i X X' h hb => h.role1 hb i) _ h1 h2
theorem RT.fwd {T T' : Tr} (h : RT RI RP T T') : RT RI RP (fwdRoot T) (fwdRoot T') := by
  unfold fwdRoot
  rw [h.rp, (h.ps T.rp.toNat).state]
  split
  · exact h.forward _
  · exact h
theorem again_eq' (b : Bool) (T : Tr) : againF b T = if (again2 T b).2 = true then tellAll (fwdRoot (again2 T b).1) else fwdRoot (again2 T b).1 := rfl
theorem RT.again (N : Names RI RP) {T T' : Tr} (h : RT RI RP T T') (b : Bool) : RT RI RP (againF b T) (againF b T') := by
  obtain ⟨h1, h2⟩ := h.again2 N b
  rw [again_eq', again_eq', h2]
  split
  · exact (h1.fwd).tellAll N
  · exact h1.fwd
theorem RT.link (N : Names RI RP) {T T' : Tr} (h : RT RI RP T T') (x : Int) (b : Bool) : RT RI RP (linkF x b T) (linkF x b T') := by
  unfold linkF
  rw [h.n, (h.ps x.toNat).up]
  split
  · refine RT.again N ((h.upd _ ?_).fl _) true
    have hq := h.ps x.toNat
    refine ⟨hq.i, fun e => (by cases e), ?_⟩
    have e := hq.e
    generalize T.at_ x.toNat = q at e
    generalize T'.at_ x.toNat = q' at e
    rw [e]; rfl
  · exact h
theorem RT.prop {T T' : Tr} (h : RT RI RP T T') (a i : Nat) : RT RI RP (propStep a i T) (propStep a i T') := by
  have h1 := (h.upd i ((h.ps i).map propP (fun _ => rfl) (fun _ _ => rfl))).fl i
  unfold propStep
  rw [(h.ps i).role, (h.ps i).edge, (h.ps i).agreed, (h.ps i).state]
  split
  · exact h1
  · exact h
theorem RT.proposed (N : Names RI RP) {T T' : Tr} (h : RT RI RP T T') (a : Nat) (ha : a < T.n) : RT RI RP (proposedF a T) (proposedF a T') := by
  unfold proposedF
  rw [(h.ps a).role, h.n]
  split
  · exact h.send N a ha true
  · split
    · have h1 := RT.upto (f := propStep a) (f' := propStep a) (fun i T T' h => h.prop a i) T.n h
      have hn : (_root_.Go.Proofs.Ytjnbjcieepooaac.upto (propStep a) T.n T).n = T.n := by have := shp_upto (shp_prop a) T.n T; exact this.n
      exact (h1.send N a (by rw [hn]; exact ha) true).tellAll N
    · exact h
theorem RT.answer (N : Names RI RP) {T T' : Tr} (h : RT RI RP T T') {m m' : Msg} (hm : RM RI RP m m') (i : Nat) (hi : i < T.n) : RT RI RP (answerF i m T) (answerF i m' T') := by
  have e1 : m'.agreement = m.agreement := by rw [hm.e]
  have e2 : m'.change = m.change := by rw [hm.e]
  have e3 : (m'.v.root = (T'.tell_ i).root) = (m.v.root = (T.tell_ i).root) := propext (N.i.eq hm.v.root (h.tells i hi).root).symm
  have h1 : RT RI RP (if (T.at_ i).role = 2 ∧ m.agreement = true ∧ m.v.root = (T.tell_ i).root ∧ (T.at_ i).state ≠ 2 then sendF i false (forwardF i (T.upd i { T.at_ i with agreed := true })) else T)
      (if (T'.at_ i).role = 2 ∧ m'.agreement = true ∧ m'.v.root = (T'.tell_ i).root ∧ (T'.at_ i).state ≠ 2 then sendF i false (forwardF i (T'.upd i { T'.at_ i with agreed := true })) else T') := by
    rw [(h.ps i).role, (h.ps i).state, e1]
    simp only [e3]
    split
    · have h2 := (h.upd i ((h.ps i).map (fun q => { q with agreed := true }) (fun _ => rfl) (fun _ _ => rfl))).forward i
      have hn := (shp_upd T i { T.at_ i with agreed := true }).n
      have hn2 := (shp_forward i (T.upd i { T.at_ i with agreed := true })).n
      exact h2.send N i (by rw [hn2, hn]; exact hi) false
    · exact h
  unfold answerF
  dsimp only
  rw [e2]
  split
  · exact h1.notice i
  · exact h1
theorem RT.hear (N : Names RI RP) {T T' : Tr} (h : RT RI RP T T') {m m' : Msg} (hm : RM RI RP m m') (i : Nat) (hi : i < T.n) : RT RI RP (hearF i m T) (hearF i m' T') := by
  have e2 : m'.proposal = m.proposal := by rw [hm.e]
  have e3 : m'.age = m.age := by rw [hm.e]
  have e4 : m'.maxAge = m.maxAge := by rw [hm.e]
  have hq := h.ps i
  have ec : ((T'.at_ i).p.has = false ∨ supB m'.v (T'.at_ i).p.told = true) = ((T.at_ i).p.has = false ∨ supB m.v (T.at_ i).p.told = true) := by
    rw [hq.has]
    cases hh : (T.at_ i).p.has with
    | false => simp
    | true => rw [RV.sup N hm.v (hq.t hh)]
  unfold hearF
  simp only [ec]
  split
  · have hx : RQ RI RP (hearP (T.at_ i) m) (hearP (T'.at_ i) m') := by
      refine ⟨hq.i, fun hh => ?_, ?_⟩
      · have hh' : m.age + 256 < m.maxAge := of_decide_eq_true hh
        show RV RI RP (if m.age + 256 < m.maxAge then m.v else v0) (if m'.age + 256 < m'.maxAge then m'.v else v0)
        rw [e3, e4, if_pos hh', if_pos hh']
        exact hm.v
      · have e := hq.e
        generalize T.at_ i = q at e
        generalize T'.at_ i = q' at e
        unfold hearP
        rw [e3, e4]
        rw [e]
    have h1 := (h.upd i hx).again N false
    have hn : (againF false (T.upd i (hearP (T.at_ i) m))).n = T.n := (shp_again false _).n.trans (upd_n _ _ _)
    rw [e2]
    split
    · exact h1.proposed N i (by rw [hn]; exact hi)
    · exact h1
  · exact h
theorem RT.reply (N : Names RI RP) {T T' : Tr} (h : RT RI RP T T') {m m' : Msg} (hm : RM RI RP m m') (i : Nat) (hi : i < T.n) : RT RI RP (replyF i m T) (replyF i m' T') := by
  unfold replyF
  rw [(h.ps i).role, ← RV.bet N (h.tells i hi) hm.v]
  split
  · exact h.send N i hi false
  · exact h
theorem RT.change {T T' : Tr} (h : RT RI RP T T') {m m' : Msg} (hm : RM RI RP m m') (i : Nat) : RT RI RP (changeF i m T) (changeF i m' T') := by
  have e2 : m'.change = m.change := by rw [hm.e]
  unfold changeF
  rw [e2]
  split
  · exact h.notice i
  · exact h
theorem RT.receive (N : Names RI RP) {T T' : Tr} (h : RT RI RP T T') {m m' : Msg} (hm : RM RI RP m m') (x : Int) : RT RI RP (receiveF x m T) (receiveF x m' T') := by
  have e1 : m'.kind = m.kind := by rw [hm.e]
  have e2 : m'.role = m.role := by rw [hm.e]
  unfold receiveF
  rw [h.n, (h.ps x.toNat).up, hm.chk N]
  split
  · rename_i hc
    have hi : x.toNat < T.n := by omega
    have h1 := h.upd x.toNat ((h.ps x.toNat).map (fun q => { q with edge := false }) (fun _ => rfl) (fun _ _ => rfl))
    have hn := upd_n T x.toNat { T.at_ x.toNat with edge := false }
    dsimp only
    rw [e1, e2]
    split
    · exact h1.notice _
    · split
      · exact h1.answer N hm _ (by rw [hn]; exact hi)
      · have h2 := h1.hear N hm x.toNat (by rw [hn]; exact hi)
        have hn2 := (shp_hear x.toNat m (T.upd x.toNat { T.at_ x.toNat with edge := false })).n.trans hn
        exact (h2.reply N hm x.toNat (by rw [hn2]; exact hi)).change hm _
  · exact h
theorem RQ.aged {q q' : TP} (h : RQ RI RP q q') : RQ RI RP (agedP q).1 (agedP q').1 ∧ (agedP q').2 = (agedP q).2 := by
  have hi := h.i
  have ht := h.t
  have e := h.e
  unfold agedP
  dsimp only
  rw [h.has, h.left, h.change]
  split
  · split
    · exact ⟨⟨hi, fun x => (by cases x), by rw [e]⟩, rfl⟩
    · exact ⟨⟨hi, ht, by rw [e]⟩, rfl⟩
  · exact ⟨⟨hi, ht, by rw [e]⟩, rfl⟩
theorem RT.age {X X' : Tr × Bool} (h : RT RI RP X.1 X'.1) (hb : X'.2 = X.2) (i : Nat) : RT RI RP (ageStep i X).1 (ageStep i X').1 ∧ (ageStep i X').2 = (ageStep i X).2 := by
  obtain ⟨h1, h2⟩ := (h.ps i).aged
  unfold ageStep
  exact ⟨h.upd i h1, by dsimp only; rw [hb, h2]⟩
theorem RT.wait {T T' : Tr} (h : RT RI RP T T') (i : Nat) : RT RI RP (waitStep i T) (waitStep i T') := by
  have h1 := h.upd i ((h.ps i).map (fun q => { q with wait := q.wait - 1 }) (fun _ => rfl) (fun _ _ => rfl))
  have h2 := h.upd i ((h.ps i).map (fun q => { q with state := 1, wait := 15 }) (fun _ => rfl) (fun _ _ => rfl))
  unfold waitStep
  dsimp only
  simp only [(h.ps i).role, (h.ps i).state, (h.ps i).wait] at h1 h2 ⊢
  split
  · exact h
  · split
    · exact h1
    · split
      · exact h2
      · exact h1.forward i
theorem RT.helloR (N : Names RI RP) {T T' : Tr} (h : RT RI RP T T') : RT RI RP (helloF T) (helloF T') := by
  unfold helloF
  rw [h.hello]
  split
  · exact RT.tellAll N (T := { T with hello := 2 }) (T' := { T' with hello := 2 }) ⟨h.id, h.n, h.ps, h.vec, h.rp, h.roles, h.tells, rfl, h.outs, h.flush⟩
  · exact ⟨h.id, h.n, h.ps, h.vec, h.rp, h.roles, h.tells, rfl, h.outs, h.flush⟩
theorem RT.tick1 (N : Names RI RP) {T T' : Tr} (h : RT RI RP T T') : RT RI RP (tick1 T) (tick1 T') := by
  obtain ⟨h1, h2⟩ := RT.uptoB (f := ageStep) (fun i X X' h hb => h.age hb i) T.n (X := (T, false)) (X' := (T', false)) h rfl
  unfold _root_.Go.Proofs.Ytjnbjcieepooaac.tick1
  rw [h.n]
  dsimp only
  rw [h2]
  split
  · exact h1.again N false
  · exact h1
theorem RT.tick (N : Names RI RP) {T T' : Tr} (h : RT RI RP T T') : RT RI RP (tickF T) (tickF T') := by
  have h1 := h.tick1 N
  have h2 := RT.upto (f := waitStep) (f' := waitStep) (fun i T T' h => h.wait i) T.n h1
  unfold tickF
  rw [h.n]
  exact h2.helloR N
theorem RT.outsR {T T' : Tr} (h : RT RI RP T T') : RT RI RP (outsF T) (outsF T') := ⟨h.id, h.n, h.ps, h.vec, h.rp, h.roles, h.tells, h.hello, All2.nil _, h.flush⟩
end
end Go.Proofs.Ytjnbjcieepooaac
