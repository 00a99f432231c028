/- What holds of a tree behind each act: its ports' roles and states, and what it tells. -/
import Derived.Test.YtjnbjcieepooaacTInv
namespace Go.Proofs.Ytjnbjcieepooaac
open Go.RowKit
set_option linter.unusedVariables false
set_option linter.unusedSimpArgs false

/-- Ports' roles, states and what they were told are as they were. -/
structure Smp (T U : Tr) : Prop where
  k : Kep T U
  at_ : ∀ i, (U.at_ i).p = (T.at_ i).p ∧ (U.at_ i).role = (T.at_ i).role ∧ (U.at_ i).state = (T.at_ i).state ∧ (U.at_ i).edge = (T.at_ i).edge
theorem Smp.refl (T : Tr) : Smp T T := ⟨Kep.refl T, fun i => ⟨rfl, rfl, rfl, rfl⟩⟩
theorem Smp.trans {T U V : Tr} (a : Smp T U) (b : Smp U V) : Smp T V :=
  ⟨a.k.trans b.k, fun i => ⟨(b.at_ i).1.trans (a.at_ i).1, (b.at_ i).2.1.trans (a.at_ i).2.1, (b.at_ i).2.2.1.trans (a.at_ i).2.2.1, (b.at_ i).2.2.2.trans (a.at_ i).2.2.2⟩⟩
theorem upd_ge (T : Tr) {i : Nat} (x : TP) (h : ¬ i < T.n) : T.upd i x = T := by
  unfold Tr.upd
  rw [List.set_eq_of_length_le (by show T.ps.length ≤ i; have : T.n = T.ps.length := rfl; omega)]
theorem smp_upd (T : Tr) (i : Nat) (x : TP) (h : x.p = (T.at_ i).p ∧ x.role = (T.at_ i).role ∧ x.state = (T.at_ i).state ∧ x.edge = (T.at_ i).edge) : Smp T (T.upd i x) := by
  refine ⟨kep_upd _ _ _, fun j => ?_⟩
  by_cases hi : i < T.n
  · by_cases e : i = j
    · subst e; rw [upd_at T x hi]; exact h
    · rw [upd_ne T x e]; exact ⟨rfl, rfl, rfl, rfl⟩
  · rw [upd_ge T x hi]; exact ⟨rfl, rfl, rfl, rfl⟩
theorem smp_fl (T : Tr) (i : Nat) : Smp T (T.fl i) := ⟨kep_fl _ _, fun j => ⟨rfl, rfl, rfl, rfl⟩⟩
theorem smp_upto {f : Nat → Tr → Tr} (hf : ∀ i T, Smp T (f i T)) (k : Nat) (T : Tr) : Smp T (upto f k T) := by
  induction k with
  | zero => exact Smp.refl _
  | succ k ih => exact ih.trans (hf k _)
theorem smp_changed (a : Nat) (T : Tr) : Smp T (changedF a T) := smp_upto (fun i T => by
  unfold chStep
  split
  · dsimp only
    split
    · exact smp_upd T i { T.at_ i with change := 4 } ⟨rfl, rfl, rfl, rfl⟩
    · exact (smp_upd T i { T.at_ i with change := 4 } ⟨rfl, rfl, rfl, rfl⟩).trans (smp_fl _ _)
  · exact Smp.refl _) _ _
theorem smp_notice (a : Nat) (T : Tr) : Smp T (noticeF a T) := by
  unfold noticeF
  split
  · exact smp_upto (fun i T => by
      unfold noStep
      split
      · exact Smp.refl _
      · exact (smp_fl _ _).trans (smp_upd (T.fl i) i { T.at_ i with change := 4 } ⟨rfl, rfl, rfl, rfl⟩)) _ _
  · exact Smp.refl _
theorem smp_send (i : Nat) (b : Bool) (T : Tr) : Smp T (sendF i b T) := by
  unfold sendF
  split
  · exact ⟨⟨rfl, rfl, rfl, rfl, rfl, rfl, rfl⟩, fun j => ⟨rfl, rfl, rfl, rfl⟩⟩
  · exact Smp.refl _
theorem smp_tellAll (T : Tr) : Smp T (tellAll T) := smp_upto (fun i T => by
  unfold tellStep
  split
  · exact smp_send _ _ _
  · exact Smp.refl _) _ _
/-- A port forwards, all else is as it was. -/
theorem fwd_at (i : Nat) (T : Tr) (hi : i < T.n) : Kep T (forwardF i T) ∧ ∀ j, ((forwardF i T).at_ j).p = (T.at_ j).p ∧ ((forwardF i T).at_ j).role = (T.at_ j).role ∧ ((forwardF i T).at_ j).edge = (T.at_ j).edge ∧ ((forwardF i T).at_ j).state = if j = i then 2 else (T.at_ j).state := by
  refine ⟨kep_forward i T, fun j => ?_⟩
  have h1 : ((T.upd i (fwdP (T.at_ i))).at_ j).p = (T.at_ j).p ∧ ((T.upd i (fwdP (T.at_ i))).at_ j).role = (T.at_ j).role ∧ ((T.upd i (fwdP (T.at_ i))).at_ j).edge = (T.at_ j).edge ∧ ((T.upd i (fwdP (T.at_ i))).at_ j).state = if j = i then 2 else (T.at_ j).state := by
    by_cases e : i = j
    · subst e; rw [upd_at T _ hi, if_pos rfl]; exact ⟨rfl, rfl, rfl, rfl⟩
    · rw [upd_ne T _ e, if_neg (fun h => e h.symm)]; exact ⟨rfl, rfl, rfl, rfl⟩
  unfold forwardF
  dsimp only
  split
  · exact h1
  · have h2 := (smp_changed i (T.upd i (fwdP (T.at_ i)))).at_ j
    exact ⟨h2.1.trans h1.1, h2.2.1.trans h1.2.1, h2.2.2.2.trans h1.2.2.1, h2.2.2.1.trans h1.2.2.2⟩
/-- What the roles' selection makes of a port. -/
def reS (T : Tr) (i : Nat) : Int := if roleF T.id T.qs (selW T) i = (T.at_ i).role then (T.at_ i).state else if roleF T.id T.qs (selW T) i = 2 ∧ (T.at_ i).edge = true then 2 else 0
theorem turn_at (i : Nat) (r : Int) (T : Tr) (hi : i < T.n) (j : Nat) : ((turnF i r T).at_ j).p = (T.at_ j).p ∧ ((turnF i r T).at_ j).edge = (T.at_ j).edge ∧ ((turnF i r T).at_ j).role = (if j = i then r else (T.at_ j).role) ∧ ((turnF i r T).at_ j).state = if j = i then (if r = 2 ∧ (T.at_ j).edge = true then 2 else 0) else (T.at_ j).state := by
  have h1 : ((T.upd i (turnP (T.at_ i) r)).at_ j).p = (T.at_ j).p ∧ ((T.upd i (turnP (T.at_ i) r)).at_ j).edge = (T.at_ j).edge ∧ ((T.upd i (turnP (T.at_ i) r)).at_ j).role = (if j = i then r else (T.at_ j).role) ∧ ((T.upd i (turnP (T.at_ i) r)).at_ j).state = if j = i then (if r = 2 ∧ (T.at_ j).edge = true then 2 else 0) else (T.at_ j).state := by
    by_cases e : i = j
    · subst e; rw [upd_at T _ hi, if_pos rfl, if_pos rfl]; exact ⟨rfl, rfl, rfl, rfl⟩
    · rw [upd_ne T _ e, if_neg (fun h => e h.symm), if_neg (fun h => e h.symm)]; exact ⟨rfl, rfl, rfl, rfl⟩
  unfold turnF
  dsimp only
  split
  · exact h1
  · exact h1
theorem roleS_skip {k : Nat} {X : Tr × Bool} (h : X.1.role_ k = (X.1.at_ k).role) : roleStep k X = X := if_pos h
theorem roleS_do {k : Nat} {X : Tr × Bool} (h : ¬ X.1.role_ k = (X.1.at_ k).role) : roleStep k X = (turnF k (X.1.role_ k) X.1, true) := if_neg h
theorem role_ats (N : Nat) (X0 : Tr × Bool) (h0 : X0.1.n = N) (k : Nat) (hk : k ≤ N) : Kep X0.1 (uptoB roleStep k X0).1 ∧ ∀ j, ((uptoB roleStep k X0).1.at_ j).p = (X0.1.at_ j).p ∧ ((uptoB roleStep k X0).1.at_ j).edge = (X0.1.at_ j).edge ∧ ((uptoB roleStep k X0).1.at_ j).role = (if j < k then X0.1.role_ j else (X0.1.at_ j).role) ∧
    ((uptoB roleStep k X0).1.at_ j).state = if j < k ∧ X0.1.role_ j ≠ (X0.1.at_ j).role then (if X0.1.role_ j = 2 ∧ (X0.1.at_ j).edge = true then 2 else 0) else (X0.1.at_ j).state := by
  induction k with
  | zero => exact ⟨Kep.refl _, fun j => ⟨rfl, rfl, by rw [if_neg (by omega)]; rfl, by rw [if_neg (by omega)]; rfl⟩⟩
  | succ k ih =>
    obtain ⟨hK, ih⟩ := ih (by omega)
    have hrl : (uptoB roleStep k X0).1.role_ k = X0.1.role_ k := by unfold Tr.role_; rw [hK.roles]
    have hkk := ih k
    have hkr : ((uptoB roleStep k X0).1.at_ k).role = (X0.1.at_ k).role := by rw [hkk.2.2.1, if_neg (by omega)]
    have e1 : uptoB roleStep (k + 1) X0 = roleStep k (uptoB roleStep k X0) := rfl
    by_cases hc : X0.1.role_ k = (X0.1.at_ k).role
    · rw [e1, roleS_skip (by rw [hrl, hkr]; exact hc)]
      refine ⟨hK, fun j => ⟨(ih j).1, (ih j).2.1, ?_, ?_⟩⟩
      · rw [(ih j).2.2.1]
        by_cases e : j = k
        · subst e; rw [if_neg (by omega), if_pos (by omega), hc]
        · by_cases g : j < k
          · rw [if_pos g, if_pos (by omega)]
          · rw [if_neg g, if_neg (by omega)]
      · rw [(ih j).2.2.2]
        generalize (if X0.1.role_ j = 2 ∧ (X0.1.at_ j).edge = true then (2 : Int) else 0) = V
        by_cases e : j = k
        · subst e; rw [if_neg (by omega), if_neg (fun h => h.2 hc)]
        · by_cases g : j < k
          · by_cases g2 : X0.1.role_ j ≠ (X0.1.at_ j).role
            · rw [if_pos ⟨g, g2⟩, if_pos ⟨by omega, g2⟩]
            · rw [if_neg (fun h => g2 h.2), if_neg (fun h => g2 h.2)]
          · rw [if_neg (fun h => g h.1), if_neg (fun h => by omega)]
    · rw [e1, roleS_do (by rw [hrl, hkr]; exact hc), hrl]
      have hn : k < (uptoB roleStep k X0).1.n := by rw [hK.n, h0]; omega
      refine ⟨hK.trans (kep_turn _ _ _), fun j => ?_⟩
      have ht := turn_at k (X0.1.role_ k) (uptoB roleStep k X0).1 hn j
      refine ⟨ht.1.trans (ih j).1, ht.2.1.trans (ih j).2.1, ?_, ?_⟩
      · rw [ht.2.2.1]
        by_cases e : j = k
        · subst e; rw [if_pos rfl, if_pos (by omega)]
        · rw [if_neg e, (ih j).2.2.1]
          by_cases g : j < k
          · rw [if_pos g, if_pos (by omega)]
          · rw [if_neg g, if_neg (by omega)]
      · rw [ht.2.2.2]
        by_cases e : j = k
        · subst e; rw [if_pos rfl, (ih j).2.1]
          generalize (if X0.1.role_ j = 2 ∧ (X0.1.at_ j).edge = true then (2 : Int) else 0) = V
          rw [if_pos ⟨by omega, hc⟩]
        · rw [if_neg e, (ih j).2.2.2]
          generalize (if X0.1.role_ j = 2 ∧ (X0.1.at_ j).edge = true then (2 : Int) else 0) = V
          by_cases g : j < k
          · by_cases g2 : X0.1.role_ j ≠ (X0.1.at_ j).role
            · rw [if_pos ⟨g, g2⟩, if_pos ⟨by omega, g2⟩]
            · rw [if_neg (fun h => g2 h.2), if_neg (fun h => g2 h.2)]
          · rw [if_neg (fun h => g h.1), if_neg (fun h => by omega)]
theorem smp_again1 (T : Tr) (b : Bool) : Smp (selF T) (again1 T b).1 := by
  unfold again1
  dsimp only
  split
  · exact smp_upto (f := noAgree) (fun i T => smp_upd T i { T.at_ i with agreed := false } ⟨rfl, rfl, rfl, rfl⟩) _ _
  · exact Smp.refl _
theorem selRole (T : Tr) (i : Nat) (hi : i < T.n) : (selF T).role_ i = roleF T.id T.qs (selW T) i := by
  unfold Tr.role_ selF
  have hi' : i < T.n := hi
  simp [List.getD, hi']
theorem again_at (b : Bool) (T : Tr) : Kep (selF T) (againF b T) ∧ ∀ i, i < T.n → ((againF b T).at_ i).p = (T.at_ i).p ∧ ((againF b T).at_ i).edge = (T.at_ i).edge ∧ ((againF b T).at_ i).role = roleF T.id T.qs (selW T) i ∧ ((againF b T).at_ i).state = if (i : Int) = (selW T).p then 2 else reS T i := by
  refine ⟨kep_again b T, ?_⟩
  have hs := smp_again1 T b
  have hn1 : (again1 T b).1.n = T.n := hs.k.n
  obtain ⟨hk2, h2⟩ := role_ats T.n (again1 T b) hn1 T.n (Nat.le_refl _)
  have e2 : uptoB roleStep T.n (again1 T b) = again2 T b := by unfold again2; rw [hn1]
  rw [e2] at hk2 h2
  have hK2 := hs.k.trans hk2
  have hrp : (again2 T b).1.rp = (selW T).p := hK2.rp
  have hn2 : (again2 T b).1.n = T.n := hK2.n
  have hlt := (wayN_port T.id T.qs T.n).2
  have h3 : ∀ i, i < T.n → ((again2 T b).1.at_ i).p = (T.at_ i).p ∧ ((again2 T b).1.at_ i).edge = (T.at_ i).edge ∧ ((again2 T b).1.at_ i).role = roleF T.id T.qs (selW T) i ∧ ((again2 T b).1.at_ i).state = reS T i := by
    intro i hi
    have h := h2 i
    have g := hs.at_ i
    have hr : (again1 T b).1.role_ i = roleF T.id T.qs (selW T) i := by
      have : (again1 T b).1.role_ i = (selF T).role_ i := by unfold Tr.role_; rw [hs.k.roles]
      rw [this]; exact selRole T i hi
    refine ⟨h.1.trans g.1, h.2.1.trans g.2.2.2, ?_, ?_⟩
    · rw [h.2.2.1, if_pos hi, hr]
    · rw [h.2.2.2, hr, g.2.1, g.2.2.1, g.2.2.2]
      show (if i < T.n ∧ roleF T.id T.qs (selW T) i ≠ (T.at_ i).role then (if roleF T.id T.qs (selW T) i = 2 ∧ (T.at_ i).edge = true then 2 else 0) else (T.at_ i).state) = reS T i
      unfold reS
      by_cases hc : roleF T.id T.qs (selW T) i = (T.at_ i).role
      · rw [if_neg (fun x => x.2 hc), if_pos hc]
      · rw [if_pos ⟨hi, hc⟩, if_neg hc]
  have h4 : ∀ i, i < T.n → ((fwdRoot (again2 T b).1).at_ i).p = (T.at_ i).p ∧ ((fwdRoot (again2 T b).1).at_ i).edge = (T.at_ i).edge ∧ ((fwdRoot (again2 T b).1).at_ i).role = roleF T.id T.qs (selW T) i ∧ ((fwdRoot (again2 T b).1).at_ i).state = if (i : Int) = (selW T).p then 2 else reS T i := by
    intro i hi
    have h := h3 i hi
    unfold fwdRoot
    rw [hrp]
    by_cases hc : 0 ≤ (selW T).p ∧ ((again2 T b).1.at_ (selW T).p.toNat).state ≠ 2
    · rw [if_pos hc]
      have hf := (fwd_at (selW T).p.toNat (again2 T b).1 (by rw [hn2]; have : (selW T).p < (T.n : Int) := hlt; omega)).2 i
      refine ⟨hf.1.trans h.1, hf.2.2.1.trans h.2.1, hf.2.1.trans h.2.2.1, ?_⟩
      rw [hf.2.2.2, h.2.2.2]
      by_cases e : (i : Int) = (selW T).p
      · rw [if_pos (by omega), if_pos e]
      · rw [if_neg (by omega), if_neg e]
    · rw [if_neg hc]
      refine ⟨h.1, h.2.1, h.2.2.1, ?_⟩
      by_cases e : (i : Int) = (selW T).p
      · rw [if_pos e]
        have hi2 : (selW T).p.toNat = i := by omega
        rw [hi2] at hc
        exact Classical.byContradiction fun x => hc ⟨by omega, x⟩
      · rw [if_neg e]; exact h.2.2.2
  rw [show againF b T = if (again2 T b).2 = true then tellAll (fwdRoot (again2 T b).1) else fwdRoot (again2 T b).1 from rfl]
  split
  · intro i hi
    have h := h4 i hi
    have g := (smp_tellAll (fwdRoot (again2 T b).1)).at_ i
    exact ⟨g.1.trans h.1, g.2.2.2.trans h.2.1, g.2.1.trans h.2.2.1, g.2.2.1.trans h.2.2.2⟩
  · exact h4
/-- The port of the best way is up, and was told something. -/
theorem way_has (g : Int) (ps : Nat → RPort) (n : Nat) : (wayN g ps n).p = -1 ∨ (0 ≤ (wayN g ps n).p ∧ (ps (wayN g ps n).p.toNat).up = true ∧ (ps (wayN g ps n).p.toNat).has = true) := by
  induction n with
  | zero => exact .inl rfl
  | succ n ih =>
    by_cases h : takeW g ps (wayN g ps n) n = true
    · rw [way_take h]
      refine .inr ⟨by show (0 : Int) ≤ (n : Int); omega, ?_, ?_⟩
      · show (ps (n : Int).toNat).up = true
        rw [Int.toNat_natCast]
        cases hu : (ps n).up with
        | true => rfl
        | false => rw [take_down hu] at h; cases h
      · show (ps (n : Int).toNat).has = true
        rw [Int.toNat_natCast]
        cases hu : (ps n).has with
        | true => rfl
        | false => rw [take_none hu] at h; cases h
    · have h' : takeW g ps (wayN g ps n) n = false := by simpa using h
      rw [way_skip h']; exact ih
theorem role_root {T : Tr} {i : Nat} (h : (i : Int) = (selW T).p) : roleF T.id T.qs (selW T) i = 1 := by
  rcases way_has T.id T.qs T.n with h1 | ⟨h1, h2, h3⟩
  · have : (selW T).p = -1 := h1
    omega
  · have e : (wayN T.id T.qs T.n).p.toNat = i := by have : (wayN T.id T.qs T.n).p = (selW T).p := rfl; omega
    rw [e] at h2
    unfold roleF ofF
    rw [h2, decide_eq_true h]
    rfl
theorem role_down {T : Tr} {i : Nat} (h : (T.at_ i).p.up = false) : roleF T.id T.qs (selW T) i = 0 := by
  unfold roleF ofF
  have : (T.qs i).up = false := h
  rw [if_pos this]
theorem role_fresh {T : Tr} {i : Nat} (h : (T.at_ i).p.up = true) (h2 : (T.at_ i).p.has = false) : roleF T.id T.qs (selW T) i = 2 ∧ (i : Int) ≠ (selW T).p := by
  have h' : (T.qs i).up = true := h
  have h2' : (T.qs i).has = false := h2
  have hne : (i : Int) ≠ (selW T).p := by
    rcases way_has T.id T.qs T.n with h1 | ⟨h1, _, h3⟩
    · intro e
      have : (selW T).p = -1 := h1
      omega
    · intro e
      have e2 : (wayN T.id T.qs T.n).p.toNat = i := by have : (wayN T.id T.qs T.n).p = (selW T).p := rfl; omega
      rw [e2, h2'] at h3
      cases h3
  refine ⟨?_, hne⟩
  unfold roleF ofF
  rw [if_neg (by rw [h']; simp), if_neg (by simp [hne]), if_pos (.inl h2')]
/-- A port's own part of it. -/
structure PJ (q : TP) : Prop where
  s : 0 ≤ q.state ∧ q.state ≤ 2
  r : q.state ≠ 0 → q.role = 1 ∨ q.role = 2
  d : q.p.up = false → q.p.has = false ∧ q.p.told = v0
/-- What holds behind each act. -/
structure TJ (T : Tr) : Prop where
  ps : ∀ i, i < T.n → PJ (T.at_ i)
  down : ∀ i, i < T.n → (T.at_ i).p.up = false → (T.at_ i).role = 0
  root : ∀ i, i < T.n → (i : Int) = T.rp → (T.at_ i).role = 1 ∧ (T.at_ i).state = 2
  tells : ∀ i, i < T.n → (T.tell_ i).bridge = T.id
def OutJ (n : Nat) (id : Int) (o : OutM) : Prop := chkF o.m = true ∧ 0 ≤ o.port ∧ o.port < (n : Int) ∧ o.m.v.bridge = id
theorem tj_again {T : Tr} (h : ∀ i, i < T.n → PJ (T.at_ i)) (b : Bool) : TJ (againF b T) := by
  obtain ⟨hK, ha⟩ := again_at b T
  have hn : (againF b T).n = T.n := hK.n
  refine ⟨fun i hi => ?_, fun i hi hd => ?_, fun i hi hr => ?_, fun i hi => ?_⟩
  · rw [hn] at hi
    have h1 := ha i hi
    have hq := h i hi
    by_cases e : (i : Int) = (selW T).p
    · refine ⟨by rw [h1.2.2.2, if_pos e]; omega, fun _ => .inl (by rw [h1.2.2.1]; exact role_root e), by rw [h1.1]; exact hq.d⟩
    · refine ⟨?_, ?_, by rw [h1.1]; exact hq.d⟩
      · rw [h1.2.2.2, if_neg e]
        unfold reS
        split
        · exact hq.s
        · split <;> omega
      · rw [h1.2.2.2, if_neg e, h1.2.2.1]
        unfold reS
        split
        · rename_i g; rw [g]; exact hq.r
        · split
          · rename_i g; intro _; exact .inr g.1
          · intro g; exact absurd rfl g
  · rw [hn] at hi
    have h1 := ha i hi
    rw [h1.2.2.1]
    rw [h1.1] at hd
    exact role_down hd
  · rw [hn] at hi
    have h1 := ha i hi
    have e : (i : Int) = (selW T).p := hr.trans hK.rp
    exact ⟨by rw [h1.2.2.1]; exact role_root e, by rw [h1.2.2.2, if_pos e]⟩
  · rw [hn] at hi
    have e : (againF b T).tell_ i = (selF T).tell_ i := by unfold Tr.tell_; rw [hK.tells]
    have hi' : i < T.n := hi
    have e2 : (selF T).tell_ i = tellF T.id T.qs (selW T) i := by
      unfold Tr.tell_ selF
      simp [List.getD, hi']
    rw [e, e2]
    exact hK.id.symm
theorem TJ.smp {T U : Tr} (h : TJ T) (s : Smp T U) : TJ U := by
  have hn := s.k.n
  refine ⟨fun i hi => ?_, fun i hi hd => ?_, fun i hi hr => ?_, fun i hi => ?_⟩
  · rw [hn] at hi
    have g := s.at_ i
    have q := h.ps i hi
    exact ⟨by rw [g.2.2.1]; exact q.s, by rw [g.2.2.1, g.2.1]; exact q.r, by rw [g.1]; exact q.d⟩
  · rw [hn] at hi
    have g := s.at_ i
    rw [g.2.1]; rw [g.1] at hd; exact h.down i hi hd
  · rw [hn] at hi
    have g := s.at_ i
    rw [g.2.1, g.2.2.1]; rw [s.k.rp] at hr; exact h.root i hi hr
  · rw [hn] at hi
    have e : U.tell_ i = T.tell_ i := by unfold Tr.tell_; rw [s.k.tells]
    rw [e, s.k.id]; exact h.tells i hi
/-- A designated port's state may go on. -/
theorem TJ.forward {T : Tr} (h : TJ T) (i : Nat) (hi : i < T.n) (hr : (T.at_ i).role = 2) : TJ (forwardF i T) := by
  obtain ⟨hK, ha⟩ := fwd_at i T hi
  have hn := hK.n
  refine ⟨fun j hj => ?_, fun j hj hd => ?_, fun j hj hp => ?_, fun j hj => ?_⟩
  · rw [hn] at hj
    have g := ha j
    have q := h.ps j hj
    refine ⟨?_, ?_, by rw [g.1]; exact q.d⟩
    · rw [g.2.2.2]; split
      · omega
      · exact q.s
    · rw [g.2.2.2, g.2.1]; split
      · rename_i e; subst e; intro _; exact .inr hr
      · exact q.r
  · rw [hn] at hj
    have g := ha j
    rw [g.2.1]; rw [g.1] at hd; exact h.down j hj hd
  · rw [hn] at hj
    have g := ha j
    rw [hK.rp] at hp
    have := h.root j hj hp
    refine ⟨by rw [g.2.1]; exact this.1, ?_⟩
    rw [g.2.2.2]; split
    · rfl
    · exact this.2
  · rw [hn] at hj
    have e : (forwardF i T).tell_ j = T.tell_ j := by unfold Tr.tell_; rw [hK.tells]
    rw [e, hK.id]; exact h.tells j hj
/-- A designated port's own numbers. -/
theorem TJ.upd2 {T : Tr} (h : TJ T) (i : Nat) (x : TP) (hr : (T.at_ i).role = 2) (hx : x.p = (T.at_ i).p ∧ x.role = (T.at_ i).role ∧ 0 ≤ x.state ∧ x.state ≤ 2) : TJ (T.upd i x) := by
  by_cases hi : i < T.n
  rotate_left
  · rw [upd_ge T x hi]; exact h
  have hK := kep_upd T i x
  have hn := hK.n
  have at_ : ∀ j, (T.upd i x).at_ j = if i = j then x else T.at_ j := fun j => by
    by_cases e : i = j
    · subst e; rw [upd_at T x hi, if_pos rfl]
    · rw [upd_ne T x e, if_neg e]
  refine ⟨fun j hj => ?_, fun j hj hd => ?_, fun j hj hp => ?_, fun j hj => ?_⟩
  · rw [hn] at hj
    rw [at_]
    by_cases e : i = j
    · subst e
      rw [if_pos rfl]
      exact ⟨hx.2.2, fun _ => .inr (by rw [hx.2.1]; exact hr), by rw [hx.1]; exact (h.ps i hj).d⟩
    · rw [if_neg e]; exact h.ps j hj
  · rw [hn] at hj
    rw [at_] at hd ⊢
    by_cases e : i = j
    · subst e
      rw [if_pos rfl] at hd ⊢
      rw [hx.1] at hd
      rw [hx.2.1]; exact h.down i hj hd
    · rw [if_neg e] at hd ⊢; exact h.down j hj hd
  · rw [hn] at hj
    rw [at_]
    by_cases e : i = j
    · subst e
      have := (h.root i hj hp).1
      omega
    · rw [if_neg e]; exact h.root j hj hp
  · rw [hn] at hj
    exact h.tells j hj
end Go.Proofs.Ytjnbjcieepooaac
