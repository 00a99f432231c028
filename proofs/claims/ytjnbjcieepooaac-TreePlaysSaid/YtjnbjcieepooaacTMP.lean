/- What the functions on trees leave as it was: how many ports, the id, how long the lists are; how many messages they add. -/
import Derived.Test.YtjnbjcieepooaacTM
namespace Go.Proofs.Ytjnbjcieepooaac
open Go.RowKit
set_option linter.unusedVariables false
set_option linter.unusedSimpArgs false

/-- As many ports, as long lists, at most so many more messages. -/
structure Shp (T U : Tr) (k : Nat) : Prop where
  n : U.n = T.n
  fl : U.flush.length = T.flush.length
  id : U.id = T.id
  o : U.outs.length ≤ T.outs.length + k
theorem Shp.refl (T : Tr) (k : Nat) : Shp T T k := ⟨rfl, rfl, rfl, by omega⟩
theorem Shp.trans {T U V : Tr} {j k m : Nat} (h : Shp T U j) (g : Shp U V k) (hm : j + k ≤ m) : Shp T V m := ⟨g.n.trans h.n, g.fl.trans h.fl, g.id.trans h.id, by have := h.o; have := g.o; omega⟩
theorem Shp.mono {T U : Tr} {j k : Nat} (h : Shp T U j) (hk : j ≤ k) : Shp T U k := ⟨h.n, h.fl, h.id, by have := h.o; omega⟩
theorem shp_upd (T : Tr) (i : Nat) (x : TP) : Shp T (T.upd i x) 0 := ⟨upd_n T i x, rfl, rfl, Nat.le_refl _⟩
theorem shp_fl (T : Tr) (i : Nat) : Shp T (T.fl i) 0 := ⟨rfl, List.length_set, rfl, Nat.le_refl _⟩
theorem shp_upto {f : Nat → Tr → Tr} {j : Nat} (hf : ∀ i T, Shp T (f i T) j) (k : Nat) (T : Tr) : Shp T (upto f k T) (k * j) := by
  induction k with
  | zero => exact Shp.refl _ _
  | succ k ih => exact ih.trans (hf k _) (by rw [Nat.succ_mul]; omega)
theorem shp_uptoB {f : Nat → Tr × Bool → Tr × Bool} (hf : ∀ i X, Shp X.1 (f i X).1 0) (k : Nat) (X : Tr × Bool) : Shp X.1 (uptoB f k X).1 0 := by
  induction k with
  | zero => exact Shp.refl _ _
  | succ k ih => exact ih.trans (hf k _) (Nat.le_refl _)
theorem shp_ch (a i : Nat) (T : Tr) : Shp T (chStep a i T) 0 := by
  unfold chStep
  split
  · dsimp only
    split
    · exact shp_upd _ _ _
    · exact (shp_upd _ _ _).trans (shp_fl _ _) (Nat.le_refl _)
  · exact Shp.refl _ _
theorem shp_changed (a : Nat) (T : Tr) : Shp T (changedF a T) 0 := by have := shp_upto (shp_ch a) T.n T; rwa [Nat.mul_zero] at this
theorem shp_forward (i : Nat) (T : Tr) : Shp T (forwardF i T) 0 := by
  unfold forwardF
  dsimp only
  split
  · exact shp_upd _ _ _
  · exact (shp_upd _ _ _).trans (shp_changed _ _) (Nat.le_refl _)
theorem shp_turn (i : Nat) (r : Int) (T : Tr) : Shp T (turnF i r T) 0 := by
  unfold turnF
  dsimp only
  split
  · exact shp_upd _ _ _
  · exact (shp_upd _ _ _).trans (shp_fl _ _) (Nat.le_refl _)
theorem shp_no (a i : Nat) (T : Tr) : Shp T (noStep a i T) 0 := by
  unfold noStep
  split
  · exact Shp.refl _ _
  · exact (shp_fl _ _).trans (shp_upd _ _ _) (Nat.le_refl _)
theorem shp_notice (a : Nat) (T : Tr) : Shp T (noticeF a T) 0 := by
  unfold noticeF
  split
  · have := shp_upto (shp_no a) T.n T; rwa [Nat.mul_zero] at this
  · exact Shp.refl _ _
theorem shp_send (i : Nat) (b : Bool) (T : Tr) : Shp T (sendF i b T) 1 := by
  unfold sendF
  split
  · exact ⟨rfl, rfl, rfl, by simp⟩
  · exact Shp.refl _ _
theorem shp_tellStep (i : Nat) (T : Tr) : Shp T (tellStep i T) 1 := by
  unfold tellStep
  split
  · exact shp_send _ _ _
  · exact Shp.refl _ _
theorem shp_tellAll (T : Tr) : Shp T (tellAll T) T.n := by have := shp_upto shp_tellStep T.n T; rwa [Nat.mul_one] at this
theorem shp_sel (T : Tr) : Shp T (selF T) 0 := ⟨rfl, rfl, rfl, Nat.le_refl _⟩
theorem sel_len (T : Tr) : (selF T).roles.length = T.n ∧ (selF T).tells.length = T.n := by unfold selF; simp
theorem shp_noAgree (i : Nat) (T : Tr) : Shp T (noAgree i T) 0 := shp_upd _ _ _
theorem shp_role (i : Nat) (X : Tr × Bool) : Shp X.1 (roleStep i X).1 0 := by
  unfold roleStep
  split
  · exact Shp.refl _ _
  · exact shp_turn _ _ _
theorem shp_again1 (T : Tr) (b : Bool) : Shp T (again1 T b).1 0 := by
  unfold again1
  dsimp only
  split
  · have := shp_upto shp_noAgree (selF T).n (selF T)
    rw [Nat.mul_zero] at this
    exact (shp_sel T).trans this (Nat.le_refl _)
  · exact shp_sel T
theorem shp_again2 (T : Tr) (b : Bool) : Shp T (again2 T b).1 0 := (shp_again1 T b).trans (shp_uptoB shp_role _ _) (Nat.le_refl _)
theorem shp_fwdRoot (T : Tr) : Shp T (fwdRoot T) 0 := by
  unfold fwdRoot
  split
  · exact shp_forward _ _
  · exact Shp.refl _ _
theorem shp_again (b : Bool) (T : Tr) : Shp T (againF b T) T.n := by
  have h := (shp_again2 T b).trans (shp_fwdRoot _) (Nat.le_refl _)
  unfold againF
  dsimp only
  split
  · have := shp_tellAll (fwdRoot (again2 T b).1)
    rw [h.n] at this
    exact h.trans this (by omega)
  · exact h.mono (by omega)
theorem shp_link (x : Int) (up : Bool) (T : Tr) : Shp T (linkF x up T) T.n := by
  unfold linkF
  split
  · have h := (shp_upd T x.toNat (linkP (T.at_ x.toNat) up)).trans (shp_fl _ x.toNat) (Nat.le_refl _)
    have := shp_again true ((T.upd x.toNat (linkP (T.at_ x.toNat) up)).fl x.toNat)
    rw [h.n] at this
    exact h.trans this (by omega)
  · exact Shp.refl _ _
theorem shp_prop (a i : Nat) (T : Tr) : Shp T (propStep a i T) 0 := by
  unfold propStep
  split
  · exact (shp_upd _ _ _).trans (shp_fl _ _) (Nat.le_refl _)
  · exact Shp.refl _ _
theorem shp_proposed (a : Nat) (T : Tr) : Shp T (proposedF a T) (T.n + 1) := by
  unfold proposedF
  split
  · exact (shp_send _ _ _).mono (by omega)
  · split
    · have h := shp_upto (shp_prop a) T.n T
      rw [Nat.mul_zero] at h
      have h2 := h.trans (shp_send a true _) (m := 1) (by omega)
      have h3 := shp_tellAll (sendF a true (upto (propStep a) T.n T))
      rw [h2.n] at h3
      exact h2.trans h3 (by omega)
    · exact Shp.refl _ _
theorem shp_answer (i : Nat) (m : Msg) (T : Tr) : Shp T (answerF i m T) 1 := by
  have h : Shp T (if (T.at_ i).role = 2 ∧ m.agreement = true ∧ m.v.root = (T.tell_ i).root ∧ (T.at_ i).state ≠ 2 then sendF i false (forwardF i (T.upd i { T.at_ i with agreed := true })) else T) 1 := by
    split
    · exact ((shp_upd _ _ _).trans (shp_forward _ _) (Nat.le_refl _)).trans (shp_send _ _ _) (by omega)
    · exact Shp.refl _ _
  unfold answerF
  dsimp only
  split
  · exact h.trans (shp_notice _ _) (by omega)
  · exact h
theorem shp_hear (i : Nat) (m : Msg) (T : Tr) : Shp T (hearF i m T) (2 * T.n + 1) := by
  unfold hearF
  split
  · have h1 := shp_upd T i (hearP (T.at_ i) m)
    have h2 := shp_again false (T.upd i (hearP (T.at_ i) m))
    rw [h1.n] at h2
    have h3 := h1.trans h2 (m := T.n) (by omega)
    dsimp only
    split
    · have h4 := shp_proposed i (againF false (T.upd i (hearP (T.at_ i) m)))
      rw [h3.n] at h4
      exact h3.trans h4 (by omega)
    · exact h3.mono (by omega)
  · exact Shp.refl _ _
theorem shp_reply (i : Nat) (m : Msg) (T : Tr) : Shp T (replyF i m T) 1 := by
  unfold replyF
  split
  · exact shp_send _ _ _
  · exact Shp.refl _ _
theorem shp_change (i : Nat) (m : Msg) (T : Tr) : Shp T (changeF i m T) 0 := by
  unfold changeF
  split
  · exact shp_notice _ _
  · exact Shp.refl _ _
theorem shp_receive (x : Int) (m : Msg) (T : Tr) : Shp T (receiveF x m T) (2 * T.n + 2) := by
  unfold receiveF
  split
  · have h1 := shp_upd T x.toNat { T.at_ x.toNat with edge := false }
    dsimp only
    split
    · exact h1.trans (shp_notice _ _) (by omega)
    · split
      · exact h1.trans (shp_answer _ _ _) (by omega)
      · have h2 := shp_hear x.toNat m (T.upd x.toNat { T.at_ x.toNat with edge := false })
        rw [h1.n] at h2
        exact ((h1.trans h2 (Nat.le_refl _)).trans (shp_reply _ _ _) (Nat.le_refl _)).trans (shp_change _ _ _) (by omega)
  · exact Shp.refl _ _
theorem shp_age (i : Nat) (X : Tr × Bool) : Shp X.1 (ageStep i X).1 0 := shp_upd _ _ _
theorem shp_wait (i : Nat) (T : Tr) : Shp T (waitStep i T) 0 := by
  unfold waitStep
  dsimp only
  split
  · exact Shp.refl _ _
  · split
    · exact shp_upd _ _ _
    · split
      · exact shp_upd _ _ _
      · exact (shp_upd _ _ _).trans (shp_forward _ _) (Nat.le_refl _)
theorem shp_hello (T : Tr) : Shp T (helloF T) T.n := by
  unfold helloF
  split
  · have h := shp_tellAll { T with hello := 2 }
    exact ⟨h.n, h.fl, h.id, h.o⟩
  · exact ⟨rfl, rfl, rfl, by show T.outs.length ≤ _; omega⟩
theorem shp_tick1 (T : Tr) : Shp T (tick1 T) T.n := by
  have h := shp_uptoB shp_age T.n (T, false)
  unfold tick1
  dsimp only
  split
  · have h2 := shp_again false (uptoB ageStep T.n (T, false)).1
    rw [h.n] at h2
    exact h.trans h2 (by show 0 + T.n ≤ _; omega)
  · exact h.mono (by omega)
theorem shp_tick (T : Tr) : Shp T (tickF T) (2 * T.n) := by
  have h := shp_tick1 T
  have h2 := shp_upto shp_wait T.n (tick1 T)
  rw [Nat.mul_zero] at h2
  have h3 := h.trans h2 (m := T.n) (by omega)
  have h4 := shp_hello (upto waitStep T.n (tick1 T))
  rw [h3.n] at h4
  exact h3.trans h4 (by omega)
end Go.Proofs.Ytjnbjcieepooaac
