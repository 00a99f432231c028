/- The order of vectors: plain facts, no program. -/
import Derived.Test.YtjnbjcieepooaacVector
namespace Go.Proofs.Ytjnbjcieepooaac
open Go.RowKit
set_option linter.unusedVariables false
set_option linter.unusedSimpArgs false

theorem ordI_lt {a b : Int} (h : a < b) : ordI a b = -1 := if_pos h
theorem ordI_gt {a b : Int} (h : b < a) : ordI a b = 1 := by unfold ordI; rw [if_neg (by omega), if_pos h]
theorem ordI_eq (a : Int) : ordI a a = 0 := by unfold ordI; rw [if_neg (by omega), if_neg (by omega)]
theorem ordI_ne {a b : Int} (h : a ≠ b) : ordI a b ≠ 0 := by unfold ordI; split; omega; split; omega; omega

theorem cmp_root {a b : Vec} (h : a.root ≠ b.root) : cmpV a b = ordI a.root b.root := by
  unfold cmpV first4; exact if_pos (ordI_ne h)
theorem cmp_cost {a b : Vec} (h1 : a.root = b.root) (h : a.cost ≠ b.cost) : cmpV a b = ordI a.cost b.cost := by
  unfold cmpV first4
  rw [if_neg (by show ¬ ordI a.root b.root ≠ 0; rw [h1, ordI_eq]; simp)]
  exact if_pos (ordI_ne h)
theorem cmp_bridge {a b : Vec} (h1 : a.root = b.root) (h2 : a.cost = b.cost) (h : a.bridge ≠ b.bridge) : cmpV a b = ordI a.bridge b.bridge := by
  unfold cmpV first4
  rw [if_neg (by show ¬ ordI a.root b.root ≠ 0; rw [h1, ordI_eq]; simp), if_neg (by show ¬ ordI a.cost b.cost ≠ 0; rw [h2, ordI_eq]; simp)]
  exact if_pos (ordI_ne h)
theorem cmp_port {a b : Vec} (h1 : a.root = b.root) (h2 : a.cost = b.cost) (h3 : a.bridge = b.bridge) : cmpV a b = ordI a.port b.port := by
  unfold cmpV first4
  rw [if_neg (by show ¬ ordI a.root b.root ≠ 0; rw [h1, ordI_eq]; simp), if_neg (by show ¬ ordI a.cost b.cost ≠ 0; rw [h2, ordI_eq]; simp), if_neg (by show ¬ ordI a.bridge b.bridge ≠ 0; rw [h3, ordI_eq]; simp)]
  by_cases h : a.port = b.port
  · rw [if_neg (by show ¬ ordI a.port b.port ≠ 0; rw [h, ordI_eq]; simp), h, ordI_eq]
  · exact if_pos (ordI_ne h)
theorem cmp_self (a : Vec) : cmpV a a = 0 := by rw [cmp_port rfl rfl rfl, ordI_eq]

/-- Better, in words. -/
def Bet (a b : Vec) : Prop := a.root < b.root ∨ a.root = b.root ∧ (a.cost < b.cost ∨ a.cost = b.cost ∧ (a.bridge < b.bridge ∨ a.bridge = b.bridge ∧ a.port < b.port))

theorem cmp_all (a b : Vec) : (cmpV a b = -1 ∧ Bet a b) ∨ (cmpV a b = 1 ∧ Bet b a) ∨ (cmpV a b = 0 ∧ a = b) := by
  by_cases h1 : a.root = b.root
  · by_cases h2 : a.cost = b.cost
    · by_cases h3 : a.bridge = b.bridge
      · by_cases h4 : a.port = b.port
        · right; right
          have : a = b := Vec.ext' h1 h2 h3 h4
          subst this
          exact ⟨cmp_self a, rfl⟩
        · rw [cmp_port h1 h2 h3]
          by_cases h : a.port < b.port
          · exact .inl ⟨ordI_lt h, .inr ⟨h1, .inr ⟨h2, .inr ⟨h3, h⟩⟩⟩⟩
          · exact .inr (.inl ⟨ordI_gt (by omega), .inr ⟨h1.symm, .inr ⟨h2.symm, .inr ⟨h3.symm, by omega⟩⟩⟩⟩)
      · rw [cmp_bridge h1 h2 h3]
        by_cases h : a.bridge < b.bridge
        · exact .inl ⟨ordI_lt h, .inr ⟨h1, .inr ⟨h2, .inl h⟩⟩⟩
        · exact .inr (.inl ⟨ordI_gt (by omega), .inr ⟨h1.symm, .inr ⟨h2.symm, .inl (by omega)⟩⟩⟩)
    · rw [cmp_cost h1 h2]
      by_cases h : a.cost < b.cost
      · exact .inl ⟨ordI_lt h, .inr ⟨h1, .inl h⟩⟩
      · exact .inr (.inl ⟨ordI_gt (by omega), .inr ⟨h1.symm, .inl (by omega)⟩⟩)
  · rw [cmp_root h1]
    by_cases h : a.root < b.root
    · exact .inl ⟨ordI_lt h, .inl h⟩
    · exact .inr (.inl ⟨ordI_gt (by omega), .inl (by omega)⟩)

theorem Bet.irrefl {a : Vec} (h : Bet a a) : False := by unfold Bet at h; omega
theorem Bet.asymm {a b : Vec} (h : Bet a b) (k : Bet b a) : False := by unfold Bet at h k; omega
theorem Bet.trans {a b c : Vec} (h : Bet a b) (k : Bet b c) : Bet a c := by unfold Bet at h k ⊢; omega
theorem Bet.ne {a b : Vec} (h : Bet a b) : a ≠ b := fun e => by subst e; exact h.irrefl
theorem bet_total (a b : Vec) : Bet a b ∨ Bet b a ∨ a = b := by
  rcases cmp_all a b with h | h | h
  · exact .inl h.2
  · exact .inr (.inl h.2)
  · exact .inr (.inr h.2)
theorem betB_iff (a b : Vec) : betB a b = true ↔ Bet a b := by
  unfold betB
  rw [decide_eq_true_iff]
  rcases cmp_all a b with ⟨h, k⟩ | ⟨h, k⟩ | ⟨h, k⟩
  · rw [h]; exact ⟨fun _ => k, fun _ => by omega⟩
  · rw [h]; exact ⟨fun x => by omega, fun x => (x.asymm k).elim⟩
  · rw [h]; subst k; exact ⟨fun x => by omega, fun x => x.irrefl.elim⟩
theorem betB_false (a b : Vec) : betB a b = false ↔ ¬ Bet a b := by rw [← betB_iff]; simp
theorem cmp_lt {a b : Vec} (h : Bet a b) : cmpV a b = -1 := by
  rcases cmp_all a b with ⟨h', _⟩ | ⟨_, k⟩ | ⟨_, k⟩
  · exact h'
  · exact (h.asymm k).elim
  · exact (h.ne k).elim
theorem cmp_gt {a b : Vec} (h : Bet b a) : cmpV a b = 1 := by
  rcases cmp_all a b with ⟨_, k⟩ | ⟨h', _⟩ | ⟨_, k⟩
  · exact (h.asymm k).elim
  · exact h'
  · exact (h.ne k.symm).elim
end Go.Proofs.Ytjnbjcieepooaac
