/- TreeDown's plain law. -/
import Derived.Test.YtjnbjcieepooaacTJ2
namespace Go.Proofs.Ytjnbjcieepooaac
open Go.RowKit
set_option linter.unusedVariables false
set_option linter.unusedSimpArgs false

theorem PJ.zero {q : TP} (h : PJ q) (hr : q.role = 0) : q.state = 0 := Classical.byContradiction fun g => by
  rcases h.r g with e | e <;> omega
theorem link_do {T : Tr} {i : Nat} (hi : i < T.n) (up : Bool) (h : (T.at_ i).p.up ≠ up) : linkF (i : Int) up T = againF true ((T.upd i (linkP (T.at_ i) up)).fl i) := by
  unfold linkF
  rw [Int.toNat_natCast, if_pos ⟨by omega, by omega, h⟩]
/-- A link that goes down. -/
theorem down_off {T : Tr} (h : TJ T) {i : Nat} (hi : i < T.n) : ((linkF (i : Int) false T).at_ i).p.up = false ∧ ((linkF (i : Int) false T).at_ i).p.has = false ∧ ((linkF (i : Int) false T).at_ i).state = 0 ∧ ((linkF (i : Int) false T).at_ i).role = 0 := by
  by_cases hu : (T.at_ i).p.up = false
  · have e : linkF (i : Int) false T = T := by
      unfold linkF
      rw [Int.toNat_natCast, if_neg (fun g => g.2.2 hu)]
    rw [e]
    have hq := h.ps i hi
    have hr := h.down i hi hu
    exact ⟨hu, (hq.d hu).1, hq.zero hr, hr⟩
  · rw [link_do hi false hu]
    have hn : i < ((T.upd i (linkP (T.at_ i) false)).fl i).n := by show i < (T.upd i (linkP (T.at_ i) false)).n; rw [upd_n]; exact hi
    have ha := (again_at true ((T.upd i (linkP (T.at_ i) false)).fl i)).2 i hn
    have hat : ((T.upd i (linkP (T.at_ i) false)).fl i).at_ i = linkP (T.at_ i) false := upd_at T _ hi
    rw [hat] at ha
    have hr0 : roleF ((T.upd i (linkP (T.at_ i) false)).fl i).id ((T.upd i (linkP (T.at_ i) false)).fl i).qs (selW ((T.upd i (linkP (T.at_ i) false)).fl i)) i = 0 := role_down (by rw [hat]; rfl)
    refine ⟨by rw [ha.1]; rfl, by rw [ha.1]; rfl, ?_, by rw [ha.2.2.1]; exact hr0⟩
    rw [ha.2.2.2, if_neg (fun e => by have := role_root e; omega)]
    unfold reS
    rw [hr0, hat]
    split
    · rename_i g
      exact (h.ps i hi).zero (show (T.at_ i).role = 0 from g.symm)
    · rw [if_neg (by omega)]
/-- And comes up again. -/
theorem down_on {T : Tr} {i : Nat} (hi : i < T.n) (hu : (T.at_ i).p.up = false) (hr : (T.at_ i).role = 0) : ((linkF (i : Int) true T).at_ i).p.up = true ∧ ((linkF (i : Int) true T).at_ i).p.has = false ∧ ((linkF (i : Int) true T).at_ i).p.told = v0 ∧ ((linkF (i : Int) true T).at_ i).role = 2 ∧
    ((linkF (i : Int) true T).at_ i).state = if ((linkF (i : Int) true T).at_ i).edge = true then 2 else 0 := by
  rw [link_do hi true (by rw [hu]; simp)]
  have hn : i < ((T.upd i (linkP (T.at_ i) true)).fl i).n := by show i < (T.upd i (linkP (T.at_ i) true)).n; rw [upd_n]; exact hi
  have ha := (again_at true ((T.upd i (linkP (T.at_ i) true)).fl i)).2 i hn
  have hat : ((T.upd i (linkP (T.at_ i) true)).fl i).at_ i = linkP (T.at_ i) true := upd_at T _ hi
  rw [hat] at ha
  have hf := role_fresh (T := (T.upd i (linkP (T.at_ i) true)).fl i) (i := i) (by rw [hat]; rfl) (by rw [hat]; rfl)
  refine ⟨by rw [ha.1]; rfl, by rw [ha.1]; rfl, by rw [ha.1]; rfl, by rw [ha.2.2.1]; exact hf.1, ?_⟩
  rw [ha.2.2.2, if_neg hf.2, ha.2.1]
  unfold reS
  rw [hf.1, hat, if_neg (by show ¬ (2 : Int) = (T.at_ i).role; omega)]
  simp only [true_and]
end Go.Proofs.Ytjnbjcieepooaac
