/- The credit as time goes on, where no bound is met; the law's own example. -/
import Derived.Test.YtjnbjcieepooaaaCreditB
namespace Go.Proofs.Ytjnbjcieepooaaa
open Go.RowKit
set_option linter.unusedVariables false
set_option linter.unusedSimpArgs false

theorem growF_lin {v r n b : Int} (hr : 1 ≤ r) (hv : v < b) (h : v + r * n ≤ b) : growF v r n b = v + r * n := by
  unfold growF
  rw [if_neg (by omega), if_neg]
  have : n ≤ (b - v) / r := Int.le_ediv_of_mul_le (by omega) (by rw [Int.mul_comm]; omega)
  omega

theorem pass_waits {i p v l t : Int} (hi : 1 ≤ i) (hl : l ≤ t) (hv : v < 1152921504606846976) (h : v + i * (t - l) ≤ 1152921504606846976) : passS ⟨i, p, v, l, 1⟩ t = ⟨i, p, v + i * (t - l), t, 1⟩ := by
  by_cases e : t ≤ l
  · obtain rfl : t = l := by omega
    rw [show passS ⟨i, p, v, t, 1⟩ t = ⟨i, p, v, t, 1⟩ from if_pos (Int.le_refl _), Int.sub_self, Int.mul_zero, Int.add_zero]
  · rw [show passS ⟨i, p, v, l, 1⟩ t = ⟨i, p, growF v i (t - l) 1152921504606846976, t, 1⟩ from if_neg e, growF_lin hi hv h]
theorem pass_sends {i p v l t : Int} (hi : i ≤ p) (hl : l ≤ t) (hv : -1152921504606846976 < v) (h : -1152921504606846976 ≤ v - (p - i) * (t - l)) : passS ⟨i, p, v, l, 2⟩ t = ⟨i, p, v - (p - i) * (t - l), t, 2⟩ := by
  by_cases e : t ≤ l
  · obtain rfl : t = l := by omega
    rw [show passS ⟨i, p, v, t, 2⟩ t = ⟨i, p, v, t, 2⟩ from if_pos (Int.le_refl _), Int.sub_self, Int.mul_zero, Int.sub_zero]
  · by_cases hp : i < p
    · have : passS ⟨i, p, v, l, 2⟩ t = ⟨i, p, -growF (-v) (p - i) (t - l) 1152921504606846976, t, 2⟩ := by
        unfold passS passV
        rw [if_neg e]
        show Sh.mk _ _ (if i < p then _ else _) _ _ = _
        rw [if_pos hp]
      rw [this, growF_lin (by omega) (by omega) (by omega)]
      congr 1
      omega
    · obtain rfl : i = p := by omega
      have : passS ⟨i, i, v, l, 2⟩ t = ⟨i, i, v, t, 2⟩ := by
        unfold passS passV
        rw [if_neg e]
        show Sh.mk _ _ (if i < i then _ else _) _ _ = _
        rw [if_neg (by omega)]
      rw [this, Int.sub_self, Int.zero_mul, Int.sub_zero]
theorem pass_empty {i p v l t : Int} (hi : 1 ≤ i) (hl : l ≤ t) (hv : v ≤ 0) : passS ⟨i, p, v, l, 0⟩ t = ⟨i, p, min (v + i * (t - l)) 0, t, 0⟩ := by
  by_cases e : t ≤ l
  · obtain rfl : t = l := by omega
    rw [show passS ⟨i, p, v, t, 0⟩ t = ⟨i, p, v, t, 0⟩ from if_pos (Int.le_refl _), Int.sub_self, Int.mul_zero, Int.add_zero, Int.min_eq_left hv]
  · rw [show passS ⟨i, p, v, l, 0⟩ t = ⟨i, p, growF v i (t - l) 0, t, 0⟩ from if_neg e]
    congr 1
    by_cases h0 : v = 0
    · subst h0
      have h2 : 0 ≤ i * (t - l) := Int.mul_nonneg (by omega) (by omega)
      rw [show growF 0 i (t - l) 0 = 0 from if_pos (Int.le_refl _)]
      omega
    · by_cases h1 : v + i * (t - l) ≤ 0
      · rw [growF_lin hi (by omega) h1]; omega
      · unfold growF
        rw [if_neg (by omega)]
        split
        · omega
        · rename_i h2
          have := growF_mul (v := v) (r := i) (n := t - l) (b := 0) hi (by omega) (by omega) (by omega)
          omega

theorem Below.step {w W w' : World} {b : Nat} (hb : Below w.heap.size w W) (hf : Fr (· = b) W w') (h : w.heap.size ≤ b) : Below w.heap.size w w' :=
  Below.fr hb hf hb.size fun i _ hi => by omega

def sv0 : Sh := ⟨25, 100, 0, 0, 0⟩
def sv1 : Sh := ⟨25, 100, 0, 0, 2⟩
def sv2 : Sh := ⟨25, 100, -750, 10, 1⟩
def sv3 : Sh := ⟨25, 100, 0, 40, 1⟩
def sv4 : Sh := ⟨25, 100, 0, 50, 0⟩
theorem ok0 : sv0.ok := ⟨by decide, by decide, by decide, by decide, by decide, by decide, by decide, by decide⟩
theorem ok1 : sv1.ok := ⟨by decide, by decide, by decide, by decide, by decide, by decide, by decide, by decide⟩
theorem ok2 : sv2.ok := ⟨by decide, by decide, by decide, by decide, by decide, by decide, by decide, by decide⟩
theorem ok3 : sv3.ok := ⟨by decide, by decide, by decide, by decide, by decide, by decide, by decide, by decide⟩
theorem ok4 : sv4.ok := ⟨by decide, by decide, by decide, by decide, by decide, by decide, by decide, by decide⟩
theorem se0 : passS sv0 0 = sv0 := by rfl
theorem se1 : modeS sv0 2 0 = sv1 := by rfl
theorem se2 : modeS sv1 1 10 = sv2 := by rfl
theorem se3 : passS sv2 10 = sv2 := by rfl
theorem se4 : passS sv2 40 = sv3 := by rfl
theorem se5 : modeS sv3 0 50 = sv4 := by rfl
theorem se6 : passS sv4 50 = sv4 := by rfl
theorem sr0 : decide (0 ≤ (passS sv0 0).value) = true := by rfl
theorem sr2 : decide (0 ≤ (passS sv2 10).value) = false := by rfl
theorem sw2 : whenF (passS sv2 10) 10 = 40 := by rfl
theorem sx2 : (passS sv2 10).value = -750 := by rfl
theorem sx3 : (passS sv2 40).value = 0 := by rfl
theorem sx4 : (passS sv4 50).value = 0 := by rfl

set_option maxHeartbeats 1000000 in
theorem saves_calls (w : World) : Calls Try.prog 27 #[] w fun e w' => e = .returned (.bool true) ∧ Below w.heap.size w w' := by
  go_enter Try.func27, Try.ntmps27
  go_wp2_with (first
    | (go_at_call 28; first
        | ((with_reducible refine (new_ok _ _ (by omega) (by omega) (by omega) _).mono ?_); rintro e w' ⟨rfl, hk, hb⟩; have hk : Blk w' w.heap.size sv0.cells 65 := hk)
        | ((with_reducible refine (new_bad _ _ (by omega) _).mono ?_); rintro e w' ⟨rfl, rfl⟩))
    | (go_at_call 31; first
        | ((with_reducible refine (ready_calls sv0 ok0 _ (by omega) _ sr0 _ _ (by assumption)).mono ?_); rintro e w' ⟨rfl, hk', hf'⟩; rw [se0] at hk'; have hb' := Below.step (by assumption) hf' (Nat.le_refl _); clear hk hb hf'; rename Blk _ _ _ _ => hk; rename Below _ _ _ => hb)
        | ((with_reducible refine (ready_calls sv2 ok2 _ (by omega) _ sr2 _ _ (by assumption)).mono ?_); rintro e w' ⟨rfl, hk', hf'⟩; rw [se3] at hk'; have hb' := Below.step (by assumption) hf' (Nat.le_refl _); clear hk hb hf'; rename Blk _ _ _ _ => hk; rename Below _ _ _ => hb))
    | (go_at_call 32; first
        | ((with_reducible refine (mode_bad sv1 _ _ (by omega) _ _).mono ?_); rintro e w' ⟨rfl, rfl⟩)
        | ((with_reducible refine (mode_calls sv0 ok0 2 0 (by omega) (by omega) (by omega) _ _ (by assumption)).mono ?_); rintro e w' ⟨rfl, hk', hf'⟩; rw [se1] at hk'; have hb' := Below.step (by assumption) hf' (Nat.le_refl _); clear hk hb hf'; rename Blk _ _ _ _ => hk; rename Below _ _ _ => hb)
        | ((with_reducible refine (mode_calls sv1 ok1 1 10 (by omega) (by omega) (by omega) _ _ (by assumption)).mono ?_); rintro e w' ⟨rfl, hk', hf'⟩; rw [se2] at hk'; have hb' := Below.step (by assumption) hf' (Nat.le_refl _); clear hk hb hf'; rename Blk _ _ _ _ => hk; rename Below _ _ _ => hb)
        | ((with_reducible refine (mode_calls sv3 ok3 0 50 (by omega) (by omega) (by omega) _ _ (by assumption)).mono ?_); rintro e w' ⟨rfl, hk', hf'⟩; rw [se5] at hk'; have hb' := Below.step (by assumption) hf' (Nat.le_refl _); clear hk hb hf'; rename Blk _ _ _ _ => hk; rename Below _ _ _ => hb))
    | (go_at_call 34; ((with_reducible refine (when_calls sv2 ok2 10 (by omega) (by omega) (by decide) _ sw2 _ _ (by assumption)).mono ?_); rintro e w' ⟨rfl, hk', hf'⟩; rw [se3] at hk'; have hb' := Below.step (by assumption) hf' (Nat.le_refl _); clear hk hb hf'; rename Blk _ _ _ _ => hk; rename Below _ _ _ => hb))
    | (go_at_call 30; first
        | ((with_reducible refine (value_calls sv2 ok2 10 (by omega) _ sx2 _ _ (by assumption)).mono ?_); rintro e w' ⟨rfl, hk', hf'⟩; rw [se3] at hk'; have hb' := Below.step (by assumption) hf' (Nat.le_refl _); clear hk hb hf'; rename Blk _ _ _ _ => hk; rename Below _ _ _ => hb)
        | ((with_reducible refine (value_calls sv2 ok2 40 (by omega) _ sx3 _ _ (by assumption)).mono ?_); rintro e w' ⟨rfl, hk', hf'⟩; rw [se4] at hk'; have hb' := Below.step (by assumption) hf' (Nat.le_refl _); clear hk hb hf'; rename Blk _ _ _ _ => hk; rename Below _ _ _ => hb)
        | ((with_reducible refine (value_calls sv4 ok4 50 (by omega) _ sx4 _ _ (by assumption)).mono ?_); rintro e w' ⟨rfl, hk', hf'⟩; rw [se6] at hk'; have hb' := Below.step (by assumption) hf' (Nat.le_refl _); clear hk hb hf'; rename Blk _ _ _ _ => hk; rename Below _ _ _ => hb)))
  go_ret
  exact ⟨rfl, by assumption⟩
end Go.Proofs.Ytjnbjcieepooaaa
