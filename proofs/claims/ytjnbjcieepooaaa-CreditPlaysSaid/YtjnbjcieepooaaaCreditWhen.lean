/- The law 'CreditWhen': a class that waits may send at the time that is told, and not ahead of it; walked over the contracts of package credit. -/
import Derived.Test.YtjnbjcieepooaaaCreditC
namespace Go.Proofs.Ytjnbjcieepooaaa
open Go.RowKit
set_option linter.unusedVariables false
set_option linter.unusedSimpArgs false

theorem mul_le_of {a b A B : Int} (ha : 0 ≤ a) (hA : a ≤ A) (hb : 0 ≤ b) (hB : b ≤ B) : 0 ≤ a * b ∧ a * b ≤ A * B := by
  have h1 : a * b ≤ A * b := Int.mul_le_mul_of_nonneg_right hA hb
  have h2 : A * b ≤ A * B := Int.mul_le_mul_of_nonneg_left hB (by omega)
  exact ⟨Int.mul_nonneg ha hb, by omega⟩

/-- What is told: the first time at which the credit is not below nothing. -/
theorem when_facts (i p v l : Int) (hi : 1 ≤ i) (hv : v ≤ 0) :
    ∃ n : Int, whenF ⟨i, p, v, l, 1⟩ l = l + n ∧ 0 ≤ n ∧ (v = 0 → n = 0) ∧ n ≤ -v ∧ 0 ≤ v + i * n ∧ v + i * n < i ∧ (0 < n → v + i * (n - 1) < 0) := by
  unfold whenF
  simp only [Int.max_self]
  by_cases h0 : 0 ≤ v
  · obtain rfl : v = 0 := by omega
    exact ⟨0, by simp, by omega, fun _ => rfl, by omega, by simp, by simp; omega, fun h => by omega⟩
  · rw [if_neg h0]
    have hm := Int.mul_ediv_add_emod (-v) i
    have hr0 := Int.emod_nonneg (-v) (show i ≠ 0 by omega)
    have hr1 := Int.emod_lt_of_pos (-v) (show 0 < i by omega)
    have hq0 : 0 ≤ -v / i := Int.ediv_nonneg (by omega) (by omega)
    have hq1 : -v / i ≤ -v := Int.ediv_le_self i (by omega)
    by_cases hr : -v % i = 0
    · refine ⟨-v / i, by rw [if_pos hr], hq0, fun h => by omega, hq1, by omega, by omega, fun _ => ?_⟩
      rw [Int.mul_sub]; omega
    · have hq2 : -v / i + 1 ≤ -v := by
        by_cases i1 : i = 1
        · subst i1; exact absurd (Int.emod_one (-v)) hr
        · have := Int.mul_le_mul_of_nonneg_left (show (2 : Int) ≤ i by omega) hq0
          have hc : -v / i * i = i * (-v / i) := Int.mul_comm _ _
          omega
      refine ⟨-v / i + 1, by rw [if_neg hr], by omega, fun h => by omega, hq2, ?_, ?_, fun _ => ?_⟩
      · rw [Int.mul_add]; omega
      · rw [Int.mul_add]; omega
      · rw [show -v / i + 1 - 1 = -v / i by omega]; omega

set_option maxHeartbeats 2000000 in
/-- 'CreditWhen' answers true. -/
theorem creditWhen_any (w : World) (i p s : Int) :
    Calls Try.prog 12 #[.int .i64 i, .int .i64 p, .int .i64 s] w fun e w' => e = .returned (.bool true) ∧ Below w.heap.size w w' := by
  by_cases h1 : i < 1
  · go_enter Try.func12, Try.ntmps12
    go_wp2_with (go_at_call 27; (with_reducible refine (saves_calls _).mono ?_); rintro e w' ⟨rfl, hb⟩)
    go_ret
    exact ⟨rfl, by assumption⟩
  by_cases h2 : 10000000000 < p
  · go_enter Try.func12, Try.ntmps12
    go_wp2_with (go_at_call 27; (with_reducible refine (saves_calls _).mono ?_); rintro e w' ⟨rfl, hb⟩)
    go_ret
    exact ⟨rfl, by assumption⟩
  by_cases h3 : p < i
  · go_enter Try.func12, Try.ntmps12
    go_wp2_with (go_at_call 27; (with_reducible refine (saves_calls _).mono ?_); rintro e w' ⟨rfl, hb⟩)
    go_ret
    exact ⟨rfl, by assumption⟩
  by_cases h4 : s < 0
  · go_enter Try.func12, Try.ntmps12
    go_wp2_with (go_at_call 27; (with_reducible refine (saves_calls _).mono ?_); rintro e w' ⟨rfl, hb⟩)
    go_ret
    exact ⟨rfl, by assumption⟩
  by_cases h5 : 100000 < s
  · go_enter Try.func12, Try.ntmps12
    go_wp2_with (go_at_call 27; (with_reducible refine (saves_calls _).mono ?_); rintro e w' ⟨rfl, hb⟩)
    go_ret
    exact ⟨rfl, by assumption⟩
  have i1 : 1 ≤ i := by omega
  have i2 : i ≤ p := by omega
  have i3 : p ≤ 10000000000 := by omega
  have s1 : 0 ≤ s := by omega
  have s2 : s ≤ 100000 := by omega
  clear h1 h2 h3 h4 h5
  obtain ⟨V, hV⟩ : ∃ V, V = (p - i) * s := ⟨_, rfl⟩
  have hVb := mul_le_of (show 0 ≤ p - i by omega) (show p - i ≤ 10000000000 by omega) s1 s2
  rw [← hV] at hVb
  have v1 := hVb.1
  have v2 : V ≤ 1000000000000000 := by omega
  have hS0 : Hid (∀ m, 0 ≤ m → m ≤ 2 → (Sh.mk i p 0 0 m).ok) := fun m m1 m2 => ⟨i1, i2, i3, by show -1152921504606846976 ≤ (0 : Int); omega, by show (0 : Int) ≤ 1152921504606846976; omega, by show (0 : Int) ≤ 0; omega, m1, m2⟩
  have hS2 : Hid (∀ v t, -1152921504606846976 ≤ v → v ≤ 1152921504606846976 → 0 ≤ t → (Sh.mk i p v t 1).ok) := fun v t a1 a2 a3 => ⟨i1, i2, i3, a1, a2, a3, by show (0 : Int) ≤ 1; omega, by show (1 : Int) ≤ 2; omega⟩
  have e1 : Hid (modeS ⟨i, p, 0, 0, 0⟩ 2 0 = ⟨i, p, 0, 0, 2⟩) := by
    show modeS _ _ _ = _
    unfold modeS
    rw [show passS ⟨i, p, 0, 0, 0⟩ 0 = ⟨i, p, 0, 0, 0⟩ from rfl]
    rfl
  have e2 : Hid (modeS ⟨i, p, 0, 0, 2⟩ 1 s = ⟨i, p, -V, s, 1⟩) := by
    show modeS _ _ _ = _
    unfold modeS
    rw [pass_sends i2 s1 (by omega) (by rw [Int.sub_zero, ← hV]; omega), Int.sub_zero, ← hV]
    simp only [Int.zero_sub]
    rfl
  have e3 : Hid (passS ⟨i, p, -V, s, 1⟩ s = ⟨i, p, -V, s, 1⟩) := if_pos (Int.le_refl s)
  obtain ⟨n, n1, n2, n3, n4, n5, n6, n7⟩ := when_facts i p (-V) s i1 (by omega)
  rw [Int.neg_neg] at n4
  have HN1 := Lib.hid n1
  have HV := Lib.hid hV
  have e4 : Hid (whenF (passS ⟨i, p, -V, s, 1⟩ s) s = s + n) := by show whenF _ _ = _; rw [e3.out]; exact n1
  have hip : i = p → Hid (n = 0) := fun h => n3 (by rw [hV, ← h, Int.sub_self, Int.zero_mul]; rfl)
  have HIP := Lib.hid hip
  have HN5 := Lib.hid n5
  have HN6 := Lib.hid n6
  have HN7 := Lib.hid n7
  clear n1 n3 n5 n6 n7 hV hVb hip
  have ht2 : (Sh.mk i p (-V) s 1).last ≤ 4611686018427387904 := by show s ≤ 4611686018427387904; omega
  by_cases hn : n = 0
  · subst hn
    have e5 : Hid (decide (0 ≤ (passS ⟨i, p, -V, s, 1⟩ s).value) = true) := by
      show decide _ = true
      rw [e3.out]
      have := HN5.out
      rw [Int.mul_zero] at this
      exact decide_eq_true (by show 0 ≤ -V; omega)
    rw [Int.add_zero] at e4
    cases hc : (i == p)
    all_goals
      go_enter Try.func12, Try.ntmps12
      go_wp2_with (first
        | (go_at_call 27; (with_reducible refine (saves_calls _).mono ?_); rintro e w' ⟨rfl, hb⟩; have hge := hb.size)
        | (go_at_call 28; (with_reducible refine (new_ok _ _ i1 i3 i2 _).mono ?_); rintro e w' ⟨rfl, hk, hb1⟩; have hb' := hb.trans (hb1.mono hge); clear hb hb1; rename Below _ _ _ => hb)
        | (go_at_call 32; first
            | ((with_reducible refine (mode_calls _ (hS0.out 0 (by omega) (by omega)) 2 0 (by omega) (by omega) (by omega) _ _ (by assumption)).mono ?_); rintro e w' ⟨rfl, hk', hf'⟩; rw [e1.out] at hk'; have hb' := Below.step (by assumption) hf' (by assumption); clear hk hb hf'; rename Blk _ _ _ _ => hk; rename Below _ _ _ => hb)
            | ((with_reducible refine (mode_calls _ (hS0.out 2 (by omega) (by omega)) 1 s (by omega) (by omega) (by omega) _ _ (by assumption)).mono ?_); rintro e w' ⟨rfl, hk', hf'⟩; rw [e2.out] at hk'; have hb' := Below.step (by assumption) hf' (by assumption); clear hk hb hf'; rename Blk _ _ _ _ => hk; rename Below _ _ _ => hb))
        | (go_at_call 34; (with_reducible refine (when_calls _ (hS2.out (-V) s (by omega) (by omega) s1) s s1 (by omega) ht2 _ e4.out _ _ (by assumption)).mono ?_); rintro e w' ⟨rfl, hk', hf'⟩; rw [e3.out] at hk'; have hb' := Below.step (by assumption) hf' (by assumption); clear hk hb hf'; rename Blk _ _ _ _ => hk; rename Below _ _ _ => hb)
        | (go_at_call 31; (with_reducible refine (ready_calls _ (hS2.out (-V) s (by omega) (by omega) s1) s (by omega) _ e5.out _ _ (by assumption)).mono ?_); rintro e w' ⟨rfl, hk', hf'⟩; have hb' := Below.step (by assumption) hf' (by assumption); clear hk hb hf'; rename Blk _ _ _ _ => hk; rename Below _ _ _ => hb))
      go_ret
      exact ⟨rfl, by assumption⟩
  · have hc : (i == p) = false := by
      rw [beq_eq_false_iff_ne]
      exact fun h => hn (HIP.out h).out
    obtain ⟨t, ht⟩ : ∃ t, t = s + n := ⟨_, rfl⟩
    have hnt : n = t - s := by omega
    rw [← ht] at e4
    obtain ⟨U, hU⟩ : ∃ U, U = -V + i * (n - 1) := ⟨_, rfl⟩
    have hmul : i * n = i * (n - 1) + i := by rw [Int.mul_sub]; omega
    have hm0 : 0 ≤ i * (n - 1) := Int.mul_nonneg (by omega) (by omega)
    have k5 := HN5.out
    have k6 := HN6.out
    have k7 := HN7.out (by omega)
    have e7 : Hid (passS ⟨i, p, -V, s, 1⟩ (t - 1) = ⟨i, p, U, t - 1, 1⟩) := by
      show passS _ _ = _
      rw [pass_waits i1 (by omega) (by omega) (by rw [show t - 1 - s = n - 1 by omega]; omega), show t - 1 - s = n - 1 by omega, ← hU]
    have e6 : Hid (decide (0 ≤ (passS ⟨i, p, -V, s, 1⟩ (t - 1)).value) = false) := by
      show decide _ = false
      rw [e7.out]
      exact decide_eq_false (by show ¬ 0 ≤ U; omega)
    have e8 : Hid (decide (0 ≤ (passS ⟨i, p, U, t - 1, 1⟩ t).value) = true) := by
      show decide _ = true
      rw [pass_waits i1 (by omega) (by omega) (by rw [show t - (t - 1) = 1 by omega]; omega)]
      exact decide_eq_true (by show 0 ≤ U + i * (t - (t - 1)); rw [show t - (t - 1) = 1 by omega]; omega)
    have t1 : s < t := by omega
    have t2 : t ≤ 1000000000100000 := by omega
    have u1 : -1000000000000000 ≤ U := by omega
    have u2 : U < 0 := by omega
    clear ht hnt hU hmul hm0 k5 k6 k7 hn n2 n4
    go_enter Try.func12, Try.ntmps12
    go_wp2_with (first
      | (go_at_call 27; (with_reducible refine (saves_calls _).mono ?_); rintro e w' ⟨rfl, hb⟩; have hge := hb.size)
      | (go_at_call 28; (with_reducible refine (new_ok _ _ i1 i3 i2 _).mono ?_); rintro e w' ⟨rfl, hk, hb1⟩; have hb' := hb.trans (hb1.mono hge); clear hb hb1; rename Below _ _ _ => hb)
      | (go_at_call 32; first
          | ((with_reducible refine (mode_calls _ (hS0.out 0 (by omega) (by omega)) 2 0 (by omega) (by omega) (by omega) _ _ (by assumption)).mono ?_); rintro e w' ⟨rfl, hk', hf'⟩; rw [e1.out] at hk'; have hb' := Below.step (by assumption) hf' (by assumption); clear hk hb hf'; rename Blk _ _ _ _ => hk; rename Below _ _ _ => hb)
          | ((with_reducible refine (mode_calls _ (hS0.out 2 (by omega) (by omega)) 1 s (by omega) (by omega) (by omega) _ _ (by assumption)).mono ?_); rintro e w' ⟨rfl, hk', hf'⟩; rw [e2.out] at hk'; have hb' := Below.step (by assumption) hf' (by assumption); clear hk hb hf'; rename Blk _ _ _ _ => hk; rename Below _ _ _ => hb))
      | (go_at_call 34; (with_reducible refine (when_calls _ (hS2.out (-V) s (by omega) (by omega) s1) s s1 (by omega) ht2 _ e4.out _ _ (by assumption)).mono ?_); rintro e w' ⟨rfl, hk', hf'⟩; rw [e3.out] at hk'; have hb' := Below.step (by assumption) hf' (by assumption); clear hk hb hf'; rename Blk _ _ _ _ => hk; rename Below _ _ _ => hb)
      | (go_at_call 31; first | ((with_reducible refine (ready_calls _ (hS2.out (-V) s (by omega) (by omega) s1) (t - 1) (by omega) _ e6.out _ _ (by assumption)).mono ?_); rintro e w' ⟨rfl, hk', hf'⟩; rw [e7.out] at hk'; have hb' := Below.step (by assumption) hf' (by assumption); clear hk hb hf'; rename Blk _ _ _ _ => hk; rename Below _ _ _ => hb) | ((with_reducible refine (ready_calls _ (hS2.out U (t - 1) (by omega) (by omega) (by omega)) t (by omega) _ e8.out _ _ (by assumption)).mono ?_); rintro e w' ⟨rfl, hk', hf'⟩; have hb' := Below.step (by assumption) hf' (by assumption); clear hk hb hf'; rename Blk _ _ _ _ => hk; rename Below _ _ _ => hb)))
    go_ret
    exact ⟨rfl, by assumption⟩

namespace creditWhen
theorem creditWhen_walk (w : World) (i : Int) (_ : (Lit.int .i64 i).wf = true) (p : Int) (_ : (Lit.int .i64 p).wf = true) (s : Int) (_ : (Lit.int .i64 s).wf = true) :
    Calls Try.prog 12 #[.int .i64 i, .int .i64 p, .int .i64 s] w fun e w' => e = .returned (.bool true) ∧ Below w.heap.size w w' := creditWhen_any w i p s
end creditWhen
end Go.Proofs.Ytjnbjcieepooaaa
