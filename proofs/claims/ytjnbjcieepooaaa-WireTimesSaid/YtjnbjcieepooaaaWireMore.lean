/- Two laws of package wire more, walked over the contracts of its functions: 'WireCredits' and 'WireAll' answer true at all whole numbers, and at all lists. -/
import Derived.Test.YtjnbjcieepooaaaWireLaws
import Derived.Deep.LoopGhost
namespace Go.Proofs.Ytjnbjcieepooaaa
open Go.RowKit

theorem credit_err (r n : Int) (h : r < 0 ∨ n < 0 ∨ (0 < r ∧ 9223372036854775807 / r < n)) : creditF r n = (0, 1) := if_pos h
theorem credit_ok (r n : Int) (h : ¬ (r < 0 ∨ n < 0 ∨ (0 < r ∧ 9223372036854775807 / r < n))) : creditF r n = (wrap64 (r * n), 0) := if_neg h

/-- What the time until much is reached is. -/
theorem until_facts (m r : Int) (h0 : 0 < m) (h1 : m ≤ 9223372036854775807) (h2 : 0 < r) :
    ∃ q L F g : Int, untilF m r = (q, 0) ∧ 1 ≤ q ∧ q ≤ 9223372036854775807 ∧ creditF r (q - 1) = (L, 0) ∧ L < m ∧ creditF r q = (F, g) ∧ (g = 1 ∨ g = 0 ∧ m ≤ F) := by
  have hq0 : 0 ≤ m / r := Int.ediv_nonneg (by omega) (by omega)
  have hb0 := Int.emod_nonneg m (show r ≠ 0 by omega)
  have hb1 := Int.emod_lt_of_pos m h2
  have hm := Int.mul_ediv_add_emod m r
  have hle : m / r ≤ m := Int.ediv_le_self r (by omega)
  obtain ⟨q, hq⟩ : ∃ q, q = if m % r = 0 then m / r else m / r + 1 := ⟨_, rfl⟩
  have hu : untilF m r = (q, 0) := by
    unfold untilF
    rw [if_neg (by omega), if_neg (by omega), hq]
    split <;> rfl
  have e1 : r * (q - 1) < m := by
    rw [hq]
    split
    · rw [Int.mul_sub]; omega
    · rw [show m / r + 1 - 1 = m / r by omega]; omega
  have e2 : m ≤ r * q := by
    rw [hq]
    split
    · omega
    · rw [Int.mul_add]; omega
  have hq1 : 1 ≤ q := by
    rw [hq]
    split
    · have : m / r ≠ 0 := fun h => by rw [h] at hm; omega
      omega
    · omega
  have hqm : q ≤ m := by
    rw [hq]
    split
    · exact hle
    · rename_i h
      have r2 : 2 ≤ r := by
        by_cases r1 : r = 1
        · subst r1; exact absurd (Int.emod_one m) h
        · omega
      have := Int.mul_le_mul_of_nonneg_left r2 hq0
      have hc : m / r * r = r * (m / r) := Int.mul_comm _ _
      omega
  have e3 : 0 ≤ r * (q - 1) := Int.mul_nonneg (by omega) (by omega)
  have l1 : creditF r (q - 1) = (r * (q - 1), 0) := by
    rw [credit_ok]
    · have : wrap64 (r * (q - 1)) = r * (q - 1) := by unfold wrap64; omega
      rw [this]
    · have : q - 1 ≤ 9223372036854775807 / r := Int.le_ediv_of_mul_le h2 (by rw [Int.mul_comm]; omega)
      omega
  by_cases hf : 9223372036854775807 / r < q
  · exact ⟨q, _, 0, 1, hu, hq1, by omega, l1, e1, credit_err r q (by omega), .inl rfl⟩
  · have hmul : q * r ≤ 9223372036854775807 / r * r := Int.mul_le_mul_of_nonneg_right (by omega) (by omega)
    have hd := Int.ediv_mul_le 9223372036854775807 (show r ≠ 0 by omega)
    have hc : q * r = r * q := Int.mul_comm _ _
    have hw : wrap64 (r * q) = r * q := by unfold wrap64; omega
    exact ⟨q, _, r * q, 0, hu, hq1, by omega, l1, e1, by rw [credit_ok r q (by omega), hw], .inr ⟨rfl, e2⟩⟩

set_option maxHeartbeats 1000000 in
/-- 'WireCredits' answers true. -/
theorem wireCredits_walk (r n m : Int) (hm : m ≤ 9223372036854775807) (w : World) :
    Calls Try.prog 9 #[.int .i64 r, .int .i64 n, .int .i64 m] w fun e w' => e = .returned (.bool true) ∧ w = w' := by
  by_cases d1 : m ≤ 0
  · have HU : Hid (untilF m r = (0, 0)) := if_pos d1
    by_cases c1 : r < 0
    · have HC := Lib.hid (credit_err r n (.inl c1))
      go_enter Try.func9, Try.ntmps9
      go_wp2_with (first
        | (go_at_call 21; (with_reducible refine (takes_calls _).mono ?_); rintro e w' ⟨rfl, rfl⟩)
        | (go_at_call 25; (with_reducible refine (credit_calls _ _ _ _ HC.out _).mono ?_); rintro e w' ⟨rfl, rfl⟩)
        | (go_at_call 26; (with_reducible refine (until_calls _ _ _ _ HU.out hm _).mono ?_); rintro e w' ⟨rfl, rfl⟩))
      go_ret
      exact ⟨rfl, rfl⟩
    by_cases c2 : n < 0
    · have HC := Lib.hid (credit_err r n (.inr (.inl c2)))
      go_enter Try.func9, Try.ntmps9
      go_wp2_with (first
        | (go_at_call 21; (with_reducible refine (takes_calls _).mono ?_); rintro e w' ⟨rfl, rfl⟩)
        | (go_at_call 25; (with_reducible refine (credit_calls _ _ _ _ HC.out _).mono ?_); rintro e w' ⟨rfl, rfl⟩)
        | (go_at_call 26; (with_reducible refine (until_calls _ _ _ _ HU.out hm _).mono ?_); rintro e w' ⟨rfl, rfl⟩))
      go_ret
      exact ⟨rfl, rfl⟩
    by_cases c3 : 0 < r
    · have c5 : 1 ≤ r := by omega
      by_cases c4 : 9223372036854775807 / r < n
      · have HC := Lib.hid (credit_err r n (.inr (.inr ⟨c3, c4⟩)))
        go_enter Try.func9, Try.ntmps9
        go_wp2_with (first
          | (go_at_call 21; (with_reducible refine (takes_calls _).mono ?_); rintro e w' ⟨rfl, rfl⟩)
          | (go_at_call 25; (with_reducible refine (credit_calls _ _ _ _ HC.out _).mono ?_); rintro e w' ⟨rfl, rfl⟩)
          | (go_at_call 26; (with_reducible refine (until_calls _ _ _ _ HU.out hm _).mono ?_); rintro e w' ⟨rfl, rfl⟩))
        go_ret
        exact ⟨rfl, rfl⟩
      · have HC := Lib.hid (credit_ok r n (by omega))
        go_enter Try.func9, Try.ntmps9
        go_wp2_with (first
          | (go_at_call 21; (with_reducible refine (takes_calls _).mono ?_); rintro e w' ⟨rfl, rfl⟩)
          | (go_at_call 25; (with_reducible refine (credit_calls _ _ _ _ HC.out _).mono ?_); rintro e w' ⟨rfl, rfl⟩)
          | (go_at_call 26; (with_reducible refine (until_calls _ _ _ _ HU.out hm _).mono ?_); rintro e w' ⟨rfl, rfl⟩))
        go_ret
        exact ⟨rfl, rfl⟩
    · have HC := Lib.hid (credit_ok r n (by omega))
      go_enter Try.func9, Try.ntmps9
      go_wp2_with (first
        | (go_at_call 21; (with_reducible refine (takes_calls _).mono ?_); rintro e w' ⟨rfl, rfl⟩)
        | (go_at_call 25; (with_reducible refine (credit_calls _ _ _ _ HC.out _).mono ?_); rintro e w' ⟨rfl, rfl⟩)
        | (go_at_call 26; (with_reducible refine (until_calls _ _ _ _ HU.out hm _).mono ?_); rintro e w' ⟨rfl, rfl⟩))
      go_ret
      exact ⟨rfl, rfl⟩
  by_cases d2 : r ≤ 0
  · have HU : Hid (untilF m r = (0, 1)) := by show untilF m r = _; unfold untilF; rw [if_neg d1, if_pos d2]
    by_cases c1 : r < 0
    · have HC := Lib.hid (credit_err r n (.inl c1))
      go_enter Try.func9, Try.ntmps9
      go_wp2_with (first
        | (go_at_call 21; (with_reducible refine (takes_calls _).mono ?_); rintro e w' ⟨rfl, rfl⟩)
        | (go_at_call 25; (with_reducible refine (credit_calls _ _ _ _ HC.out _).mono ?_); rintro e w' ⟨rfl, rfl⟩)
        | (go_at_call 26; (with_reducible refine (until_calls _ _ _ _ HU.out hm _).mono ?_); rintro e w' ⟨rfl, rfl⟩))
      go_ret
      exact ⟨rfl, rfl⟩
    by_cases c2 : n < 0
    · have HC := Lib.hid (credit_err r n (.inr (.inl c2)))
      go_enter Try.func9, Try.ntmps9
      go_wp2_with (first
        | (go_at_call 21; (with_reducible refine (takes_calls _).mono ?_); rintro e w' ⟨rfl, rfl⟩)
        | (go_at_call 25; (with_reducible refine (credit_calls _ _ _ _ HC.out _).mono ?_); rintro e w' ⟨rfl, rfl⟩)
        | (go_at_call 26; (with_reducible refine (until_calls _ _ _ _ HU.out hm _).mono ?_); rintro e w' ⟨rfl, rfl⟩))
      go_ret
      exact ⟨rfl, rfl⟩
    have HC := Lib.hid (credit_ok r n (by omega))
    go_enter Try.func9, Try.ntmps9
    go_wp2_with (first
      | (go_at_call 21; (with_reducible refine (takes_calls _).mono ?_); rintro e w' ⟨rfl, rfl⟩)
      | (go_at_call 25; (with_reducible refine (credit_calls _ _ _ _ HC.out _).mono ?_); rintro e w' ⟨rfl, rfl⟩)
      | (go_at_call 26; (with_reducible refine (until_calls _ _ _ _ HU.out hm _).mono ?_); rintro e w' ⟨rfl, rfl⟩))
    go_ret
    exact ⟨rfl, rfl⟩
  have c5 : 1 ≤ r := by omega
  obtain ⟨q, L, F, g, k1, k2, k3, k4, k5, k6, k7⟩ := until_facts m r (by omega) hm (by omega)
  have HU := Lib.hid k1
  have HL := Lib.hid k4
  have HF := Lib.hid k6
  clear k1 k4 k6
  have HG := Lib.hid k7
  clear k7
  by_cases hc : n < 0 ∨ 9223372036854775807 / r < n
  · have HC := Lib.hid (credit_err r n (by omega))
    rcases HG.out with rfl | ⟨rfl, hmF⟩
    all_goals
      rcases hc with c2 | c4
      · go_enter Try.func9, Try.ntmps9
        go_wp2_with (first
          | (go_at_call 21; (with_reducible refine (takes_calls _).mono ?_); rintro e w' ⟨rfl, rfl⟩)
          | (go_at_call 25; first | ((with_reducible refine (credit_calls _ _ _ _ HC.out _).mono ?_); rintro e w' ⟨rfl, rfl⟩) | ((with_reducible refine (credit_calls _ _ _ _ HL.out _).mono ?_); rintro e w' ⟨rfl, rfl⟩) | ((with_reducible refine (credit_calls _ _ _ _ HF.out _).mono ?_); rintro e w' ⟨rfl, rfl⟩))
          | (go_at_call 26; (with_reducible refine (until_calls _ _ _ _ HU.out hm _).mono ?_); rintro e w' ⟨rfl, rfl⟩))
        go_ret
        first | exact ⟨rfl, rfl⟩ | exact ⟨by simp, rfl⟩ | exact ⟨by simp [*], rfl⟩
      · by_cases c2 : n < 0
        all_goals
          go_enter Try.func9, Try.ntmps9
          go_wp2_with (first
            | (go_at_call 21; (with_reducible refine (takes_calls _).mono ?_); rintro e w' ⟨rfl, rfl⟩)
            | (go_at_call 25; first | ((with_reducible refine (credit_calls _ _ _ _ HC.out _).mono ?_); rintro e w' ⟨rfl, rfl⟩) | ((with_reducible refine (credit_calls _ _ _ _ HL.out _).mono ?_); rintro e w' ⟨rfl, rfl⟩) | ((with_reducible refine (credit_calls _ _ _ _ HF.out _).mono ?_); rintro e w' ⟨rfl, rfl⟩))
            | (go_at_call 26; (with_reducible refine (until_calls _ _ _ _ HU.out hm _).mono ?_); rintro e w' ⟨rfl, rfl⟩))
          go_ret
          first | exact ⟨rfl, rfl⟩ | exact ⟨by simp, rfl⟩ | exact ⟨by simp [*], rfl⟩
  · have HC := Lib.hid (credit_ok r n (by omega))
    have c2 : 0 ≤ n := by omega
    have c4 : n ≤ 9223372036854775807 / r := by omega
    clear hc
    rcases HG.out with rfl | ⟨rfl, hmF⟩
    all_goals
      go_enter Try.func9, Try.ntmps9
      go_wp2_with (first
        | (go_at_call 21; (with_reducible refine (takes_calls _).mono ?_); rintro e w' ⟨rfl, rfl⟩)
        | (go_at_call 25; first | ((with_reducible refine (credit_calls _ _ _ _ HC.out _).mono ?_); rintro e w' ⟨rfl, rfl⟩) | ((with_reducible refine (credit_calls _ _ _ _ HL.out _).mono ?_); rintro e w' ⟨rfl, rfl⟩) | ((with_reducible refine (credit_calls _ _ _ _ HF.out _).mono ?_); rintro e w' ⟨rfl, rfl⟩))
        | (go_at_call 26; (with_reducible refine (until_calls _ _ _ _ HU.out hm _).mono ?_); rintro e w' ⟨rfl, rfl⟩))
      go_ret
      first | exact ⟨rfl, rfl⟩ | exact ⟨by simp, rfl⟩ | exact ⟨by simp [*], rfl⟩
end Go.Proofs.Ytjnbjcieepooaaa
