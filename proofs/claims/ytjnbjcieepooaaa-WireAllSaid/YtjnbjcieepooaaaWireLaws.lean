/- The laws of package wire, each walked over the contracts of its functions: each answers true at all whole numbers. -/
import Derived.Test.YtjnbjcieepooaaaWire
import Derived.Deep.DeepCutAuto
namespace Go.Proofs.Ytjnbjcieepooaaa
open Go.RowKit

theorem fit64 {n : Int} (h : FitOK 672 1000 n) : n = 64 := by
  have hs : speedB 1000 = true := rfl
  have h1 := h.low
  have h2 := h.high
  have h3 := h.fits hs
  have h4 := h.more hs
  by_cases h0 : 0 ≤ n
  · have h3 := h3 h0
    rw [time_eq n 1000 hs h0 h2] at h3
    simp only at h3
    have : n < 1522 := by omega
    have h4 := h4 this
    rw [time_eq (n + 1) 1000 hs (by omega) (by omega)] at h4
    simp only at h4
    omega
  · have : n = -1 := by omega
    subst this
    have h4 := h4 (by omega)
    rw [time_eq _ 1000 hs (by omega) (by omega)] at h4
    simp only at h4
    omega

theorem takes_calls (w : World) : Calls Try.prog 21 #[] w fun e w' => e = .returned (.bool true) ∧ w = w' := by
  have h1 : Hid (timeF 64 10 = (67200, 0)) := rfl
  have h2 : Hid (timeF 64 1000 = (672, 0)) := rfl
  have h3 : Hid (timeF 65 10000 = (68, 0)) := rfl
  have h4 : Hid (timeF 64 99 = (0, 1)) := rfl
  have h5 : Hid (afterF 5 6 = (11, 0)) := rfl
  have h6 : Hid (untilF 7 2 = (4, 0)) := rfl
  have h7 : Hid (creditF 3 4 = (12, 0)) := (by decide +kernel : creditF 3 4 = (12, 0))
  have h8 : Hid (speedB 100 = true) := rfl
  have h9 : Hid (speedB 0 = false) := rfl
  go_enter Try.func21, Try.ntmps21
  go_wp2_with (first
    | (go_at_call 19; first | ((with_reducible refine (time_calls _ _ _ _ h1.out _).mono ?_); rintro e w' ⟨rfl, rfl⟩) | ((with_reducible refine (time_calls _ _ _ _ h2.out _).mono ?_); rintro e w' ⟨rfl, rfl⟩) | ((with_reducible refine (time_calls _ _ _ _ h3.out _).mono ?_); rintro e w' ⟨rfl, rfl⟩) | ((with_reducible refine (time_calls _ _ _ _ h4.out _).mono ?_); rintro e w' ⟨rfl, rfl⟩))
    | (go_at_call 24; (with_reducible refine (after_calls _ _ _ _ h5.out (by omega) _).mono ?_); rintro e w' ⟨rfl, rfl⟩)
    | (go_at_call 26; (with_reducible refine (until_calls _ _ _ _ h6.out (by omega) _).mono ?_); rintro e w' ⟨rfl, rfl⟩)
    | (go_at_call 25; (with_reducible refine (credit_calls _ _ _ _ h7.out _).mono ?_); rintro e w' ⟨rfl, rfl⟩)
    | (go_at_call 22; first | ((with_reducible refine (speed_calls _ _ h8.out _).mono ?_); rintro e w' ⟨rfl, rfl⟩) | ((with_reducible refine (speed_calls _ _ h9.out _).mono ?_); rintro e w' ⟨rfl, rfl⟩))
    | (go_at_call 23; (with_reducible refine (fit_calls _ _ _).mono ?_); rintro e w' ⟨⟨n, hn, rfl⟩, rfl⟩; obtain rfl := fit64 hn; clear hn))
  go_ret
  exact ⟨rfl, rfl⟩

/-- 'WireTimes' answers true. -/
theorem wireTimes_walk (a s : Int) (h1 : -9223372036854775808 ≤ a) (h2 : a ≤ 9223372036854775807) (w : World) :
    Calls Try.prog 6 #[.int .i64 a, .int .i64 s] w fun e w' => e = .returned (.bool true) ∧ w = w' := by
  by_cases hs : s = 10 ∨ s = 100 ∨ s = 1000 ∨ s = 10000
  · have hb := (speedB_iff s).2 hs
    have HB := Lib.hid hb
    by_cases hg : 0 ≤ a ∧ a ≤ 1522
    · obtain ⟨h0, h3⟩ := hg
      have HT := Lib.hid (time_eq a s hb h0 h3)
      clear hb
      rcases hs with rfl | rfl | rfl | rfl
      all_goals
        go_enter Try.func6, Try.ntmps6
        go_wp2_with (first
          | (go_at_call 21; (with_reducible refine (takes_calls _).mono ?_); rintro e w' ⟨rfl, rfl⟩)
          | (go_at_call 19; (with_reducible refine (time_calls _ _ _ _ HT.out _).mono ?_); rintro e w' ⟨rfl, rfl⟩)
          | (go_at_call 22; (with_reducible refine (speed_calls _ _ HB.out _).mono ?_); rintro e w' ⟨rfl, rfl⟩))
        all_goals first
          | (go_ret; exact ⟨rfl, rfl⟩)
          | (exfalso; simp only [bne_iff_ne, bne_eq_false_iff_eq, ne_eq] at *; omega)
    · have HT := Lib.hid (time_no a s (fun h => hg h.2))
      clear hb
      have hc : a < 0 ∨ 1522 < a := by omega
      clear hg
      rcases hc with hc | hc
      all_goals
        rcases hs with rfl | rfl | rfl | rfl
        all_goals
          go_enter Try.func6, Try.ntmps6
          go_wp2_with (first
            | (go_at_call 21; (with_reducible refine (takes_calls _).mono ?_); rintro e w' ⟨rfl, rfl⟩)
            | (go_at_call 19; (with_reducible refine (time_calls _ _ _ _ HT.out _).mono ?_); rintro e w' ⟨rfl, rfl⟩)
            | (go_at_call 22; (with_reducible refine (speed_calls _ _ HB.out _).mono ?_); rintro e w' ⟨rfl, rfl⟩))
          go_ret
          exact ⟨rfl, rfl⟩
  · have hb : speedB s = false := Bool.eq_false_iff.2 fun h => hs ((speedB_iff s).1 h)
    have HB := Lib.hid hb
    have HT := Lib.hid (time_no a s (fun h => by rw [hb] at h; exact absurd h.1 (by simp)))
    have c1 : (s == 10) = false := by simp; omega
    have c2 : (s == 100) = false := by simp; omega
    have c3 : (s == 1000) = false := by simp; omega
    have c4 : (s == 10000) = false := by simp; omega
    clear hb hs
    go_enter Try.func6, Try.ntmps6
    go_wp2_with (first
      | (go_at_call 21; (with_reducible refine (takes_calls _).mono ?_); rintro e w' ⟨rfl, rfl⟩)
      | (go_at_call 19; (with_reducible refine (time_calls _ _ _ _ HT.out _).mono ?_); rintro e w' ⟨rfl, rfl⟩)
      | (go_at_call 22; (with_reducible refine (speed_calls _ _ HB.out _).mono ?_); rintro e w' ⟨rfl, rfl⟩))
    go_ret
    exact ⟨rfl, rfl⟩

/-- 'WireFits' answers true. -/
theorem wireFits_walk (x s : Int) (w : World) :
    Calls Try.prog 7 #[.int .i64 x, .int .i64 s] w fun e w' => e = .returned (.bool true) ∧ w = w' := by
  cases hb : speedB s with
  | false =>
    have HB := Lib.hid hb
    clear hb
    go_enter Try.func7, Try.ntmps7
    go_wp2_with (first
      | (go_at_call 21; (with_reducible refine (takes_calls _).mono ?_); rintro e w' ⟨rfl, rfl⟩)
      | (go_at_call 23; (with_reducible refine (fit_calls _ _ _).mono ?_); rintro e w' ⟨⟨n, hn, rfl⟩, rfl⟩; obtain rfl := hn.bad HB.out; clear hn)
      | (go_at_call 22; (with_reducible refine (speed_calls _ _ HB.out _).mono ?_); rintro e w' ⟨rfl, rfl⟩))
    go_ret
    exact ⟨rfl, rfl⟩
  | true =>
    have HB := Lib.hid hb
    clear hb
    go_enter Try.func7, Try.ntmps7
    go_upto_region 4 with (first
      | (go_at_call 21; (with_reducible refine (takes_calls _).mono ?_); rintro e w' ⟨rfl, rfl⟩)
      | (go_at_call 23; (with_reducible refine (fit_calls _ _ _).mono ?_); rintro e w' ⟨⟨n, hn, rfl⟩, rfl⟩))
    have g1 := hn.low
    have g2 := hn.high
    have HN := Lib.hid hn
    clear hn
    have H1 : 0 ≤ n → Hid (timeF n s = ((timeF n s).1, 0)) := fun h => by show timeF n s = _; rw [time_eq n s HB.out h g2]
    have H2 : n < 1522 → Hid (timeF (n + 1) s = ((timeF (n + 1) s).1, 0)) := fun h => by show timeF (n + 1) s = _; rw [time_eq (n + 1) s HB.out (by omega) (by omega)]
    by_cases h0 : 0 ≤ n
    · have K1 := H1 h0
      have T1 := HN.out.fits HB.out h0
      by_cases h5 : n < 1522
      · have K2 := H2 h5
        have T2 := HN.out.more HB.out h5
        clear H1 H2
        go_wp2_with (first
          | (go_at_call 19; first | ((with_reducible refine (time_calls _ _ _ _ K1.out _).mono ?_); rintro e w' ⟨rfl, rfl⟩) | ((with_reducible refine (time_calls _ _ _ _ K2.out _).mono ?_); rintro e w' ⟨rfl, rfl⟩))
          | (go_at_call 22; (with_reducible refine (speed_calls _ _ HB.out _).mono ?_); rintro e w' ⟨rfl, rfl⟩))
        go_ret
        exact ⟨by simp, rfl⟩
      · obtain rfl : n = 1522 := by omega
        clear H1 H2
        go_wp2_with (first
          | (go_at_call 19; ((with_reducible refine (time_calls _ _ _ _ K1.out _).mono ?_); rintro e w' ⟨rfl, rfl⟩))
          | (go_at_call 22; (with_reducible refine (speed_calls _ _ HB.out _).mono ?_); rintro e w' ⟨rfl, rfl⟩))
        go_ret
        exact ⟨rfl, rfl⟩
    · have h5 : n < 1522 := by omega
      have K2 := H2 h5
      have T2 := HN.out.more HB.out h5
      clear H1 H2
      go_wp2_with (first
        | (go_at_call 19; ((with_reducible refine (time_calls _ _ _ _ K2.out _).mono ?_); rintro e w' ⟨rfl, rfl⟩))
        | (go_at_call 22; (with_reducible refine (speed_calls _ _ HB.out _).mono ?_); rintro e w' ⟨rfl, rfl⟩))
      go_ret
      exact ⟨by simp, rfl⟩

/-- 'WireClocks' answers true. -/
theorem wireClocks_walk (t n : Int) (h1 : -9223372036854775808 ≤ t) (h2 : t ≤ 9223372036854775807) (h3 : -9223372036854775808 ≤ n) (h4 : n ≤ 9223372036854775807) (w : World) :
    Calls Try.prog 8 #[.int .i64 t, .int .i64 n] w fun e w' => e = .returned (.bool true) ∧ w = w' := by
  by_cases hc : t < 0 ∨ n < 0 ∨ 4611686018427387904 ≤ t ∨ 4611686018427387904 - t ≤ n
  · have HA : Hid (afterF t n = (0, 31)) := if_pos hc
    by_cases c1 : t < 0
    · clear hc
      go_enter Try.func8, Try.ntmps8
      go_wp2_with (first
        | (go_at_call 21; (with_reducible refine (takes_calls _).mono ?_); rintro e w' ⟨rfl, rfl⟩)
        | (go_at_call 24; (with_reducible refine (after_calls _ _ _ _ HA.out (by omega) _).mono ?_); rintro e w' ⟨rfl, rfl⟩))
      go_ret
      exact ⟨rfl, rfl⟩
    by_cases c2 : n < 0
    · clear hc
      go_enter Try.func8, Try.ntmps8
      go_wp2_with (first
        | (go_at_call 21; (with_reducible refine (takes_calls _).mono ?_); rintro e w' ⟨rfl, rfl⟩)
        | (go_at_call 24; (with_reducible refine (after_calls _ _ _ _ HA.out (by omega) _).mono ?_); rintro e w' ⟨rfl, rfl⟩))
      go_ret
      exact ⟨rfl, rfl⟩
    by_cases c3 : 4611686018427387904 ≤ t
    · clear hc
      go_enter Try.func8, Try.ntmps8
      go_wp2_with (first
        | (go_at_call 21; (with_reducible refine (takes_calls _).mono ?_); rintro e w' ⟨rfl, rfl⟩)
        | (go_at_call 24; (with_reducible refine (after_calls _ _ _ _ HA.out (by omega) _).mono ?_); rintro e w' ⟨rfl, rfl⟩))
      go_ret
      exact ⟨rfl, rfl⟩
    have c4 : 4611686018427387904 ≤ t + n := by omega
    clear hc
    by_cases c5 : 4611686018427387904 ≤ n
    all_goals
      go_enter Try.func8, Try.ntmps8
      go_wp2_with (first
        | (go_at_call 21; (with_reducible refine (takes_calls _).mono ?_); rintro e w' ⟨rfl, rfl⟩)
        | (go_at_call 24; (with_reducible refine (after_calls _ _ _ _ HA.out (by omega) _).mono ?_); rintro e w' ⟨rfl, rfl⟩))
      go_ret
      exact ⟨rfl, rfl⟩
  · have HA : Hid (afterF t n = (t + n, 0)) := if_neg hc
    have c1 : 0 ≤ t := by omega
    have c2 : 0 ≤ n := by omega
    have c3 : t < 4611686018427387904 := by omega
    have c4 : n < 4611686018427387904 := by omega
    have c5 : t + n < 4611686018427387904 := by omega
    clear hc
    go_enter Try.func8, Try.ntmps8
    go_wp2_with (first
      | (go_at_call 21; (with_reducible refine (takes_calls _).mono ?_); rintro e w' ⟨rfl, rfl⟩)
      | (go_at_call 24; (with_reducible refine (after_calls _ _ _ _ HA.out (by omega) _).mono ?_); rintro e w' ⟨rfl, rfl⟩))
    go_ret
    exact ⟨by simp, rfl⟩

/-- 'WireSpeeds' answers true. -/
theorem wireSpeeds_walk (a : Int) (w : World) :
    Calls Try.prog 10 #[.int .i64 a] w fun e w' => e = .returned (.bool true) ∧ w = w' := by
  by_cases hg : 0 ≤ a ∧ a ≤ 1522
  · obtain ⟨h0, h3⟩ := hg
    have H1 := Lib.hid (time_eq a 10 rfl h0 h3)
    have H2 := Lib.hid (time_eq a 100 rfl h0 h3)
    have H3 := Lib.hid (time_eq a 1000 rfl h0 h3)
    have H4 := Lib.hid (time_eq a 10000 rfl h0 h3)
    go_enter Try.func10, Try.ntmps10
    go_wp2_with (first
      | (go_at_call 21; (with_reducible refine (takes_calls _).mono ?_); rintro e w' ⟨rfl, rfl⟩)
      | (go_at_call 19; first | ((with_reducible refine (time_calls _ _ _ _ H1.out _).mono ?_); rintro e w' ⟨rfl, rfl⟩) | ((with_reducible refine (time_calls _ _ _ _ H2.out _).mono ?_); rintro e w' ⟨rfl, rfl⟩) | ((with_reducible refine (time_calls _ _ _ _ H3.out _).mono ?_); rintro e w' ⟨rfl, rfl⟩) | ((with_reducible refine (time_calls _ _ _ _ H4.out _).mono ?_); rintro e w' ⟨rfl, rfl⟩)))
    all_goals first
      | (go_ret; exact ⟨rfl, rfl⟩)
      | (go_ret; exact ⟨ret_bool (by simp; omega), rfl⟩)
      | (exfalso; simp only [bne_iff_ne, bne_eq_false_iff_eq, ne_eq, beq_iff_eq, beq_eq_false_iff_ne] at *; omega)
  · have hc : a < 0 ∨ 1522 < a := by omega
    clear hg
    rcases hc with hc | hc
    all_goals
      go_enter Try.func10, Try.ntmps10
      go_wp2_with (go_at_call 21; (with_reducible refine (takes_calls _).mono ?_); rintro e w' ⟨rfl, rfl⟩)
      go_ret
      exact ⟨rfl, rfl⟩
end Go.Proofs.Ytjnbjcieepooaaa
