/- The functions of package wire, each by its contract: what it answers for whole numbers; nothing in memory turns. -/
import Derived.Test.YtjnbjcieepooaaaRows
import Derived.WalkKit
import Derived.Lib.Hide
namespace Go.Proofs.Ytjnbjcieepooaaa
open Go.RowKit

def speedB (s : Int) : Bool := s == 10 || (s == 100 || (s == 1000 || s == 10000))

theorem speedB_iff (s : Int) : speedB s = true ↔ (s = 10 ∨ s = 100 ∨ s = 1000 ∨ s = 10000) := by
  simp [speedB]

theorem speed_calls (s : Int) (b : Bool) (h : speedB s = b) (w : World) :
    Calls Try.prog 22 #[.int .i64 s] w fun e w' => e = .returned (.bool b) ∧ w = w' := by
  subst h
  by_cases h1 : s = 10
  · subst h1
    go_enter Try.func22, Try.ntmps22
    go_wp2
    go_ret
    exact ⟨rfl, rfl⟩
  by_cases h2 : s = 100
  · subst h2
    go_enter Try.func22, Try.ntmps22
    go_wp2
    go_ret
    exact ⟨rfl, rfl⟩
  by_cases h3 : s = 1000
  · subst h3
    go_enter Try.func22, Try.ntmps22
    go_wp2
    go_ret
    exact ⟨rfl, rfl⟩
  have e1 : (s == 10) = false := by simpa using h1
  have e2 : (s == 100) = false := by simpa using h2
  have e3 : (s == 1000) = false := by simpa using h3
  have E : speedB s = (s == 10000) := by simp [speedB, e1, e2, e3]
  rw [E]
  clear E
  go_enter Try.func22, Try.ntmps22
  go_wp2
  go_ret
  exact ⟨rfl, rfl⟩

/-- The time of a frame, as the program reckons it. -/
def timeF (a s : Int) : Int × Int :=
  if speedB s = true ∧ 0 ≤ a ∧ a ≤ 1522 then (((a + 8 + 12) * 8 * 1000 + s - 1) / s, 0) else (0, 1)

theorem ret_two {a b c d : Int} (h : a = b) (k : c = d) : Ending.returned (.tuple #[.int .i64 a, .int .i64 c]) = .returned (.tuple #[.int .i64 b, .int .i64 d]) := by rw [h, k]
theorem ret_bool {a b : Bool} (h : a = b) : Ending.returned (.bool a) = .returned (.bool b) := by rw [h]
theorem ret_int {a b : Int} (h : a = b) : Ending.returned (.int .i64 a) = .returned (.int .i64 b) := by rw [h]

theorem time_calls (a s t e : Int) (h : timeF a s = (t, e)) (w : World) :
    Calls Try.prog 19 #[.int .i64 a, .int .i64 s] w fun e' w' => e' = .returned (.tuple #[.int .i64 t, .int .i64 e]) ∧ w = w' := by
  unfold timeF at h
  cases hb : speedB s with
  | false =>
    have HB := Lib.hid hb
    rw [if_neg (by simp [hb])] at h
    simp only [Prod.mk.injEq] at h
    obtain ⟨rfl, rfl⟩ := h
    clear hb
    go_enter Try.func19, Try.ntmps19
    go_wp2_with (go_at_call 22; refine (speed_calls _ _ HB.out _).mono ?_; rintro e w' ⟨rfl, rfl⟩)
    go_ret2
    exact ⟨rfl, rfl⟩
  | true =>
    have HB := Lib.hid hb
    have hs := (speedB_iff s).1 hb
    by_cases h0 : a < 0
    · rw [if_neg (by omega)] at h
      simp only [Prod.mk.injEq] at h
      obtain ⟨rfl, rfl⟩ := h
      clear hb hs
      go_enter Try.func19, Try.ntmps19
      go_wp2_with (go_at_call 22; refine (speed_calls _ _ HB.out _).mono ?_; rintro e w' ⟨rfl, rfl⟩)
      go_ret2
      exact ⟨rfl, rfl⟩
    by_cases h1 : 1522 < a
    · rw [if_neg (by omega)] at h
      simp only [Prod.mk.injEq] at h
      obtain ⟨rfl, rfl⟩ := h
      clear hb hs
      go_enter Try.func19, Try.ntmps19
      go_wp2_with (go_at_call 22; refine (speed_calls _ _ HB.out _).mono ?_; rintro e w' ⟨rfl, rfl⟩)
      go_ret2
      exact ⟨rfl, rfl⟩
    rw [if_pos ⟨hb, by omega, by omega⟩] at h
    simp only [Prod.mk.injEq] at h
    obtain ⟨rfl, rfl⟩ := h
    have h2 : 0 ≤ a := by omega
    have h3 : a ≤ 1522 := by omega
    have h4 : 1 ≤ s := by omega
    have h5 : s ≤ 10000 := by omega
    clear hb hs h0 h1
    go_enter Try.func19, Try.ntmps19
    go_wp2_with (go_at_call 22; refine (speed_calls _ _ HB.out _).mono ?_; rintro e w' ⟨rfl, rfl⟩)
    go_ret2
    exact ⟨rfl, rfl⟩

/-- What the greatest frame that fits is. -/
structure FitOK (x s n : Int) : Prop where
  low : -1 ≤ n
  high : n ≤ 1522
  bad : speedB s = false → n = -1
  fits : speedB s = true → 0 ≤ n → (timeF n s).1 ≤ x
  more : speedB s = true → n < 1522 → x < (timeF (n + 1) s).1
def FitEnd (x s : Int) (e : Ending) : Prop := ∃ n : Int, FitOK x s n ∧ e = .returned (.int .i64 n)

theorem time_eq (a s : Int) (hs : speedB s = true) (h0 : 0 ≤ a) (h1 : a ≤ 1522) : timeF a s = (((a + 8 + 12) * 8 * 1000 + s - 1) / s, 0) := by
  unfold timeF; rw [if_pos ⟨hs, h0, h1⟩]
theorem time_no (a s : Int) (h : ¬ (speedB s = true ∧ 0 ≤ a ∧ a ≤ 1522)) : timeF a s = (0, 1) := by
  unfold timeF; rw [if_neg h]

theorem fit_calls (x s : Int) (w : World) :
    Calls Try.prog 23 #[.int .i64 x, .int .i64 s] w fun e w' => FitEnd x s e ∧ w = w' := by
  cases hb : speedB s with
  | false =>
    have HT : Hid (timeF 761 s = (0, 1)) := time_no _ _ (by simp [hb])
    have HB := Lib.hid hb
    clear hb
    go_enter Try.func23, Try.ntmps23
    go_wp2
    refine wp_loop_rounds 1 ?_
    rw [rounds_succ]
    go_wp2_with (go_at_call 19; refine (time_calls _ _ _ _ HT.out _).mono ?_; rintro e w' ⟨rfl, rfl⟩)
    go_ret
    exact ⟨⟨-1, ⟨by omega, by omega, fun _ => rfl, fun h => absurd (HB.out.symm.trans h) (by simp), fun h => absurd (HB.out.symm.trans h) (by simp)⟩, rfl⟩, rfl⟩
  | true =>
    have HB := Lib.hid hb
    clear hb
    go_enter Try.func23, Try.ntmps23
    go_wp2
    go_loop [5, 6] (fun l h => ∃ lo hi : Int, -1 ≤ lo ∧ lo ≤ hi ∧ hi ≤ 1522 ∧ l = .int .i64 lo ∧ h = .int .i64 hi ∧ Hid (0 ≤ lo → (timeF lo s).1 ≤ x) ∧ Hid (hi < 1522 → x < (timeF (hi + 1) s).1)) (fun l h => (intOf h - intOf l).toNat)
    case atStart => exact ⟨-1, 1522, by omega, by omega, by omega, rfl, rfl, fun h => absurd h (by omega), fun h => absurd h (by omega)⟩
    case round =>
      obtain ⟨lo, hi, h1, h2, h3, rfl, rfl, H4, H5⟩ := hrel
      by_cases hlt : lo < hi
      · obtain ⟨m, hm⟩ : ∃ m, m = lo + (hi - lo + 1) / 2 := ⟨_, rfl⟩
        have hm1 : lo < m := by omega
        have hm2 : m ≤ hi := by omega
        have HT : Hid (timeF (lo + (hi - lo + 1) / 2) s = ((timeF m s).1, 0)) := by
          show timeF (lo + (hi - lo + 1) / 2) s = _
          rw [← hm, time_eq m s HB.out (by omega) (by omega)]
        have HM := Lib.hid hm
        clear hm
        by_cases hx : (timeF m s).1 ≤ x
        · go_wp2_with (go_at_call 19; refine (time_calls _ _ _ _ HT.out _).mono ?_; rintro e w' ⟨rfl, rfl⟩)
          go_round
          case rel => exact ⟨m, hi, by omega, by omega, by omega, by rw [HM.out], rfl, fun _ => hx, H5.out⟩
          case measure => have := HM.out; simp [intOf]; omega
        · go_wp2_with (go_at_call 19; refine (time_calls _ _ _ _ HT.out _).mono ?_; rintro e w' ⟨rfl, rfl⟩)
          go_round
          case rel => exact ⟨lo, m - 1, by omega, by omega, by omega, rfl, by rw [HM.out], H4.out, fun _ => by rw [show m - 1 + 1 = m by omega]; omega⟩
          case measure => have := HM.out; simp [intOf]; omega
      · obtain rfl : lo = hi := by omega
        go_wp2
        go_ret
        exact ⟨⟨lo, ⟨h1, h3, fun h => absurd (HB.out.symm.trans h) (by simp), fun _ => H4.out, fun _ => H5.out⟩, rfl⟩, rfl⟩

def afterF (t n : Int) : Int × Int := if t < 0 ∨ n < 0 ∨ 4611686018427387904 ≤ t ∨ 4611686018427387904 - t ≤ n then (0, 31) else (t + n, 0)
theorem after_calls (t n u e : Int) (h : afterF t n = (u, e)) (hn : n ≤ 9223372036854775807) (w : World) :
    Calls Try.prog 24 #[.int .i64 t, .int .i64 n] w fun e' w' => e' = .returned (.tuple #[.int .i64 u, .int .i64 e]) ∧ w = w' := by
  unfold afterF at h
  by_cases c1 : t < 0
  · rw [if_pos (by omega)] at h
    simp only [Prod.mk.injEq] at h
    obtain ⟨rfl, rfl⟩ := h
    go_enter Try.func24, Try.ntmps24
    go_wp2
    go_ret2
    exact ⟨rfl, rfl⟩
  by_cases c2 : n < 0
  · rw [if_pos (by omega)] at h
    simp only [Prod.mk.injEq] at h
    obtain ⟨rfl, rfl⟩ := h
    go_enter Try.func24, Try.ntmps24
    go_wp2
    go_ret2
    exact ⟨rfl, rfl⟩
  by_cases c3 : 4611686018427387904 ≤ t
  · rw [if_pos (by omega)] at h
    simp only [Prod.mk.injEq] at h
    obtain ⟨rfl, rfl⟩ := h
    go_enter Try.func24, Try.ntmps24
    go_wp2
    go_ret2
    exact ⟨rfl, rfl⟩
  by_cases c4 : 4611686018427387904 - t ≤ n
  · rw [if_pos (by omega)] at h
    simp only [Prod.mk.injEq] at h
    obtain ⟨rfl, rfl⟩ := h
    go_enter Try.func24, Try.ntmps24
    go_wp2
    go_ret2
    exact ⟨rfl, rfl⟩
  rw [if_neg (by omega)] at h
  simp only [Prod.mk.injEq] at h
  obtain ⟨rfl, rfl⟩ := h
  go_enter Try.func24, Try.ntmps24
  go_wp2
  go_ret2
  exact ⟨rfl, rfl⟩

def creditF (r n : Int) : Int × Int := if r < 0 ∨ n < 0 ∨ (0 < r ∧ 9223372036854775807 / r < n) then (0, 1) else (wrap64 (r * n), 0)
theorem credit_calls (r n u e : Int) (h : creditF r n = (u, e)) (w : World) :
    Calls Try.prog 25 #[.int .i64 r, .int .i64 n] w fun e' w' => e' = .returned (.tuple #[.int .i64 u, .int .i64 e]) ∧ w = w' := by
  unfold creditF at h
  by_cases c1 : r < 0
  · rw [if_pos (by omega)] at h
    simp only [Prod.mk.injEq] at h
    obtain ⟨rfl, rfl⟩ := h
    go_enter Try.func25, Try.ntmps25
    go_wp2
    go_ret2
    exact ⟨rfl, rfl⟩
  by_cases c2 : n < 0
  · rw [if_pos (by omega)] at h
    simp only [Prod.mk.injEq] at h
    obtain ⟨rfl, rfl⟩ := h
    go_enter Try.func25, Try.ntmps25
    go_wp2
    go_ret2
    exact ⟨rfl, rfl⟩
  by_cases c3 : 0 < r
  · have c5 : 1 ≤ r := by omega
    by_cases c4 : 9223372036854775807 / r < n
    · rw [if_pos (by omega)] at h
      simp only [Prod.mk.injEq] at h
      obtain ⟨rfl, rfl⟩ := h
      go_enter Try.func25, Try.ntmps25
      go_wp2
      go_ret2
      exact ⟨rfl, rfl⟩
    · rw [if_neg (by omega)] at h
      simp only [Prod.mk.injEq] at h
      obtain ⟨rfl, rfl⟩ := h
      go_enter Try.func25, Try.ntmps25
      go_wp2
      go_ret2
      exact ⟨rfl, rfl⟩
  · rw [if_neg (by omega)] at h
    simp only [Prod.mk.injEq] at h
    obtain ⟨rfl, rfl⟩ := h
    go_enter Try.func25, Try.ntmps25
    go_wp2
    go_ret2
    exact ⟨rfl, rfl⟩

def untilF (m r : Int) : Int × Int := if m ≤ 0 then (0, 0) else if r ≤ 0 then (0, 1) else if m % r = 0 then (m / r, 0) else (m / r + 1, 0)
theorem until_calls (m r u e : Int) (h : untilF m r = (u, e)) (hm : m ≤ 9223372036854775807) (w : World) :
    Calls Try.prog 26 #[.int .i64 m, .int .i64 r] w fun e' w' => e' = .returned (.tuple #[.int .i64 u, .int .i64 e]) ∧ w = w' := by
  unfold untilF at h
  by_cases c1 : m ≤ 0
  · rw [if_pos c1] at h
    simp only [Prod.mk.injEq] at h
    obtain ⟨rfl, rfl⟩ := h
    go_enter Try.func26, Try.ntmps26
    go_wp2
    go_ret2
    exact ⟨rfl, rfl⟩
  rw [if_neg c1] at h
  by_cases c2 : r ≤ 0
  · rw [if_pos c2] at h
    simp only [Prod.mk.injEq] at h
    obtain ⟨rfl, rfl⟩ := h
    go_enter Try.func26, Try.ntmps26
    go_wp2
    go_ret2
    exact ⟨rfl, rfl⟩
  rw [if_neg c2] at h
  have h0 : 0 ≤ m := by omega
  have h1 : 1 ≤ r := by omega
  by_cases c3 : m % r = 0
  · rw [if_pos c3] at h
    simp only [Prod.mk.injEq] at h
    obtain ⟨rfl, rfl⟩ := h
    have c3b : (m % r != 0) = false := by simp [c3]
    clear c3
    go_enter Try.func26, Try.ntmps26
    go_wp2
    go_ret2
    exact ⟨rfl, rfl⟩
  · rw [if_neg c3] at h
    simp only [Prod.mk.injEq] at h
    obtain ⟨rfl, rfl⟩ := h
    have c3b : (m % r != 0) = true := by simp [c3]
    have q1 : 0 ≤ m / r := Int.ediv_nonneg h0 (by omega)
    have q2 : m / r ≤ 4611686018427387903 := by
      have r2 : 2 ≤ r := by
        by_cases r1 : r = 1
        · subst r1; exact absurd (Int.emod_one m) c3
        · omega
      have a1 := Int.mul_le_mul_of_nonneg_left r2 q1
      have a2 := Int.ediv_mul_le m (b := r) (by omega)
      omega
    clear c3
    go_enter Try.func26, Try.ntmps26
    go_wp2
    go_ret2
    exact ⟨rfl, rfl⟩
end Go.Proofs.Ytjnbjcieepooaaa
