/- 'wide': a product of two numbers in two words. -/
import Derived.Test.YtjnbjcieepooaaaBase
namespace Go.Proofs.Ytjnbjcieepooaaa
open Go.RowKit
set_option linter.unusedVariables false
set_option linter.unusedSimpArgs false

theorem and_mask (x : Int) (h0 : 0 ≤ x) (h1 : x < 18446744073709551616) : bits .and .u64 x 4294967295 = x % 4294967296 := by
  rw [u64_and x 4294967295 h0 h1 (by omega) (by omega)]
  have e : x.toNat &&& (4294967295 : Int).toNat = x.toNat % 4294967296 := by
    have := Nat.and_two_pow_sub_one_eq_mod x.toNat 32
    simpa using this
  rw [e]
  omega
theorem or_low (c l : Int) (hc0 : 0 ≤ c) (hc1 : c < 4294967296) (h0 : 0 ≤ l) (h1 : l < 4294967296) : bits .or .u64 (c * 4294967296) l = c * 4294967296 + l := by
  rw [u64_or (c * 4294967296) l (by omega) (by omega) (by omega) (by omega)]
  have e : (c * 4294967296).toNat ||| l.toNat = c.toNat * 4294967296 + l.toNat := by
    have h := Nat.two_pow_add_eq_or_of_lt (i := 32) (b := l.toNat) (by omega) c.toNat
    have e2 : (c * 4294967296).toNat = 2 ^ 32 * c.toNat := by omega
    rw [e2, ← h]
    omega
  rw [e]
  omega
theorem wrapu (x : Int) (h0 : 0 ≤ x) (h1 : x < 18446744073709551616) : IntKind.u64.wrap x = x := by
  rw [IntKind.wrap_u64]; omega

theorem mul_bd {x y : Int} (hx0 : 0 ≤ x) (hx1 : x < 4294967296) (hy0 : 0 ≤ y) (hy1 : y < 4294967296) : 0 ≤ x * y ∧ x * y ≤ 18446744065119617025 := by
  have h1 : x * y ≤ 4294967295 * y := Int.mul_le_mul_of_nonneg_right (by omega) hy0
  have h2 : 0 ≤ x * y := Int.mul_nonneg hx0 hy0
  omega

theorem wide_eq (a b p q r s : Int) (hp : p = a / 4294967296) (hq : q = a % 4294967296) (hr : r = b / 4294967296) (hs : s = b % 4294967296) :
    a * b = p * r * 18446744073709551616 + (p * s + q * r) * 4294967296 + q * s := by
  have ea : a = p * 4294967296 + q := by omega
  have eb : b = r * 4294967296 + s := by omega
  rw [ea, eb]
  simp only [Int.add_mul, Int.mul_add]
  have h1 : p * 4294967296 * (r * 4294967296) = p * r * 18446744073709551616 := by
    rw [Int.mul_assoc, Int.mul_comm 4294967296 (r * 4294967296), Int.mul_assoc r, ← Int.mul_assoc p r]
    rfl
  have h2 : q * (r * 4294967296) = q * r * 4294967296 := (Int.mul_assoc _ _ _).symm
  have h3 : p * 4294967296 * s = p * s * 4294967296 := by rw [Int.mul_assoc, Int.mul_comm 4294967296 s, Int.mul_assoc]
  rw [h1, h2, h3]
  omega

def WideOK (a b : Int) (e : Ending) : Prop := ∃ hi lo : Int, e = .returned (.tuple #[.int .u64 hi, .int .u64 lo]) ∧ hi * 18446744073709551616 + lo = a * b ∧ 0 ≤ lo ∧ lo < 18446744073709551616 ∧ 0 ≤ hi ∧ hi < 18446744073709551616

theorem wide_calls (a b : Int) (ha : 0 ≤ a) (ha' : a ≤ 9223372036854775807) (hb : 0 ≤ b) (hb' : b ≤ 9223372036854775807) (w : World) :
    Calls Try.prog 35 #[.int .i64 a, .int .i64 b] w fun e w' => WideOK a b e ∧ w = w' := by
  obtain ⟨p, hp⟩ : ∃ p, p = a / 4294967296 := ⟨_, rfl⟩
  obtain ⟨q, hq⟩ : ∃ q, q = a % 4294967296 := ⟨_, rfl⟩
  obtain ⟨r, hr⟩ : ∃ r, r = b / 4294967296 := ⟨_, rfl⟩
  obtain ⟨s, hs⟩ : ∃ s, s = b % 4294967296 := ⟨_, rfl⟩
  have W := Lib.hid (wide_eq a b p q r s hp hq hr hs)
  have A := Lib.hid (and_mask a (by omega) (by omega))
  have B := Lib.hid (and_mask b (by omega) (by omega))
  obtain ⟨b1, b2⟩ := mul_bd (x := p) (y := r) (by omega) (by omega) (by omega) (by omega)
  obtain ⟨b3, b4⟩ := mul_bd (x := p) (y := s) (by omega) (by omega) (by omega) (by omega)
  obtain ⟨b5, b6⟩ := mul_bd (x := q) (y := r) (by omega) (by omega) (by omega) (by omega)
  obtain ⟨b7, b8⟩ := mul_bd (x := q) (y := s) (by omega) (by omega) (by omega) (by omega)
  have b9 : p * r ≤ 4611686014132420609 := by
    have h1 : p * r ≤ 2147483647 * r := Int.mul_le_mul_of_nonneg_right (by omega) (by omega)
    omega
  have HP := Lib.hid hp
  have HQ := Lib.hid hq
  have HR := Lib.hid hr
  have HS := Lib.hid hs
  clear hp hq hr hs
  go_enter Try.func35, Try.ntmps35
  go_wp2
  go_ret2
  refine ⟨?_, rfl⟩
  show WideOK a b (.returned (.tuple #[.int .u64 _, .int .u64 _]))
  rw [A.out, B.out, ← HP.out, ← HQ.out, ← HR.out, ← HS.out]
  rw [wrapu (p * r) b1 (by omega), wrapu (p * s) b3 (by omega), wrapu (q * r) b5 (by omega), wrapu (q * s) b7 (by omega)]
  rw [and_mask (p * s) b3 (by omega), and_mask (q * r) b5 (by omega), and_mask (q * s) b7 (by omega)]
  obtain ⟨PR, hPR⟩ : ∃ x, x = p * r := ⟨_, rfl⟩
  obtain ⟨PS, hPS⟩ : ∃ x, x = p * s := ⟨_, rfl⟩
  obtain ⟨QR, hQR⟩ : ∃ x, x = q * r := ⟨_, rfl⟩
  obtain ⟨QS, hQS⟩ : ∃ x, x = q * s := ⟨_, rfl⟩
  have WO := W.out
  rw [← hPR, ← hPS, ← hQR, ← hQS] at WO ⊢
  rw [← hPR] at b1 b2 b9
  rw [← hPS] at b3 b4
  rw [← hQR] at b5 b6
  rw [← hQS] at b7 b8
  clear hPR hPS hQR hQS
  rw [wrapu (QS / 4294967296 + PS % 4294967296) (by omega) (by omega)]
  rw [wrapu (QS / 4294967296 + PS % 4294967296 + QR % 4294967296) (by omega) (by omega)]
  obtain ⟨C, hC⟩ : ∃ C, C = QS / 4294967296 + PS % 4294967296 + QR % 4294967296 := ⟨_, rfl⟩
  rw [← hC]
  have e1 : IntKind.u64.wrap (C * 4294967296) = (C % 4294967296) * 4294967296 := by rw [IntKind.wrap_u64]; omega
  rw [e1, or_low _ _ (by omega) (by omega) (by omega) (by omega)]
  rw [wrapu (PR + PS / 4294967296) (by omega) (by omega), wrapu (PR + PS / 4294967296 + QR / 4294967296) (by omega) (by omega), wrapu (PR + PS / 4294967296 + QR / 4294967296 + C / 4294967296) (by omega) (by omega)]
  exact ⟨_, _, rfl, by omega, by omega, by omega, by omega, by omega⟩
end Go.Proofs.Ytjnbjcieepooaaa
