/- More functions of package vector: the best of some, costs, ids. -/
import Derived.Test.YtjnbjcieepooaabVector
namespace Go.Proofs.Ytjnbjcieepooaab
open Go.RowKit
set_option linter.unusedVariables false
set_option linter.unusedSimpArgs false

/-- Vectors that lie one behind the other. -/
structure Vecs (w : World) (b off len : Nat) (vs : Nat → Vec) : Prop where
  lt : b < w.heap.size
  at0 : ∀ i, i < len → w.cell? ⟨b, off + i * 4, none⟩ = some (.int .u64 (vs i).root)
  at1 : ∀ i, i < len → w.cell? ⟨b, off + i * 4 + 1, none⟩ = some (.int .u64 (vs i).cost)
  at2 : ∀ i, i < len → w.cell? ⟨b, off + i * 4 + 2, none⟩ = some (.int .u64 (vs i).bridge)
  at3 : ∀ i, i < len → w.cell? ⟨b, off + i * 4 + 3, none⟩ = some (.int .i64 (vs i).port)
theorem Vecs.below {w w' : World} {b off len : Nat} {vs : Nat → Vec} (h : Vecs w b off len vs) {B : Nat} (hb : Below B w w') (hB : b < B) : Vecs w' b off len vs :=
  ⟨Nat.lt_of_lt_of_le h.lt hb.size, fun i hi => (hb.cell (p := ⟨b, _, none⟩) hB).trans (h.at0 i hi), fun i hi => (hb.cell (p := ⟨b, _, none⟩) hB).trans (h.at1 i hi), fun i hi => (hb.cell (p := ⟨b, _, none⟩) hB).trans (h.at2 i hi), fun i hi => (hb.cell (p := ⟨b, _, none⟩) hB).trans (h.at3 i hi)⟩

/-- The place of the best of the first k. -/
def bestN (vs : Nat → Vec) : Nat → Int
  | 0 => -1
  | k + 1 => if bestN vs k < 0 ∨ betB (vs k) (vs (bestN vs k).toNat) = true then (k : Int) else bestN vs k
theorem bestN_bd (vs : Nat → Vec) (k : Nat) : -1 ≤ bestN vs k ∧ bestN vs k < k := by
  induction k with
  | zero => simp [bestN]
  | succ k ih => simp only [bestN]; split <;> omega

set_option maxHeartbeats 2000000 in
theorem best_calls (a : Option Addr) (len cap : Nat) (vs : Nat → Vec) (w : World) (hlen : len ≤ 9223372036854775807) (hv : 0 < len → ∃ b off, a = some ⟨b, off, none⟩ ∧ Vecs w b off len vs) (x : Int) (hx : bestN vs len = x) :
    Calls Try.prog 19 #[.slice a len cap] w fun e w' => e = .returned (.int .i64 x) ∧ Below w.heap.size w w' := by
  have HV := Lib.hid hv
  have HX := Lib.hid hx
  clear hv hx
  go_enter Try.func19, Try.ntmps19
  go_wp2
  go_loopg [3, 8] len (fun g s3 s8 wx => ∃ k : Nat, k + g = len ∧ s8 = .int .i64 (k : Int) ∧ s3 = .int .i64 (bestN vs k) ∧ Below w.heap.size w wx)
  case atStart => exact ⟨0, by omega, rfl, rfl, Below.refl _ _⟩
  case round =>
    obtain ⟨k, hkg, rfl, rfl, hb⟩ := hrel
    have HB := Lib.hid hb
    clear hb
    cases gk with
    | zero =>
      have hkl : ¬ ((k : Int) < (len : Int)) := by omega
      obtain rfl : k = len := by omega
      rw [HX.out]
      go_wp2
      go_ret
      exact ⟨rfl, HB.out⟩
    | succ g =>
      have hkl : (k : Int) < (len : Int) := by omega
      obtain ⟨b, off, rfl, hvs⟩ := HV.out (by omega)
      have hvr := hvs.below HB.out hvs.lt
      have d0 := hvr.at0 k (by omega)
      have d1 := hvr.at1 k (by omega)
      have d2 := hvr.at2 k (by omega)
      have d3 := hvr.at3 k (by omega)
      have hbd := bestN_bd vs k
      have hn : bestN vs (k + 1) = if bestN vs k < 0 ∨ betB (vs k) (vs (bestN vs k).toNat) = true then (k : Int) else bestN vs k := rfl
      have hblt := hvr.lt
      obtain ⟨v, hvk⟩ : ∃ v, v = vs k := ⟨_, rfl⟩
      rw [← hvk] at d0 d1 d2 d3 hn
      obtain ⟨r, c, bb, p⟩ := v
      simp only at d0 d1 d2 d3
      by_cases hm : bestN vs k < 0
      · have hm1 : bestN vs k = -1 := by omega
        have hn1 : bestN vs (k + 1) = k := by rw [hn, if_pos (.inl hm)]
        rw [hm1]
        have HN := Lib.hid hn1
        clear hbd hn hm hm1 hn1 hvk hvs hvr
        go_wp2
        go_quiet (fail)
        go_wp2
        go_roundg g
        case measure => omega
        case rel => exact ⟨k + 1, by omega, by go_num, by rw [HN.out], (HB.out.alloc HB.out.size _).trans ⟨rfl, rfl, rfl, Nat.le_refl _, fun _ _ => rfl⟩⟩
      · obtain ⟨m, hmm⟩ : ∃ m : Nat, bestN vs k = (m : Int) := ⟨(bestN vs k).toNat, by omega⟩
        rw [hmm] at hbd hn ⊢
        have hmk : m < k := by omega
        have b0 := hvr.at0 m (by omega)
        have b1 := hvr.at1 m (by omega)
        have b2 := hvr.at2 m (by omega)
        have b3 := hvr.at3 m (by omega)
        have hn1 : bestN vs (k + 1) = if betB ⟨r, c, bb, p⟩ (vs m) = true then (k : Int) else (m : Int) := by
          rw [hn, show ((m : Int)).toNat = m by omega]
          by_cases h : betB ⟨r, c, bb, p⟩ (vs m) = true
          · rw [if_pos (.inr h), if_pos h]
          · rw [if_neg (by intro h'; rcases h' with h' | h'; omega; exact h h'), if_neg h]
        obtain ⟨x', hx'⟩ : ∃ x', betB ⟨r, c, bb, p⟩ (vs m) = x' := ⟨_, rfl⟩
        rw [hx'] at hn1
        obtain ⟨u, hu⟩ : ∃ u, u = vs m := ⟨_, rfl⟩
        rw [← hu] at b0 b1 b2 b3 hx'
        obtain ⟨ur, uc, ub, up⟩ := u
        simp only at b0 b1 b2 b3
        have HN := Lib.hid hn1
        have HB1 := Lib.hid hx'
        have hmz : ¬ ((m : Int) < 0) := by omega
        have hmz2 : decide ((m : Int) < 0) = false := decide_eq_false hmz
        have hml : (m : Int) < (len : Int) := by omega
        clear hbd hn hm hn1 hvk hvs hvr hmm hu hx'
        cases x' with
        | true =>
          go_wp2
          go_region_with (go_at_call 17; (with_reducible refine (better_calls _ _ _ HB1.out _).mono ?_); rintro e w' ⟨rfl, hb2⟩)
          all_goals
            go_wp2
            go_roundg g
            case measure => omega
            case rel => exact ⟨k + 1, by omega, by go_num, by rw [HN.out]; rfl, (HB.out.alloc HB.out.size _).trans (Below.mono ⟨hb2.os, hb2.tape, hb2.output, hb2.size, hb2.block⟩ (Nat.le_trans HB.out.size (by simp)))⟩
        | false =>
          go_wp2
          go_region_with (go_at_call 17; (with_reducible refine (better_calls _ _ _ HB1.out _).mono ?_); rintro e w' ⟨rfl, hb2⟩)
          all_goals
            go_wp2
            go_roundg g
            case measure => omega
            case rel => exact ⟨k + 1, by omega, by go_num, by rw [HN.out]; rfl, (HB.out.alloc HB.out.size _).trans (Below.mono ⟨hb2.os, hb2.tape, hb2.output, hb2.size, hb2.block⟩ (Nat.le_trans HB.out.size (by simp)))⟩

def costF (s : Int) : Int := if s = 10 then 2000000 else if s = 100 then 200000 else if s = 1000 then 20000 else if s = 10000 then 2000 else 4294967295
theorem cost_calls (s x : Int) (hx : costF s = x) (w : World) :
    Calls Try.prog 24 #[.int .i64 s] w fun e w' => e = .returned (.int .u64 x) ∧ w = w' := by
  subst hx
  unfold costF
  by_cases h1 : s = 10
  · rw [if_pos h1]; subst h1
    go_enter Try.func24, Try.ntmps24
    go_wp2
    go_ret
    exact ⟨rfl, rfl⟩
  rw [if_neg h1]
  by_cases h2 : s = 100
  · rw [if_pos h2]; subst h2
    go_enter Try.func24, Try.ntmps24
    go_wp2
    go_ret
    exact ⟨rfl, rfl⟩
  rw [if_neg h2]
  by_cases h3 : s = 1000
  · rw [if_pos h3]; subst h3
    go_enter Try.func24, Try.ntmps24
    go_wp2
    go_ret
    exact ⟨rfl, rfl⟩
  rw [if_neg h3]
  have e1 : (s == 10) = false := by simpa using h1
  have e2 : (s == 100) = false := by simpa using h2
  have e3 : (s == 1000) = false := by simpa using h3
  by_cases h4 : s = 10000
  · rw [if_pos h4]; subst h4
    go_enter Try.func24, Try.ntmps24
    go_wp2
    go_ret
    exact ⟨rfl, rfl⟩
  rw [if_neg h4]
  have e4 : (s == 10000) = false := by simpa using h4
  go_enter Try.func24, Try.ntmps24
  go_wp2
  go_ret
  exact ⟨rfl, rfl⟩

def pidF (p n : Int) : Int × Int := if p < 0 ∨ 240 < p ∨ ¬ p % 16 = 0 ∨ n < 1 ∨ 4095 < n then (0, 1) else (p * 256 + n, 0)
theorem or256 (p n : Int) (hp0 : 0 ≤ p) (hp1 : p ≤ 240) (h16 : p % 16 = 0) (hn0 : 1 ≤ n) (hn1 : n ≤ 4095) : bits .or .i64 (p * 256) n = p * 256 + n := by
  obtain ⟨q, rfl⟩ : ∃ q : Nat, p = 16 * (q : Int) := ⟨(p / 16).toNat, by omega⟩
  obtain ⟨m, rfl⟩ : ∃ m : Nat, n = (m : Int) := ⟨n.toNat, by omega⟩
  unfold bits
  have ha : BitVec.ofInt IntKind.i64.bits (16 * (q : Int) * 256) = BitVec.ofNat 64 (4096 * q) := by
    rw [show (16 * (q : Int) * 256) = ((4096 * q : Nat) : Int) by omega]; rfl
  have hb : BitVec.ofInt IntKind.i64.bits (m : Int) = BitVec.ofNat 64 m := rfl
  simp only [ha, hb]
  have hor : (BitVec.ofNat 64 (4096 * q) ||| BitVec.ofNat 64 m).toNat = 4096 * q + m := by
    rw [BitVec.toNat_or, BitVec.toNat_ofNat, BitVec.toNat_ofNat, Nat.mod_eq_of_lt (by omega), Nat.mod_eq_of_lt (by omega)]
    exact (Nat.two_pow_add_eq_or_of_lt (i := 12) (b := m) (by omega) q).symm
  have e : IntKind.i64.wrap ((BitVec.ofNat 64 (4096 * q) ||| BitVec.ofNat 64 m).toNat : Int) = 16 * (q : Int) * 256 + (m : Int) := by
    rw [hor, IntWalk.i64_in _ (by omega)]; omega
  exact e

theorem pid_calls (p n x e : Int) (hx : pidF p n = (x, e)) (w : World) :
    Calls Try.prog 23 #[.int .i64 p, .int .i64 n] w fun e' w' => e' = .returned (.tuple #[.int .i64 x, .int .i64 e]) ∧ w = w' := by
  unfold pidF at hx
  by_cases h1 : p < 0
  · rw [if_pos (.inl h1)] at hx; simp only [Prod.mk.injEq] at hx; obtain ⟨rfl, rfl⟩ := hx
    go_enter Try.func23, Try.ntmps23
    go_wp2
    go_ret2
    exact ⟨rfl, rfl⟩
  by_cases h2 : 240 < p
  · rw [if_pos (.inr (.inl h2))] at hx; simp only [Prod.mk.injEq] at hx; obtain ⟨rfl, rfl⟩ := hx
    go_enter Try.func23, Try.ntmps23
    go_wp2
    go_ret2
    exact ⟨rfl, rfl⟩
  have g0 : 0 ≤ p := by omega
  by_cases h3 : p % 16 = 0
  · have e3 : (p % 16 != 0) = false := by simpa using h3
    by_cases h4 : n < 1
    · rw [if_pos (by omega)] at hx; simp only [Prod.mk.injEq] at hx; obtain ⟨rfl, rfl⟩ := hx
      clear h3
      go_enter Try.func23, Try.ntmps23
      go_wp2
      go_ret2
      exact ⟨rfl, rfl⟩
    by_cases h5 : 4095 < n
    · rw [if_pos (by omega)] at hx; simp only [Prod.mk.injEq] at hx; obtain ⟨rfl, rfl⟩ := hx
      clear h3
      go_enter Try.func23, Try.ntmps23
      go_wp2
      go_ret2
      exact ⟨rfl, rfl⟩
    rw [if_neg (by omega)] at hx; simp only [Prod.mk.injEq] at hx; obtain ⟨rfl, rfl⟩ := hx
    have ho := or256 p n (by omega) (by omega) h3 (by omega) (by omega)
    clear h3
    go_enter Try.func23, Try.ntmps23
    go_wp2
    go_ret2
    exact ⟨ret_two' (by simp) rfl, rfl⟩
  · have e3 : (p % 16 != 0) = true := by simpa using h3
    rw [if_pos (.inr (.inr (.inl h3)))] at hx; simp only [Prod.mk.injEq] at hx; obtain ⟨rfl, rfl⟩ := hx
    clear h3
    go_enter Try.func23, Try.ntmps23
    go_wp2
    go_ret2
    exact ⟨rfl, rfl⟩
end Go.Proofs.Ytjnbjcieepooaab
