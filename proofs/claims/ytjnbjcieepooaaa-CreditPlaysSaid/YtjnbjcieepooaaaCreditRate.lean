/- The law 'CreditRate': a class that always waits, and sends as soon as it may, has no more of the wire than its part; walked over the contracts of package credit. -/
import Derived.Test.YtjnbjcieepooaaaCreditWhen
import Derived.Test.YtjnbjcieepooaaaWide
namespace Go.Proofs.Ytjnbjcieepooaaa
open Go.RowKit
set_option linter.unusedVariables false
set_option linter.unusedSimpArgs false

theorem when_facts' (i p v l : Int) (hi : 1 ≤ i) (hv : v < i) :
    ∃ n : Int, whenF ⟨i, p, v, l, 1⟩ l = l + n ∧ 0 ≤ n ∧ (0 ≤ v → n = 0) ∧ (v < 0 → n ≤ -v) ∧ 0 ≤ v + i * n ∧ v + i * n < i := by
  by_cases h : v ≤ 0
  · obtain ⟨n, h1, h2, h3, h4, h5, h6, _⟩ := when_facts i p v l hi h
    exact ⟨n, h1, h2, fun h0 => h3 (by omega), fun _ => h4, h5, h6⟩
  · refine ⟨0, ?_, by omega, fun _ => rfl, fun _ => by omega, by rw [Int.mul_zero]; omega, by rw [Int.mul_zero]; omega⟩
    unfold whenF
    simp only [Int.max_self]
    rw [if_pos (by omega), Int.add_zero]

theorem rate_step (i p now n len k V : Int) (h : V = i * now - p * (k * len)) : V + i * n - (p - i) * len = i * (now + n + len) - p * ((k + 1) * len) := by
  subst h
  simp only [Int.mul_add, Int.add_mul, Int.sub_mul, Int.mul_sub, Int.one_mul]
  omega

theorem wide_cmp {hi lo mo le A B : Int} (h1 : hi * 18446744073709551616 + lo = A) (h2 : mo * 18446744073709551616 + le = B) (hAB : B ≤ A) (l0 : 0 ≤ lo) (l1 : lo < 18446744073709551616) (e0 : 0 ≤ le) (e1 : le < 18446744073709551616) :
    (mo < hi) ∨ (hi = mo ∧ le ≤ lo) := by omega

set_option maxHeartbeats 4000000 in
/-- 'CreditRate' answers true. -/
theorem creditRate_any (w : World) (i p len many : Int) :
    Calls Try.prog 13 #[.int .i64 i, .int .i64 p, .agg #[.int .i64 len, .int .i64 many]] w fun e w' => e = .returned (.bool true) ∧ Below w.heap.size w w' := by
  go_enter Try.func13, Try.ntmps13
  go_upto_region 1 with fail
  have hk0 := Blk.new w #[.int .i64 len, .int .i64 many] 50
  have hb := (Below.refl w.heap.size w).alloc (Nat.le_refl _) (.cells #[.int .i64 len, .int .i64 many] 50)
  generalize w.alloc (.cells #[.int .i64 len, .int .i64 many] 50) = W at hk0 hb ⊢
  go_upto_region 3 with (go_at_call 27; (with_reducible refine (saves_calls _).mono ?_); rintro e w' ⟨rfl, hb1⟩; have hk' := hk0.below hb1 hk0.lt; have hb' := hb.trans (hb1.mono hb.size); clear hk0 hb hb1; rename Blk _ _ _ _ => hk0; rename Below _ _ _ => hb)
  rename World => W1
  have c0 : W1.cell? ⟨w.heap.size, 0, none⟩ = some (.int .i64 len) := hk0.cell 0
  have c1 : W1.cell? ⟨w.heap.size, 1, none⟩ = some (.int .i64 many) := hk0.cell 1
  clear hk0
  go_quiet (fail)
  by_cases h1 : i < 1
  · go_wp2
    go_ret
    exact ⟨rfl, hb.trans ⟨rfl, rfl, rfl, Nat.le_refl _, fun _ _ => rfl⟩⟩
  by_cases h2 : 10000000000 < p
  · go_wp2
    go_ret
    exact ⟨rfl, hb.trans ⟨rfl, rfl, rfl, Nat.le_refl _, fun _ _ => rfl⟩⟩
  by_cases h3 : p < i
  · go_wp2
    go_ret
    exact ⟨rfl, hb.trans ⟨rfl, rfl, rfl, Nat.le_refl _, fun _ _ => rfl⟩⟩
  by_cases h4 : len < 1
  · go_wp2
    go_ret
    exact ⟨rfl, hb.trans ⟨rfl, rfl, rfl, Nat.le_refl _, fun _ _ => rfl⟩⟩
  by_cases h5 : 1048576 < len
  · go_wp2
    go_ret
    exact ⟨rfl, hb.trans ⟨rfl, rfl, rfl, Nat.le_refl _, fun _ _ => rfl⟩⟩
  by_cases h6 : many < 1
  · go_wp2
    go_ret
    exact ⟨rfl, hb.trans ⟨rfl, rfl, rfl, Nat.le_refl _, fun _ _ => rfl⟩⟩
  by_cases h7 : 50 < many
  · go_wp2
    go_ret
    exact ⟨rfl, hb.trans ⟨rfl, rfl, rfl, Nat.le_refl _, fun _ _ => rfl⟩⟩
  obtain ⟨M, rfl⟩ : ∃ M : Nat, many = (M : Int) := ⟨many.toNat, by omega⟩
  have i1 : 1 ≤ i := by omega
  have i2 : i ≤ p := by omega
  have i3 : p ≤ 10000000000 := by omega
  have l1 : 1 ≤ len := by omega
  have l2 : len ≤ 1048576 := by omega
  have M1 : 1 ≤ M := by omega
  have M2 : M ≤ 50 := by omega
  have hbd := mul_le_of (show 0 ≤ p - i by omega) (show p - i ≤ 10000000000 by omega) (show 0 ≤ len by omega) l2
  obtain ⟨D, hD⟩ : ∃ D, D = (p - i) * len := ⟨_, rfl⟩
  rw [← hD] at hbd
  have D0 : 0 ≤ D := hbd.1
  have D1 : D ≤ 10485760000000000 := by have := hbd.2; omega
  have HD := Lib.hid hD
  clear hbd hD
  have hOK : Hid (∀ v t m, -1152921504606846976 ≤ v → v ≤ 1152921504606846976 → 0 ≤ t → 0 ≤ m → m ≤ 2 → (Sh.mk i p v t m).ok) := fun v t m a1 a2 a3 a4 a5 => ⟨i1, i2, i3, a1, a2, a3, a4, a5⟩
  have ok0' : Hid ((Sh.mk i p 0 0 0).ok) := hOK.out 0 0 0 (by omega) (by omega) (by omega) (by omega) (by omega)
  have e0 : Hid (modeS ⟨i, p, 0, 0, 0⟩ 1 0 = ⟨i, p, 0, 0, 1⟩) := by
    show modeS _ _ _ = _
    unfold modeS
    rw [show passS ⟨i, p, 0, 0, 0⟩ 0 = ⟨i, p, 0, 0, 0⟩ from rfl]
    rfl
  have hb0 : Below w.heap.size w (W1.drewN nq) := hb.trans ⟨rfl, rfl, rfl, Nat.le_refl _, fun _ _ => rfl⟩
  clear hb c0 c1
  have hb := hb0
  clear hb0
  generalize W1.drewN nq = W2 at hb ⊢
  have hge : w.heap.size ≤ W2.heap.size := hb.size
  go_wp2_with (first
    | (go_at_call 28; (with_reducible refine (new_ok _ _ i1 i3 i2 _).mono ?_); rintro e w' ⟨rfl, hk, hb1⟩; have hb' := hb.trans (hb1.mono hge); clear hb hb1; rename Below _ _ _ => hb)
    | (go_at_call 32; ((with_reducible refine (mode_calls _ ok0'.out 1 0 (by omega) (by omega) (by omega) _ _ (by assumption)).mono ?_); rintro e w' ⟨rfl, hk', hf'⟩; rw [e0.out] at hk'; have hb' := Below.step (by assumption) hf' hge; clear hk hb hf'; rename Blk _ _ _ _ => hk; rename Below _ _ _ => hb)))
  go_loopg [11, 12, 60] M (fun g s11 s12 s60 wx => ∃ (k : Nat) (now L V : Int), k + g = M ∧ s60 = .int .i64 (k : Int) ∧ s11 = .int .i64 now ∧ s12 = .int .i64 L ∧ 0 ≤ now ∧ now ≤ (k : Int) * 10485760001048576 ∧ 0 ≤ L ∧ L ≤ now ∧ -10485760000000000 ≤ V ∧ V < i ∧ Hid (V = i * now - p * ((k : Int) * len)) ∧ Hid (0 < k → p * (((k : Int) - 1) * len) ≤ i * L) ∧ Blk wx W2.heap.size (Sh.mk i p V now 1).cells 65 ∧ Below w.heap.size w wx)
  case atStart => exact ⟨0, 0, 0, 0, by omega, rfl, rfl, rfl, by omega, by omega, by omega, by omega, by omega, by omega, (by show (0 : Int) = i * 0 - p * (((0 : Nat) : Int) * len); simp), fun h => absurd h (by omega), by assumption, by assumption⟩
  case round =>
    obtain ⟨k, now, L, V, hkg, rfl, rfl, rfl, n0, n1, L0, L1, V0, V1, HV, HL, hk, hb⟩ := hrel
    cases gk with
    | zero =>
      obtain rfl : k = M := by omega
      have hkM : ¬ ((k : Int) < (k : Int)) := by omega
      have L2 : L ≤ 9223372036854775807 := by omega
      have hsp := mul_le_of (show 0 ≤ (k : Int) - 1 by omega) (show (k : Int) - 1 ≤ 50 by omega) (show 0 ≤ len by omega) l2
      obtain ⟨S, hS⟩ : ∃ S, S = ((k : Int) - 1) * len := ⟨_, rfl⟩
      have hLL := HL.out (by omega)
      rw [← hS] at hsp hLL
      have S0 := hsp.1
      have S1 : S ≤ 9223372036854775807 := by have := hsp.2; omega
      have S2 : S ≤ 52428800 := by have := hsp.2; omega
      have HLL := Lib.hid hLL
      have hi9 : i ≤ 9223372036854775807 := by omega
      have hp9 : p ≤ 9223372036854775807 := by omega
      have hi0 : 0 ≤ i := by omega
      have hp0 : 0 ≤ p := by omega
      have hSw : IntKind.i64.wrap (((k : Int) - 1) * len) = S := by rw [← hS]; exact IntWalk.i64_in _ (by omega)
      clear hsp hLL hSw
      go_upto_region 20 with (first
        | (go_at_call 35; first
            | ((with_reducible refine (wide_calls i L hi0 hi9 L0 L2 _).mono ?_); rintro e w' ⟨⟨hi', lo, rfl, x1, x2, x3, x4, x5⟩, rfl⟩)
            | (rw [← hS]; (with_reducible refine (wide_calls p S hp0 hp9 S0 S1 _).mono ?_); rintro e w' ⟨⟨mo, le, rfl, y1, y2, y3, y4, y5⟩, rfl⟩)))
      have hcmp := wide_cmp x1 y1 HLL.out x2 x3 y2 y3
      clear x1 y1
      rcases hcmp with hc | ⟨rfl, hc⟩
      · go_wp2
        go_ret
        exact ⟨by first | rfl | (simp; omega), hb⟩
      · go_wp2
        go_ret
        exact ⟨by first | rfl | (simp; omega), hb⟩
    | succ g =>
      have hkM : (k : Int) < (M : Int) := by omega
      obtain ⟨n, f1, f2, f3, f4, f5, f6⟩ := when_facts' i p V now i1 V1
      have n2 : n ≤ 10485760000000000 := by
        by_cases h : 0 ≤ V
        · have := f3 h; omega
        · have := f4 (by omega); omega
      have n3 : now ≤ 524288000052428800 := by omega
      have okS : Hid ((Sh.mk i p V now 1).ok) := hOK.out V now 1 (by omega) (by omega) n0 (by omega) (by omega)
      have e2 : Hid (passS ⟨i, p, V, now, 1⟩ now = ⟨i, p, V, now, 1⟩) := if_pos (Int.le_refl now)
      have e1 : Hid (whenF (passS ⟨i, p, V, now, 1⟩ now) now = now + n) := by show whenF _ _ = _; rw [e2.out]; exact f1
      have nl2 : Hid ((Sh.mk i p V now 1).last ≤ 4611686018427387904) := by show now ≤ _; omega
      obtain ⟨V2, hV2⟩ : ∃ V2, V2 = V + i * n := ⟨_, rfl⟩
      rw [← hV2] at f5 f6
      have e3 : Hid (modeS ⟨i, p, V, now, 1⟩ 2 (now + n) = ⟨i, p, V2, now + n, 2⟩) := by
        show modeS _ _ _ = _
        unfold modeS
        rw [pass_waits i1 (by omega) (by omega) (by rw [show now + n - now = n by omega, ← hV2]; omega), show now + n - now = n by omega, ← hV2]
        rfl
      have okT : Hid ((Sh.mk i p V2 (now + n) 2).ok) := hOK.out V2 (now + n) 2 (by omega) (by omega) (by omega) (by omega) (by omega)
      have hDD := HD.out
      have e4 : Hid (modeS ⟨i, p, V2, now + n, 2⟩ 1 (now + n + len) = ⟨i, p, V2 - D, now + n + len, 1⟩) := by
        show modeS _ _ _ = _
        unfold modeS
        rw [pass_sends i2 (by omega) (by omega) (by rw [show now + n + len - (now + n) = len by omega, ← hDD]; omega), show now + n + len - (now + n) = len by omega, ← hDD]
        rfl
      have hstep := rate_step i p now n len k V HV.out
      rw [← hV2, ← hDD] at hstep
      have HST := Lib.hid hstep
      have hstep2 : i * (now + n) - p * ((k : Int) * len) = V2 := by
        have h0 := HV.out
        rw [hV2, h0, Int.mul_add]; omega
      have HS2 := Lib.hid hstep2
      have f5' := f5
      clear f1 f3 f4 hV2 hDD hstep hstep2
      go_wp2_with (first
          | (go_at_call 34; (with_reducible refine (when_calls _ okS.out now n0 (by omega) nl2.out _ e1.out _ _ (by assumption)).mono ?_); rintro e w' ⟨rfl, hk', hf'⟩; rw [e2.out] at hk'; have hb' := Below.step (by assumption) hf' hge; clear hk hb hf'; rename Blk _ _ _ _ => hk; rename Below _ _ _ => hb)
          | (go_at_call 32; first
              | ((with_reducible refine (mode_calls _ okS.out 2 (now + n) (by omega) (by omega) (by omega) _ _ (by assumption)).mono ?_); rintro e w' ⟨rfl, hk', hf'⟩; rw [e3.out] at hk'; have hb' := Below.step (by assumption) hf' hge; clear hk hb hf'; rename Blk _ _ _ _ => hk; rename Below _ _ _ => hb)
              | ((with_reducible refine (mode_calls _ okT.out 1 (now + n + len) (by omega) (by omega) (by omega) _ _ (by assumption)).mono ?_); rintro e w' ⟨rfl, hk', hf'⟩; rw [e4.out] at hk'; have hb' := Below.step (by assumption) hf' hge; clear hk hb hf'; rename Blk _ _ _ _ => hk; rename Below _ _ _ => hb)))
      go_roundg g
      case measure => omega
      case rel =>
        refine ⟨k + 1, now + n + len, now + n, V2 - D, by omega, by go_num, rfl, rfl, by omega, by omega, by omega, by omega, by omega, by omega, ?_, fun _ => ?_, by assumption, by assumption⟩
        · show V2 - D = i * (now + n + len) - p * (((k + 1 : Nat) : Int) * len)
          rw [HST.out]; simp
        · have := HS2.out
          rw [show (((k + 1 : Nat) : Int) - 1) = (k : Int) by omega]
          omega

theorem rk0 : kindAt Try.prog 2 50 0 = some (.i .i64) := by kernel_rfl
theorem rk1 : kindAt Try.prog 2 50 1 = some (.i .i64) := by kernel_rfl
theorem two_of {cs : Array Value} (F : FlatV Try.prog 50 cs) : ∃ a b : Int, cs = #[.int .i64 a, .int .i64 b] := by
  obtain ⟨a, ha, _⟩ := F.int_at 2 0 rk0
  obtain ⟨b, hb, _⟩ := F.int_at 2 1 rk1
  have hs : cs.size = 2 := F.size.trans (by kernel_rfl)
  refine ⟨a, b, ?_⟩
  apply Array.ext_getElem?
  intro i
  by_cases hi : i < 2
  · have : i = 0 ∨ i = 1 := by omega
    rcases this with rfl | rfl
    · rw [ha]; rfl
    · rw [hb]; rfl
  · rw [Array.getElem?_eq_none (by omega), Array.getElem?_eq_none (by simp; omega)]
namespace creditRate
theorem creditRate_walk (w : World) (i : Int) (_ : (Lit.int .i64 i).wf = true) (p : Int) (_ : (Lit.int .i64 p).wf = true) (cs : Array Value) (F : FlatV Try.prog 50 cs) :
    Calls Try.prog 13 #[.int .i64 i, .int .i64 p, .agg cs] w fun e w' => e = .returned (.bool true) ∧ Below w.heap.size w w' := by
  obtain ⟨a, b, rfl⟩ := two_of F
  exact creditRate_any w i p a b
end creditRate
end Go.Proofs.Ytjnbjcieepooaaa
