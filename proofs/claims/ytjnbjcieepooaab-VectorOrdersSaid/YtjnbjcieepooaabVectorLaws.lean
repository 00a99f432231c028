/- Laws on vectors, walked over the contracts of package vector. -/
import Derived.Test.YtjnbjcieepooaabVectorC
import Derived.Test.YtjnbjcieepooaabVectorPlain
namespace Go.Proofs.Ytjnbjcieepooaab
open Go.RowKit
set_option linter.unusedVariables false
set_option linter.unusedSimpArgs false

/-- 'VectorCosts' answers true. -/
theorem vectorCosts_any (w : World) (s : Int) :
    Calls Try.prog 8 #[.int .i64 s] w fun e w' => e = .returned (.bool true) ∧ Below w.heap.size w w' := by
  have HC : Hid (costF s = costF s) := rfl
  by_cases hs : s = 10 ∨ s = 100 ∨ s = 1000 ∨ s = 10000
  · rcases hs with rfl | rfl | rfl | rfl
    · have H : Hid (costF 10 = 2000000) := rfl
      go_enter Try.func8, Try.ntmps8
      go_wp2_with (first
        | (go_at_call 15; (with_reducible refine (orders_calls _).mono ?_); rintro e w' ⟨rfl, hb⟩)
        | (go_at_call 24; (with_reducible refine (cost_calls _ _ H.out _).mono ?_); rintro e w' ⟨rfl, rfl⟩))
      go_ret
      exact ⟨rfl, by assumption⟩
    · have H : Hid (costF 100 = 200000) := rfl
      go_enter Try.func8, Try.ntmps8
      go_wp2_with (first
        | (go_at_call 15; (with_reducible refine (orders_calls _).mono ?_); rintro e w' ⟨rfl, hb⟩)
        | (go_at_call 24; (with_reducible refine (cost_calls _ _ H.out _).mono ?_); rintro e w' ⟨rfl, rfl⟩))
      go_ret
      exact ⟨rfl, by assumption⟩
    · have H : Hid (costF 1000 = 20000) := rfl
      go_enter Try.func8, Try.ntmps8
      go_wp2_with (first
        | (go_at_call 15; (with_reducible refine (orders_calls _).mono ?_); rintro e w' ⟨rfl, hb⟩)
        | (go_at_call 24; (with_reducible refine (cost_calls _ _ H.out _).mono ?_); rintro e w' ⟨rfl, rfl⟩))
      go_ret
      exact ⟨rfl, by assumption⟩
    · have H : Hid (costF 10000 = 2000) := rfl
      go_enter Try.func8, Try.ntmps8
      go_wp2_with (first
        | (go_at_call 15; (with_reducible refine (orders_calls _).mono ?_); rintro e w' ⟨rfl, hb⟩)
        | (go_at_call 24; (with_reducible refine (cost_calls _ _ H.out _).mono ?_); rintro e w' ⟨rfl, rfl⟩))
      go_ret
      exact ⟨rfl, by assumption⟩
  · have H : Hid (costF s = 4294967295) := by show costF s = _; unfold costF; rw [if_neg (by omega), if_neg (by omega), if_neg (by omega), if_neg (by omega)]
    have e1 : (s == 10) = false := by simp; omega
    have e2 : (s == 100) = false := by simp; omega
    have e3 : (s == 1000) = false := by simp; omega
    have e4 : (s == 10000) = false := by simp; omega
    clear hs
    go_enter Try.func8, Try.ntmps8
    go_wp2_with (first
      | (go_at_call 15; (with_reducible refine (orders_calls _).mono ?_); rintro e w' ⟨rfl, hb⟩)
      | (go_at_call 24; (with_reducible refine (cost_calls _ _ H.out _).mono ?_); rintro e w' ⟨rfl, rfl⟩))
    go_ret
    exact ⟨rfl, by assumption⟩

/-- Which part tells. -/
theorem vec_cases (a b : Vec) :
    a = b ∨ (Bet a b ∧ (a.root < b.root ∨ (a.root = b.root ∧ a.cost < b.cost) ∨ (a.root = b.root ∧ a.cost = b.cost ∧ a.bridge < b.bridge) ∨ (a.root = b.root ∧ a.cost = b.cost ∧ a.bridge = b.bridge ∧ a.port < b.port))) ∨
    (Bet b a ∧ (b.root < a.root ∨ (a.root = b.root ∧ b.cost < a.cost) ∨ (a.root = b.root ∧ a.cost = b.cost ∧ b.bridge < a.bridge) ∨ (a.root = b.root ∧ a.cost = b.cost ∧ a.bridge = b.bridge ∧ b.port < a.port))) := by
  rcases bet_total a b with h | h | h
  · exact .inr (.inl ⟨h, by unfold Bet at h; omega⟩)
  · exact .inr (.inr ⟨h, by unfold Bet at h; omega⟩)
  · exact .inl h

set_option maxHeartbeats 4000000 in
/-- 'VectorOrders' answers true. -/
theorem vectorOrders_any (w : World) (a b c : Vec) :
    Calls Try.prog 3 #[a.val, b.val, c.val] w fun e w' => e = .returned (.bool true) ∧ Below w.heap.size w w' := by
  obtain ⟨X, hX⟩ : ∃ X, cmpV a b = X := ⟨_, rfl⟩
  obtain ⟨Y, hY⟩ : ∃ Y, cmpV b a = Y := ⟨_, rfl⟩
  obtain ⟨P, hP⟩ : ∃ P, betB a b = P := ⟨_, rfl⟩
  obtain ⟨Q, hQ⟩ : ∃ Q, betB b c = Q := ⟨_, rfl⟩
  obtain ⟨R, hR⟩ : ∃ R, betB a c = R := ⟨_, rfl⟩
  have HX := Lib.hid hX
  have HY := Lib.hid hY
  have HP := Lib.hid hP
  have HQ := Lib.hid hQ
  have HR := Lib.hid hR
  have hcase : (X = 0 ∧ Y = 0 ∧ P = false ∧ a = b) ∨ (X = -1 ∧ Y = 1 ∧ P = true ∧ (a.root < b.root ∨ (a.root = b.root ∧ a.cost < b.cost) ∨ (a.root = b.root ∧ a.cost = b.cost ∧ a.bridge < b.bridge) ∨ (a.root = b.root ∧ a.cost = b.cost ∧ a.bridge = b.bridge ∧ a.port < b.port))) ∨
      (X = 1 ∧ Y = -1 ∧ P = false ∧ (b.root < a.root ∨ (a.root = b.root ∧ b.cost < a.cost) ∨ (a.root = b.root ∧ a.cost = b.cost ∧ b.bridge < a.bridge) ∨ (a.root = b.root ∧ a.cost = b.cost ∧ a.bridge = b.bridge ∧ b.port < a.port))) := by
    rcases vec_cases a b with h | ⟨h, k⟩ | ⟨h, k⟩
    · left
      subst h
      exact ⟨by rw [← hX, cmp_self], by rw [← hY, cmp_self], by rw [← hP]; exact (betB_false _ _).2 fun h => h.irrefl, rfl⟩
    · right; left
      exact ⟨by rw [← hX, cmp_lt h], by rw [← hY, cmp_gt h], by rw [← hP]; exact (betB_iff _ _).2 h, k⟩
    · right; right
      exact ⟨by rw [← hX, cmp_gt h], by rw [← hY, cmp_lt h], by rw [← hP]; exact (betB_false _ _).2 fun h' => h'.asymm h, k⟩
  have htr : P = true → Q = true → R = true := fun h1 h2 => by
    rw [← hP] at h1; rw [← hQ] at h2; rw [← hR]
    exact (betB_iff _ _).2 (((betB_iff _ _).1 h1).trans ((betB_iff _ _).1 h2))
  clear hX hY hP hQ hR
  obtain ⟨ar, ac, ab, ap⟩ := a
  obtain ⟨br, bc, bb, bp⟩ := b
  obtain ⟨cr, cc, cb, cp⟩ := c
  simp only [Vec.mk.injEq] at hcase
  go_enter Try.func3, Try.ntmps3
  go_upto_region 1 with fail
  have hK : Keep w (((w.alloc (.cells #[.int .u64 ar, .int .u64 ac, .int .u64 ab, .int .i64 ap] 24)).alloc (.cells #[.int .u64 br, .int .u64 bc, .int .u64 bb, .int .i64 bp] 24)).alloc (.cells #[.int .u64 cr, .int .u64 cc, .int .u64 cb, .int .i64 cp] 24)) [(w.heap.size + 2, #[.int .u64 cr, .int .u64 cc, .int .u64 cb, .int .i64 cp], 24), (w.heap.size + 1, #[.int .u64 br, .int .u64 bc, .int .u64 bb, .int .i64 bp], 24), (w.heap.size, #[.int .u64 ar, .int .u64 ac, .int .u64 ab, .int .i64 ap], 24)] := by
    have := (((Keep.start w).add #[.int .u64 ar, .int .u64 ac, .int .u64 ab, .int .i64 ap] 24).add #[.int .u64 br, .int .u64 bc, .int .u64 bb, .int .i64 bp] 24).add #[.int .u64 cr, .int .u64 cc, .int .u64 cb, .int .i64 cp] 24
    simpa using this
  generalize (((w.alloc (.cells #[.int .u64 ar, .int .u64 ac, .int .u64 ab, .int .i64 ap] 24)).alloc (.cells #[.int .u64 br, .int .u64 bc, .int .u64 bb, .int .i64 bp] 24)).alloc (.cells #[.int .u64 cr, .int .u64 cc, .int .u64 cb, .int .i64 cp] 24)) = W at hK ⊢
  have q1 := (hK.nth 0 rfl).cell
  have q2 := (hK.nth 1 rfl).cell
  have q3 := (hK.nth 2 rfl).cell
  go_upto_region 3 with (go_at_call 15; (with_reducible refine (orders_calls _).mono ?_); rintro e w' ⟨rfl, hb1⟩; have hK' := hK.step hb1; clear hK hb1 q1 q2 q3; rename Keep _ _ _ => hK; have q1 := (hK.nth 0 rfl).cell; have q2 := (hK.nth 1 rfl).cell; have q3 := (hK.nth 2 rfl).cell)
  rcases hcase with ⟨rfl, rfl, rfl, rfl, rfl, rfl, rfl⟩ | ⟨rfl, rfl, rfl, h⟩ | ⟨rfl, rfl, rfl, h⟩
  · clear htr
    go_wp2_with (first
      | (go_at_call 16; first | ((with_reducible refine (compare_calls _ _ _ HX.out _).mono ?_); rintro e w' ⟨rfl, hb1⟩; have hK' := hK.step hb1; clear hK hb1 q1 q2 q3; rename Keep _ _ _ => hK; have q1 := (hK.nth 0 rfl).cell; have q2 := (hK.nth 1 rfl).cell; have q3 := (hK.nth 2 rfl).cell))
      | (go_at_call 17; first | ((with_reducible refine (better_calls _ _ _ HP.out _).mono ?_); rintro e w' ⟨rfl, hb1⟩; have hK' := hK.step hb1; clear hK hb1 q1 q2 q3; rename Keep _ _ _ => hK; have q1 := (hK.nth 0 rfl).cell; have q2 := (hK.nth 1 rfl).cell; have q3 := (hK.nth 2 rfl).cell)))
    go_ret
    exact ⟨rfl, hK.below⟩
  · cases Q with
    | true =>
      obtain rfl := htr rfl rfl
      rcases h with h | ⟨rfl, h⟩ | ⟨rfl, rfl, h⟩ | ⟨rfl, rfl, rfl, h⟩
      all_goals
        go_wp2_with (first
          | (go_at_call 16; first | ((with_reducible refine (compare_calls _ _ _ HX.out _).mono ?_); rintro e w' ⟨rfl, hb1⟩; have hK' := hK.step hb1; clear hK hb1 q1 q2 q3; rename Keep _ _ _ => hK; have q1 := (hK.nth 0 rfl).cell; have q2 := (hK.nth 1 rfl).cell; have q3 := (hK.nth 2 rfl).cell) | ((with_reducible refine (compare_calls _ _ _ HY.out _).mono ?_); rintro e w' ⟨rfl, hb1⟩; have hK' := hK.step hb1; clear hK hb1 q1 q2 q3; rename Keep _ _ _ => hK; have q1 := (hK.nth 0 rfl).cell; have q2 := (hK.nth 1 rfl).cell; have q3 := (hK.nth 2 rfl).cell))
          | (go_at_call 17; first | ((with_reducible refine (better_calls _ _ _ HP.out _).mono ?_); rintro e w' ⟨rfl, hb1⟩; have hK' := hK.step hb1; clear hK hb1 q1 q2 q3; rename Keep _ _ _ => hK; have q1 := (hK.nth 0 rfl).cell; have q2 := (hK.nth 1 rfl).cell; have q3 := (hK.nth 2 rfl).cell) | ((with_reducible refine (better_calls _ _ _ HQ.out _).mono ?_); rintro e w' ⟨rfl, hb1⟩; have hK' := hK.step hb1; clear hK hb1 q1 q2 q3; rename Keep _ _ _ => hK; have q1 := (hK.nth 0 rfl).cell; have q2 := (hK.nth 1 rfl).cell; have q3 := (hK.nth 2 rfl).cell) | ((with_reducible refine (better_calls _ _ _ HR.out _).mono ?_); rintro e w' ⟨rfl, hb1⟩; have hK' := hK.step hb1; clear hK hb1 q1 q2 q3; rename Keep _ _ _ => hK; have q1 := (hK.nth 0 rfl).cell; have q2 := (hK.nth 1 rfl).cell; have q3 := (hK.nth 2 rfl).cell)))
        go_ret
        exact ⟨by first | (simp; done) | (simp; omega), hK.below⟩
    | false =>
      clear htr
      rcases h with h | ⟨rfl, h⟩ | ⟨rfl, rfl, h⟩ | ⟨rfl, rfl, rfl, h⟩
      all_goals
        go_wp2_with (first
          | (go_at_call 16; first | ((with_reducible refine (compare_calls _ _ _ HX.out _).mono ?_); rintro e w' ⟨rfl, hb1⟩; have hK' := hK.step hb1; clear hK hb1 q1 q2 q3; rename Keep _ _ _ => hK; have q1 := (hK.nth 0 rfl).cell; have q2 := (hK.nth 1 rfl).cell; have q3 := (hK.nth 2 rfl).cell) | ((with_reducible refine (compare_calls _ _ _ HY.out _).mono ?_); rintro e w' ⟨rfl, hb1⟩; have hK' := hK.step hb1; clear hK hb1 q1 q2 q3; rename Keep _ _ _ => hK; have q1 := (hK.nth 0 rfl).cell; have q2 := (hK.nth 1 rfl).cell; have q3 := (hK.nth 2 rfl).cell))
          | (go_at_call 17; first | ((with_reducible refine (better_calls _ _ _ HP.out _).mono ?_); rintro e w' ⟨rfl, hb1⟩; have hK' := hK.step hb1; clear hK hb1 q1 q2 q3; rename Keep _ _ _ => hK; have q1 := (hK.nth 0 rfl).cell; have q2 := (hK.nth 1 rfl).cell; have q3 := (hK.nth 2 rfl).cell) | ((with_reducible refine (better_calls _ _ _ HQ.out _).mono ?_); rintro e w' ⟨rfl, hb1⟩; have hK' := hK.step hb1; clear hK hb1 q1 q2 q3; rename Keep _ _ _ => hK; have q1 := (hK.nth 0 rfl).cell; have q2 := (hK.nth 1 rfl).cell; have q3 := (hK.nth 2 rfl).cell) | ((with_reducible refine (better_calls _ _ _ HR.out _).mono ?_); rintro e w' ⟨rfl, hb1⟩; have hK' := hK.step hb1; clear hK hb1 q1 q2 q3; rename Keep _ _ _ => hK; have q1 := (hK.nth 0 rfl).cell; have q2 := (hK.nth 1 rfl).cell; have q3 := (hK.nth 2 rfl).cell)))
        go_ret
        exact ⟨by first | (simp; done) | (simp; omega), hK.below⟩
  · clear htr
    rcases h with h | ⟨rfl, h⟩ | ⟨rfl, rfl, h⟩ | ⟨rfl, rfl, rfl, h⟩
    all_goals
        go_wp2_with (first
          | (go_at_call 16; first | ((with_reducible refine (compare_calls _ _ _ HX.out _).mono ?_); rintro e w' ⟨rfl, hb1⟩; have hK' := hK.step hb1; clear hK hb1 q1 q2 q3; rename Keep _ _ _ => hK; have q1 := (hK.nth 0 rfl).cell; have q2 := (hK.nth 1 rfl).cell; have q3 := (hK.nth 2 rfl).cell) | ((with_reducible refine (compare_calls _ _ _ HY.out _).mono ?_); rintro e w' ⟨rfl, hb1⟩; have hK' := hK.step hb1; clear hK hb1 q1 q2 q3; rename Keep _ _ _ => hK; have q1 := (hK.nth 0 rfl).cell; have q2 := (hK.nth 1 rfl).cell; have q3 := (hK.nth 2 rfl).cell))
          | (go_at_call 17; first | ((with_reducible refine (better_calls _ _ _ HP.out _).mono ?_); rintro e w' ⟨rfl, hb1⟩; have hK' := hK.step hb1; clear hK hb1 q1 q2 q3; rename Keep _ _ _ => hK; have q1 := (hK.nth 0 rfl).cell; have q2 := (hK.nth 1 rfl).cell; have q3 := (hK.nth 2 rfl).cell) | ((with_reducible refine (better_calls _ _ _ HQ.out _).mono ?_); rintro e w' ⟨rfl, hb1⟩; have hK' := hK.step hb1; clear hK hb1 q1 q2 q3; rename Keep _ _ _ => hK; have q1 := (hK.nth 0 rfl).cell; have q2 := (hK.nth 1 rfl).cell; have q3 := (hK.nth 2 rfl).cell) | ((with_reducible refine (better_calls _ _ _ HR.out _).mono ?_); rintro e w' ⟨rfl, hb1⟩; have hK' := hK.step hb1; clear hK hb1 q1 q2 q3; rename Keep _ _ _ => hK; have q1 := (hK.nth 0 rfl).cell; have q2 := (hK.nth 1 rfl).cell; have q3 := (hK.nth 2 rfl).cell)))
        go_ret
        exact ⟨by first | (simp; done) | (simp; omega), hK.below⟩
end Go.Proofs.Ytjnbjcieepooaab
