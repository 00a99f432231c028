/- The law 'VectorSupersedes'. -/
import Derived.Test.YtjnbjcieepooaabVectorC
import Derived.Test.YtjnbjcieepooaabVectorPlain
namespace Go.Proofs.Ytjnbjcieepooaab
open Go.RowKit
set_option linter.unusedVariables false
set_option linter.unusedSimpArgs false

set_option maxHeartbeats 2000000 in
/-- 'VectorSupersedes' answers true. -/
theorem vectorSupersedes_any (w : World) (a b : Vec) :
    Calls Try.prog 6 #[a.val, b.val] w fun e w' => e = .returned (.bool true) ∧ Below w.heap.size w w' := by
  obtain ⟨X, hX⟩ : ∃ X, cmpV a b = X := ⟨_, rfl⟩
  obtain ⟨S, hS⟩ : ∃ S, supB a b = S := ⟨_, rfl⟩
  have hself : supB b b = true := by unfold supB; simp
  have hc : (X = -1 ∧ S = true ∧ ((a.bridge = b.bridge ∧ a.port = b.port) ∨ ¬ (a.bridge = b.bridge) ∨ (a.bridge = b.bridge ∧ ¬ a.port = b.port))) ∨ ((X = 0 ∨ X = 1) ∧ ((S = true ∧ a.bridge = b.bridge ∧ a.port = b.port) ∨ (S = false ∧ (¬ (a.bridge = b.bridge) ∨ (a.bridge = b.bridge ∧ ¬ a.port = b.port))))) := by
    rcases cmp_all a b with ⟨h, k⟩ | ⟨h, k⟩ | ⟨h, k⟩
    · left
      refine ⟨by rw [← hX, h], by rw [← hS]; unfold supB; rw [(betB_iff _ _).2 k]; rfl, by omega⟩
    · right
      have hb : betB a b = false := (betB_false _ _).2 fun h' => h'.asymm k
      refine ⟨.inr (by rw [← hX, h]), ?_⟩
      unfold supB at hS
      rw [hb, Bool.false_or] at hS
      by_cases e1 : a.bridge = b.bridge
      · by_cases e2 : a.port = b.port
        · left; exact ⟨by rw [← hS]; simp [e1, e2], e1, e2⟩
        · right; exact ⟨by rw [← hS]; simp [e2], .inr ⟨e1, e2⟩⟩
      · right; exact ⟨by rw [← hS]; simp [e1], .inl e1⟩
    · right
      subst k
      exact ⟨.inl (by rw [← hX, h]), .inl ⟨by rw [← hS]; exact hself, rfl, rfl⟩⟩
  have HX := Lib.hid hX
  have HS := Lib.hid hS
  have HB := Lib.hid hself
  clear hX hS hself
  obtain ⟨ar, ac, ab, ap⟩ := a
  obtain ⟨br, bc, bb, bp⟩ := b
  simp only at hc
  go_enter Try.func6, Try.ntmps6
  go_upto_region 1 with fail
  have hK : Keep w ((w.alloc (.cells #[.int .u64 ar, .int .u64 ac, .int .u64 ab, .int .i64 ap] 24)).alloc (.cells #[.int .u64 br, .int .u64 bc, .int .u64 bb, .int .i64 bp] 24)) [(w.heap.size + 1, #[.int .u64 br, .int .u64 bc, .int .u64 bb, .int .i64 bp], 24), (w.heap.size, #[.int .u64 ar, .int .u64 ac, .int .u64 ab, .int .i64 ap], 24)] := by
    have := ((Keep.start w).add #[.int .u64 ar, .int .u64 ac, .int .u64 ab, .int .i64 ap] 24).add #[.int .u64 br, .int .u64 bc, .int .u64 bb, .int .i64 bp] 24
    simpa using this
  generalize (w.alloc (.cells #[.int .u64 ar, .int .u64 ac, .int .u64 ab, .int .i64 ap] 24)).alloc (.cells #[.int .u64 br, .int .u64 bc, .int .u64 bb, .int .i64 bp] 24) = W at hK ⊢
  have q1 := (hK.nth 0 rfl).cell
  have q2 := (hK.nth 1 rfl).cell
  have fin : True := trivial
  rcases hc with ⟨rfl, rfl, ⟨rfl, rfl⟩ | h | ⟨rfl, h⟩⟩ | ⟨h0, ⟨rfl, rfl, rfl⟩ | ⟨rfl, h | ⟨rfl, h⟩⟩⟩
  · go_wp2_with (first
      | (go_at_call 15; (with_reducible refine (orders_calls _).mono ?_); rintro e w' ⟨rfl, hb1⟩; have hK' := hK.step hb1; clear hK hb1 q1 q2; rename Keep _ _ _ => hK; have q1 := (hK.nth 0 rfl).cell; have q2 := (hK.nth 1 rfl).cell)
      | (go_at_call 20; first | ((with_reducible refine (super_calls _ _ _ HS.out _).mono ?_); rintro e w' ⟨rfl, hb1⟩; have hK' := hK.step hb1; clear hK hb1 q1 q2; rename Keep _ _ _ => hK; have q1 := (hK.nth 0 rfl).cell; have q2 := (hK.nth 1 rfl).cell) | ((with_reducible refine (super_calls _ _ _ HB.out _).mono ?_); rintro e w' ⟨rfl, hb1⟩; have hK' := hK.step hb1; clear hK hb1 q1 q2; rename Keep _ _ _ => hK; have q1 := (hK.nth 0 rfl).cell; have q2 := (hK.nth 1 rfl).cell))
      | (go_at_call 16; (with_reducible refine (compare_calls _ _ _ HX.out _).mono ?_); rintro e w' ⟨rfl, hb1⟩; have hK' := hK.step hb1; clear hK hb1 q1 q2; rename Keep _ _ _ => hK; have q1 := (hK.nth 0 rfl).cell; have q2 := (hK.nth 1 rfl).cell)); go_ret; exact ⟨by first | (simp; done) | (simp; omega), hK.below⟩
  · have hq : (ab == bb) = false := by simpa using h
    go_wp2_with (first
      | (go_at_call 15; (with_reducible refine (orders_calls _).mono ?_); rintro e w' ⟨rfl, hb1⟩; have hK' := hK.step hb1; clear hK hb1 q1 q2; rename Keep _ _ _ => hK; have q1 := (hK.nth 0 rfl).cell; have q2 := (hK.nth 1 rfl).cell)
      | (go_at_call 20; first | ((with_reducible refine (super_calls _ _ _ HS.out _).mono ?_); rintro e w' ⟨rfl, hb1⟩; have hK' := hK.step hb1; clear hK hb1 q1 q2; rename Keep _ _ _ => hK; have q1 := (hK.nth 0 rfl).cell; have q2 := (hK.nth 1 rfl).cell) | ((with_reducible refine (super_calls _ _ _ HB.out _).mono ?_); rintro e w' ⟨rfl, hb1⟩; have hK' := hK.step hb1; clear hK hb1 q1 q2; rename Keep _ _ _ => hK; have q1 := (hK.nth 0 rfl).cell; have q2 := (hK.nth 1 rfl).cell))
      | (go_at_call 16; (with_reducible refine (compare_calls _ _ _ HX.out _).mono ?_); rintro e w' ⟨rfl, hb1⟩; have hK' := hK.step hb1; clear hK hb1 q1 q2; rename Keep _ _ _ => hK; have q1 := (hK.nth 0 rfl).cell; have q2 := (hK.nth 1 rfl).cell)); go_ret; exact ⟨by first | (simp; done) | (simp; omega), hK.below⟩
  · have hq : (ap == bp) = false := by simpa using h
    go_wp2_with (first
      | (go_at_call 15; (with_reducible refine (orders_calls _).mono ?_); rintro e w' ⟨rfl, hb1⟩; have hK' := hK.step hb1; clear hK hb1 q1 q2; rename Keep _ _ _ => hK; have q1 := (hK.nth 0 rfl).cell; have q2 := (hK.nth 1 rfl).cell)
      | (go_at_call 20; first | ((with_reducible refine (super_calls _ _ _ HS.out _).mono ?_); rintro e w' ⟨rfl, hb1⟩; have hK' := hK.step hb1; clear hK hb1 q1 q2; rename Keep _ _ _ => hK; have q1 := (hK.nth 0 rfl).cell; have q2 := (hK.nth 1 rfl).cell) | ((with_reducible refine (super_calls _ _ _ HB.out _).mono ?_); rintro e w' ⟨rfl, hb1⟩; have hK' := hK.step hb1; clear hK hb1 q1 q2; rename Keep _ _ _ => hK; have q1 := (hK.nth 0 rfl).cell; have q2 := (hK.nth 1 rfl).cell))
      | (go_at_call 16; (with_reducible refine (compare_calls _ _ _ HX.out _).mono ?_); rintro e w' ⟨rfl, hb1⟩; have hK' := hK.step hb1; clear hK hb1 q1 q2; rename Keep _ _ _ => hK; have q1 := (hK.nth 0 rfl).cell; have q2 := (hK.nth 1 rfl).cell)); go_ret; exact ⟨by first | (simp; done) | (simp; omega), hK.below⟩
  · rcases h0 with rfl | rfl
    all_goals
      go_wp2_with (first
      | (go_at_call 15; (with_reducible refine (orders_calls _).mono ?_); rintro e w' ⟨rfl, hb1⟩; have hK' := hK.step hb1; clear hK hb1 q1 q2; rename Keep _ _ _ => hK; have q1 := (hK.nth 0 rfl).cell; have q2 := (hK.nth 1 rfl).cell)
      | (go_at_call 20; first | ((with_reducible refine (super_calls _ _ _ HS.out _).mono ?_); rintro e w' ⟨rfl, hb1⟩; have hK' := hK.step hb1; clear hK hb1 q1 q2; rename Keep _ _ _ => hK; have q1 := (hK.nth 0 rfl).cell; have q2 := (hK.nth 1 rfl).cell) | ((with_reducible refine (super_calls _ _ _ HB.out _).mono ?_); rintro e w' ⟨rfl, hb1⟩; have hK' := hK.step hb1; clear hK hb1 q1 q2; rename Keep _ _ _ => hK; have q1 := (hK.nth 0 rfl).cell; have q2 := (hK.nth 1 rfl).cell))
      | (go_at_call 16; (with_reducible refine (compare_calls _ _ _ HX.out _).mono ?_); rintro e w' ⟨rfl, hb1⟩; have hK' := hK.step hb1; clear hK hb1 q1 q2; rename Keep _ _ _ => hK; have q1 := (hK.nth 0 rfl).cell; have q2 := (hK.nth 1 rfl).cell)); go_ret; exact ⟨by first | (simp; done) | (simp; omega), hK.below⟩
  · have hq : (ab == bb) = false := by simpa using h
    rcases h0 with rfl | rfl
    all_goals
      go_wp2_with (first
      | (go_at_call 15; (with_reducible refine (orders_calls _).mono ?_); rintro e w' ⟨rfl, hb1⟩; have hK' := hK.step hb1; clear hK hb1 q1 q2; rename Keep _ _ _ => hK; have q1 := (hK.nth 0 rfl).cell; have q2 := (hK.nth 1 rfl).cell)
      | (go_at_call 20; first | ((with_reducible refine (super_calls _ _ _ HS.out _).mono ?_); rintro e w' ⟨rfl, hb1⟩; have hK' := hK.step hb1; clear hK hb1 q1 q2; rename Keep _ _ _ => hK; have q1 := (hK.nth 0 rfl).cell; have q2 := (hK.nth 1 rfl).cell) | ((with_reducible refine (super_calls _ _ _ HB.out _).mono ?_); rintro e w' ⟨rfl, hb1⟩; have hK' := hK.step hb1; clear hK hb1 q1 q2; rename Keep _ _ _ => hK; have q1 := (hK.nth 0 rfl).cell; have q2 := (hK.nth 1 rfl).cell))
      | (go_at_call 16; (with_reducible refine (compare_calls _ _ _ HX.out _).mono ?_); rintro e w' ⟨rfl, hb1⟩; have hK' := hK.step hb1; clear hK hb1 q1 q2; rename Keep _ _ _ => hK; have q1 := (hK.nth 0 rfl).cell; have q2 := (hK.nth 1 rfl).cell)); go_ret; exact ⟨by first | (simp; done) | (simp; omega), hK.below⟩
  · have hq : (ap == bp) = false := by simpa using h
    rcases h0 with rfl | rfl
    all_goals
      go_wp2_with (first
      | (go_at_call 15; (with_reducible refine (orders_calls _).mono ?_); rintro e w' ⟨rfl, hb1⟩; have hK' := hK.step hb1; clear hK hb1 q1 q2; rename Keep _ _ _ => hK; have q1 := (hK.nth 0 rfl).cell; have q2 := (hK.nth 1 rfl).cell)
      | (go_at_call 20; first | ((with_reducible refine (super_calls _ _ _ HS.out _).mono ?_); rintro e w' ⟨rfl, hb1⟩; have hK' := hK.step hb1; clear hK hb1 q1 q2; rename Keep _ _ _ => hK; have q1 := (hK.nth 0 rfl).cell; have q2 := (hK.nth 1 rfl).cell) | ((with_reducible refine (super_calls _ _ _ HB.out _).mono ?_); rintro e w' ⟨rfl, hb1⟩; have hK' := hK.step hb1; clear hK hb1 q1 q2; rename Keep _ _ _ => hK; have q1 := (hK.nth 0 rfl).cell; have q2 := (hK.nth 1 rfl).cell))
      | (go_at_call 16; (with_reducible refine (compare_calls _ _ _ HX.out _).mono ?_); rintro e w' ⟨rfl, hb1⟩; have hK' := hK.step hb1; clear hK hb1 q1 q2; rename Keep _ _ _ => hK; have q1 := (hK.nth 0 rfl).cell; have q2 := (hK.nth 1 rfl).cell)); go_ret; exact ⟨by first | (simp; done) | (simp; omega), hK.below⟩
end Go.Proofs.Ytjnbjcieepooaab
