/- The law 'VectorOver'. -/
import Derived.Test.YtjnbjcieepooaabVectorC
import Derived.Test.YtjnbjcieepooaabVectorPlain
namespace Go.Proofs.Ytjnbjcieepooaab
open Go.RowKit
set_option linter.unusedVariables false
set_option linter.unusedSimpArgs false

theorem over_cost (v : Vec) (c : Int) : (overV v c).cost = if 4294967295 < c ∨ 4294967295 - c < v.cost then 4294967295 else v.cost + c := by
  unfold overV; split <;> rfl
theorem over_rest (v : Vec) (c : Int) : (overV v c).root = v.root ∧ (overV v c).bridge = v.bridge ∧ (overV v c).port = v.port := by
  unfold overV; split <;> exact ⟨rfl, rfl, rfl⟩

set_option maxHeartbeats 4000000 in
/-- 'VectorOver' answers true. -/
theorem vectorOver_any (w : World) (v : Vec) (hv : v.ok) (c m : Int) (c0 : 0 ≤ c) (c1 : c ≤ 18446744073709551615) (m0 : 0 ≤ m) (m1 : m ≤ 18446744073709551615) :
    Calls Try.prog 4 #[v.val, .int .u64 c, .int .u64 m] w fun e w' => e = .returned (.bool true) ∧ Below w.heap.size w w' := by
  obtain ⟨u, hu⟩ : ∃ u, overV v c = u := ⟨_, rfl⟩
  obtain ⟨z, hz⟩ : ∃ z, overV v m = z := ⟨_, rfl⟩
  obtain ⟨P, hP⟩ : ∃ P, betB u v = P := ⟨_, rfl⟩
  obtain ⟨Q, hQ⟩ : ∃ Q, betB z u = Q := ⟨_, rfl⟩
  have hur := over_rest v c
  have huc := over_cost v c
  have hzr := over_rest v m
  have hzc := over_cost v m
  rw [hu] at hur huc
  rw [hz] at hzr hzc
  have hPf : v.cost ≤ 4294967295 → P = false := fun h => by
    rw [← hP]
    refine (betB_false _ _).2 fun hb => ?_
    unfold Bet at hb
    have := hv.c0
    split at huc <;> omega
  have hQf : c ≤ m → Q = false := fun h => by
    rw [← hQ]
    refine (betB_false _ _).2 fun hb => ?_
    unfold Bet at hb
    have := hv.c0
    split at huc <;> split at hzc <;> omega
  have HU := Lib.hid hu
  have HZ := Lib.hid hz
  have HP := Lib.hid hP
  have HQ := Lib.hid hQ
  clear hu hz hP hQ hzc hzr
  obtain ⟨vr, vc, vb, vp⟩ := v
  obtain ⟨ur, uc, ub, up⟩ := u
  obtain ⟨zr, zc, zb, zp⟩ := z
  obtain ⟨r0, r1, k0, k1, b0, b1, p0, p1⟩ := hv
  simp only at hur huc hPf r0 r1 k0 k1 b0 b1 p0 p1
  obtain ⟨rfl, rfl, rfl⟩ := hur
  clear r0 r1 b0 b1 p0 p1
  have uc0 : 0 ≤ uc := by split at huc <;> omega
  have uc1 : uc ≤ 4294967295 := by split at huc <;> omega
  have hcases : (vc < 4294967295 ∧ c < 4294967295 ∧ vc + c < 4294967295 ∧ uc = vc + c) ∨ (vc < 4294967295 ∧ c < 4294967295 ∧ 4294967295 ≤ vc + c ∧ uc = 4294967295) ∨ (vc < 4294967295 ∧ 4294967295 ≤ c ∧ uc = 4294967295) ∨ (4294967295 ≤ vc ∧ uc = 4294967295) := by
    split at huc <;> omega
  clear huc
  go_enter Try.func4, Try.ntmps4
  go_upto_region 1 with fail
  have hK : Keep w (w.alloc (.cells #[.int .u64 ur, .int .u64 vc, .int .u64 ub, .int .i64 up] 24)) [(w.heap.size, #[.int .u64 ur, .int .u64 vc, .int .u64 ub, .int .i64 up], 24)] := (Keep.start w).add _ _
  generalize w.alloc (.cells #[.int .u64 ur, .int .u64 vc, .int .u64 ub, .int .i64 up] 24) = W at hK ⊢
  have q1 := (hK.nth 0 rfl).cell
  go_upto_region 4 with (first
    | (go_at_call 15; (with_reducible refine (orders_calls _).mono ?_); rintro e w' ⟨rfl, hb1⟩; have hK' := hK.step hb1; clear hK hb1 q1; rename Keep _ _ _ => hK; have q1 := (hK.nth 0 rfl).cell)
    | (go_at_call 18; (with_reducible refine (over_calls _ _ _ HU.out _ k0 k1 c0 c1).mono ?_); rintro e w' ⟨rfl, hb1⟩; have hK' := hK.step hb1; clear hK hb1 q1; rename Keep _ _ _ => hK; have q1 := (hK.nth 0 rfl).cell))
  rename World => W1
  have hK2 := hK.add #[.int .u64 ur, .int .u64 uc, .int .u64 ub, .int .i64 up] 24
  change Code.wp _ _ _ _ (W1.alloc (.cells #[.int .u64 ur, .int .u64 uc, .int .u64 ub, .int .i64 up] 24))
  generalize W1.alloc (.cells #[.int .u64 ur, .int .u64 uc, .int .u64 ub, .int .i64 up] 24) = W2 at hK2 ⊢
  clear hK q1
  have q1 := (hK2.nth 1 rfl).cell
  have q2 := (hK2.nth 0 rfl).cell
  rcases hcases with ⟨h1, h2, h3, rfl⟩ | ⟨h1, h2, h3, rfl⟩ | ⟨h1, h2, rfl⟩ | ⟨h1, rfl⟩
  all_goals
    go_upto_region 13 with (go_at_call 17; (with_reducible refine (better_calls _ _ _ HP.out _).mono ?_); rintro e w' ⟨rfl, hb1⟩; have hK' := hK2.step hb1; clear hK2 hb1 q1 q2; rename Keep _ _ _ => hK2; have q1 := (hK2.nth 1 rfl).cell; have q2 := (hK2.nth 0 rfl).cell)
  all_goals
    have s1 := (hK2.nth 0 rfl).lt
    have s2 := (hK2.nth 1 rfl).lt
    by_cases hmc : m < c
    · have hmd : decide (m < c) = true := decide_eq_true hmc
      go_quiet (fail)
      go_wp2
      go_ret
      exact ⟨rfl, (hK2.drewN _).below⟩
    · have hmd : decide (m < c) = false := decide_eq_false hmc
      obtain rfl := hQf (by omega)
      go_region_with (first
        | (go_at_call 18; (with_reducible refine (over_calls _ _ _ HZ.out _ k0 k1 m0 m1).mono ?_); rintro e w' ⟨rfl, hb1⟩; have hK' := Keep.step_drew hK2 hb1; have r1 := (hK'.nth 1 rfl).cell; have r2 := (hK'.nth 0 rfl).cell)
        | (go_at_call 17; (with_reducible refine (better_calls _ _ _ HQ.out _).mono ?_); rintro e w' ⟨rfl, hb2⟩; have hK3 := Keep.step hK' hb2))
      all_goals
        go_wp2
        go_ret
        exact ⟨rfl, hK3.below⟩
end Go.Proofs.Ytjnbjcieepooaab
