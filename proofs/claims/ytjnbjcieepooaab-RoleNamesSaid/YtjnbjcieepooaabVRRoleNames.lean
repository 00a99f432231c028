/- The law 'RoleNames' answers true. -/
import Derived.Test.YtjnbjcieepooaabRoleSels
namespace Go.Proofs.Ytjnbjcieepooaab
open Go.RowKit
set_option linter.unusedVariables false
set_option linter.unusedSimpArgs false

theorem nameF_out (n : Int) (h : n < 0 ∨ 4 < n) : nameF n = ⟨#[]⟩ := by unfold nameF; rw [if_neg (by omega), if_neg (by omega), if_neg (by omega), if_neg (by omega), if_neg (by omega)]
theorem name_q (n : Int) (w : World) : Calls Try.prog 29 #[.int .i64 n] w fun e w' => e = .returned (.string (nameF n)) ∧ w' = w :=
  (name_calls n _ rfl w).mono fun _ _ h => ⟨h.1, h.2.symm⟩
set_option maxHeartbeats 2000000 in
theorem roleNames.roleNames_walk (w : World) (n : Int) (wn : (Lit.int .i64 n).wf = true) :
    Calls Try.prog 13 #[.int .i64 n] w fun e w' => e = .returned (.bool true) ∧ Below w.heap.size w w' := by
  by_cases h : n < 0 ∨ 4 < n
  · have HN := Lib.hid (nameF_out n h)
    rcases h with h | h
    all_goals
      go_enter Try.func13, Try.ntmps13
      go_wp2_with (first
        | (go_at_call 25; (with_reducible refine (selects_calls _).mono ?_); rintro e w1 ⟨rfl, hb1⟩)
        | (go_at_call 29; (with_reducible refine (name_calls _ _ HN.out _).mono ?_); rintro e w2 ⟨rfl, rfl⟩))
      go_ret
      exact ⟨rfl, by assumption⟩
  · have hn : n = 0 ∨ n = 1 ∨ n = 2 ∨ n = 3 ∨ n = 4 := by omega
    clear h
    have i0 : ∀ w, (Instr.index 64 (.agg #[.string ⟨#[100, 105, 115, 97, 98, 108, 101, 100]⟩, .string ⟨#[114, 111, 111, 116]⟩, .string ⟨#[100, 101, 115, 105, 103, 110, 97, 116, 101, 100]⟩, .string ⟨#[97, 108, 116, 101, 114, 110, 97, 116, 101]⟩, .string ⟨#[98, 97, 99, 107, 117, 112]⟩]) (.int .i64 0)).run Try.prog w = .ok (.string (nameF 0)) w := fun _ => by kernel_rfl
    have i1 : ∀ w, (Instr.index 64 (.agg #[.string ⟨#[100, 105, 115, 97, 98, 108, 101, 100]⟩, .string ⟨#[114, 111, 111, 116]⟩, .string ⟨#[100, 101, 115, 105, 103, 110, 97, 116, 101, 100]⟩, .string ⟨#[97, 108, 116, 101, 114, 110, 97, 116, 101]⟩, .string ⟨#[98, 97, 99, 107, 117, 112]⟩]) (.int .i64 1)).run Try.prog w = .ok (.string (nameF 1)) w := fun _ => by kernel_rfl
    have i2 : ∀ w, (Instr.index 64 (.agg #[.string ⟨#[100, 105, 115, 97, 98, 108, 101, 100]⟩, .string ⟨#[114, 111, 111, 116]⟩, .string ⟨#[100, 101, 115, 105, 103, 110, 97, 116, 101, 100]⟩, .string ⟨#[97, 108, 116, 101, 114, 110, 97, 116, 101]⟩, .string ⟨#[98, 97, 99, 107, 117, 112]⟩]) (.int .i64 2)).run Try.prog w = .ok (.string (nameF 2)) w := fun _ => by kernel_rfl
    have i3 : ∀ w, (Instr.index 64 (.agg #[.string ⟨#[100, 105, 115, 97, 98, 108, 101, 100]⟩, .string ⟨#[114, 111, 111, 116]⟩, .string ⟨#[100, 101, 115, 105, 103, 110, 97, 116, 101, 100]⟩, .string ⟨#[97, 108, 116, 101, 114, 110, 97, 116, 101]⟩, .string ⟨#[98, 97, 99, 107, 117, 112]⟩]) (.int .i64 3)).run Try.prog w = .ok (.string (nameF 3)) w := fun _ => by kernel_rfl
    have i4 : ∀ w, (Instr.index 64 (.agg #[.string ⟨#[100, 105, 115, 97, 98, 108, 101, 100]⟩, .string ⟨#[114, 111, 111, 116]⟩, .string ⟨#[100, 101, 115, 105, 103, 110, 97, 116, 101, 100]⟩, .string ⟨#[97, 108, 116, 101, 114, 110, 97, 116, 101]⟩, .string ⟨#[98, 97, 99, 107, 117, 112]⟩]) (.int .i64 4)).run Try.prog w = .ok (.string (nameF 4)) w := fun _ => by kernel_rfl
    rcases hn with rfl | rfl | rfl | rfl | rfl
    all_goals
      go_enter Try.func13, Try.ntmps13
      go_wp2_with (go_at_call 25; (with_reducible refine (selects_calls _).mono ?_); rintro e w1 ⟨rfl, hb1⟩)
      go_quiet ((go_at_call 29; exact Calls.quiet_of_same (name_q _ _)))
      go_wp2
      go_ret
      exact ⟨rfl, hb1.trans ⟨rfl, rfl, rfl, Nat.le_refl _, fun _ _ => rfl⟩⟩
end Go.Proofs.Ytjnbjcieepooaab
