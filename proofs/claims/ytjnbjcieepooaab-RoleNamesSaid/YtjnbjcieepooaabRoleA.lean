/- The names of the roles, the law's own example, and the reference's two small functions, by their contracts. -/
import Derived.Test.YtjnbjcieepooaabRoleSel
namespace Go.Proofs.Ytjnbjcieepooaab
open Go.RowKit
set_option linter.unusedVariables false
set_option linter.unusedSimpArgs false

def nameF (n : Int) : ByteArray :=
  if n = 0 then ⟨#[100, 105, 115, 97, 98, 108, 101, 100]⟩ else if n = 1 then ⟨#[114, 111, 111, 116]⟩ else if n = 2 then ⟨#[100, 101, 115, 105, 103, 110, 97, 116, 101, 100]⟩
  else if n = 3 then ⟨#[97, 108, 116, 101, 114, 110, 97, 116, 101]⟩ else if n = 4 then ⟨#[98, 97, 99, 107, 117, 112]⟩ else ⟨#[]⟩
theorem name_calls (n : Int) (s : ByteArray) (hs : nameF n = s) (w : World) : Calls Try.prog 29 #[.int .i64 n] w fun e w' => e = .returned (.string s) ∧ w = w' := by
  subst hs
  by_cases h0 : n < 0
  · have e : nameF n = ⟨#[]⟩ := by unfold nameF; rw [if_neg (by omega), if_neg (by omega), if_neg (by omega), if_neg (by omega), if_neg (by omega)]
    rw [e]
    go_enter Try.func29, Try.ntmps29
    go_wp2
    go_ret
    exact ⟨rfl, rfl⟩
  · by_cases h4 : 4 < n
    · have e : nameF n = ⟨#[]⟩ := by unfold nameF; rw [if_neg (by omega), if_neg (by omega), if_neg (by omega), if_neg (by omega), if_neg (by omega)]
      rw [e]
      go_enter Try.func29, Try.ntmps29
      go_wp2
      go_ret
      exact ⟨rfl, rfl⟩
    · have hn : n = 0 ∨ n = 1 ∨ n = 2 ∨ n = 3 ∨ n = 4 := by omega
      clear h0 h4
      have i0 : ∀ w, (Instr.index 64 (.agg #[.string ⟨#[100, 105, 115, 97, 98, 108, 101, 100]⟩, .string ⟨#[114, 111, 111, 116]⟩, .string ⟨#[100, 101, 115, 105, 103, 110, 97, 116, 101, 100]⟩, .string ⟨#[97, 108, 116, 101, 114, 110, 97, 116, 101]⟩, .string ⟨#[98, 97, 99, 107, 117, 112]⟩]) (.int .i64 0)).run Try.prog w = .ok (.string (nameF 0)) w := fun _ => by kernel_rfl
      have i1 : ∀ w, (Instr.index 64 (.agg #[.string ⟨#[100, 105, 115, 97, 98, 108, 101, 100]⟩, .string ⟨#[114, 111, 111, 116]⟩, .string ⟨#[100, 101, 115, 105, 103, 110, 97, 116, 101, 100]⟩, .string ⟨#[97, 108, 116, 101, 114, 110, 97, 116, 101]⟩, .string ⟨#[98, 97, 99, 107, 117, 112]⟩]) (.int .i64 1)).run Try.prog w = .ok (.string (nameF 1)) w := fun _ => by kernel_rfl
      have i2 : ∀ w, (Instr.index 64 (.agg #[.string ⟨#[100, 105, 115, 97, 98, 108, 101, 100]⟩, .string ⟨#[114, 111, 111, 116]⟩, .string ⟨#[100, 101, 115, 105, 103, 110, 97, 116, 101, 100]⟩, .string ⟨#[97, 108, 116, 101, 114, 110, 97, 116, 101]⟩, .string ⟨#[98, 97, 99, 107, 117, 112]⟩]) (.int .i64 2)).run Try.prog w = .ok (.string (nameF 2)) w := fun _ => by kernel_rfl
      have i3 : ∀ w, (Instr.index 64 (.agg #[.string ⟨#[100, 105, 115, 97, 98, 108, 101, 100]⟩, .string ⟨#[114, 111, 111, 116]⟩, .string ⟨#[100, 101, 115, 105, 103, 110, 97, 116, 101, 100]⟩, .string ⟨#[97, 108, 116, 101, 114, 110, 97, 116, 101]⟩, .string ⟨#[98, 97, 99, 107, 117, 112]⟩]) (.int .i64 3)).run Try.prog w = .ok (.string (nameF 3)) w := fun _ => by kernel_rfl
      have i4 : ∀ w, (Instr.index 64 (.agg #[.string ⟨#[100, 105, 115, 97, 98, 108, 101, 100]⟩, .string ⟨#[114, 111, 111, 116]⟩, .string ⟨#[100, 101, 115, 105, 103, 110, 97, 116, 101, 100]⟩, .string ⟨#[97, 108, 116, 101, 114, 110, 97, 116, 101]⟩, .string ⟨#[98, 97, 99, 107, 117, 112]⟩]) (.int .i64 4)).run Try.prog w = .ok (.string (nameF 4)) w := fun _ => by kernel_rfl
      rcases hn with rfl | rfl | rfl | rfl | rfl
      all_goals
        go_enter Try.func29, Try.ntmps29
        go_wp2
        go_ret
        exact ⟨rfl, rfl⟩

theorem bet_root {a b : Vec} (h : a.root ≠ b.root) : betB a b = decide (a.root < b.root) := by
  unfold betB; rw [cmp_root h]; unfold ordI
  by_cases h1 : a.root < b.root
  · rw [if_pos h1, decide_eq_true h1]; rfl
  · rw [if_neg h1, if_pos (by omega), decide_eq_false h1]; rfl
theorem bet_cost {a b : Vec} (h1 : a.root = b.root) (h : a.cost ≠ b.cost) : betB a b = decide (a.cost < b.cost) := by
  unfold betB; rw [cmp_cost h1 h]; unfold ordI
  by_cases h1 : a.cost < b.cost
  · rw [if_pos h1, decide_eq_true h1]; rfl
  · rw [if_neg h1, if_pos (by omega), decide_eq_false h1]; rfl
theorem bet_bridge {a b : Vec} (h1 : a.root = b.root) (h2 : a.cost = b.cost) (h : a.bridge ≠ b.bridge) : betB a b = decide (a.bridge < b.bridge) := by
  unfold betB; rw [cmp_bridge h1 h2 h]; unfold ordI
  by_cases h1 : a.bridge < b.bridge
  · rw [if_pos h1, decide_eq_true h1]; rfl
  · rw [if_neg h1, if_pos (by omega), decide_eq_false h1]; rfl
theorem bet_port {a b : Vec} (h1 : a.root = b.root) (h2 : a.cost = b.cost) (h3 : a.bridge = b.bridge) : betB a b = decide (a.port < b.port) := by
  unfold betB; rw [cmp_port h1 h2 h3]; unfold ordI
  by_cases h1 : a.port < b.port
  · rw [if_pos h1, decide_eq_true h1]; rfl
  · by_cases h2 : b.port < a.port
    · rw [if_neg h1, if_pos h2, decide_eq_false h1]; rfl
    · rw [if_neg h1, if_neg h2, decide_eq_false h1]; rfl

theorem before_calls (a b : Vec) (x : Bool) (hx : betB a b = x) (w : World) :
    Calls Try.prog 35 #[a.val, b.val] w fun e w' => e = .returned (.bool x) ∧ Below w.heap.size w w' := by
  subst hx
  have b2 : Hid (∀ (a b : Obj), Below w.heap.size w ((w.alloc a).alloc b)) := fun a b => ((Below.refl _ _).alloc (Nat.le_refl _) _).alloc (by simp) _
  by_cases h1 : a.root = b.root
  · by_cases h2 : a.cost = b.cost
    · by_cases h3 : a.bridge = b.bridge
      · rw [bet_port h1 h2 h3]
        obtain ⟨ar, ac, ab, ap⟩ := a
        obtain ⟨br, bc, bb, bp⟩ := b
        simp only at h1 h2 h3
        subst h1 h2 h3
        go_enter Try.func35, Try.ntmps35
        go_wp2
        go_ret
        exact ⟨rfl, b2.out _ _⟩
      · rw [bet_bridge h1 h2 h3]
        obtain ⟨ar, ac, ab, ap⟩ := a
        obtain ⟨br, bc, bb, bp⟩ := b
        simp only at h1 h2 h3
        subst h1 h2
        have h3' : (ab != bb) = true := by simpa using h3
        go_enter Try.func35, Try.ntmps35
        go_wp2
        go_ret
        exact ⟨rfl, b2.out _ _⟩
    · rw [bet_cost h1 h2]
      obtain ⟨ar, ac, ab, ap⟩ := a
      obtain ⟨br, bc, bb, bp⟩ := b
      simp only at h1 h2
      subst h1
      have h3' : (ac != bc) = true := by simpa using h2
      go_enter Try.func35, Try.ntmps35
      go_wp2
      go_ret
      exact ⟨rfl, b2.out _ _⟩
  · rw [bet_root h1]
    obtain ⟨ar, ac, ab, ap⟩ := a
    obtain ⟨br, bc, bb, bp⟩ := b
    simp only at h1
    have h3' : (ar != br) = true := by simpa using h1
    go_enter Try.func35, Try.ntmps35
    go_wp2
    go_ret
    exact ⟨rfl, b2.out _ _⟩

def farF (a b : Int) : Int := if 4294967295 < b ∨ 4294967295 - b < a then 4294967295 else a + b
theorem far_calls (a b x : Int) (hx : farF a b = x) (ha : 0 ≤ a) (hb : 0 ≤ b) (w : World) :
    Calls Try.prog 34 #[.int .u64 a, .int .u64 b] w fun e w' => e = .returned (.int .u64 x) ∧ w = w' := by
  subst hx
  unfold farF
  by_cases h1 : 4294967295 < a
  · rw [if_pos (by omega)]
    go_enter Try.func34, Try.ntmps34
    go_wp2
    go_ret
    exact ⟨rfl, rfl⟩
  · by_cases h2 : 4294967295 < b
    · rw [if_pos (by omega)]
      go_enter Try.func34, Try.ntmps34
      go_wp2
      go_ret
      exact ⟨rfl, rfl⟩
    · by_cases h3 : 4294967295 < a + b
      · rw [if_pos (by omega)]
        go_enter Try.func34, Try.ntmps34
        go_wp2
        go_ret
        exact ⟨rfl, rfl⟩
      · rw [if_neg (by omega)]
        go_enter Try.func34, Try.ntmps34
        go_wp2
        go_ret
        exact ⟨rfl, rfl⟩
end Go.Proofs.Ytjnbjcieepooaab
