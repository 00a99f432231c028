/- The functions of package vector, by their contracts. -/
import Derived.Test.YtjnbjcieepooaacFrame
import Derived.Deep.RegionWith
import Derived.Deep.QuietTactic
import Derived.BigQuiet
import Derived.StillTailTactics
namespace Go.Proofs.Ytjnbjcieepooaac
open Go.RowKit
set_option linter.unusedVariables false
set_option linter.unusedSimpArgs false

/-- What a bridge tells. -/
structure Vec where
  root : Int
  cost : Int
  bridge : Int
  port : Int
def Vec.cells (v : Vec) : Array Value := #[.int .u64 v.root, .int .u64 v.cost, .int .u64 v.bridge, .int .i64 v.port]
abbrev Vec.val (v : Vec) : Value := .agg #[.int .u64 v.root, .int .u64 v.cost, .int .u64 v.bridge, .int .i64 v.port]
structure Vec.ok (v : Vec) : Prop where
  r0 : 0 ≤ v.root
  r1 : v.root ≤ 18446744073709551615
  c0 : 0 ≤ v.cost
  c1 : v.cost ≤ 18446744073709551615
  b0 : 0 ≤ v.bridge
  b1 : v.bridge ≤ 18446744073709551615
  p0 : -9223372036854775808 ≤ v.port
  p1 : v.port ≤ 9223372036854775807
theorem Vec.ext' {a b : Vec} (h1 : a.root = b.root) (h2 : a.cost = b.cost) (h3 : a.bridge = b.bridge) (h4 : a.port = b.port) : a = b := by
  cases a; cases b; simp_all

theorem bcell {W w1 : World} (hb : Below W.heap.size W w1) : (∀ b o, b < W.heap.size → w1.cell? ⟨b, o, none⟩ = W.cell? ⟨b, o, none⟩) ∧ (∀ b o, b < W.heap.size → w1.frozen? ⟨b, o, none⟩ = W.frozen? ⟨b, o, none⟩) :=
  ⟨fun b o h => hb.cell (p := ⟨b, o, none⟩) h, fun b o h => hb.frozen (p := ⟨b, o, none⟩) h⟩

def ordI (a b : Int) : Int := if a < b then -1 else if b < a then 1 else 0

theorem orderU_calls (a b x : Int) (hx : ordI a b = x) (w : World) :
    Calls Try.prog 61 #[.int .u64 a, .int .u64 b] w fun e w' => e = .returned (.int .i64 x) ∧ w = w' := by
  subst hx
  unfold ordI
  by_cases h1 : a < b
  · rw [if_pos h1]
    go_enter Try.func61, Try.ntmps61
    go_wp2
    go_ret
    exact ⟨rfl, rfl⟩
  · rw [if_neg h1]
    by_cases h2 : b < a
    · rw [if_pos h2]
      go_enter Try.func61, Try.ntmps61
      go_wp2
      go_ret
      exact ⟨rfl, rfl⟩
    · rw [if_neg h2]
      go_enter Try.func61, Try.ntmps61
      go_wp2
      go_ret
      exact ⟨rfl, rfl⟩
theorem orderI_calls (a b x : Int) (hx : ordI a b = x) (w : World) :
    Calls Try.prog 62 #[.int .i64 a, .int .i64 b] w fun e w' => e = .returned (.int .i64 x) ∧ w = w' := by
  subst hx
  unfold ordI
  by_cases h1 : a < b
  · rw [if_pos h1]
    go_enter Try.func62, Try.ntmps62
    go_wp2
    go_ret
    exact ⟨rfl, rfl⟩
  · rw [if_neg h1]
    by_cases h2 : b < a
    · rw [if_pos h2]
      go_enter Try.func62, Try.ntmps62
      go_wp2
      go_ret
      exact ⟨rfl, rfl⟩
    · rw [if_neg h2]
      go_enter Try.func62, Try.ntmps62
      go_wp2
      go_ret
      exact ⟨rfl, rfl⟩

theorem orderU_q (a b : Int) (w : World) : Calls Try.prog 61 #[.int .u64 a, .int .u64 b] w fun e w' => e = .returned (.int .i64 (ordI a b)) ∧ w' = w :=
  (orderU_calls a b _ rfl w).mono fun _ _ h => ⟨h.1, h.2.symm⟩
theorem orderI_q (a b : Int) (w : World) : Calls Try.prog 62 #[.int .i64 a, .int .i64 b] w fun e w' => e = .returned (.int .i64 (ordI a b)) ∧ w' = w :=
  (orderI_calls a b _ rfl w).mono fun _ _ h => ⟨h.1, h.2.symm⟩

/-- The first of four that is not nought. -/
def first4 (c : Nat → Int) : Int := if c 0 ≠ 0 then c 0 else if c 1 ≠ 0 then c 1 else if c 2 ≠ 0 then c 2 else if c 3 ≠ 0 then c 3 else 0
theorem first4_at (c : Nat → Int) (k : Nat) (hk : k < 4) (h : ∀ j, j < k → c j = 0) (hc : c k ≠ 0) : first4 c = c k := by
  have : k = 0 ∨ k = 1 ∨ k = 2 ∨ k = 3 := by omega
  unfold first4
  rcases this with rfl | rfl | rfl | rfl
  · rw [if_pos hc]
  · rw [if_neg (by simp [h 0]), if_pos hc]
  · rw [if_neg (by simp [h 0]), if_neg (by simp [h 1]), if_pos hc]
  · rw [if_neg (by simp [h 0]), if_neg (by simp [h 1]), if_neg (by simp [h 2]), if_pos hc]
theorem first4_none (c : Nat → Int) (h : ∀ j, j < 4 → c j = 0) : first4 c = 0 := by
  unfold first4
  rw [if_neg (by simp [h 0]), if_neg (by simp [h 1]), if_neg (by simp [h 2]), if_neg (by simp [h 3])]

def cmpC (a b : Vec) (k : Nat) : Int := if k = 0 then ordI a.root b.root else if k = 1 then ordI a.cost b.cost else if k = 2 then ordI a.bridge b.bridge else ordI a.port b.port
def cmpV (a b : Vec) : Int := first4 (cmpC a b)

set_option maxHeartbeats 1000000 in
theorem compare_calls (a b : Vec) (x : Int) (hx : cmpV a b = x) (w : World) :
    Calls Try.prog 55 #[a.val, b.val] w fun e w' => e = .returned (.int .i64 x) ∧ Below w.heap.size w w' := by
  have HX := Lib.hid hx
  clear hx
  obtain ⟨ar, ac, ab, ap⟩ := a
  obtain ⟨br, bc, bb, bp⟩ := b
  go_enter Try.func55, Try.ntmps55
  go_upto_region 1 with fail
  go_quiet (first
    | (go_at_call 61; exact Calls.quiet_of_same (orderU_q _ _ _))
    | (go_at_call 62; exact Calls.quiet_of_same (orderI_q _ _ _)))
  have hidx : ∀ k : Nat, k < 4 → ∀ w, (Instr.index 82 (.agg #[.int .i64 (ordI ar br), .int .i64 (ordI ac bc), .int .i64 (ordI ab bb), .int .i64 (ordI ap bp)]) (.int .i64 (k : Int))).run Try.prog w = .ok (.int .i64 (cmpC ⟨ar, ac, ab, ap⟩ ⟨br, bc, bb, bp⟩ k)) w := by
    intro k hk w
    refine index_one Try.underlying82 (fun _ => by kernel_rfl) (fun _ => by kernel_rfl) k hk ?_ _ _
    have : k = 0 ∨ k = 1 ∨ k = 2 ∨ k = 3 := by omega
    rcases this with rfl | rfl | rfl | rfl <;> rfl
  have HI := Lib.hid hidx
  clear hidx
  obtain ⟨c, hc⟩ : ∃ c : Nat → Int, c = cmpC ⟨ar, ac, ab, ap⟩ ⟨br, bc, bb, bp⟩ := ⟨_, rfl⟩
  have HF : Hid (x = first4 c) := by show _ = _; rw [hc, ← HX.out]; rfl
  have HC := Lib.hid hc
  clear hc
  go_wp2_with fail
  go_loopg [28] 4 (fun g s28 wx => ∃ k : Nat, k + g = 4 ∧ s28 = .int .i64 (k : Int) ∧ Hid (∀ j, j < k → c j = 0) ∧ Below w.heap.size w wx)
  case atStart => exact ⟨0, rfl, rfl, fun j hj => absurd hj (by omega), ((((Below.refl _ _).alloc (Nat.le_refl _) _).alloc (by simp) _).trans ⟨rfl, rfl, rfl, Nat.le_refl _, fun _ _ => rfl⟩)⟩
  case round =>
    obtain ⟨k, hkg, rfl, HA, hb⟩ := hrel
    have HB := Lib.hid hb
    clear hb
    cases gk with
    | zero =>
      obtain rfl : k = 4 := by omega
      go_wp2
      go_ret
      exact ⟨by rw [HF.out, first4_none c HA.out]; rfl, HB.out⟩
    | succ g =>
      have hidx := HI.out k (by omega)
      rw [← HC.out] at hidx
      have hk4 : k < 4 := by omega
      cases hz : (c k != 0) with
      | false =>
        have hz' : c k = 0 := by simpa using hz
        have HZ := Lib.hid hz'
        clear hz'
        go_wp2
        go_roundg g
        case measure => omega
        case rel => exact ⟨k + 1, by omega, by go_num, fun j hj => by
          by_cases h : j = k
          · subst h; exact HZ.out
          · exact HA.out j (by omega), HB.out⟩
      | true =>
        have hz' : c k ≠ 0 := by simpa using hz
        have HZ := Lib.hid hz'
        clear hz'
        go_wp2
        go_ret
        exact ⟨by rw [HF.out, first4_at c k hk4 HA.out HZ.out]; rfl, HB.out⟩

def betB (a b : Vec) : Bool := decide (cmpV a b < 0)
theorem better_calls (a b : Vec) (x : Bool) (hx : betB a b = x) (w : World) :
    Calls Try.prog 48 #[a.val, b.val] w fun e w' => e = .returned (.bool x) ∧ Below w.heap.size w w' := by
  obtain ⟨c, hc⟩ : ∃ c, cmpV a b = c := ⟨_, rfl⟩
  have hx2 : x = decide (c < 0) := by rw [← hx, ← hc]; rfl
  have HC := Lib.hid hc
  have HX := Lib.hid hx2
  clear hx hc hx2
  obtain ⟨ar, ac, ab, ap⟩ := a
  obtain ⟨br, bc, bb, bp⟩ := b
  go_enter Try.func48, Try.ntmps48
  go_wp2_with (go_at_call 55; (with_reducible refine (compare_calls _ _ _ HC.out _).mono ?_); rintro e w' ⟨rfl, hb⟩)
  go_ret
  exact ⟨by rw [HX.out]; rfl, (((Below.refl _ _).alloc (Nat.le_refl _) _).alloc (by simp) _).trans (Below.mono (by assumption) (by simp; omega))⟩

/-- A vector behind a way. -/
def overV (v : Vec) (c : Int) : Vec := if 4294967295 < c ∨ 4294967295 - c < v.cost then { v with cost := 4294967295 } else { v with cost := v.cost + c }

theorem over_calls (v : Vec) (c : Int) (y : Vec) (hy : overV v c = y) (w : World) (hv0 : 0 ≤ v.cost) (hv1 : v.cost ≤ 18446744073709551615) (hc0 : 0 ≤ c) (hc1 : c ≤ 18446744073709551615) :
    Calls Try.prog 57 #[v.val, .int .u64 c] w fun e w' => e = .returned y.val ∧ Below w.heap.size w w' := by
  subst hy
  obtain ⟨r, k, b, p⟩ := v
  simp only at hv0 hv1
  unfold overV
  by_cases h1 : 4294967295 < c
  · rw [if_pos (by omega)]
    go_enter Try.func57, Try.ntmps57
    go_wp2
    exact bodyPost_ret (v := .agg #[.int .u64 r, .int .u64 4294967295, .int .u64 b, .int .i64 p]) (by simp [results, Try.results57, go_sem]) rfl ⟨rfl, ((Below.refl _ _).alloc (Nat.le_refl _) _).alloc (by simp) _⟩
  · by_cases h2 : 4294967295 - c < k
    · rw [if_pos (by simp only; omega)]
      go_enter Try.func57, Try.ntmps57
      go_wp2
      exact bodyPost_ret (v := .agg #[.int .u64 r, .int .u64 4294967295, .int .u64 b, .int .i64 p]) (by simp [results, Try.results57, go_sem]) rfl ⟨rfl, ((Below.refl _ _).alloc (Nat.le_refl _) _).alloc (by simp) _⟩
    · rw [if_neg (by simp only; omega)]
      go_enter Try.func57, Try.ntmps57
      go_wp2
      exact bodyPost_ret (v := .agg #[.int .u64 r, .int .u64 (k + c), .int .u64 b, .int .i64 p]) (by simp [results, Try.results57, go_sem]) rfl ⟨rfl, ((Below.refl _ _).alloc (Nat.le_refl _) _).alloc (by simp) _⟩

def ownV (b p : Int) : Vec := ⟨b, 0, b, p⟩
theorem own_calls (b p : Int) (w : World) : Calls Try.prog 19 #[.int .u64 b, .int .i64 p] w fun e w' => e = .returned (ownV b p).val ∧ Below w.heap.size w w' := by
  go_enter Try.func19, Try.ntmps19
  go_wp2
  exact bodyPost_ret (v := .agg #[.int .u64 b, .int .u64 0, .int .u64 b, .int .i64 p]) (by simp [results, Try.results19, go_sem]) rfl ⟨rfl, (Below.refl _ _).alloc (Nat.le_refl _) _⟩

def supB (a b : Vec) : Bool := betB a b || (a.bridge == b.bridge && a.port == b.port)
theorem super_calls (a b : Vec) (x : Bool) (hx : supB a b = x) (w : World) :
    Calls Try.prog 46 #[a.val, b.val] w fun e w' => e = .returned (.bool x) ∧ Below w.heap.size w w' := by
  obtain ⟨c, hc⟩ : ∃ c, betB a b = c := ⟨_, rfl⟩
  have hx2 : x = (c || (a.bridge == b.bridge && a.port == b.port)) := by rw [← hx, ← hc]; rfl
  have HC := Lib.hid hc
  have HX := Lib.hid hx2
  clear hx hc hx2
  obtain ⟨ar, ac, ab, ap⟩ := a
  obtain ⟨br, bc, bb, bp⟩ := b
  simp only at HX
  cases c with
  | true =>
    go_enter Try.func46, Try.ntmps46
    go_wp2_with (go_at_call 48; (with_reducible refine (better_calls _ _ _ HC.out _).mono ?_); rintro e w' ⟨rfl, hb⟩)
    go_ret
    exact ⟨by rw [HX.out]; rfl, (((Below.refl _ _).alloc (Nat.le_refl _) _).alloc (by simp) _).trans (Below.mono (by assumption) (by simp; omega))⟩
  | false =>
    cases h1 : (ab == bb) with
    | false =>
      have H1 := Lib.hid h1
      go_enter Try.func46, Try.ntmps46
      go_wp2_with (go_at_call 48; (with_reducible refine (better_calls _ _ _ HC.out _).mono ?_); rintro e w' ⟨rfl, hb⟩; obtain ⟨hbc, hbf⟩ := bcell hb)
      go_ret
      exact ⟨by rw [HX.out, H1.out]; rfl, (((Below.refl _ _).alloc (Nat.le_refl _) _).alloc (by simp) _).trans (Below.mono (by assumption) (by simp; omega))⟩
    | true =>
      have H1 := Lib.hid h1
      go_enter Try.func46, Try.ntmps46
      go_wp2_with (go_at_call 48; (with_reducible refine (better_calls _ _ _ HC.out _).mono ?_); rintro e w' ⟨rfl, hb⟩; obtain ⟨hbc, hbf⟩ := bcell hb)
      go_ret
      exact ⟨by rw [HX.out, H1.out]; rfl, (((Below.refl _ _).alloc (Nat.le_refl _) _).alloc (by simp) _).trans (Below.mono (by assumption) (by simp; omega))⟩
end Go.Proofs.Ytjnbjcieepooaac
