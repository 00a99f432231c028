/- 'Id' of package vector, and the example of the laws on vectors. -/
import Derived.Test.YtjnbjcieepooaabVectorB
namespace Go.Proofs.Ytjnbjcieepooaab
open Go.RowKit
set_option linter.unusedVariables false
set_option linter.unusedSimpArgs false

def macV (m : Nat → Int) : Value := .agg #[.int .u8 (m 0), .int .u8 (m 1), .int .u8 (m 2), .int .u8 (m 3), .int .u8 (m 4), .int .u8 (m 5)]
def idN (p : Int) (m : Nat → Int) : Nat → Int
  | 0 => p
  | k + 1 => idN p m k * 256 + m k
def idBad (p : Int) : Prop := p < 0 ∨ 61440 < p ∨ ¬ p % 4096 = 0

theorem idN_bd (p : Int) (m : Nat → Int) (h0 : 0 ≤ p) (h1 : p ≤ 61440) (hm : ∀ k, k < 6 → 0 ≤ m k ∧ m k ≤ 255) : ∀ k, k ≤ 6 → 0 ≤ idN p m k ∧ idN p m k < 65536 * 256 ^ k := by
  intro k
  induction k with
  | zero => intro _; simp only [idN]; omega
  | succ k ih =>
    intro hk
    have h := ih (by omega)
    have hmk := hm k (by omega)
    simp only [idN]
    have e : (65536 : Int) * 256 ^ (k + 1) = 65536 * 256 ^ k * 256 := by rw [Int.pow_succ, Int.mul_assoc]
    rw [e]
    omega

theorem or8 (n x : Int) (h0 : 0 ≤ n) (h1 : n < 72057594037927936) (x0 : 0 ≤ x) (x1 : x ≤ 255) : bits .or .u64 (n * 256) x = n * 256 + x := by
  rw [u64_or (n * 256) x (by omega) (by omega) (by omega) (by omega)]
  have e : (n * 256).toNat ||| x.toNat = n.toNat * 256 + x.toNat := by
    have h := Nat.two_pow_add_eq_or_of_lt (i := 8) (b := x.toNat) (by omega) n.toNat
    have e2 : (n * 256).toNat = 2 ^ 8 * n.toNat := by omega
    rw [e2, ← h]
    omega
  rw [e]
  omega

theorem id_bad (p : Int) (m : Nat → Int) (h : idBad p) (w : World) :
    Calls Try.prog 21 #[.int .i64 p, macV m] w fun e w' => e = .returned (.tuple #[.int .u64 0, .int .i64 1]) ∧ Below w.heap.size w w' := by
  unfold macV
  by_cases h1 : p < 0
  · go_enter Try.func21, Try.ntmps21
    go_wp2
    go_ret2
    exact ⟨rfl, (Below.refl _ _).alloc (Nat.le_refl _) _⟩
  by_cases h2 : 61440 < p
  · go_enter Try.func21, Try.ntmps21
    go_wp2
    go_ret2
    exact ⟨rfl, (Below.refl _ _).alloc (Nat.le_refl _) _⟩
  have h0 : 0 ≤ p := by omega
  have h3 : (p % 4096 != 0) = true := by
    rcases h with h | h | h
    · omega
    · omega
    · simpa using h
  clear h
  go_enter Try.func21, Try.ntmps21
  go_wp2
  go_ret2
  exact ⟨rfl, (Below.refl _ _).alloc (Nat.le_refl _) _⟩

set_option maxHeartbeats 1000000 in
theorem id_ok (p : Int) (m : Nat → Int) (h : ¬ idBad p) (hm : ∀ k, k < 6 → 0 ≤ m k ∧ m k ≤ 255) (x : Int) (hx : idN p m 6 = x) (w : World) :
    Calls Try.prog 21 #[.int .i64 p, macV m] w fun e w' => e = .returned (.tuple #[.int .u64 x, .int .i64 0]) ∧ Below w.heap.size w w' := by
  unfold idBad at h
  have h0 : 0 ≤ p := by omega
  have h1 : p ≤ 61440 := by omega
  have h3 : (p % 4096 != 0) = false := by
    have : p % 4096 = 0 := by omega
    simpa using this
  have HX := Lib.hid hx
  have HM := Lib.hid hm
  have HBD := Lib.hid (idN_bd p m h0 h1 hm)
  have hidx : ∀ k : Nat, k < 6 → ∀ w, (Instr.index 36 (.agg #[.int .u8 (m 0), .int .u8 (m 1), .int .u8 (m 2), .int .u8 (m 3), .int .u8 (m 4), .int .u8 (m 5)]) (.int .i64 (k : Int))).run Try.prog w = .ok (.int .u8 (m k)) w := by
    intro k hk w
    refine index_one Try.underlying36 (fun _ => by kernel_rfl) (fun _ => by kernel_rfl) k hk ?_ _ _
    have : k = 0 ∨ k = 1 ∨ k = 2 ∨ k = 3 ∨ k = 4 ∨ k = 5 := by omega
    rcases this with rfl | rfl | rfl | rfl | rfl | rfl <;> rfl
  have HI := Lib.hid hidx
  clear h hx hm hidx
  unfold macV
  go_enter Try.func21, Try.ntmps21
  go_wp2
  go_loopg [6, 23] 6 (fun g s6 s23 wx => ∃ k : Nat, k + g = 6 ∧ s23 = .int .i64 (k : Int) ∧ s6 = .int .u64 (idN p m k) ∧ Below w.heap.size w wx)
  case atStart => exact ⟨0, rfl, rfl, rfl, (Below.refl _ _).alloc (Nat.le_refl _) _⟩
  case round =>
    obtain ⟨k, hkg, rfl, rfl, hb⟩ := hrel
    have HB := Lib.hid hb
    clear hb
    cases gk with
    | zero =>
      obtain rfl : k = 6 := by omega
      rw [HX.out]
      go_wp2
      go_ret2
      exact ⟨rfl, HB.out⟩
    | succ g =>
      have hk6 : k < 6 := by omega
      have hidx := HI.out k hk6
      obtain ⟨n, hn⟩ : ∃ n, n = idN p m k := ⟨_, rfl⟩
      obtain ⟨y, hy⟩ : ∃ y, y = m k := ⟨_, rfl⟩
      have hbd := HBD.out k (by omega)
      have hyb := HM.out k hk6
      have hpk : (65536 : Int) * 256 ^ k ≤ 72057594037927936 := by
        have : k = 0 ∨ k = 1 ∨ k = 2 ∨ k = 3 ∨ k = 4 ∨ k = 5 := by omega
        rcases this with rfl | rfl | rfl | rfl | rfl | rfl <;> omega
      rw [← hn] at hbd ⊢
      rw [← hy] at hidx hyb
      have n0 : 0 ≤ n := hbd.1
      have n1 : n < 72057594037927936 := by omega
      have y0 := hyb.1
      have y1 := hyb.2
      have ho := or8 n y n0 n1 y0 y1
      have HS : Hid (idN p m (k + 1) = n * 256 + y) := by show idN p m k * 256 + m k = _; rw [← hn, ← hy]
      clear hn hy hbd hyb hpk
      go_wp2
      go_roundg g
      case measure => omega
      case rel => exact ⟨k + 1, by omega, by go_num, by rw [HS.out], HB.out⟩
/-- Two blocks of vectors, and all that was there before. -/
structure Keep2 (w W : World) (b1 : Nat) (c1 : Array Value) (b2 : Nat) (c2 : Array Value) : Prop where
  k1 : Blk W b1 c1 24
  k2 : Blk W b2 c2 24
  below : Below w.heap.size w W
theorem Keep2.step {w W W' : World} {b1 b2 : Nat} {c1 c2 : Array Value} (h : Keep2 w W b1 c1 b2 c2) (hb : Below W.heap.size W W') : Keep2 w W' b1 c1 b2 c2 :=
  ⟨h.k1.below hb h.k1.lt, h.k2.below hb h.k2.lt, h.below.trans (hb.mono h.below.size)⟩

def ov1 : Vec := ⟨1, 0, 1, 5⟩
def ov2 : Vec := ⟨1, 4, 2, 1⟩
def omac (k : Nat) : Int := [0, 0, 0, 0, 1, 2].getD k 0
theorem oe1 : betB ov1 ov2 = true := by rfl
theorem oe2 : betB ov2 ov1 = false := by rfl
theorem oe3 : cmpV ov1 ov1 = 0 := by rfl
theorem oe4 : overV ov2 10 = ⟨1, 14, 2, 1⟩ := by rfl
theorem oe5 : bestN (fun i => if i = 0 then ov2 else ov1) 2 = 1 := by rfl
theorem oe6 : bestN (fun _ => ov1) 0 = -1 := by rfl
theorem oe7 : supB ov1 ov2 = true := by rfl
theorem oe8 : costF 1000 = 20000 := by rfl
theorem oe9 : idN 4096 omac 6 = 1152921504606847234 := by decide +kernel
theorem oe10 : pidF 128 3 = (32771, 0) := by decide +kernel
theorem om : ∀ k, k < 6 → 0 ≤ omac k ∧ omac k ≤ 255 := by
  intro k hk
  have : k = 0 ∨ k = 1 ∨ k = 2 ∨ k = 3 ∨ k = 4 ∨ k = 5 := by omega
  rcases this with rfl | rfl | rfl | rfl | rfl | rfl <;> decide
theorem oid : ¬ idBad 4096 := by unfold idBad; omega
theorem idE (w : World) : Calls Try.prog 21 #[.int .i64 4096, .agg #[.int .u8 0, .int .u8 0, .int .u8 0, .int .u8 0, .int .u8 1, .int .u8 2]] w fun e w' => e = .returned (.tuple #[.int .u64 1152921504606847234, .int .i64 0]) ∧ Below w.heap.size w w' :=
  id_ok 4096 omac oid om _ oe9 w
theorem cmpE (w : World) : Calls Try.prog 16 #[.agg #[.int .u64 1, .int .u64 0, .int .u64 1, .int .i64 5], .agg #[.int .u64 1, .int .u64 0, .int .u64 1, .int .i64 5]] w fun e w' => e = .returned (.int .i64 0) ∧ Below w.heap.size w w' := compare_calls ov1 ov1 _ oe3 w
theorem betE (w : World) : Calls Try.prog 17 #[.agg #[.int .u64 1, .int .u64 0, .int .u64 1, .int .i64 5], .agg #[.int .u64 1, .int .u64 4, .int .u64 2, .int .i64 1]] w fun e w' => e = .returned (.bool true) ∧ Below w.heap.size w w' := better_calls ov1 ov2 _ oe1 w
theorem betF (w : World) : Calls Try.prog 17 #[.agg #[.int .u64 1, .int .u64 4, .int .u64 2, .int .i64 1], .agg #[.int .u64 1, .int .u64 0, .int .u64 1, .int .i64 5]] w fun e w' => e = .returned (.bool false) ∧ Below w.heap.size w w' := better_calls ov2 ov1 _ oe2 w
theorem ovE (w : World) : Calls Try.prog 18 #[.agg #[.int .u64 1, .int .u64 4, .int .u64 2, .int .i64 1], .int .u64 10] w fun e w' => e = .returned (.agg #[.int .u64 1, .int .u64 14, .int .u64 2, .int .i64 1]) ∧ Below w.heap.size w w' := over_calls ov2 10 _ oe4 w (by decide) (by decide) (by decide) (by decide)
theorem supE (w : World) : Calls Try.prog 20 #[.agg #[.int .u64 1, .int .u64 0, .int .u64 1, .int .i64 5], .agg #[.int .u64 1, .int .u64 4, .int .u64 2, .int .i64 1]] w fun e w' => e = .returned (.bool true) ∧ Below w.heap.size w w' := super_calls ov1 ov2 _ oe7 w
theorem bestE (w : World) : Calls Try.prog 19 #[.slice none 0 0] w fun e w' => e = .returned (.int .i64 (-1)) ∧ Below w.heap.size w w' := best_calls none 0 0 (fun _ => ov1) w (by omega) (fun h => absurd h (by omega)) _ oe6
theorem bestF (W : World) (c : Nat) (hk : Blk W c #[.int .u64 1, .int .u64 4, .int .u64 2, .int .i64 1, .int .u64 1, .int .u64 0, .int .u64 1, .int .i64 5] 24) :
    Calls Try.prog 19 #[.slice (some ⟨c, 0, none⟩) 2 2] W fun e w' => e = .returned (.int .i64 1) ∧ Below W.heap.size W w' :=
  best_calls _ 2 2 (fun i => if i = 0 then ov2 else ov1) W (by omega) (fun _ => ⟨c, 0, rfl, hk.lt, fun i hi => by
    have : i = 0 ∨ i = 1 := by omega
    rcases this with rfl | rfl <;> exact hk.cell _, fun i hi => by
    have : i = 0 ∨ i = 1 := by omega
    rcases this with rfl | rfl <;> exact hk.cell _, fun i hi => by
    have : i = 0 ∨ i = 1 := by omega
    rcases this with rfl | rfl <;> exact hk.cell _, fun i hi => by
    have : i = 0 ∨ i = 1 := by omega
    rcases this with rfl | rfl <;> exact hk.cell _⟩) _ oe5

set_option maxHeartbeats 1000000 in
theorem orders_calls (w : World) : Calls Try.prog 15 #[] w fun e w' => e = .returned (.bool true) ∧ Below w.heap.size w w' := by
  have hin1 : Hid ((Try.prog.info? 24).map (·.size) = some (#[.int .u64 1, .int .u64 0, .int .u64 1, .int .i64 5] : Array Value).size) := by show _ = _; kernel_rfl
  have hin2 : Hid ((Try.prog.info? 24).map (·.size) = some (#[.int .u64 1, .int .u64 4, .int .u64 2, .int .i64 1] : Array Value).size) := by show _ = _; kernel_rfl
  have hfield : ∀ w : World, (Instr.field 24 (.agg #[.int .u64 1, .int .u64 14, .int .u64 2, .int .i64 1]) 1).run Try.prog w = .ok (.int .u64 14) w := fun _ => by kernel_rfl
  go_enter Try.func15, Try.ntmps15
  go_upto_region 2 with (go_at_call 22; (with_reducible refine (own_calls _ _ _).mono ?_); rintro e w' ⟨rfl, hb⟩)
  rename World => W0
  have hK : Keep2 w ((W0.alloc (.cells (#[.int .u64 1, .int .u64 0, .int .u64 1, .int .i64 5] : Array Value) 24)).alloc (.cells (#[.int .u64 1, .int .u64 4, .int .u64 2, .int .i64 1] : Array Value) 24)) W0.heap.size (#[.int .u64 1, .int .u64 0, .int .u64 1, .int .i64 5] : Array Value) (W0.heap.size + 1) (#[.int .u64 1, .int .u64 4, .int .u64 2, .int .i64 1] : Array Value) :=
    ⟨(Blk.new W0 (#[.int .u64 1, .int .u64 0, .int .u64 1, .int .i64 5] : Array Value) _).alloc _, by have := Blk.new (W0.alloc (.cells (#[.int .u64 1, .int .u64 0, .int .u64 1, .int .i64 5] : Array Value) 24)) (#[.int .u64 1, .int .u64 4, .int .u64 2, .int .i64 1] : Array Value) 24; simpa using this, (hb.alloc hb.size _).alloc (Nat.le_trans hb.size (by simp)) _⟩
  change Code.wp _ _ _ _ ((W0.alloc (.cells (#[.int .u64 1, .int .u64 0, .int .u64 1, .int .i64 5] : Array Value) 24)).alloc (.cells (#[.int .u64 1, .int .u64 4, .int .u64 2, .int .i64 1] : Array Value) 24))
  generalize (W0.alloc (.cells (#[.int .u64 1, .int .u64 0, .int .u64 1, .int .i64 5] : Array Value) 24)).alloc (.cells (#[.int .u64 1, .int .u64 4, .int .u64 2, .int .i64 1] : Array Value) 24) = W at hK ⊢
  go_wp2_with (first
    | (refine wpList_load_all rfl 24 _ rfl W0.heap.size rfl 24 (#[.int .u64 1, .int .u64 0, .int .u64 1, .int .i64 5] : Array Value) _ (Keep2.k1 (by assumption)) Try.underlying24 rfl hin1.out ?_)
    | (refine wpList_load_all rfl 24 _ rfl (W0.heap.size + 1) rfl 24 (#[.int .u64 1, .int .u64 4, .int .u64 2, .int .i64 1] : Array Value) _ (Keep2.k2 (by assumption)) Try.underlying24 rfl hin2.out ?_)
    | (go_at_call 21; (with_reducible refine (idE _).mono ?_); rintro e w' ⟨rfl, hb1⟩; have hK' := hK.step hb1; clear hK hb1; rename Keep2 _ _ _ _ _ _ => hK)
    | (go_at_call 23; (with_reducible refine (pid_calls _ _ _ _ oe10 _).mono ?_); rintro e w' ⟨rfl, rfl⟩)
    | (go_at_call 17; first | ((with_reducible refine (betE _).mono ?_); rintro e w' ⟨rfl, hb1⟩; have hK' := hK.step hb1; clear hK hb1; rename Keep2 _ _ _ _ _ _ => hK) | ((with_reducible refine (betF _).mono ?_); rintro e w' ⟨rfl, hb1⟩; have hK' := hK.step hb1; clear hK hb1; rename Keep2 _ _ _ _ _ _ => hK))
    | (go_at_call 16; (with_reducible refine (cmpE _).mono ?_); rintro e w' ⟨rfl, hb1⟩; have hK' := hK.step hb1; clear hK hb1; rename Keep2 _ _ _ _ _ _ => hK)
    | (go_at_call 18; (with_reducible refine (ovE _).mono ?_); rintro e w' ⟨rfl, hb1⟩; have hK' := hK.step hb1; clear hK hb1; rename Keep2 _ _ _ _ _ _ => hK)
    | (go_at_call 20; (with_reducible refine (supE _).mono ?_); rintro e w' ⟨rfl, hb1⟩; have hK' := hK.step hb1; clear hK hb1; rename Keep2 _ _ _ _ _ _ => hK)
    | (go_at_call 24; (with_reducible refine (cost_calls _ _ oe8 _).mono ?_); rintro e w' ⟨rfl, rfl⟩)
    | (go_at_call 19; first | ((with_reducible refine (bestF _ _ (Blk.new _ _ _)).mono ?_); rintro e w' ⟨rfl, hb1⟩; have hK' := (hK.step ((Below.refl _ _).alloc (Nat.le_refl _) _)).step hb1; clear hK hb1; rename Keep2 _ _ _ _ _ _ => hK) | ((with_reducible refine (bestE _).mono ?_); rintro e w' ⟨rfl, hb1⟩; have hK' := hK.step hb1; clear hK hb1; rename Keep2 _ _ _ _ _ _ => hK)))
  go_ret
  exact ⟨rfl, Keep2.below (by assumption)⟩
end Go.Proofs.Ytjnbjcieepooaab
