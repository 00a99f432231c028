/- The law 'VectorIds': ids are in the order of priority and address; a port's id. -/
import Derived.Test.YtjnbjcieepooaabVectorC
import Derived.Test.YtjnbjcieepooaabVectorPlain
import Derived.Test.YtjnbjcieepooaabVectorIdsPlain
import Derived.Test.YtjnbjcieepooaabVecOpen
import Derived.Deep.RegionWith
import Derived.StillTailTactics
namespace Go.Proofs.Ytjnbjcieepooaab
open Go.RowKit
set_option linter.unusedVariables false
set_option linter.unusedSimpArgs false

def idF (p : Int) (m : Nat → Int) : Int × Int := if p < 0 ∨ 61440 < p ∨ ¬ p % 4096 = 0 then (0, 1) else (idN p m 6, 0)
/-- A good priority. -/
def goodB (p : Int) : Bool := !decide (p < 0 ∨ 61440 < p ∨ ¬ p % 4096 = 0)
theorem good_neg {p : Int} (h : p < 0) : goodB p = false := by unfold goodB; simp [h]
theorem good_big {p : Int} (h : 61440 < p) : goodB p = false := by unfold goodB; simp [h]
theorem good_odd {p : Int} (h : ¬ p % 4096 = 0) : goodB p = false := by unfold goodB; simp [h]
theorem good_yes {p : Int} (h0 : 0 ≤ p) (h1 : p ≤ 61440) (h : p % 4096 = 0) : goodB p = true := by
  unfold goodB
  rw [decide_eq_false (by omega)]; rfl
theorem good_is {p : Int} (h : goodB p = true) : 0 ≤ p ∧ p ≤ 61440 ∧ p % 4096 = 0 := by
  unfold goodB at h
  simp only [Bool.not_eq_true', decide_eq_false_iff_not] at h
  omega
theorem idF_good {p : Int} {m : Nat → Int} (h : goodB p = true) : idF p m = (idN p m 6, 0) := by
  have := good_is h
  exact if_neg (by omega)
theorem idF_bad {p : Int} {m : Nat → Int} (h : goodB p = false) : idF p m = (0, 1) := by
  unfold goodB at h
  simp only [Bool.not_eq_false', decide_eq_true_eq] at h
  exact if_pos h
theorem id_calls (p : Int) (m : Nat → Int) (hm : ∀ k, k < 6 → 0 ≤ m k ∧ m k ≤ 255) (x e : Int) (hx : idF p m = (x, e)) (w : World) :
    Calls Try.prog 21 #[.int .i64 p, .agg #[.int .u8 (m 0), .int .u8 (m 1), .int .u8 (m 2), .int .u8 (m 3), .int .u8 (m 4), .int .u8 (m 5)]] w fun y w' => y = .returned (.tuple #[.int .u64 x, .int .i64 e]) ∧ Below w.heap.size w w' := by
  unfold idF at hx
  by_cases h : p < 0 ∨ 61440 < p ∨ ¬ p % 4096 = 0
  · rw [if_pos h] at hx
    simp only [Prod.mk.injEq] at hx
    obtain ⟨rfl, rfl⟩ := hx
    exact id_bad p m h w
  · rw [if_neg h] at hx
    simp only [Prod.mk.injEq] at hx
    obtain ⟨hx, rfl⟩ := hx
    exact id_ok p m h hm x hx w

/-- What the law has in memory ahead of its list of good ones. -/
abbrev idL (w : World) (P0 P1 : Int) (a b : Nat → Int) : List (Nat × Array Value × TypeId) :=
  [(w.heap.size + 2, #[.int .u8 (b 0), .int .u8 (b 1), .int .u8 (b 2), .int .u8 (b 3), .int .u8 (b 4), .int .u8 (b 5)], 36),
   (w.heap.size + 1, #[.int .u8 (a 0), .int .u8 (a 1), .int .u8 (a 2), .int .u8 (a 3), .int .u8 (a 4), .int .u8 (a 5)], 36),
   (w.heap.size, #[.int .i64 P0, .int .i64 P1], 34)]

theorem mac_str (wx : World) (c : Nat) (m : Nat → Int) (h : Blk wx c #[.int .u8 (m 0), .int .u8 (m 1), .int .u8 (m 2), .int .u8 (m 3), .int .u8 (m 4), .int .u8 (m 5)] 36) :
    (convert 41 9 (.slice (some ⟨c, 0, none⟩) 6 6)).run Try.prog wx = .ok (.string (strOfNums (macL m))) wx := by
  refine run_convert_bytes_arg wx 41 _ Try.underlying41 (by kernel_rfl) c 0 6 6 (macL m) rfl (fun i hi => ?_) 9 (by kernel_rfl)
  rw [h.cell]
  have : i = 0 ∨ i = 1 ∨ i = 2 ∨ i = 3 ∨ i = 4 ∨ i = 5 := by omega
  rcases this with rfl | rfl | rfl | rfl | rfl | rfl <;> rfl
theorem own_less (x y : Int) (L : Bool) (h : decide (x < y) = L) : betB (ownV x 1) (ownV y 1) = L := by
  by_cases hxy : x < y
  · rw [decide_eq_true hxy] at h
    rw [← h, betB_iff]
    exact .inl hxy
  · rw [decide_eq_false hxy] at h
    rw [← h, betB_false]
    intro hB
    unfold Bet ownV at hB
    simp only at hB
    omega

set_option maxRecDepth 8000 in
set_option maxHeartbeats 4000000 in
/-- 'VectorIds' answers true. -/
theorem vectorIds_any (w : World) (P0 P1 : Int) (a b : Nat → Int) (ha : ∀ k, k < 6 → 0 ≤ a k ∧ a k ≤ 255) (hb : ∀ k, k < 6 → 0 ≤ b k ∧ b k ≤ 255) :
    Calls Try.prog 7 #[.agg #[.int .i64 P0, .int .i64 P1], .agg #[.int .u8 (a 0), .int .u8 (a 1), .int .u8 (a 2), .int .u8 (a 3), .int .u8 (a 4), .int .u8 (a 5)], .agg #[.int .u8 (b 0), .int .u8 (b 1), .int .u8 (b 2), .int .u8 (b 3), .int .u8 (b 4), .int .u8 (b 5)]] w fun e w' => e = .returned (.bool true) ∧ Below w.heap.size w w' := by
  obtain ⟨⟨x, e⟩, hx⟩ : ∃ z, idF P0 a = z := ⟨_, rfl⟩
  obtain ⟨⟨y, f⟩, hy⟩ : ∃ z, idF P1 b = z := ⟨_, rfl⟩
  have HX := Lib.hid hx
  have HY := Lib.hid hy
  clear hx hy
  go_enter Try.func7, Try.ntmps7
  go_upto_region 1 with fail
  have hK : Keep w (((w.alloc (.cells #[.int .i64 P0, .int .i64 P1] 34)).alloc (.cells #[.int .u8 (a 0), .int .u8 (a 1), .int .u8 (a 2), .int .u8 (a 3), .int .u8 (a 4), .int .u8 (a 5)] 36)).alloc (.cells #[.int .u8 (b 0), .int .u8 (b 1), .int .u8 (b 2), .int .u8 (b 3), .int .u8 (b 4), .int .u8 (b 5)] 36)) (idL w P0 P1 a b) := by
    have h := (((Keep.start w).add #[.int .i64 P0, .int .i64 P1] 34).add #[.int .u8 (a 0), .int .u8 (a 1), .int .u8 (a 2), .int .u8 (a 3), .int .u8 (a 4), .int .u8 (a 5)] 36).add #[.int .u8 (b 0), .int .u8 (b 1), .int .u8 (b 2), .int .u8 (b 3), .int .u8 (b 4), .int .u8 (b 5)] 36
    simpa using h
  generalize World.alloc (World.alloc (World.alloc w _) _) _ = W at hK ⊢
  have q0 := (hK.nth 2 rfl).cell
  have q1 := (hK.nth 1 rfl).cell
  have q2 := (hK.nth 0 rfl).cell
  go_upto_region 5 with (first
    | (go_at_call 15; (with_reducible refine (orders_calls _).mono ?_); rintro e w' ⟨rfl, hb1⟩; have hK' := hK.step hb1; clear hK hb1 q0 q1 q2; rename Keep _ _ _ => hK; have q0 := (hK.nth 2 rfl).cell; have q1 := (hK.nth 1 rfl).cell; have q2 := (hK.nth 0 rfl).cell)
    | (go_at_call 21; first
        | ((with_reducible refine (id_calls P0 a ha x e HX.out _).mono ?_); rintro e w' ⟨rfl, hb1⟩; have hK' := hK.step hb1; clear hK hb1 q0 q1 q2; rename Keep _ _ _ => hK; have q0 := (hK.nth 2 rfl).cell; have q1 := (hK.nth 1 rfl).cell; have q2 := (hK.nth 0 rfl).cell)
        | ((with_reducible refine (id_calls P1 b hb y f HY.out _).mono ?_); rintro e w' ⟨rfl, hb1⟩; have hK' := hK.step hb1; clear hK hb1 q0 q1 q2; rename Keep _ _ _ => hK; have q0 := (hK.nth 2 rfl).cell; have q1 := (hK.nth 1 rfl).cell; have q2 := (hK.nth 0 rfl).cell)))
  rename World => W'
  have hK2 := hK.add #[.bool false, .bool false] 40
  have hbg : w.heap.size + 3 ≤ W'.heap.size := by
    have := (hK.nth 0 rfl).lt
    omega
  go_upto_region 6 with fail
  have hK3 : Keep w (W'.alloc (.cells #[.bool false, .bool false] 40)) (idL w P0 P1 a b) := hK.alloc _
  have hg0 := hK2.nth 0 rfl
  generalize W'.alloc (.cells #[.bool false, .bool false] 40) = W2 at hK3 hg0 ⊢
  generalize W'.heap.size = bg at hg0 hbg ⊢
  clear hK hK2 q0 q1 q2
  clear W' w' W
  have q0 := (hK3.nth 2 rfl).cell
  have hbgl : ∀ z ∈ idL w P0 P1 a b, ¬ (z.1 = bg) := by
    intro z hz
    simp only [idL, List.mem_cons, List.not_mem_nil, or_false] at hz
    rcases hz with rfl | rfl | rfl <;> (show ¬ (_ = bg)) <;> omega
  have hi0 : ∀ w, (Instr.index 34 (.agg #[.int .i64 P0, .int .i64 P1]) (.int .i64 0)).run Try.prog w = .ok (.int .i64 P0) w := fun w => by kernel_rfl
  have hi1 : ∀ w, (Instr.index 34 (.agg #[.int .i64 P0, .int .i64 P1]) (.int .i64 1)).run Try.prog w = .ok (.int .i64 P1) w := fun w => by kernel_rfl
  go_wp2
  go_loopg [35] 2 (fun g s35 wx => ∃ k : Nat, k + g = 2 ∧ s35 = .int .i64 (k : Int) ∧ Keep w wx (idL w P0 P1 a b) ∧ Blk wx bg #[.bool (if 0 < k then goodB P0 else false), .bool (if 1 < k then goodB P1 else false)] 40)
  case atStart => exact ⟨0, by omega, rfl, hK3, hg0⟩
  case round =>
    obtain ⟨k, hkg, rfl, hKw, hg⟩ := hrel
    clear hK3 hg0 q0
    have hk3 : k = 0 ∨ k = 1 ∨ k = 2 := by omega
    rcases hk3 with rfl | rfl | rfl
    ·
      obtain rfl : gk = 2 := by omega
      have g0 : wr.cell? ⟨bg, 0, none⟩ = some (.bool false) := hg.cell 0
      have g1 := hg.free 0
      clear hkg
      by_cases h1 : P0 < 0
      · have hG : goodB P0 = false := good_neg h1
        go_wp2
        go_roundg 1
        case measure => omega
        case rel => exact ⟨1, by omega, rfl, hKw.fr (Fr.set (Fr.refl (· = bg) wr) (.inl rfl) _) hbgl (fun i hi => by omega), by first | (rw [hG]; exact hg.set 0 _) | (rw [← hG]; exact hg.set 0 _) | exact hG ▸ hg.set 0 _⟩
      by_cases h2 : 61440 < P0
      · have hG : goodB P0 = false := good_big h2
        go_wp2
        go_roundg 1
        case measure => omega
        case rel => exact ⟨1, by omega, rfl, hKw.fr (Fr.set (Fr.refl (· = bg) wr) (.inl rfl) _) hbgl (fun i hi => by omega), by first | (rw [hG]; exact hg.set 0 _) | (rw [← hG]; exact hg.set 0 _) | exact hG ▸ hg.set 0 _⟩
      by_cases h3 : ¬ P0 % 4096 = 0
      · have hG : goodB P0 = false := good_odd h3
        have h4 : (P0 % 4096 == 0) = false := by simpa using h3
        have h5 : 0 ≤ P0 := by omega
        go_wp2
        go_roundg 1
        case measure => omega
        case rel => exact ⟨1, by omega, rfl, hKw.fr (Fr.set (Fr.refl (· = bg) wr) (.inl rfl) _) hbgl (fun i hi => by omega), by first | (rw [hG]; exact hg.set 0 _) | (rw [← hG]; exact hg.set 0 _) | exact hG ▸ hg.set 0 _⟩
      have h5 : 0 ≤ P0 := by omega
      have h6 : P0 % 4096 = 0 := by omega
      have hG : goodB P0 = true := good_yes h5 (by omega) h6
      have h4 : (P0 % 4096 == 0) = true := by simpa using h6
      clear h3
      go_wp2
      go_roundg 1
      case measure => omega
      case rel => exact ⟨1, by omega, rfl, hKw.fr (Fr.set (Fr.refl (· = bg) wr) (.inl rfl) _) hbgl (fun i hi => by omega), by first | (rw [hG]; exact hg.set 0 _) | (rw [← hG]; exact hg.set 0 _) | exact hG ▸ hg.set 0 _⟩
    ·
      obtain rfl : gk = 1 := by omega
      have g0 : wr.cell? ⟨bg, 1, none⟩ = some (.bool false) := hg.cell 1
      have g1 := hg.free 1
      clear hkg
      by_cases h1 : P1 < 0
      · have hG : goodB P1 = false := good_neg h1
        go_wp2
        go_roundg 0
        case measure => omega
        case rel => exact ⟨2, by omega, rfl, hKw.fr (Fr.set (Fr.refl (· = bg) wr) (.inl rfl) _) hbgl (fun i hi => by omega), by first | (rw [hG]; exact hg.set 1 _) | (rw [← hG]; exact hg.set 1 _) | exact hG ▸ hg.set 1 _⟩
      by_cases h2 : 61440 < P1
      · have hG : goodB P1 = false := good_big h2
        go_wp2
        go_roundg 0
        case measure => omega
        case rel => exact ⟨2, by omega, rfl, hKw.fr (Fr.set (Fr.refl (· = bg) wr) (.inl rfl) _) hbgl (fun i hi => by omega), by first | (rw [hG]; exact hg.set 1 _) | (rw [← hG]; exact hg.set 1 _) | exact hG ▸ hg.set 1 _⟩
      by_cases h3 : ¬ P1 % 4096 = 0
      · have hG : goodB P1 = false := good_odd h3
        have h4 : (P1 % 4096 == 0) = false := by simpa using h3
        have h5 : 0 ≤ P1 := by omega
        go_wp2
        go_roundg 0
        case measure => omega
        case rel => exact ⟨2, by omega, rfl, hKw.fr (Fr.set (Fr.refl (· = bg) wr) (.inl rfl) _) hbgl (fun i hi => by omega), by first | (rw [hG]; exact hg.set 1 _) | (rw [← hG]; exact hg.set 1 _) | exact hG ▸ hg.set 1 _⟩
      have h5 : 0 ≤ P1 := by omega
      have h6 : P1 % 4096 = 0 := by omega
      have hG : goodB P1 = true := good_yes h5 (by omega) h6
      have h4 : (P1 % 4096 == 0) = true := by simpa using h6
      clear h3
      go_wp2
      go_roundg 0
      case measure => omega
      case rel => exact ⟨2, by omega, rfl, hKw.fr (Fr.set (Fr.refl (· = bg) wr) (.inl rfl) _) hbgl (fun i hi => by omega), by first | (rw [hG]; exact hg.set 1 _) | (rw [← hG]; exact hg.set 1 _) | exact hG ▸ hg.set 1 _⟩
    · obtain rfl : gk = 0 := by omega
      clear hkg
      have q0 := (hKw.nth 2 rfl).cell
      have q1 := (hKw.nth 1 rfl).cell
      have q2 := (hKw.nth 0 rfl).cell
      have g0 : wr.cell? ⟨bg, 0, none⟩ = some (.bool (goodB P0)) := hg.cell 0
      have g1 : wr.cell? ⟨bg, 1, none⟩ = some (.bool (goodB P1)) := hg.cell 1
      clear hi0 hi1 hg hbgl
      by_cases hG0 : goodB P0 = true
      · have hX := HX.out
        rw [idF_good hG0] at hX
        simp only [Prod.mk.injEq] at hX
        obtain ⟨hX, rfl⟩ := hX
        rw [hG0] at g0
        by_cases hG1 : goodB P1 = true
        · have hY := HY.out
          rw [idF_good hG1] at hY
          simp only [Prod.mk.injEq] at hY
          obtain ⟨hY, rfl⟩ := hY
          rw [hG1] at g1
          have hless := id_less (p := P0) (q := P1) ha hb
          rw [hX, hY] at hless
          have hLess := Lib.hid hless
          clear hX hY HX HY hG0 hG1
          by_cases hPP : P0 = P1
          · subst hPP
            rw [if_pos rfl] at hless
            have hmb := hKw.nth 0 rfl
            have hma := hKw.nth 1 rfl
            have ca : ∀ n, (convert 41 9 (.slice (some ⟨w.heap.size + 1, 0, none⟩) 6 6)).run Try.prog (wr.drewN n) = .ok (.string (strOfNums (macL a))) (wr.drewN n) := fun n => mac_str _ _ a (hma.drewN n)
            have cb : ∀ n, (convert 41 9 (.slice (some ⟨w.heap.size + 2, 0, none⟩) 6 6)).run Try.prog (wr.drewN n) = .ok (.string (strOfNums (macL b))) (wr.drewN n) := fun n => mac_str _ _ b (hmb.drewN n)
            have ea := Lib.strOfNums_toList (macL a)
            have eb := Lib.strOfNums_toList (macL b)
            obtain ⟨L, hL⟩ : ∃ L, Op.bytesLess (Lib.bytesOf (macL a)) (Lib.bytesOf (macL b)) = L := ⟨_, rfl⟩
            rw [hL] at hless
            have HL := Lib.hid hless
            clear hless hma hmb
            go_upto_region 16 with fail
            go_quiet (fail)
            have hKq := hKw.drewN nq
            clear q0 q1 q2 g0 g1 ca cb ea eb hKw hL ha hb
            generalize wr.drewN nq = wq at hKq ⊢
            have hKw := hKq
            clear hKq
            have q0 := (hKw.nth 2 rfl).cell
            by_cases hxy : x < y
            · obtain rfl : L = true := by rw [← HL.out]; exact decide_eq_true hxy
              have HB : Hid (betB (ownV x 1) (ownV y 1) = true) := own_less x y true (decide_eq_true hxy)
              go_upto_region 21 with (first
                | (go_at_call 22; first
                  | ((with_reducible refine (own_calls x 1 _).mono ?_); rintro e w' ⟨rfl, hb1⟩; have hK' := Keep.step (by assumption) hb1; clear hb1; clear hKw q0; rename Keep _ _ _ => hKw; have q0 := (hKw.nth 2 rfl).cell)
                  | ((with_reducible refine (own_calls y 1 _).mono ?_); rintro e w' ⟨rfl, hb1⟩; have hK' := Keep.step (by assumption) hb1; clear hb1; clear hKw q0; rename Keep _ _ _ => hKw; have q0 := (hKw.nth 2 rfl).cell)
                  | ((with_reducible refine (own_calls x 7 _).mono ?_); rintro e w' ⟨rfl, hb1⟩; have hK' := Keep.step (by assumption) hb1; clear hb1; clear hKw q0; rename Keep _ _ _ => hKw; have q0 := (hKw.nth 2 rfl).cell))
                | (go_at_call 17; (with_reducible refine (better_calls (ownV x 1) (ownV y 1) _ HB.out _).mono ?_); rintro e w' ⟨rfl, hb1⟩; have hK' := Keep.step (by assumption) hb1; clear hb1; clear hKw q0; rename Keep _ _ _ => hKw; have q0 := (hKw.nth 2 rfl).cell))
              by_cases p1 : P0 < 0
              · have HP : Hid (pidF P0 P0 = (0, 1)) := if_pos (by omega)
                go_wp2_with (go_at_call 23; (with_reducible refine (pid_calls P0 P0 _ _ HP.out _).mono ?_); rintro e w' ⟨rfl, rfl⟩)
                go_ret
                exact ⟨by first | rfl | simp, hKw.below⟩
              by_cases p2 : 240 < P0
              · have HP : Hid (pidF P0 P0 = (0, 1)) := if_pos (by omega)
                go_wp2_with (go_at_call 23; (with_reducible refine (pid_calls P0 P0 _ _ HP.out _).mono ?_); rintro e w' ⟨rfl, rfl⟩)
                go_ret
                exact ⟨by first | rfl | simp, hKw.below⟩
              by_cases p3 : ¬ P0 % 16 = 0
              · have p4 : (P0 % 16 != 0) = true := by simpa using p3
                have p5 : 0 ≤ P0 := by omega
                have HP : Hid (pidF P0 P0 = (0, 1)) := if_pos (by omega)
                go_wp2_with (go_at_call 23; (with_reducible refine (pid_calls P0 P0 _ _ HP.out _).mono ?_); rintro e w' ⟨rfl, rfl⟩)
                go_ret
                exact ⟨by first | rfl | simp, hKw.below⟩
              have p5 : 0 ≤ P0 := by omega
              have p8 : P0 % 16 = 0 := by omega
              have p4 : (P0 % 16 != 0) = false := by simpa using p8
              clear p3
              by_cases p6 : P0 < 1
              · have HP : Hid (pidF P0 P0 = (0, 1)) := if_pos (by omega)
                go_wp2_with (go_at_call 23; (with_reducible refine (pid_calls P0 P0 _ _ HP.out _).mono ?_); rintro e w' ⟨rfl, rfl⟩)
                go_ret
                exact ⟨by first | rfl | simp, hKw.below⟩
              by_cases p7 : 4095 < P0
              · have HP : Hid (pidF P0 P0 = (0, 1)) := if_pos (by omega)
                go_wp2_with (go_at_call 23; (with_reducible refine (pid_calls P0 P0 _ _ HP.out _).mono ?_); rintro e w' ⟨rfl, rfl⟩)
                go_ret
                exact ⟨by first | rfl | simp, hKw.below⟩
              have HP : Hid (pidF P0 P0 = (P0 * 256 + P0, 0)) := if_neg (by omega)
              go_wp2_with (go_at_call 23; (with_reducible refine (pid_calls P0 P0 _ _ HP.out _).mono ?_); rintro e w' ⟨rfl, rfl⟩)
              go_ret
              exact ⟨by first | rfl | simp, hKw.below⟩
            · obtain rfl : L = false := by rw [← HL.out]; exact decide_eq_false hxy
              have HB : Hid (betB (ownV x 1) (ownV y 1) = false) := own_less x y false (decide_eq_false hxy)
              go_upto_region 21 with (first
                | (go_at_call 22; first
                  | ((with_reducible refine (own_calls x 1 _).mono ?_); rintro e w' ⟨rfl, hb1⟩; have hK' := Keep.step (by assumption) hb1; clear hb1; clear hKw q0; rename Keep _ _ _ => hKw; have q0 := (hKw.nth 2 rfl).cell)
                  | ((with_reducible refine (own_calls y 1 _).mono ?_); rintro e w' ⟨rfl, hb1⟩; have hK' := Keep.step (by assumption) hb1; clear hb1; clear hKw q0; rename Keep _ _ _ => hKw; have q0 := (hKw.nth 2 rfl).cell)
                  | ((with_reducible refine (own_calls x 7 _).mono ?_); rintro e w' ⟨rfl, hb1⟩; have hK' := Keep.step (by assumption) hb1; clear hb1; clear hKw q0; rename Keep _ _ _ => hKw; have q0 := (hKw.nth 2 rfl).cell))
                | (go_at_call 17; (with_reducible refine (better_calls (ownV x 1) (ownV y 1) _ HB.out _).mono ?_); rintro e w' ⟨rfl, hb1⟩; have hK' := Keep.step (by assumption) hb1; clear hb1; clear hKw q0; rename Keep _ _ _ => hKw; have q0 := (hKw.nth 2 rfl).cell))
              by_cases p1 : P0 < 0
              · have HP : Hid (pidF P0 P0 = (0, 1)) := if_pos (by omega)
                go_wp2_with (go_at_call 23; (with_reducible refine (pid_calls P0 P0 _ _ HP.out _).mono ?_); rintro e w' ⟨rfl, rfl⟩)
                go_ret
                exact ⟨by first | rfl | simp, hKw.below⟩
              by_cases p2 : 240 < P0
              · have HP : Hid (pidF P0 P0 = (0, 1)) := if_pos (by omega)
                go_wp2_with (go_at_call 23; (with_reducible refine (pid_calls P0 P0 _ _ HP.out _).mono ?_); rintro e w' ⟨rfl, rfl⟩)
                go_ret
                exact ⟨by first | rfl | simp, hKw.below⟩
              by_cases p3 : ¬ P0 % 16 = 0
              · have p4 : (P0 % 16 != 0) = true := by simpa using p3
                have p5 : 0 ≤ P0 := by omega
                have HP : Hid (pidF P0 P0 = (0, 1)) := if_pos (by omega)
                go_wp2_with (go_at_call 23; (with_reducible refine (pid_calls P0 P0 _ _ HP.out _).mono ?_); rintro e w' ⟨rfl, rfl⟩)
                go_ret
                exact ⟨by first | rfl | simp, hKw.below⟩
              have p5 : 0 ≤ P0 := by omega
              have p8 : P0 % 16 = 0 := by omega
              have p4 : (P0 % 16 != 0) = false := by simpa using p8
              clear p3
              by_cases p6 : P0 < 1
              · have HP : Hid (pidF P0 P0 = (0, 1)) := if_pos (by omega)
                go_wp2_with (go_at_call 23; (with_reducible refine (pid_calls P0 P0 _ _ HP.out _).mono ?_); rintro e w' ⟨rfl, rfl⟩)
                go_ret
                exact ⟨by first | rfl | simp, hKw.below⟩
              by_cases p7 : 4095 < P0
              · have HP : Hid (pidF P0 P0 = (0, 1)) := if_pos (by omega)
                go_wp2_with (go_at_call 23; (with_reducible refine (pid_calls P0 P0 _ _ HP.out _).mono ?_); rintro e w' ⟨rfl, rfl⟩)
                go_ret
                exact ⟨by first | rfl | simp, hKw.below⟩
              have HP : Hid (pidF P0 P0 = (P0 * 256 + P0, 0)) := if_neg (by omega)
              go_wp2_with (go_at_call 23; (with_reducible refine (pid_calls P0 P0 _ _ HP.out _).mono ?_); rintro e w' ⟨rfl, rfl⟩)
              go_ret
              exact ⟨by first | rfl | simp, hKw.below⟩
          · have hPPb : (P0 == P1) = false := by simpa using hPP
            rw [if_neg hPP] at hless
            by_cases hlt : P0 < P1
            · rw [decide_eq_true hlt] at hless
              have HB : Hid (betB (ownV x 1) (ownV y 1) = true) := own_less x y true hless
              have hxy : x < y := of_decide_eq_true hless
              clear hless ha hb hPP
              go_upto_region 21 with (first
                | (go_at_call 22; first
                  | ((with_reducible refine (own_calls x 1 _).mono ?_); rintro e w' ⟨rfl, hb1⟩; have hK' := Keep.step (by assumption) hb1; clear hb1; clear hKw q0; rename Keep _ _ _ => hKw; have q0 := (hKw.nth 2 rfl).cell)
                  | ((with_reducible refine (own_calls y 1 _).mono ?_); rintro e w' ⟨rfl, hb1⟩; have hK' := Keep.step (by assumption) hb1; clear hb1; clear hKw q0; rename Keep _ _ _ => hKw; have q0 := (hKw.nth 2 rfl).cell)
                  | ((with_reducible refine (own_calls x 7 _).mono ?_); rintro e w' ⟨rfl, hb1⟩; have hK' := Keep.step (by assumption) hb1; clear hb1; clear hKw q0; rename Keep _ _ _ => hKw; have q0 := (hKw.nth 2 rfl).cell))
                | (go_at_call 17; (with_reducible refine (better_calls (ownV x 1) (ownV y 1) _ HB.out _).mono ?_); rintro e w' ⟨rfl, hb1⟩; have hK' := Keep.step (by assumption) hb1; clear hb1; clear hKw q0; rename Keep _ _ _ => hKw; have q0 := (hKw.nth 2 rfl).cell))
              by_cases p1 : P0 < 0
              · have HP : Hid (pidF P0 P1 = (0, 1)) := if_pos (by omega)
                go_wp2_with (go_at_call 23; (with_reducible refine (pid_calls P0 P1 _ _ HP.out _).mono ?_); rintro e w' ⟨rfl, rfl⟩)
                go_ret
                exact ⟨by first | rfl | simp, hKw.below⟩
              by_cases p2 : 240 < P0
              · have HP : Hid (pidF P0 P1 = (0, 1)) := if_pos (by omega)
                go_wp2_with (go_at_call 23; (with_reducible refine (pid_calls P0 P1 _ _ HP.out _).mono ?_); rintro e w' ⟨rfl, rfl⟩)
                go_ret
                exact ⟨by first | rfl | simp, hKw.below⟩
              by_cases p3 : ¬ P0 % 16 = 0
              · have p4 : (P0 % 16 != 0) = true := by simpa using p3
                have p5 : 0 ≤ P0 := by omega
                have HP : Hid (pidF P0 P1 = (0, 1)) := if_pos (by omega)
                go_wp2_with (go_at_call 23; (with_reducible refine (pid_calls P0 P1 _ _ HP.out _).mono ?_); rintro e w' ⟨rfl, rfl⟩)
                go_ret
                exact ⟨by first | rfl | simp, hKw.below⟩
              have p5 : 0 ≤ P0 := by omega
              have p8 : P0 % 16 = 0 := by omega
              have p4 : (P0 % 16 != 0) = false := by simpa using p8
              clear p3
              by_cases p6 : P1 < 1
              · have HP : Hid (pidF P0 P1 = (0, 1)) := if_pos (by omega)
                go_wp2_with (go_at_call 23; (with_reducible refine (pid_calls P0 P1 _ _ HP.out _).mono ?_); rintro e w' ⟨rfl, rfl⟩)
                go_ret
                exact ⟨by first | rfl | simp, hKw.below⟩
              by_cases p7 : 4095 < P1
              · have HP : Hid (pidF P0 P1 = (0, 1)) := if_pos (by omega)
                go_wp2_with (go_at_call 23; (with_reducible refine (pid_calls P0 P1 _ _ HP.out _).mono ?_); rintro e w' ⟨rfl, rfl⟩)
                go_ret
                exact ⟨by first | rfl | simp, hKw.below⟩
              have HP : Hid (pidF P0 P1 = (P0 * 256 + P1, 0)) := if_neg (by omega)
              go_wp2_with (go_at_call 23; (with_reducible refine (pid_calls P0 P1 _ _ HP.out _).mono ?_); rintro e w' ⟨rfl, rfl⟩)
              go_ret
              exact ⟨by first | rfl | simp, hKw.below⟩
            · rw [decide_eq_false hlt] at hless
              have HB : Hid (betB (ownV x 1) (ownV y 1) = false) := own_less x y false hless
              have hxy : ¬ x < y := of_decide_eq_false hless
              clear hless ha hb hPP
              go_upto_region 21 with (first
                | (go_at_call 22; first
                  | ((with_reducible refine (own_calls x 1 _).mono ?_); rintro e w' ⟨rfl, hb1⟩; have hK' := Keep.step (by assumption) hb1; clear hb1; clear hKw q0; rename Keep _ _ _ => hKw; have q0 := (hKw.nth 2 rfl).cell)
                  | ((with_reducible refine (own_calls y 1 _).mono ?_); rintro e w' ⟨rfl, hb1⟩; have hK' := Keep.step (by assumption) hb1; clear hb1; clear hKw q0; rename Keep _ _ _ => hKw; have q0 := (hKw.nth 2 rfl).cell)
                  | ((with_reducible refine (own_calls x 7 _).mono ?_); rintro e w' ⟨rfl, hb1⟩; have hK' := Keep.step (by assumption) hb1; clear hb1; clear hKw q0; rename Keep _ _ _ => hKw; have q0 := (hKw.nth 2 rfl).cell))
                | (go_at_call 17; (with_reducible refine (better_calls (ownV x 1) (ownV y 1) _ HB.out _).mono ?_); rintro e w' ⟨rfl, hb1⟩; have hK' := Keep.step (by assumption) hb1; clear hb1; clear hKw q0; rename Keep _ _ _ => hKw; have q0 := (hKw.nth 2 rfl).cell))
              by_cases p1 : P0 < 0
              · have HP : Hid (pidF P0 P1 = (0, 1)) := if_pos (by omega)
                go_wp2_with (go_at_call 23; (with_reducible refine (pid_calls P0 P1 _ _ HP.out _).mono ?_); rintro e w' ⟨rfl, rfl⟩)
                go_ret
                exact ⟨by first | rfl | simp, hKw.below⟩
              by_cases p2 : 240 < P0
              · have HP : Hid (pidF P0 P1 = (0, 1)) := if_pos (by omega)
                go_wp2_with (go_at_call 23; (with_reducible refine (pid_calls P0 P1 _ _ HP.out _).mono ?_); rintro e w' ⟨rfl, rfl⟩)
                go_ret
                exact ⟨by first | rfl | simp, hKw.below⟩
              by_cases p3 : ¬ P0 % 16 = 0
              · have p4 : (P0 % 16 != 0) = true := by simpa using p3
                have p5 : 0 ≤ P0 := by omega
                have HP : Hid (pidF P0 P1 = (0, 1)) := if_pos (by omega)
                go_wp2_with (go_at_call 23; (with_reducible refine (pid_calls P0 P1 _ _ HP.out _).mono ?_); rintro e w' ⟨rfl, rfl⟩)
                go_ret
                exact ⟨by first | rfl | simp, hKw.below⟩
              have p5 : 0 ≤ P0 := by omega
              have p8 : P0 % 16 = 0 := by omega
              have p4 : (P0 % 16 != 0) = false := by simpa using p8
              clear p3
              by_cases p6 : P1 < 1
              · have HP : Hid (pidF P0 P1 = (0, 1)) := if_pos (by omega)
                go_wp2_with (go_at_call 23; (with_reducible refine (pid_calls P0 P1 _ _ HP.out _).mono ?_); rintro e w' ⟨rfl, rfl⟩)
                go_ret
                exact ⟨by first | rfl | simp, hKw.below⟩
              by_cases p7 : 4095 < P1
              · have HP : Hid (pidF P0 P1 = (0, 1)) := if_pos (by omega)
                go_wp2_with (go_at_call 23; (with_reducible refine (pid_calls P0 P1 _ _ HP.out _).mono ?_); rintro e w' ⟨rfl, rfl⟩)
                go_ret
                exact ⟨by first | rfl | simp, hKw.below⟩
              have HP : Hid (pidF P0 P1 = (P0 * 256 + P1, 0)) := if_neg (by omega)
              go_wp2_with (go_at_call 23; (with_reducible refine (pid_calls P0 P1 _ _ HP.out _).mono ?_); rintro e w' ⟨rfl, rfl⟩)
              go_ret
              exact ⟨by first | rfl | simp, hKw.below⟩
        · have hY := HY.out
          have hG1' : goodB P1 = false := by simpa using hG1
          rw [idF_bad hG1'] at hY
          simp only [Prod.mk.injEq] at hY
          obtain ⟨rfl, rfl⟩ := hY
          rw [hG1'] at g1
          clear hX HX HY hG0 hG1 hG1'
          go_upto_region 21 with fail
          by_cases p1 : P0 < 0
          · have HP : Hid (pidF P0 P1 = (0, 1)) := if_pos (by omega)
            go_wp2_with (go_at_call 23; (with_reducible refine (pid_calls P0 P1 _ _ HP.out _).mono ?_); rintro e w' ⟨rfl, rfl⟩)
            go_ret
            exact ⟨by first | rfl | simp, hKw.below⟩
          by_cases p2 : 240 < P0
          · have HP : Hid (pidF P0 P1 = (0, 1)) := if_pos (by omega)
            go_wp2_with (go_at_call 23; (with_reducible refine (pid_calls P0 P1 _ _ HP.out _).mono ?_); rintro e w' ⟨rfl, rfl⟩)
            go_ret
            exact ⟨by first | rfl | simp, hKw.below⟩
          by_cases p3 : ¬ P0 % 16 = 0
          · have p4 : (P0 % 16 != 0) = true := by simpa using p3
            have p5 : 0 ≤ P0 := by omega
            have HP : Hid (pidF P0 P1 = (0, 1)) := if_pos (by omega)
            go_wp2_with (go_at_call 23; (with_reducible refine (pid_calls P0 P1 _ _ HP.out _).mono ?_); rintro e w' ⟨rfl, rfl⟩)
            go_ret
            exact ⟨by first | rfl | simp, hKw.below⟩
          have p5 : 0 ≤ P0 := by omega
          have p8 : P0 % 16 = 0 := by omega
          have p4 : (P0 % 16 != 0) = false := by simpa using p8
          clear p3
          by_cases p6 : P1 < 1
          · have HP : Hid (pidF P0 P1 = (0, 1)) := if_pos (by omega)
            go_wp2_with (go_at_call 23; (with_reducible refine (pid_calls P0 P1 _ _ HP.out _).mono ?_); rintro e w' ⟨rfl, rfl⟩)
            go_ret
            exact ⟨by first | rfl | simp, hKw.below⟩
          by_cases p7 : 4095 < P1
          · have HP : Hid (pidF P0 P1 = (0, 1)) := if_pos (by omega)
            go_wp2_with (go_at_call 23; (with_reducible refine (pid_calls P0 P1 _ _ HP.out _).mono ?_); rintro e w' ⟨rfl, rfl⟩)
            go_ret
            exact ⟨by first | rfl | simp, hKw.below⟩
          have HP : Hid (pidF P0 P1 = (P0 * 256 + P1, 0)) := if_neg (by omega)
          go_wp2_with (go_at_call 23; (with_reducible refine (pid_calls P0 P1 _ _ HP.out _).mono ?_); rintro e w' ⟨rfl, rfl⟩)
          go_ret
          exact ⟨by first | rfl | simp, hKw.below⟩
      · have hX := HX.out
        have hG0' : goodB P0 = false := by simpa using hG0
        rw [idF_bad hG0'] at hX
        simp only [Prod.mk.injEq] at hX
        obtain ⟨rfl, rfl⟩ := hX
        rw [hG0'] at g0
        by_cases hG1 : goodB P1 = true
        · have hY := HY.out
          rw [idF_good hG1] at hY
          simp only [Prod.mk.injEq] at hY
          obtain ⟨hY, rfl⟩ := hY
          rw [hG1] at g1
          clear hY HX HY hG0 hG1 hG0'
          go_upto_region 21 with fail
          by_cases p1 : P0 < 0
          · have HP : Hid (pidF P0 P1 = (0, 1)) := if_pos (by omega)
            go_wp2_with (go_at_call 23; (with_reducible refine (pid_calls P0 P1 _ _ HP.out _).mono ?_); rintro e w' ⟨rfl, rfl⟩)
            go_ret
            exact ⟨by first | rfl | simp, hKw.below⟩
          by_cases p2 : 240 < P0
          · have HP : Hid (pidF P0 P1 = (0, 1)) := if_pos (by omega)
            go_wp2_with (go_at_call 23; (with_reducible refine (pid_calls P0 P1 _ _ HP.out _).mono ?_); rintro e w' ⟨rfl, rfl⟩)
            go_ret
            exact ⟨by first | rfl | simp, hKw.below⟩
          by_cases p3 : ¬ P0 % 16 = 0
          · have p4 : (P0 % 16 != 0) = true := by simpa using p3
            have p5 : 0 ≤ P0 := by omega
            have HP : Hid (pidF P0 P1 = (0, 1)) := if_pos (by omega)
            go_wp2_with (go_at_call 23; (with_reducible refine (pid_calls P0 P1 _ _ HP.out _).mono ?_); rintro e w' ⟨rfl, rfl⟩)
            go_ret
            exact ⟨by first | rfl | simp, hKw.below⟩
          have p5 : 0 ≤ P0 := by omega
          have p8 : P0 % 16 = 0 := by omega
          have p4 : (P0 % 16 != 0) = false := by simpa using p8
          clear p3
          by_cases p6 : P1 < 1
          · have HP : Hid (pidF P0 P1 = (0, 1)) := if_pos (by omega)
            go_wp2_with (go_at_call 23; (with_reducible refine (pid_calls P0 P1 _ _ HP.out _).mono ?_); rintro e w' ⟨rfl, rfl⟩)
            go_ret
            exact ⟨by first | rfl | simp, hKw.below⟩
          by_cases p7 : 4095 < P1
          · have HP : Hid (pidF P0 P1 = (0, 1)) := if_pos (by omega)
            go_wp2_with (go_at_call 23; (with_reducible refine (pid_calls P0 P1 _ _ HP.out _).mono ?_); rintro e w' ⟨rfl, rfl⟩)
            go_ret
            exact ⟨by first | rfl | simp, hKw.below⟩
          have HP : Hid (pidF P0 P1 = (P0 * 256 + P1, 0)) := if_neg (by omega)
          go_wp2_with (go_at_call 23; (with_reducible refine (pid_calls P0 P1 _ _ HP.out _).mono ?_); rintro e w' ⟨rfl, rfl⟩)
          go_ret
          exact ⟨by first | rfl | simp, hKw.below⟩
        · have hY := HY.out
          have hG1' : goodB P1 = false := by simpa using hG1
          rw [idF_bad hG1'] at hY
          simp only [Prod.mk.injEq] at hY
          obtain ⟨rfl, rfl⟩ := hY
          rw [hG1'] at g1
          clear HX HY hG0 hG1 hG1' hG0'
          go_upto_region 21 with fail
          by_cases p1 : P0 < 0
          · have HP : Hid (pidF P0 P1 = (0, 1)) := if_pos (by omega)
            go_wp2_with (go_at_call 23; (with_reducible refine (pid_calls P0 P1 _ _ HP.out _).mono ?_); rintro e w' ⟨rfl, rfl⟩)
            go_ret
            exact ⟨by first | rfl | simp, hKw.below⟩
          by_cases p2 : 240 < P0
          · have HP : Hid (pidF P0 P1 = (0, 1)) := if_pos (by omega)
            go_wp2_with (go_at_call 23; (with_reducible refine (pid_calls P0 P1 _ _ HP.out _).mono ?_); rintro e w' ⟨rfl, rfl⟩)
            go_ret
            exact ⟨by first | rfl | simp, hKw.below⟩
          by_cases p3 : ¬ P0 % 16 = 0
          · have p4 : (P0 % 16 != 0) = true := by simpa using p3
            have p5 : 0 ≤ P0 := by omega
            have HP : Hid (pidF P0 P1 = (0, 1)) := if_pos (by omega)
            go_wp2_with (go_at_call 23; (with_reducible refine (pid_calls P0 P1 _ _ HP.out _).mono ?_); rintro e w' ⟨rfl, rfl⟩)
            go_ret
            exact ⟨by first | rfl | simp, hKw.below⟩
          have p5 : 0 ≤ P0 := by omega
          have p8 : P0 % 16 = 0 := by omega
          have p4 : (P0 % 16 != 0) = false := by simpa using p8
          clear p3
          by_cases p6 : P1 < 1
          · have HP : Hid (pidF P0 P1 = (0, 1)) := if_pos (by omega)
            go_wp2_with (go_at_call 23; (with_reducible refine (pid_calls P0 P1 _ _ HP.out _).mono ?_); rintro e w' ⟨rfl, rfl⟩)
            go_ret
            exact ⟨by first | rfl | simp, hKw.below⟩
          by_cases p7 : 4095 < P1
          · have HP : Hid (pidF P0 P1 = (0, 1)) := if_pos (by omega)
            go_wp2_with (go_at_call 23; (with_reducible refine (pid_calls P0 P1 _ _ HP.out _).mono ?_); rintro e w' ⟨rfl, rfl⟩)
            go_ret
            exact ⟨by first | rfl | simp, hKw.below⟩
          have HP : Hid (pidF P0 P1 = (P0 * 256 + P1, 0)) := if_neg (by omega)
          go_wp2_with (go_at_call 23; (with_reducible refine (pid_calls P0 P1 _ _ HP.out _).mono ?_); rintro e w' ⟨rfl, rfl⟩)
          go_ret
          exact ⟨by first | rfl | simp, hKw.below⟩
end Go.Proofs.Ytjnbjcieepooaab
