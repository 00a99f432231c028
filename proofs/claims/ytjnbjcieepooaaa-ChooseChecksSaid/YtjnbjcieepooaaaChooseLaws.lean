/- The laws of package choose, walked over the contracts of its functions: each answers true at all heads. -/
import Derived.Test.YtjnbjcieepooaaaChooseMore
namespace Go.Proofs.Ytjnbjcieepooaaa
open Go.RowKit

theorem class_step (sz ft cr : Nat → Int) (now : Int) (k : Nat) :
    (goesB (sz k) (ft k) (cr k) now = true → classN sz ft cr now (k + 1) = k) ∧ (goesB (sz k) (ft k) (cr k) now = false → classN sz ft cr now (k + 1) = classN sz ft cr now k) := by
  constructor
  · intro h; simp only [classN]; rw [if_pos h]
  · intro h; simp only [classN]; rw [if_neg (by rw [h]; simp)]
theorem class_bd (sz ft cr : Nat → Int) (now : Int) (k : Nat) : -1 ≤ classN sz ft cr now k ∧ classN sz ft cr now k ≤ k := by
  induction k with
  | zero => simp [classN]
  | succ k ih => simp only [classN]; split <;> omega

theorem goes_cases (s f c now : Int) :
    (0 < s ∧ 0 ≤ f ∧ f ≤ now ∧ c ≤ now ∧ Hid (goesB s f c now = true)) ∨ (s ≤ 0 ∧ Hid (goesB s f c now = false)) ∨ (0 < s ∧ f < 0 ∧ Hid (goesB s f c now = false)) ∨
    (0 < s ∧ 0 ≤ f ∧ now < f ∧ Hid (goesB s f c now = false)) ∨ (0 < s ∧ 0 ≤ f ∧ f ≤ now ∧ now < c ∧ Hid (goesB s f c now = false)) := by
  simp only [Hid, goesB]
  by_cases h1 : 0 < s
  · by_cases h2 : 0 ≤ f
    · by_cases h3 : f ≤ now
      · by_cases h4 : c ≤ now
        · exact .inl ⟨h1, h2, h3, h4, by simp [*]⟩
        · exact .inr (.inr (.inr (.inr ⟨h1, h2, h3, by omega, by simp; omega⟩)))
      · exact .inr (.inr (.inr (.inl ⟨h1, h2, by omega, by simp; omega⟩)))
    · exact .inr (.inr (.inl ⟨h1, by omega, by simp; omega⟩))
  · exact .inr (.inl ⟨by omega, by simp; omega⟩)

set_option maxHeartbeats 1000000 in
/-- 'ChooseClass' answers true. -/
theorem chooseClass_any (w : World) (cs : Array Value) (sz ft cr : Nat → Int) (H : Heads cs sz ft cr) (now : Int) :
    Calls Try.prog 3 #[.agg cs, .int .i64 now] w fun e w' => e = .returned (.bool true) ∧ Below w.heap.size w w' := by
  have HH := Lib.hid H
  clear H
  have hin : (Try.prog.info? 24).map (·.size) = some cs.size := by rw [HH.out.size]; kernel_rfl
  have HIN := Lib.hid hin
  clear hin
  go_enter Try.func3, Try.ntmps3
  go_upto_region 1 with fail
  have hk := Blk.new w cs 24
  have hb := (Below.refl w.heap.size w).alloc (Nat.le_refl _) (.cells cs 24)
  generalize w.alloc (.cells cs 24) = W at hk hb ⊢
  go_wp2_with (first
    | (refine wpList_load_all rfl 24 _ rfl w.heap.size rfl 24 cs _ (by assumption) Try.underlying24 rfl HIN.out ?_)
    | (go_at_call 15; (with_reducible refine (picks_calls _).mono ?_); rintro e w' ⟨rfl, hb1⟩; have hk' := hk.below hb1 hk.lt; have hb' := hb.trans (hb1.mono hb.size); clear hk hb hb1; rename Blk _ _ _ _ => hk; rename Below _ _ _ => hb))
  go_loopg [5, 11] 8 (fun g s5 s11 wx => ∃ k : Nat, k + g = 8 ∧ s11 = .int .i64 (k : Int) ∧ s5 = .int .i64 (classN sz ft cr now k) ∧ Blk wx w.heap.size cs 24 ∧ Below w.heap.size w wx)
  case atStart => exact ⟨0, rfl, rfl, rfl, by assumption, by assumption⟩
  case round =>
    obtain ⟨k, hkg, rfl, rfl, hk, hb⟩ := hrel
    cases gk with
    | zero =>
      obtain rfl : k = 8 := by omega
      go_wp2_with (first
        | (refine wpList_load_all rfl 24 _ rfl w.heap.size rfl 24 cs _ (by assumption) Try.underlying24 rfl HIN.out ?_)
        | (go_at_call 16; (with_reducible refine (class_calls _ _ _ _ HH.out _ _).mono ?_); rintro e w' ⟨rfl, hb1⟩))
      go_ret
      exact ⟨by simp, hb.trans (Below.mono (by assumption) hb.size)⟩
    | succ g =>
      have hidx := index_head HH.out k (by omega)
      have hk8 : k < 8 := by omega
      have HB := Lib.hid hb
      have HK := Lib.hid hk
      have HC := Lib.hid (class_step sz ft cr now k)
      clear hb hk
      obtain ⟨x, hx⟩ : ∃ x, x = classN sz ft cr now k := ⟨_, rfl⟩
      rw [← hx]
      have HX := Lib.hid hx
      clear hx
      rcases goes_cases (sz k) (ft k) (cr k) now with ⟨h1, h2, h3, h4, HG⟩ | ⟨h1, HG⟩ | ⟨h1, h2, HG⟩ | ⟨h1, h2, h3, HG⟩ | ⟨h1, h2, h3, h4, HG⟩
      all_goals
        go_wp2
        all_goals
          go_roundg g
          case measure => omega
          case rel => exact ⟨k + 1, by omega, by go_num, congrArg _ (by first | exact (HC.out.1 HG.out).symm | (rw [HX.out]; exact (HC.out.2 HG.out).symm)), HK.out.alloc _, HB.out.alloc HB.out.size _⟩

set_option maxHeartbeats 1000000 in
/-- 'ChooseChecks' answers true. -/
theorem chooseChecks_any (w : World) (cs : Array Value) (sz ft cr : Nat → Int) (H : Heads cs sz ft cr) (speed : Int) :
    Calls Try.prog 5 #[.agg cs, .int .i64 speed] w fun e w' => e = .returned (.bool true) ∧ Below w.heap.size w w' := by
  have HH := Lib.hid H
  clear H
  have hin : (Try.prog.info? 24).map (·.size) = some cs.size := by rw [HH.out.size]; kernel_rfl
  have HIN := Lib.hid hin
  clear hin
  go_enter Try.func5, Try.ntmps5
  go_upto_region 1 with fail
  have hk := Blk.new w cs 24
  have hb := (Below.refl w.heap.size w).alloc (Nat.le_refl _) (.cells cs 24)
  generalize w.alloc (.cells cs 24) = W at hk hb ⊢
  go_wp2_with (first
    | (refine wpList_load_all rfl 24 _ rfl w.heap.size rfl 24 cs _ (by assumption) Try.underlying24 rfl HIN.out ?_)
    | (go_at_call 15; (with_reducible refine (picks_calls _).mono ?_); rintro e w' ⟨rfl, hb1⟩; have hk' := hk.below hb1 hk.lt; have hb' := hb.trans (hb1.mono hb.size); clear hk hb hb1; rename Blk _ _ _ _ => hk; rename Below _ _ _ => hb))
  go_loopg [5, 13] 8 (fun g s5 s13 wx => ∃ k : Nat, k + g = 8 ∧ s13 = .int .i64 (k : Int) ∧ s5 = .int .i64 (checkN sz speed k) ∧ Blk wx w.heap.size cs 24 ∧ Below w.heap.size w wx)
  case atStart => exact ⟨0, rfl, rfl, rfl, by assumption, by assumption⟩
  case round =>
    obtain ⟨k, hkg, rfl, rfl, hk, hb⟩ := hrel
    cases gk with
    | zero =>
      obtain rfl : k = 8 := by omega
      go_wp2_with (first
        | (refine wpList_load_all rfl 24 _ rfl w.heap.size rfl 24 cs _ (by assumption) Try.underlying24 rfl HIN.out ?_)
        | (go_at_call 20; (with_reducible refine (check_calls _ _ _ _ HH.out _ _).mono ?_); rintro e w' ⟨rfl, hb1⟩))
      go_ret
      exact ⟨by simp, hb.trans (Below.mono (by assumption) hb.size)⟩
    | succ g =>
      have hidx := index_head HH.out k (by omega)
      have hk8 : k < 8 := by omega
      have HB := Lib.hid hb
      have HK := Lib.hid hk
      clear hb hk
      have hn : checkN sz speed (k + 1) = if checkB sz speed k = true ∧ ((sz k == 0) = true ∨ (timeF (sz k) speed).2 = 0) then 0 else 1 := by
        unfold checkN
        simp only [checkB, Bool.and_eq_true, Bool.or_eq_true, beq_iff_eq]
      obtain ⟨x, hx⟩ : ∃ x, x = checkN sz speed k := ⟨_, rfl⟩
      rw [← hx]
      have HX := Lib.hid hx
      have HN := Lib.hid hn
      clear hx hn
      obtain ⟨t, e, hte, hee⟩ := time2 (sz k) speed
      have HT := Lib.hid hte
      clear hte
      cases hz : (sz k == 0) with
      | true =>
        have HZ := Lib.hid hz
        have hz2 : (sz k != 0) = false := by simpa using hz
        go_wp2_with (go_at_call 19; (with_reducible refine (time_calls _ _ _ _ HT.out _).mono ?_); rintro e w' ⟨rfl, rfl⟩)
        go_roundg g
        case measure => omega
        case rel => exact ⟨k + 1, by omega, by go_num, congrArg _ (by rw [HN.out, HX.out, HZ.out]; unfold checkN; simp), HK.out.alloc _, HB.out.alloc HB.out.size _⟩
      | false =>
        have HZ := Lib.hid hz
        have hz2 : (sz k != 0) = true := by simpa using hz
        rcases hee with rfl | rfl
        · go_wp2_with (go_at_call 19; (with_reducible refine (time_calls _ _ _ _ HT.out _).mono ?_); rintro e w' ⟨rfl, rfl⟩)
          go_roundg g
          case measure => omega
          case rel => exact ⟨k + 1, by omega, by go_num, congrArg _ (by rw [HN.out, HX.out, HT.out]; unfold checkN; simp), HK.out.alloc _, HB.out.alloc HB.out.size _⟩
        · go_wp2_with (go_at_call 19; (with_reducible refine (time_calls _ _ _ _ HT.out _).mono ?_); rintro e w' ⟨rfl, rfl⟩)
          go_roundg g
          case measure => omega
          case rel => exact ⟨k + 1, by omega, by go_num, congrArg _ (by rw [HN.out, HT.out, HZ.out]; simp), HK.out.alloc _, HB.out.alloc HB.out.size _⟩

theorem wake_or (sz ft cr : Nat → Int) (now : Int) (k : Nat) :
    wakeN sz ft cr now k = -1 ∨ (now < wakeN sz ft cr now k ∧ ∃ j, j < k ∧ ¬ sz j = 0 ∧ 0 ≤ ft j ∧ (cr j = wakeN sz ft cr now k ∨ ft j = wakeN sz ft cr now k)) := by
  induction k with
  | zero => exact .inl rfl
  | succ k ih =>
    have keep : wakeN sz ft cr now (k + 1) = wakeN sz ft cr now k → wakeN sz ft cr now (k + 1) = -1 ∨ (now < wakeN sz ft cr now (k + 1) ∧ ∃ j, j < k + 1 ∧ ¬ sz j = 0 ∧ 0 ≤ ft j ∧ (cr j = wakeN sz ft cr now (k + 1) ∨ ft j = wakeN sz ft cr now (k + 1))) := fun h => by
      rw [h]
      rcases ih with h1 | ⟨h1, j, h2, h3⟩
      · exact Or.inl h1
      · exact Or.inr ⟨h1, j, by omega, h3⟩
    have e : wakeN sz ft cr now (k + 1) = wakeStep (sz k) (ft k) (cr k) now (wakeN sz ft cr now k) := rfl
    rcases wake_cases (sz k) (ft k) (cr k) now (wakeN sz ft cr now k) with ⟨h1, HV⟩ | ⟨h1, h2, HV⟩ | ⟨h1, h2, h3, h4, HV⟩ | ⟨h1, h2, h3, h4, h5, HV⟩ | ⟨h1, h2, h3, h4, h5, h6, HV⟩ | ⟨h1, h2, h3, h4, h5, h6, HV⟩ | ⟨h1, h2, h3, h4, HV⟩ | ⟨h1, h2, h3, h4, h5, HV⟩ | ⟨h1, h2, h3, h4, h5, HV⟩
    all_goals first
      | exact keep (e.trans HV.out)
      | (rw [e, HV.out]
         exact Or.inr ⟨by omega, k, by omega, by simpa using h1, h2, by omega⟩)

theorem wake_le (sz ft cr : Nat → Int) (now : Int) (h0 : 0 ≤ now) (k : Nat) : ∀ j, j < k → ¬ sz j = 0 → 0 ≤ ft j → ∀ t, (if cr j ≤ now then ft j else cr j) = t → now < t →
    0 ≤ wakeN sz ft cr now k ∧ wakeN sz ft cr now k ≤ t := by
  induction k with
  | zero => intro j hj; omega
  | succ k ih =>
    intro j hj hs hf t ht hnt
    have e : wakeN sz ft cr now (k + 1) = wakeStep (sz k) (ft k) (cr k) now (wakeN sz ft cr now k) := rfl
    have c := wake_cases (sz k) (ft k) (cr k) now (wakeN sz ft cr now k)
    simp only [Hid, ← e, beq_eq_false_iff_ne, ne_eq] at c
    by_cases hjk : j = k
    · subst hjk
      split at ht <;> omega
    · have := ih j (by omega) hs hf t ht hnt
      omega

theorem may_calls (t f c : Int) (b : Nat) (w : World) (h1 : w.cell? ⟨b, 1, none⟩ = some (.int .i64 f)) (h2 : w.cell? ⟨b, 2, none⟩ = some (.int .i64 c)) (g : Bool) (hg : (decide (f ≤ t) && decide (c ≤ t)) = g) :
    Calls Try.prog 18 #[.int .i64 t, .pointer (some ⟨b, 0, none⟩)] w fun e w' => e = .returned (.bool g) ∧ w = w' := by
  subst hg
  by_cases c1 : f ≤ t
  · go_enter Try.func18, Try.ntmps18
    go_wp2
    go_ret
    exact ⟨by simp [c1], rfl⟩
  · go_enter Try.func18, Try.ntmps18
    go_wp2
    go_ret
    exact ⟨by simp; omega, rfl⟩

set_option maxHeartbeats 2000000 in
/-- 'ChooseWake' answers true. -/
theorem chooseWake_any (w : World) (cs : Array Value) (sz ft cr : Nat → Int) (H : Heads cs sz ft cr) (now at' : Int) :
    Calls Try.prog 4 #[.agg cs, .int .i64 now, .int .i64 at'] w fun e w' => e = .returned (.bool true) ∧ Below w.heap.size w w' := by
  have HH := Lib.hid H
  clear H
  have hin : (Try.prog.info? 24).map (·.size) = some cs.size := by rw [HH.out.size]; kernel_rfl
  have HIN := Lib.hid hin
  clear hin
  go_enter Try.func4, Try.ntmps4
  go_upto_region 1 with fail
  have hk := Blk.new w cs 24
  have hb := (Below.refl w.heap.size w).alloc (Nat.le_refl _) (.cells cs 24)
  generalize w.alloc (.cells cs 24) = W at hk hb ⊢
  by_cases hnow : now < 0
  · go_wp2_with (go_at_call 15; (with_reducible refine (picks_calls _).mono ?_); rintro e w' ⟨rfl, hb1⟩; have hk' := hk.below hb1 hk.lt; have hb' := hb.trans (hb1.mono hb.size); clear hk hb hb1; rename Blk _ _ _ _ => hk; rename Below _ _ _ => hb)
    go_ret
    exact ⟨rfl, by assumption⟩
  obtain ⟨wk, hwk⟩ : ∃ wk, wk = wakeN sz ft cr now 8 := ⟨_, rfl⟩
  have HWO := Lib.hid (wake_or sz ft cr now 8)
  have HWL := Lib.hid (wake_le sz ft cr now (by omega) 8)
  have hwb : wk = -1 ∨ now < wk := by
    rcases HWO.out with h | ⟨h, _⟩ <;> omega
  have HWK := Lib.hid hwk
  clear hwk
  have wcases : wk < 0 ∨ (0 ≤ wk ∧ now < wk) := by omega
  clear hwb
  rcases wcases with hw0 | ⟨hw0, hw1⟩
  · go_wp2_with (first
      | (refine wpList_load_all rfl 24 _ rfl w.heap.size rfl 24 cs _ (by assumption) Try.underlying24 rfl HIN.out ?_)
      | (go_at_call 15; (with_reducible refine (picks_calls _).mono ?_); rintro e w' ⟨rfl, hb1⟩; have hk' := hk.below hb1 hk.lt; have hb' := hb.trans (hb1.mono hb.size); clear hk hb hb1; rename Blk _ _ _ _ => hk; rename Below _ _ _ => hb)
      | (go_at_call 17; (with_reducible refine (wake_calls _ _ _ _ HH.out _ _).mono ?_); rintro e w' ⟨rfl, hb1⟩; rw [← HWK.out]; have hk' := hk.below hb1 hk.lt; have hb' := hb.trans (hb1.mono hb.size); clear hk hb hb1; rename Blk _ _ _ _ => hk; rename Below _ _ _ => hb))
    go_loopg [28] 8 (fun g s28 wx => ∃ k : Nat, k + g = 8 ∧ s28 = .int .i64 (k : Int) ∧ Blk wx w.heap.size cs 24 ∧ Below w.heap.size w wx)
    case atStart => exact ⟨0, rfl, rfl, by assumption, by assumption⟩
    case round =>
      obtain ⟨k, hkg, rfl, hk, hb⟩ := hrel
      cases gk with
      | zero =>
        obtain rfl : k = 8 := by omega
        go_wp2
        go_ret
        exact ⟨rfl, hb⟩
      | succ g =>
        have hidx := index_head HH.out k (by omega)
        have hk8 : k < 8 := by omega
        have HB := Lib.hid hb
        have HK := Lib.hid hk
        clear hb hk
        have HD : Hid (¬ sz k = 0 → 0 ≤ ft k → ∀ t, (if cr k ≤ now then ft k else cr k) = t → ¬ now < t) := fun h1 h2 t ht hn => by
          have := HWL.out k hk8 h1 h2 t ht hn
          have := HWK.out
          omega
        obtain ⟨s, hs⟩ : ∃ s, s = sz k := ⟨_, rfl⟩
        obtain ⟨f, hf⟩ : ∃ f, f = ft k := ⟨_, rfl⟩
        obtain ⟨c, hc⟩ : ∃ c, c = cr k := ⟨_, rfl⟩
        rw [← hs, ← hf, ← hc] at hidx HD
        clear hs hf hc
        by_cases h1 : s ≤ 0
        · go_wp2
          go_roundg g
          case measure => omega
          case rel => exact ⟨k + 1, by omega, by go_num, HK.out.alloc _, HB.out.alloc HB.out.size _⟩
        by_cases h2 : f < 0
        · go_wp2
          go_roundg g
          case measure => omega
          case rel => exact ⟨k + 1, by omega, by go_num, HK.out.alloc _, HB.out.alloc HB.out.size _⟩
        have hmay : (decide (f ≤ now) && decide (c ≤ now)) = true := by
          have := HD.out (by omega) (by omega)
          by_cases h3 : c ≤ now
          · have := this f (if_pos h3)
            simp; omega
          · have := this c (if_neg h3)
            omega
        have HM := Lib.hid hmay
        clear hmay
        go_wp2_with (go_at_call 18; (with_reducible refine (may_calls _ _ _ _ _ (by go_simp) (by go_simp) _ HM.out).mono ?_); rintro e w' ⟨rfl, rfl⟩)
        go_roundg g
        case measure => omega
        case rel => exact ⟨k + 1, by omega, by go_num, HK.out.alloc _, HB.out.alloc HB.out.size _⟩
  · go_wp2_with (first
      | (refine wpList_load_all rfl 24 _ rfl w.heap.size rfl 24 cs _ (by assumption) Try.underlying24 rfl HIN.out ?_)
      | (go_at_call 15; (with_reducible refine (picks_calls _).mono ?_); rintro e w' ⟨rfl, hb1⟩; have hk' := hk.below hb1 hk.lt; have hb' := hb.trans (hb1.mono hb.size); clear hk hb hb1; rename Blk _ _ _ _ => hk; rename Below _ _ _ => hb)
      | (go_at_call 17; (with_reducible refine (wake_calls _ _ _ _ HH.out _ _).mono ?_); rintro e w' ⟨rfl, hb1⟩; rw [← HWK.out]; have hk' := hk.below hb1 hk.lt; have hb' := hb.trans (hb1.mono hb.size); clear hk hb hb1; rename Blk _ _ _ _ => hk; rename Below _ _ _ => hb))
    go_loopg [28] 8 (fun g s28 wx => ∃ k : Nat, k + g = 8 ∧ s28 = .int .i64 (k : Int) ∧ Blk wx w.heap.size cs 24 ∧ Below w.heap.size w wx)
    case atStart => exact ⟨0, rfl, rfl, by assumption, by assumption⟩
    case round =>
      obtain ⟨k, hkg, rfl, hk, hb⟩ := hrel
      cases gk with
      | zero =>
        obtain rfl : k = 8 := by omega
        go_wp2_with (refine wpList_load_all rfl 24 _ rfl w.heap.size rfl 24 cs _ (by assumption) Try.underlying24 rfl HIN.out ?_)
        go_loopg [67] 8 (fun g s67 wx => ∃ k : Nat, k + g = 8 ∧ s67 = .int .i64 (k : Int) ∧ Hid (∀ j, j < k → ¬ (¬ sz j = 0 ∧ 0 ≤ ft j ∧ (cr j = wk ∨ ft j = wk))) ∧ Below w.heap.size w wx)
        case atStart => exact ⟨0, rfl, rfl, fun j hj => absurd hj (by omega), hb⟩
        case round =>
          obtain ⟨k, hkg, rfl, HA, hb⟩ := hrel
          cases gk with
          | zero =>
            obtain rfl : k = 8 := by omega
            exfalso
            have e1 := HWK.out
            rcases HWO.out with h | ⟨_, j, h1, h2, h3, h4⟩
            · omega
            · exact HA.out j h1 ⟨h2, h3, by omega⟩
          | succ g =>
            have hidx := index_head HH.out k (by omega)
            have hk8 : k < 8 := by omega
            have HB := Lib.hid hb
            clear hb
            obtain ⟨s, hs⟩ : ∃ s, s = sz k := ⟨_, rfl⟩
            obtain ⟨f, hf⟩ : ∃ f, f = ft k := ⟨_, rfl⟩
            obtain ⟨c, hc⟩ : ∃ c, c = cr k := ⟨_, rfl⟩
            rw [← hs, ← hf, ← hc] at hidx
            have next : ¬ (¬ s = 0 ∧ 0 ≤ f ∧ (c = wk ∨ f = wk)) → Hid (∀ j, j < k + 1 → ¬ (¬ sz j = 0 ∧ 0 ≤ ft j ∧ (cr j = wk ∨ ft j = wk))) := fun h j hj => by
              by_cases hjk : j = k
              · subst hjk; rw [← hs, ← hf, ← hc]; exact h
              · exact HA.out j (by omega)
            have HN := Lib.hid next
            clear hs hf hc next
            cases h1 : (s != 0) with
            | false =>
              have hs0 : s = 0 := by simpa using h1
              have HS := Lib.hid hs0
              clear hs0
              go_wp2
              go_roundg g
              case measure => omega
              case rel => exact ⟨k + 1, by omega, by go_num, HN.out (fun h => h.1 HS.out), HB.out.alloc HB.out.size _⟩
            | true =>
              by_cases h2 : f < 0
              · go_wp2
                go_roundg g
                case measure => omega
                case rel => exact ⟨k + 1, by omega, by go_num, HN.out (fun h => by omega), HB.out.alloc HB.out.size _⟩
              cases h3 : (c == wk) with
              | true =>
                go_wp2
                go_ret
                exact ⟨rfl, HB.out.alloc HB.out.size _⟩
              | false =>
                have hc0 : Hid (¬ c = wk) := by show ¬ _; simpa using h3
                cases h4 : (f == wk) with
                | true =>
                  go_wp2
                  go_ret
                  exact ⟨rfl, HB.out.alloc HB.out.size _⟩
                | false =>
                  have hf0 : Hid (¬ f = wk) := by show ¬ _; simpa using h4
                  go_wp2
                  go_roundg g
                  case measure => omega
                  case rel => exact ⟨k + 1, by omega, by go_num, HN.out (fun h => by have := hc0.out; have := hf0.out; omega), HB.out.alloc HB.out.size _⟩
      | succ g =>
        have hidx := index_head HH.out k (by omega)
        have hk8 : k < 8 := by omega
        have HB := Lib.hid hb
        have HK := Lib.hid hk
        clear hb hk
        have HD : Hid (¬ sz k = 0 → 0 ≤ ft k → ∀ t, (if cr k ≤ now then ft k else cr k) = t → now < t → wk ≤ t) := fun h1 h2 t ht hn => by
          have := HWL.out k hk8 h1 h2 t ht hn
          have := HWK.out
          omega
        obtain ⟨s, hs⟩ : ∃ s, s = sz k := ⟨_, rfl⟩
        obtain ⟨f, hf⟩ : ∃ f, f = ft k := ⟨_, rfl⟩
        obtain ⟨c, hc⟩ : ∃ c, c = cr k := ⟨_, rfl⟩
        rw [← hs, ← hf, ← hc] at hidx HD
        clear hs hf hc
        by_cases h1 : s ≤ 0
        · go_wp2
          go_roundg g
          case measure => omega
          case rel => exact ⟨k + 1, by omega, by go_num, HK.out.alloc _, HB.out.alloc HB.out.size _⟩
        by_cases h2 : f < 0
        · go_wp2
          go_roundg g
          case measure => omega
          case rel => exact ⟨k + 1, by omega, by go_num, HK.out.alloc _, HB.out.alloc HB.out.size _⟩
        obtain ⟨m1, hm1⟩ : ∃ m1, (decide (f ≤ now) && decide (c ≤ now)) = m1 := ⟨_, rfl⟩
        obtain ⟨m2, hm2⟩ : ∃ m2, (decide (f ≤ at') && decide (c ≤ at')) = m2 := ⟨_, rfl⟩
        have HM1 := Lib.hid hm1
        have HM2 := Lib.hid hm2
        clear hm1 hm2
        cases m1 with
        | true =>
          go_wp2_with (go_at_call 18; first | ((with_reducible refine (may_calls _ _ _ _ _ (by go_simp) (by go_simp) _ HM1.out).mono ?_); rintro e w' ⟨rfl, rfl⟩))
          go_roundg g
          case measure => omega
          case rel => exact ⟨k + 1, by omega, by go_num, HK.out.alloc _, HB.out.alloc HB.out.size _⟩
        | false =>
          by_cases h3 : at' ≤ now
          · go_wp2_with (go_at_call 18; first | ((with_reducible refine (may_calls _ _ _ _ _ (by go_simp) (by go_simp) _ HM1.out).mono ?_); rintro e w' ⟨rfl, rfl⟩))
            go_roundg g
            case measure => omega
            case rel => exact ⟨k + 1, by omega, by go_num, HK.out.alloc _, HB.out.alloc HB.out.size _⟩
          by_cases h4 : wk ≤ at'
          · go_wp2_with (go_at_call 18; first | ((with_reducible refine (may_calls _ _ _ _ _ (by go_simp) (by go_simp) _ HM1.out).mono ?_); rintro e w' ⟨rfl, rfl⟩))
            go_roundg g
            case measure => omega
            case rel => exact ⟨k + 1, by omega, by go_num, HK.out.alloc _, HB.out.alloc HB.out.size _⟩
          have hm2 : m2 = false := by
            have h5 := HM1.out
            rw [← HM2.out]
            simp only [Bool.and_eq_false_iff, decide_eq_false_iff_not] at h5 ⊢
            have := HD.out (by omega) (by omega)
            by_cases h6 : c ≤ now
            · have := this f (if_pos h6)
              omega
            · have := this c (if_neg h6)
              omega
          subst hm2
          go_wp2_with (go_at_call 18; first | ((with_reducible refine (may_calls _ _ _ _ _ (by go_simp) (by go_simp) _ HM1.out).mono ?_); rintro e w' ⟨rfl, rfl⟩) | ((with_reducible refine (may_calls _ _ _ _ _ (by go_simp) (by go_simp) _ HM2.out).mono ?_); rintro e w' ⟨rfl, rfl⟩))
          go_roundg g
          case measure => omega
          case rel => exact ⟨k + 1, by omega, by go_num, HK.out.alloc _, HB.out.alloc HB.out.size _⟩

theorem kind24_0 : kindAt Try.prog 4 24 0 = some (.i .i64) := by kernel_rfl
theorem kind24_1 : kindAt Try.prog 4 24 1 = some (.i .i64) := by kernel_rfl
theorem kind24_2 : kindAt Try.prog 4 24 2 = some (.i .i64) := by kernel_rfl
theorem kind24_3 : kindAt Try.prog 4 24 3 = some (.i .i64) := by kernel_rfl
theorem kind24_4 : kindAt Try.prog 4 24 4 = some (.i .i64) := by kernel_rfl
theorem kind24_5 : kindAt Try.prog 4 24 5 = some (.i .i64) := by kernel_rfl
theorem kind24_6 : kindAt Try.prog 4 24 6 = some (.i .i64) := by kernel_rfl
theorem kind24_7 : kindAt Try.prog 4 24 7 = some (.i .i64) := by kernel_rfl
theorem kind24_8 : kindAt Try.prog 4 24 8 = some (.i .i64) := by kernel_rfl
theorem kind24_9 : kindAt Try.prog 4 24 9 = some (.i .i64) := by kernel_rfl
theorem kind24_10 : kindAt Try.prog 4 24 10 = some (.i .i64) := by kernel_rfl
theorem kind24_11 : kindAt Try.prog 4 24 11 = some (.i .i64) := by kernel_rfl
theorem kind24_12 : kindAt Try.prog 4 24 12 = some (.i .i64) := by kernel_rfl
theorem kind24_13 : kindAt Try.prog 4 24 13 = some (.i .i64) := by kernel_rfl
theorem kind24_14 : kindAt Try.prog 4 24 14 = some (.i .i64) := by kernel_rfl
theorem kind24_15 : kindAt Try.prog 4 24 15 = some (.i .i64) := by kernel_rfl
theorem kind24_16 : kindAt Try.prog 4 24 16 = some (.i .i64) := by kernel_rfl
theorem kind24_17 : kindAt Try.prog 4 24 17 = some (.i .i64) := by kernel_rfl
theorem kind24_18 : kindAt Try.prog 4 24 18 = some (.i .i64) := by kernel_rfl
theorem kind24_19 : kindAt Try.prog 4 24 19 = some (.i .i64) := by kernel_rfl
theorem kind24_20 : kindAt Try.prog 4 24 20 = some (.i .i64) := by kernel_rfl
theorem kind24_21 : kindAt Try.prog 4 24 21 = some (.i .i64) := by kernel_rfl
theorem kind24_22 : kindAt Try.prog 4 24 22 = some (.i .i64) := by kernel_rfl
theorem kind24_23 : kindAt Try.prog 4 24 23 = some (.i .i64) := by kernel_rfl
theorem kind24 (k : Nat) (hk : k < 24) : kindAt Try.prog 4 24 k = some (.i .i64) := by
  have : k = 0 ∨ k = 1 ∨ k = 2 ∨ k = 3 ∨ k = 4 ∨ k = 5 ∨ k = 6 ∨ k = 7 ∨ k = 8 ∨ k = 9 ∨ k = 10 ∨ k = 11 ∨ k = 12 ∨ k = 13 ∨ k = 14 ∨ k = 15 ∨ k = 16 ∨ k = 17 ∨ k = 18 ∨ k = 19 ∨ k = 20 ∨ k = 21 ∨ k = 22 ∨ k = 23 := by omega
  rcases this with rfl | rfl | rfl | rfl | rfl | rfl | rfl | rfl | rfl | rfl | rfl | rfl | rfl | rfl | rfl | rfl | rfl | rfl | rfl | rfl | rfl | rfl | rfl | rfl
  · exact kind24_0
  · exact kind24_1
  · exact kind24_2
  · exact kind24_3
  · exact kind24_4
  · exact kind24_5
  · exact kind24_6
  · exact kind24_7
  · exact kind24_8
  · exact kind24_9
  · exact kind24_10
  · exact kind24_11
  · exact kind24_12
  · exact kind24_13
  · exact kind24_14
  · exact kind24_15
  · exact kind24_16
  · exact kind24_17
  · exact kind24_18
  · exact kind24_19
  · exact kind24_20
  · exact kind24_21
  · exact kind24_22
  · exact kind24_23

theorem heads_of {cs : Array Value} (F : FlatV Try.prog 24 cs) : ∃ sz ft cr, Heads cs sz ft cr := by
  have hsz : cs.size = 24 := F.size.trans (by kernel_rfl)
  have g : ∀ o, o < 24 → ∃ n, cs[o]? = some (.int .i64 n) := fun o ho => by
    obtain ⟨n, hn, _⟩ := F.int_at 4 o (kind24 o ho)
    exact ⟨n, hn⟩
  obtain ⟨sz, hs⟩ := choose_fn 8 (fun k n => cs[k * 3]? = some (.int .i64 n)) 0 (fun k hk => g _ (by omega))
  obtain ⟨ft, hf⟩ := choose_fn 8 (fun k n => cs[k * 3 + 1]? = some (.int .i64 n)) 0 (fun k hk => g _ (by omega))
  obtain ⟨cr, hc⟩ := choose_fn 8 (fun k n => cs[k * 3 + 2]? = some (.int .i64 n)) 0 (fun k hk => g _ (by omega))
  exact ⟨sz, ft, cr, hsz, hs, hf, hc⟩

namespace chooseClass
theorem chooseClass_walk (w : World) (cs : Array Value) (F : FlatV Try.prog 24 cs) (now : Int) (_ : (Lit.int .i64 now).wf = true) :
    Calls Try.prog 3 #[.agg cs, .int .i64 now] w fun e w' => e = .returned (.bool true) ∧ Below w.heap.size w w' := by
  obtain ⟨sz, ft, cr, H⟩ := heads_of F
  exact chooseClass_any w cs sz ft cr H now
end chooseClass
namespace chooseWake
theorem chooseWake_walk (w : World) (cs : Array Value) (F : FlatV Try.prog 24 cs) (now : Int) (_ : (Lit.int .i64 now).wf = true) (at' : Int) (_ : (Lit.int .i64 at').wf = true) :
    Calls Try.prog 4 #[.agg cs, .int .i64 now, .int .i64 at'] w fun e w' => e = .returned (.bool true) ∧ Below w.heap.size w w' := by
  obtain ⟨sz, ft, cr, H⟩ := heads_of F
  exact chooseWake_any w cs sz ft cr H now at'
end chooseWake
namespace chooseChecks
theorem chooseChecks_walk (w : World) (cs : Array Value) (F : FlatV Try.prog 24 cs) (s : Int) (_ : (Lit.int .i64 s).wf = true) :
    Calls Try.prog 5 #[.agg cs, .int .i64 s] w fun e w' => e = .returned (.bool true) ∧ Below w.heap.size w w' := by
  obtain ⟨sz, ft, cr, H⟩ := heads_of F
  exact chooseChecks_any w cs sz ft cr H s
end chooseChecks
end Go.Proofs.Ytjnbjcieepooaaa
