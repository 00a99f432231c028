/- The functions of package choose, by their contracts. -/
import Derived.Test.YtjnbjcieepooaaaBase
import Derived.Test.YtjnbjcieepooaaaWire
import Derived.Deep.LoopGhost
import Derived.Deep.DeepCutAuto
import Derived.WalkLawsBesides
namespace Go.Proofs.Ytjnbjcieepooaaa
open Go.RowKit

/-- Eight heads. -/
structure Heads (cs : Array Value) (sz ft cr : Nat → Int) : Prop where
  size : cs.size = 24
  at0 : ∀ k, k < 8 → cs[k * 3]? = some (.int .i64 (sz k))
  at1 : ∀ k, k < 8 → cs[k * 3 + 1]? = some (.int .i64 (ft k))
  at2 : ∀ k, k < 8 → cs[k * 3 + 2]? = some (.int .i64 (cr k))

def goesB (s f c now : Int) : Bool := decide (0 < s) && (decide (0 ≤ f) && (decide (f ≤ now) && decide (c ≤ now)))

theorem goes_calls (s f c now : Int) (g : Bool) (h : goesB s f c now = g) (w : World) :
    Calls Try.prog 37 #[.agg #[.int .i64 s, .int .i64 f, .int .i64 c], .int .i64 now] w fun e w' => e = .returned (.bool g) ∧ Below w.heap.size w w' := by
  subst h
  by_cases h1 : 0 < s
  · by_cases h2 : 0 ≤ f
    · by_cases h3 : f ≤ now
      · by_cases h4 : c ≤ now
        all_goals
          go_enter Try.func37, Try.ntmps37
          go_wp2
          go_ret
          exact ⟨by simp only [goesB, *]; first | rfl | (simp; omega), (Below.refl _ _).alloc (Nat.le_refl _) _⟩
      · go_enter Try.func37, Try.ntmps37
        go_wp2
        go_ret
        exact ⟨by simp only [goesB, *]; first | rfl | (simp; omega), (Below.refl _ _).alloc (Nat.le_refl _) _⟩
    · go_enter Try.func37, Try.ntmps37
      go_wp2
      go_ret
      exact ⟨by simp only [goesB, *]; first | rfl | (simp; omega), (Below.refl _ _).alloc (Nat.le_refl _) _⟩
  · go_enter Try.func37, Try.ntmps37
    go_wp2
    go_ret
    exact ⟨by simp only [goesB, *]; first | rfl | (simp; omega), (Below.refl _ _).alloc (Nat.le_refl _) _⟩

/-- The highest below k that may go. -/
def classN (sz ft cr : Nat → Int) (now : Int) : Nat → Int
  | 0 => -1
  | k + 1 => if goesB (sz k) (ft k) (cr k) now = true then (k : Int) else classN sz ft cr now k

set_option maxHeartbeats 400000 in
theorem class_calls (cs : Array Value) (sz ft cr : Nat → Int) (H : Heads cs sz ft cr) (now : Int) (w : World) :
    Calls Try.prog 16 #[.agg cs, .int .i64 now] w fun e w' => e = .returned (.int .i64 (classN sz ft cr now 8)) ∧ Below w.heap.size w w' := by
  have HH := Lib.hid H
  clear H
  go_enter Try.func16, Try.ntmps16
  go_wp2_with fail
  go_loopg [5] 8 (fun g s5 wx => (s5 = .int .i64 ((g : Int) - 1) ∧ g ≤ 8) ∧ Hid (classN sz ft cr now 8 = classN sz ft cr now g) ∧ Blk wx w.heap.size cs 24 ∧ Below w.heap.size w wx)
  case atStart => exact ⟨⟨rfl, by omega⟩, rfl, Blk.new w cs 24, (Below.refl _ _).alloc (Nat.le_refl _) _⟩
  case round =>
    obtain ⟨⟨rfl, hg⟩, HC, hk, hb⟩ := hrel
    cases gk with
    | zero =>
      go_wp2
      go_ret
      exact ⟨by rw [HC.out]; rfl, hb⟩
    | succ g =>
      have hc0 : wr.cell? ⟨w.heap.size, g * 3, none⟩ = some (.int .i64 (sz g)) := (hk.cell _).trans (HH.out.at0 g (by omega))
      have hc1 : wr.cell? ⟨w.heap.size, g * 3 + 1, none⟩ = some (.int .i64 (ft g)) := (hk.cell _).trans (HH.out.at1 g (by omega))
      have hc2 : wr.cell? ⟨w.heap.size, g * 3 + 2, none⟩ = some (.int .i64 (cr g)) := (hk.cell _).trans (HH.out.at2 g (by omega))
      have HK := Lib.hid hk
      have HBB := Lib.hid hb
      clear hk hb
      cases hg1 : goesB (sz g) (ft g) (cr g) now with
      | true =>
        have HG := Lib.hid hg1
        clear hg1
        go_wp2_with (go_at_call 37; go_loud (with_reducible refine (goes_calls _ _ _ _ _ HG.out _).mono ?_); rintro e w' ⟨rfl, hb1⟩)
        go_ret
        exact ⟨by rw [HC.out]; simp only [classN]; rw [if_pos HG.out]; simp, HBB.out.trans (hb1.mono HBB.out.size)⟩
      | false =>
        have HG := Lib.hid hg1
        clear hg1
        go_wp2_with (go_at_call 37; go_loud (with_reducible refine (goes_calls _ _ _ _ _ HG.out _).mono ?_); rintro e w' ⟨rfl, hb1⟩)
        go_roundg g
        case measure => omega
        case rel => exact ⟨⟨by go_num, by omega⟩, by show classN sz ft cr now 8 = _; rw [HC.out]; simp only [classN]; rw [if_neg (by rw [HG.out]; simp)], HK.out.below hb1 HK.out.lt, HBB.out.trans (hb1.mono HBB.out.size)⟩
theorem extract3 {cs : Array Value} {o : Nat} {x y z : Value} (h0 : cs[o]? = some x) (h1 : cs[o + 1]? = some y) (h2 : cs[o + 2]? = some z) : cs.extract o (o + 3) = #[x, y, z] := by
  have l2 := (Array.getElem?_eq_some_iff.1 h2).1
  apply Array.ext_getElem?
  intro i
  rw [Array.getElem?_extract]
  by_cases h : i < 3
  · rw [if_pos (by omega)]
    have : i = 0 ∨ i = 1 ∨ i = 2 := by omega
    rcases this with rfl | rfl | rfl
    · simpa using h0
    · simpa using h1
    · simpa using h2
  · rw [if_neg (by omega)]
    simp
    omega

theorem index_head {cs : Array Value} {sz ft cr : Nat → Int} (H : Heads cs sz ft cr) (k : Nat) (hk : k < 8) (w : World) :
    (Instr.index 24 (.agg cs) (.int .i64 (k : Int))).run Try.prog w = .ok (.agg #[.int .i64 (sz k), .int .i64 (ft k), .int .i64 (cr k)]) w := by
  have e : (part 23 cs ((k : Int).toNat * 3)).run Try.prog w = .ok (.agg #[.int .i64 (sz k), .int .i64 (ft k), .int .i64 (cr k)]) w := by
    have h1 : (isAgg 23).run Try.prog w = .ok true w := by kernel_rfl
    have h2 : (sizeOf 23).run Try.prog w = .ok 3 w := by kernel_rfl
    unfold part
    simp only [Sem.run_bind, h1, Result.andThen_ok, if_true, h2, Sem.run_pure]
    rw [show (k : Int).toNat = k by omega, extract3 (H.at0 k hk) (H.at1 k hk) (H.at2 k hk)]
  have h3 : (sizeOf 23).run Try.prog w = .ok 3 w := by kernel_rfl
  unfold Instr.index
  simp only [asIntOf, Sem.run_bind, Sem.run_pure, Result.andThen_ok, run_underlying Try.underlying24]
  rw [if_pos ⟨by omega, by omega⟩]
  simp only [Sem.run_bind, h3, Result.andThen_ok]
  exact e

/-- One head's part in the time at which to ask again. -/
def wakeStep (s f c now wk : Int) : Int :=
  if s = 0 ∨ f < 0 then wk
  else
    let t := if c ≤ now then f else c
    if now < t ∧ (wk < 0 ∨ t < wk) then t else wk
def wakeN (sz ft cr : Nat → Int) (now : Int) : Nat → Int
  | 0 => -1
  | k + 1 => wakeStep (sz k) (ft k) (cr k) now (wakeN sz ft cr now k)

theorem wake_cases (s f c now wk : Int) :
    (s = 0 ∧ Hid (wakeStep s f c now wk = wk)) ∨ ((s == 0) = false ∧ f < 0 ∧ Hid (wakeStep s f c now wk = wk)) ∨
    ((s == 0) = false ∧ 0 ≤ f ∧ c ≤ now ∧ f ≤ now ∧ Hid (wakeStep s f c now wk = wk)) ∨
    ((s == 0) = false ∧ 0 ≤ f ∧ c ≤ now ∧ now < f ∧ wk < 0 ∧ Hid (wakeStep s f c now wk = f)) ∨
    ((s == 0) = false ∧ 0 ≤ f ∧ c ≤ now ∧ now < f ∧ 0 ≤ wk ∧ f < wk ∧ Hid (wakeStep s f c now wk = f)) ∨
    ((s == 0) = false ∧ 0 ≤ f ∧ c ≤ now ∧ now < f ∧ 0 ≤ wk ∧ wk ≤ f ∧ Hid (wakeStep s f c now wk = wk)) ∨
    ((s == 0) = false ∧ 0 ≤ f ∧ now < c ∧ wk < 0 ∧ Hid (wakeStep s f c now wk = c)) ∨
    ((s == 0) = false ∧ 0 ≤ f ∧ now < c ∧ 0 ≤ wk ∧ c < wk ∧ Hid (wakeStep s f c now wk = c)) ∨
    ((s == 0) = false ∧ 0 ≤ f ∧ now < c ∧ 0 ≤ wk ∧ wk ≤ c ∧ Hid (wakeStep s f c now wk = wk)) := by
  simp only [Hid]
  by_cases h0 : s = 0
  · exact .inl ⟨h0, by unfold wakeStep; rw [if_pos (.inl h0)]⟩
  have h1 : (s == 0) = false := by simpa using h0
  right
  by_cases h2 : f < 0
  · exact .inl ⟨h1, h2, by unfold wakeStep; rw [if_pos (.inr h2)]⟩
  right
  have e : ∀ t, (if c ≤ now then f else c) = t → wakeStep s f c now wk = if now < t ∧ (wk < 0 ∨ t < wk) then t else wk := by
    intro t ht
    subst ht
    unfold wakeStep
    rw [if_neg (by omega)]
  by_cases h3 : c ≤ now
  · have e := e f (if_pos h3)
    by_cases h4 : f ≤ now
    · exact .inl ⟨h1, by omega, h3, h4, by rw [e, if_neg (by omega)]⟩
    right
    by_cases h5 : wk < 0
    · exact .inl ⟨h1, by omega, h3, by omega, h5, by rw [e, if_pos (by omega)]⟩
    right
    by_cases h6 : f < wk
    · exact .inl ⟨h1, by omega, h3, by omega, by omega, h6, by rw [e, if_pos (by omega)]⟩
    · exact .inr (.inl ⟨h1, by omega, h3, by omega, by omega, by omega, by rw [e, if_neg (by omega)]⟩)
  · have e := e c (if_neg h3)
    right; right; right; right
    by_cases h5 : wk < 0
    · exact .inl ⟨h1, by omega, by omega, h5, by rw [e, if_pos (by omega)]⟩
    right
    by_cases h6 : c < wk
    · exact .inl ⟨h1, by omega, by omega, by omega, h6, by rw [e, if_pos (by omega)]⟩
    · exact .inr ⟨h1, by omega, by omega, by omega, by omega, by rw [e, if_neg (by omega)]⟩

set_option maxHeartbeats 4000000 in
theorem wake_calls (cs : Array Value) (sz ft cr : Nat → Int) (H : Heads cs sz ft cr) (now : Int) (w : World) :
    Calls Try.prog 17 #[.agg cs, .int .i64 now] w fun e w' => e = .returned (.int .i64 (wakeN sz ft cr now 8)) ∧ Below w.heap.size w w' := by
  have HH := Lib.hid H
  clear H
  have hin : (Try.prog.info? 24).map (·.size) = some cs.size := by rw [HH.out.size]; kernel_rfl
  have HIN := Lib.hid hin
  clear hin
  go_enter Try.func17, Try.ntmps17
  go_wp2_with (refine wpList_load_row rfl 24 _ rfl w.heap.size rfl 24 cs (0, 0) _ (Blk.new w cs 24) Try.underlying24 rfl HIN.out ?_)
  go_loopg [5, 10] 8 (fun g s5 s10 wx => ∃ k : Nat, k + g = 8 ∧ s10 = .int .i64 (k : Int) ∧ s5 = .int .i64 (wakeN sz ft cr now k) ∧ Below w.heap.size w wx)
  case atStart => exact ⟨0, rfl, rfl, rfl, (Below.refl _ _).alloc (Nat.le_refl _) _⟩
  case round =>
    obtain ⟨k, hkg, rfl, rfl, hb⟩ := hrel
    cases gk with
    | zero =>
      obtain rfl : k = 8 := by omega
      go_wp2
      go_ret
      exact ⟨rfl, hb⟩
    | succ g =>
      have hidx := index_head HH.out k (by omega)
      have hk8 : k < 8 := by omega
      obtain ⟨wk, hwk⟩ : ∃ wk, wk = wakeN sz ft cr now k := ⟨_, rfl⟩
      rw [← hwk]
      have HW := Lib.hid hwk
      have HB := Lib.hid hb
      have hn : wakeN sz ft cr now (k + 1) = wakeStep (sz k) (ft k) (cr k) now wk := by rw [hwk]; rfl
      have HN := Lib.hid hn
      clear hwk hb hn
      obtain ⟨s, hs⟩ : ∃ s, s = sz k := ⟨_, rfl⟩
      obtain ⟨f, hf⟩ : ∃ f, f = ft k := ⟨_, rfl⟩
      obtain ⟨c, hc⟩ : ∃ c, c = cr k := ⟨_, rfl⟩
      rw [← hs, ← hf, ← hc] at hidx
      have HNN : Hid (wakeN sz ft cr now (k + 1) = wakeStep s f c now wk) := by show wakeN sz ft cr now (k + 1) = _; rw [hs, hf, hc]; exact HN.out
      clear HN hs hf hc
      rcases wake_cases s f c now wk with ⟨h1, HV⟩ | ⟨h1, h2, HV⟩ | ⟨h1, h2, h3, h4, HV⟩ | ⟨h1, h2, h3, h4, h5, HV⟩ | ⟨h1, h2, h3, h4, h5, h6, HV⟩ | ⟨h1, h2, h3, h4, h5, h6, HV⟩ | ⟨h1, h2, h3, h4, HV⟩ | ⟨h1, h2, h3, h4, h5, HV⟩ | ⟨h1, h2, h3, h4, h5, HV⟩
      all_goals
        go_wp2
        all_goals
          go_roundg g
          case measure => omega
          case rel => exact ⟨k + 1, by omega, by go_num, by rw [HNN.out, HV.out], HB.out.alloc HB.out.size _⟩
end Go.Proofs.Ytjnbjcieepooaaa
