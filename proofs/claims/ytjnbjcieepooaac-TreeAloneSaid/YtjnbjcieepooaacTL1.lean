/- TreeAlone: walked. -/
import Derived.Test.YtjnbjcieepooaacTLG
namespace Go.Proofs.Ytjnbjcieepooaac
open Go.RowKit
set_option linter.unusedVariables false
set_option linter.unusedSimpArgs false

theorem rows_ports {w : World} {g n : Nat} {f : Nat → TP} {h' : Nat → Array Value} (h : RowsB w g 31 16 n h') (hf : ∀ i, i < n → h' i = (f i).cells) : TPorts w g 0 n f :=
  ⟨h.lt, fun i o hi ho => by rw [Nat.zero_add, h.cell i o hi ho, hf i hi]⟩
def aports (e : Bool) (i : Nat) : TP := portP 1 e
def aloneT (e : Bool) : Tr := linkF 0 true (newN 7 (aports e) 1)
def aloneW (e : Bool) (s : Nat) : Int := if e = true ∨ 30 ≤ s then 2 else if 15 ≤ s then 1 else 0
theorem alone_all : ∀ e : Bool, ∀ s, s < 101 → stateF (ticks s (aloneT e)) 0 = aloneW e s := by decide +kernel
theorem alone_ok (e : Bool) (k : Nat) (hk : k ≤ 100) : TOk (ticks k (aloneT e)) (2 * (ticks k (aloneT e)).n) := by
  have hc : ∀ i, i < 1 → 0 ≤ (aports e i).p.cost ∧ (aports e i).p.cost ≤ 18446744073709551615 := fun i _ => by show (0 : Int) ≤ 10 ∧ (10 : Int) ≤ 18446744073709551615; omega
  have o0 : TOk (newN 7 (aports e) 1) 5000 := TOk.new 7 _ 1 5000 (by omega) hc (by omega)
  have o1 : TOk (aloneT e) 4900 := (o0.mono (k := (newN 7 (aports e) 1).n + 4900) (by rw [newN_n]; omega)).link 0 true
  have o2 : TOk (ticks k (aloneT e)) 32 := (o1.mono (by omega)).tickN k
  exact o2.mono (by have := o2.n; omega)
set_option maxRecDepth 8000 in
set_option maxHeartbeats 4000000 in
theorem treeAlone_any (w : World) (e : Bool) (s : Int) : Calls Try.prog 3 #[.bool e, .int .i64 s] w fun r w' => r = .returned (.bool true) ∧ Below w.heap.size w w' := by
  by_cases h0 : s < 0
  · go_enter Try.func3, Try.ntmps3
    go_wp2_with (go_at_call 12; (with_reducible refine (grows_calls _).mono ?_); rintro r w1 ⟨rfl, hb1⟩)
    go_ret
    exact ⟨rfl, hb1⟩
  by_cases h100 : 100 < s
  · go_enter Try.func3, Try.ntmps3
    go_wp2_with (go_at_call 12; (with_reducible refine (grows_calls _).mono ?_); rintro r w1 ⟨rfl, hb1⟩)
    go_ret
    exact ⟨rfl, hb1⟩
  obtain ⟨m, rfl⟩ : ∃ m : Nat, s = (m : Int) := ⟨s.toNat, by omega⟩
  have hm : m ≤ 100 := by omega
  obtain ⟨N0, hN0⟩ : ∃ N0, newN 7 (aports e) 1 = N0 := ⟨_, rfl⟩
  have HN0 := Lib.hid hN0
  have o0 : TOk N0 N0.n := by
    rw [← hN0]
    have hc : ∀ i, i < 1 → 0 ≤ (aports e i).p.cost ∧ (aports e i).p.cost ≤ 18446744073709551615 := fun i _ => by show (0 : Int) ≤ 10 ∧ (10 : Int) ≤ 18446744073709551615; omega
    exact TOk.new 7 _ 1 _ (by omega) hc (by rw [newN_n]; omega)
  have O0 := Lib.hid o0
  have HG : Hid (linkF 0 true N0 = aloneT e) := by rw [← hN0]; exact Lib.hid rfl
  have HW := Lib.hid (alone_all e m (by omega))
  have HOK : Hid (∀ k, k ≤ 100 → TOk (ticks k (aloneT e)) (2 * (ticks k (aloneT e)).n)) := Lib.hid (alone_ok e)
  have HC : Hid (∀ i, i < 1 → 0 ≤ (aports e i).p.cost ∧ (aports e i).p.cost ≤ 18446744073709551615) := Lib.hid fun i _ => by show (0 : Int) ≤ 10 ∧ (10 : Int) ≤ 18446744073709551615; omega
  have H1a : Hid (1 ≤ 4611686018427387904) := Lib.hid (by omega)
  have H1b : Hid ((if 1 ≤ 16 then 1 else 16) = 1) := Lib.hid rfl
  obtain ⟨G, hG⟩ : ∃ G, aloneT e = G := ⟨_, rfl⟩
  rw [hG] at HG HW HOK
  clear hN0 o0 hG
  go_enter Try.func3, Try.ntmps3
  go_upto_region 5 with (go_at_call 12; (with_reducible refine (grows_calls _).mono ?_); rintro r w1 ⟨rfl, hb1⟩)
  have hA := (Below.refl w1.heap.size w1).alloc (Nat.le_refl _) (.cells #[.int .i64 1] 3)
  have hB := Blk.new w1 #[.int .i64 1] 3
  have hcells : Hid (0 < 1 → ∃ b off, some (⟨w1.heap.size, 0, none⟩ : Addr) = some ⟨b, off, none⟩ ∧ b < (w1.alloc (.cells #[.int .i64 1] 3)).heap.size ∧ ∀ j, j < 1 → (w1.alloc (.cells #[.int .i64 1] 3)).cell? ⟨b, off + j, none⟩ = some (.int .i64 ((fun _ => 1 : Nat → Int) j))) :=
    Lib.hid fun _ => ⟨w1.heap.size, 0, rfl, hB.lt, fun j hj => by
      obtain rfl : j = 0 := by omega
      rw [Nat.zero_add, hB.cell]; rfl⟩
  clear hB
  go_upto_region 6 with (go_at_call 13; (with_reducible refine (mkports_calls (fun _ => 1) _ 1 1 (by omega) _ hcells.out).mono ?_); rintro r w2 ⟨v2, rfl, hown2, hb2⟩)
  obtain ⟨g, c2, rfl, hg1, hg2, hc2, _⟩ := own_at hown2 (by omega)
  have hR := RowsB.of_own (sz := 16) (f := fun i => (portP 1 false).cells) (fun i => rfl) hown2
  have hbl2 := hb1.trans ((hA.trans (hb2.mono hA.size)).mono hb1.size)
  have hgw : w.heap.size ≤ g := Nat.le_trans hb1.size (Nat.le_trans hA.size hg1)
  have q8 : w2.cell? ⟨g, 8, none⟩ = some (.bool false) := (hR.cell 0 8 (by omega) (by omega)).trans rfl
  have f8 := hR.free 8
  have hR2 := hR.set (m := 0) (o := 8) (by omega) (by omega) (.bool e)
  have hP2 : TPorts (w2.setCell ⟨g, 8, none⟩ (.bool e)) g 0 1 (aports e) := rows_ports hR2 fun i hi => by
    obtain rfl : i = 0 := by omega
    rw [updF_same]; rfl
  have HP2 : Hid (0 < 1 → ∃ b off, some (⟨g, 0, none⟩ : Addr) = some ⟨b, off, none⟩ ∧ TPorts (w2.setCell ⟨g, 8, none⟩ (.bool e)) b off 1 (aports e)) := Lib.hid fun _ => ⟨g, 0, rfl, hP2⟩
  have hbl3 : Below w.heap.size w (w2.setCell ⟨g, 8, none⟩ (.bool e)) := hbl2.setCell (p := ⟨g, 8, none⟩) hgw _
  have HBL3 := Lib.hid hbl3
  have HC2 := Lib.hid hc2
  clear hR hR2 hP2 hbl2 hbl3 hown2 hb2 hA hcells hb1 hc2 hg1
  go_upto_region 8 with (go_at_call 14; (with_reducible refine (new_calls 7 (aports e) _ 1 c2 H1a.out HC2.out 1 H1b.out HC.out _ HP2.out N0 HN0.out).mono ?_); intro r w3 hnew; obtain ⟨tb, rfl, hT3, hb3⟩ := hnew.at_; clear hnew HP2)
  have hT := hT3.more (Z' := fun k => k < w.heap.size) fun k hk => .inl (Nat.lt_of_lt_of_le hk HBL3.out.size)
  have hbl := HBL3.out.trans (hb3.mono HBL3.out.size)
  have HT := Lib.hid hT
  clear hT3 hb3 HBL3 hT q8 f8
  go_upto_region 9 with (go_at_call 15; (with_reducible refine (link_at HT.out 0 true O0.out G HG.out).mono ?_); rintro r w4 ⟨rfl, hT4, hf4⟩)
  have HT4 := Lib.hid hT4
  have hbl4 := hbl.trans (hf4.toBelow (fun _ h => h) hbl.size)
  clear hT4 hbl hf4 HT
  go_wp2
  go_loopg [27] m (fun gh s27 wx => ∃ k : Nat, k + gh = m ∧ s27 = .int .i64 (k : Int) ∧ TAt wx tb (ticks k G) (fun k => k < w.heap.size) ∧ Below w.heap.size w wx)
  case atStart => exact ⟨0, by omega, rfl, HT4.out, hbl4⟩
  case round =>
    obtain ⟨k, hkg, rfl, hT, hbl⟩ := hrel
    have HT := Lib.hid hT
    clear hT
    cases gk with
    | zero =>
      have hkM : ¬ ((k : Int) < (m : Int)) := by omega
      obtain rfl : k = m := by omega
      generalize ticks k G = X at HT HW
      have HBL := Lib.hid hbl
      clear hbl
      cases e with
      | true =>
        have HX : Hid (stateF X 0 = 2) := by have h := HW.out; unfold aloneW at h; rw [if_pos (.inl rfl)] at h; exact h
        by_cases h15 : (15 : Int) ≤ (k : Int)
        · go_wp2_with (go_at_call 17; (with_reducible refine (state_at HT.out 0 2 HX.out).mono ?_); rintro e w5 ⟨rfl, rfl⟩)
          go_ret
          exact ⟨rfl, HBL.out⟩
        · go_wp2_with (go_at_call 17; (with_reducible refine (state_at HT.out 0 2 HX.out).mono ?_); rintro e w5 ⟨rfl, rfl⟩)
          go_ret
          exact ⟨rfl, HBL.out⟩
      | false =>
        by_cases h15 : (15 : Int) ≤ (k : Int)
        · by_cases h30 : (30 : Int) ≤ (k : Int)
          · have HX : Hid (stateF X 0 = 2) := by have h := HW.out; unfold aloneW at h; rw [if_pos (.inr (by omega))] at h; exact h
            go_wp2_with (go_at_call 17; (with_reducible refine (state_at HT.out 0 2 HX.out).mono ?_); rintro e w5 ⟨rfl, rfl⟩)
            go_ret
            exact ⟨rfl, HBL.out⟩
          · have HX : Hid (stateF X 0 = 1) := by have h := HW.out; unfold aloneW at h; rw [if_neg (by simp; omega), if_pos (by omega)] at h; exact h
            go_wp2_with (go_at_call 17; (with_reducible refine (state_at HT.out 0 1 HX.out).mono ?_); rintro e w5 ⟨rfl, rfl⟩)
            go_ret
            exact ⟨rfl, HBL.out⟩
        · have h30 : ¬ (30 : Int) ≤ (k : Int) := by omega
          have HX : Hid (stateF X 0 = 0) := by have h := HW.out; unfold aloneW at h; rw [if_neg (by simp; omega), if_neg (by omega)] at h; exact h
          go_wp2_with (go_at_call 17; (with_reducible refine (state_at HT.out 0 0 HX.out).mono ?_); rintro e w5 ⟨rfl, rfl⟩)
          go_ret
          exact ⟨rfl, HBL.out⟩
    | succ gh =>
      have hkM : (k : Int) < (m : Int) := by omega
      have HST : Hid (tickF (ticks k G) = ticks (k + 1) G) := Lib.hid rfl
      have HOK1 := Lib.hid (HOK.out k (by omega))
      obtain ⟨Y, hY⟩ : ∃ Y, ticks (k + 1) G = Y := ⟨_, rfl⟩
      have HY := Lib.hid hY
      rw [hY] at HST
      clear hY
      generalize ticks k G = X at HT HST HOK1
      go_wp2_with (go_at_call 16; (with_reducible refine (tick_at HT.out HOK1.out Y HST.out).mono ?_); rintro e w5 ⟨rfl, hT5, hf5⟩)
      go_roundg gh
      case measure => omega
      case rel => exact ⟨k + 1, by omega, by go_num, by rw [HY.out]; exact hT5, hbl.trans (hf5.toBelow (fun _ h => h) hbl.size)⟩
end Go.Proofs.Ytjnbjcieepooaac
