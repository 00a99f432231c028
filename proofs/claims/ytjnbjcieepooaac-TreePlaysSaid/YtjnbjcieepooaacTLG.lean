/- grows of the laws: a bridge alone; by its contract. -/
import Derived.Test.YtjnbjcieepooaacTL0
namespace Go.Proofs.Ytjnbjcieepooaac
open Go.RowKit
set_option linter.unusedVariables false
set_option linter.unusedSimpArgs false

def ticks : Nat → Tr → Tr
  | 0, T => T
  | k + 1, T => tickF (ticks k T)
theorem TOk.new (id : Int) (f : Nat → TP) (M : Nat) (k : Nat) (hM : M ≤ 16) (hok : ∀ i, i < M → 0 ≤ (f i).p.cost ∧ (f i).p.cost ≤ 18446744073709551615) (hk : k ≤ 1000000) : TOk (newN id f M) k := by
  have hn : (preT id f M).n = M := preT_n id f M
  refine ⟨by show (preT id f M).n ≤ 16; omega, by show ((List.range M).map fun _ => false).length = (preT id f M).n; simp [hn], (wayN_port _ _ _).2, by show (-1 : Int) ≤ 0 ∧ (0 : Int) ≤ 2; omega, fun i hi => ?_, by show 0 + k ≤ 1000000; omega⟩
  have hi' : i < M := by rw [← hn]; exact hi
  show ((preT id f M).at_ i).Ok
  rw [preT_at id f M i hi']
  exact ⟨⟨(hok i hi').1, (hok i hi').2, v0_ok⟩, fun h => (by cases h), by show (0 : Int) ≤ 0 ∧ (0 : Int) ≤ 15; omega, by show (0 : Int) ≤ 0 ∧ (0 : Int) ≤ 4; omega⟩
theorem newN_n (id : Int) (f : Nat → TP) (M : Nat) : (newN id f M).n = M := preT_n id f M
theorem ticks_n (k : Nat) (T : Tr) : (ticks k T).n = T.n := by
  induction k with
  | zero => rfl
  | succ k ih => exact (shp_tick _).n.trans ih
theorem TOk.tickN {T : Tr} {j : Nat} (k : Nat) (h : TOk T (32 * k + j)) : TOk (ticks k T) j := by
  have key : ∀ m, m ≤ k → TOk (ticks m T) (32 * (k - m) + j) := by
    intro m
    induction m with
    | zero => intro _; exact h
    | succ m ih =>
      intro hm
      have h1 := ih (by omega)
      have hn := h1.n
      exact (h1.mono (k := 2 * (ticks m T).n + (32 * (k - (m + 1)) + j)) (by omega)).tick
  have := key k (Nat.le_refl _)
  rwa [Nat.sub_self, Nat.mul_zero, Nat.zero_add] at this
def gports (g : Nat → Int) (i : Nat) : TP := portP (g i) false
theorem mk_ok (g : Nat → Int) (M : Nat) : ∀ i, i < M → 0 ≤ (gports g i).p.cost ∧ (gports g i).p.cost ≤ 18446744073709551615 := fun i _ => by show (0 : Int) ≤ 10 ∧ (10 : Int) ≤ 18446744073709551615; omega
def gids (i : Nat) : Int := if i = 0 then 1 else 2
def growT : Tr := linkF 0 true (newN 5 (gports gids) 2)
theorem grow_facts : stateF (ticks 29 growT) 0 = 1 ∧ stateF (tickF (ticks 29 growT)) 0 = 2 ∧ stateF (tickF (ticks 29 growT)) 1 = 0 ∧ stateF (tickF (ticks 29 growT)) 9 = 0 ∧ (tickF (ticks 29 growT)).vec.root = 5 ∧ (tickF (ticks 29 growT)).rp = -1 ∧ 14 < (tickF (ticks 29 growT)).outs.length ∧ (flL (tickF (ticks 29 growT)) 2).length = 1 := by decide +kernel
set_option maxRecDepth 8000 in
set_option maxHeartbeats 4000000 in
theorem grows_calls (w : World) : Calls Try.prog 12 #[] w fun e w' => e = .returned (.bool true) ∧ Below w.heap.size w w' := by
  obtain ⟨f1, f2, f3, f4, f5, f6, f7, f8⟩ := grow_facts
  have o0 : TOk (newN 5 (gports gids) 2) 1000 := TOk.new 5 _ 2 1000 (by omega) (mk_ok gids 2) (by omega)
  have o1 : TOk growT 990 := (o0.mono (k := (newN 5 (gports gids) 2).n + 990) (by rw [newN_n]; omega)).link 0 true
  have hgn : growT.n = 2 := (shp_link 0 true _).n.trans (newN_n _ _ _)
  obtain ⟨N0, hN0⟩ : ∃ N0, newN 5 (gports gids) 2 = N0 := ⟨_, rfl⟩
  have hn0 : N0.n = 2 := by rw [← hN0]; exact newN_n _ _ _
  have hlk : linkF 0 true N0 = growT := by rw [← hN0]; rfl
  rw [hN0] at o0
  generalize growT = G at f1 f2 f3 f4 f5 f6 f7 f8 o1 hgn hlk
  have ok1 : ∀ k, k ≤ 29 → TOk (ticks k G) 32 := fun k hk => (o1.mono (by omega)).tickN k
  have okE : TOk (tickF (ticks 29 G)) 0 := by
    have h := ok1 29 (by omega)
    have hn := h.n
    exact (h.mono (k := 2 * (ticks 29 G).n + 0) (by omega)).tick
  obtain ⟨E, hE⟩ : ∃ E, tickF (ticks 29 G) = E := ⟨_, rfl⟩
  have hen : E.n = 2 := by rw [← hE]; exact (shp_tick _).n.trans ((ticks_n 29 G).trans hgn)
  rw [hE] at f2 f3 f4 f5 f6 f7 f8 okE
  have HN0 := Lib.hid hN0
  have O0 : Hid (TOk N0 N0.n) := by rw [hn0]; exact Lib.hid (o0.mono (by omega))
  have HLK := Lib.hid hlk
  have OK1 : Hid (∀ k, k ≤ 29 → TOk (ticks k G) (2 * (ticks k G).n)) := Lib.hid fun k hk => (ok1 k hk).mono (by have := (ok1 k hk).n; omega)
  have HE := Lib.hid hE
  have F1 := Lib.hid f1
  have F2 := Lib.hid f2
  have F3 := Lib.hid f3
  have F4 := Lib.hid f4
  have F5 := Lib.hid f5
  have F6 := Lib.hid f6
  have EN : Hid (E.n ≤ 16) := Lib.hid okE.n
  have EF := Lib.hid okE.fl
  have HEN := Lib.hid hen
  have HN2 := Lib.hid hn0
  have F7 := Lib.hid f7
  have F8 : Hid ((flL E E.n).length = 1) := by rw [hen]; exact Lib.hid f8
  clear f1 f2 f3 f4 f5 f6 f7 f8 o0 o1 hgn hN0 hn0 hlk ok1 okE hE hen
  have hlen2 : 2 ≤ 4611686018427387904 := by omega
  have hm2 : (if 2 ≤ 16 then 2 else 16) = 2 := rfl
  have H22 := Lib.hid hlen2
  have HM2 := Lib.hid hm2
  clear hlen2 hm2
  go_enter Try.func12, Try.ntmps12
  have hA := (Below.refl w.heap.size w).alloc (Nat.le_refl _) (.cells #[.int .i64 1, .int .i64 2] 3)
  have hB := Blk.new w #[.int .i64 1, .int .i64 2] 3
  have hcells : Hid (0 < 2 → ∃ b off, some (⟨w.heap.size, 0, none⟩ : Addr) = some ⟨b, off, none⟩ ∧ b < (w.alloc (.cells #[.int .i64 1, .int .i64 2] 3)).heap.size ∧ ∀ j, j < 2 → (w.alloc (.cells #[.int .i64 1, .int .i64 2] 3)).cell? ⟨b, off + j, none⟩ = some (.int .i64 (gids j))) :=
    Lib.hid fun _ => ⟨w.heap.size, 0, rfl, hB.lt, fun j hj => by
      rw [Nat.zero_add, hB.cell]
      have : j = 0 ∨ j = 1 := by omega
      rcases this with rfl | rfl <;> rfl⟩
  clear hB
  go_upto_region 2 with (first
    | (go_at_call 13; (with_reducible refine (mkports_calls gids _ 2 2 (by omega) _ hcells.out).mono ?_); rintro e w1 ⟨v1, rfl, hown1, hb1⟩; obtain ⟨a1, c1, rfl, hc1, hp1⟩ := ports_of_own (f := gports gids) hown1; have HP1 := Lib.hid hp1; clear hp1 hown1 hcells)
    | (go_at_call 14; (with_reducible refine (new_calls 5 (gports gids) a1 2 c1 H22.out hc1 2 HM2.out (mk_ok gids 2) _ HP1.out N0 HN0.out).mono ?_); intro e w2 hnew; obtain ⟨tb, rfl, hT2, hb2⟩ := hnew.at_; clear hnew HP1))
  have hbl2 := hA.trans ((hb1.mono hA.size).trans (hb2.mono (Nat.le_trans hA.size hb1.size)))
  have hT := hT2.more (Z' := fun k => k < w.heap.size) fun k hk => .inl (Nat.lt_of_lt_of_le hk (Nat.le_trans hA.size hb1.size))
  clear hT2 hA hb1 hb2 hc1
  have HT := Lib.hid hT
  have HN16 : Hid (N0.n ≤ 16) := by rw [HN2.out]; exact Lib.hid (by omega)
  clear hT
  go_upto_region 4 with (go_at_call 28; (with_reducible refine (ports_at HT.out HN16.out).mono ?_); rintro e w3 ⟨v3, rfl, hown3, hb3⟩; rw [HN2.out] at hown3; obtain ⟨a3, c3, rfl⟩ := own_slice hown3)
  have HT3 := Lib.hid (HT.out.below hb3)
  have hbl3 := hbl2.trans (hb3.mono hbl2.size)
  clear hown3 hbl2 hb3 HT
  go_upto_region 5 with (go_at_call 15; (with_reducible refine (link_at HT3.out 0 true O0.out G HLK.out).mono ?_); rintro e w4 ⟨rfl, hT4, hf4⟩)
  have HT4 := Lib.hid hT4
  have hbl4 := hbl3.trans (hf4.toBelow (fun _ h => h) hbl3.size)
  clear hT4 hbl3 hf4 HT3
  go_wp2
  go_loopg [18] 29 (fun gh s18 wx => ∃ k : Nat, k + gh = 29 ∧ s18 = .int .i64 (k : Int) ∧ TAt wx tb (ticks k G) (fun k => k < w.heap.size) ∧ Below w.heap.size w wx)
  case atStart => exact ⟨0, by omega, rfl, HT4.out, hbl4⟩
  case round =>
    obtain ⟨k, hkg, rfl, hT, hbl⟩ := hrel
    have HT := Lib.hid hT
    clear hT
    cases gk with
    | zero =>
      have hkM : ¬ ((k : Int) < 29) := by omega
      obtain rfl : k = 29 := by omega
      have HOK := Lib.hid (OK1.out 29 (by omega))
      generalize ticks 29 G = X at HT HOK F1 HE
      go_upto_region 10 with (go_at_call 17; (with_reducible refine (state_at HT.out 0 1 F1.out).mono ?_); rintro e w5 ⟨rfl, rfl⟩)
      go_upto_region 11 with (go_at_call 16; (with_reducible refine (tick_at HT.out HOK.out E HE.out).mono ?_); rintro e w5 ⟨rfl, hT5, hf5⟩)
      have HT5 := Lib.hid hT5
      have hbl5 := hbl.trans (hf5.toBelow (fun _ h => h) hbl.size)
      clear hT5 hbl hf5 HT
      go_upto_region 12 with (go_at_call 27; (with_reducible refine (root_at HT5.out).mono ?_); rintro e w6 ⟨rfl, hb6⟩)
      have hr : (E.vec.root == 5) = true := by rw [F5.out]; rfl
      have hp : (E.rp == -1) = true := by rw [F6.out]; rfl
      have h14 : (14 : Int) < (E.outs.length : Int) := by have := F7.out; omega
      have hb7 := hb6.alloc hb6.size (.cells #[.int .u64 E.vec.root, .int .u64 E.vec.cost, .int .u64 E.vec.bridge, .int .i64 E.vec.port] 27)
      have q3 := (Blk.new w6 #[.int .u64 E.vec.root, .int .u64 E.vec.cost, .int .u64 E.vec.bridge, .int .i64 E.vec.port] 27).cell
      change Code.wp _ _ _ _ (w6.alloc (.cells #[.int .u64 E.vec.root, .int .u64 E.vec.cost, .int .u64 E.vec.bridge, .int .i64 E.vec.port] 27))
      generalize w6.alloc (.cells #[.int .u64 E.vec.root, .int .u64 E.vec.cost, .int .u64 E.vec.bridge, .int .i64 E.vec.port] 27) = W7 at hb7 q3 ⊢
      generalize w6.heap.size = b7 at q3 ⊢
      have HT7 := Lib.hid (HT5.out.below hb7)
      have HBL7 := Lib.hid (hbl5.trans (hb7.mono hbl5.size))
      clear hb6 hb7 hbl5 HT5 HT4 hbl4
      go_wp2_with (first
        | (go_at_call 17; (with_reducible refine (state_at HT7.out 0 2 F2.out).mono ?_); rintro e w5 ⟨rfl, rfl⟩)
        | (go_at_call 17; (with_reducible refine (state_at HT7.out 1 0 F3.out).mono ?_); rintro e w5 ⟨rfl, rfl⟩)
        | (go_at_call 17; (with_reducible refine (state_at HT7.out 9 0 F4.out).mono ?_); rintro e w5 ⟨rfl, rfl⟩)
        | (go_at_call 31; (with_reducible refine (flushes_at HT9.out EN2.out EF2.out).mono ?_); rintro e w10 ⟨a10, c10, rfl, hT10, hf10⟩; rw [F82.out]; have HBL10 := Lib.hid (HBL9.out.trans (hf10.toBelow (fun _ h => .inl (.inl h)) HBL9.out.size)); clear hT10 hf10)
        | (go_at_call 18; (with_reducible refine (outs_at HT8.out).mono ?_); rintro e w9 ⟨a9, c9, rfl, hown9, hT9, hf9, _⟩; have hz9 : (outsF E).outs.length = 0 := rfl; have HT9 := Lib.hid hT9; have HBL9 := Lib.hid (HBL8.out.trans (hf9.toBelow (fun _ h => .inl h) HBL8.out.size)); clear hown9 hT9 hf9; rw [hz9]; clear hz9; have EN2 : Hid ((outsF (outsF E)).n ≤ 16) := EN; have EF2 : Hid ((outsF (outsF E)).flush.length = (outsF (outsF E)).n) := EF; have F82 : Hid ((flL (outsF (outsF E)) (outsF (outsF E)).n).length = 1) := F8)
        | (go_at_call 18; (with_reducible refine (outs_at HT7.out).mono ?_); rintro e w8 ⟨a8, c8, rfl, hown8, hT8, hf8, _⟩; have HT8 := Lib.hid hT8; have HBL8 := Lib.hid (HBL7.out.trans (hf8.toBelow (fun _ h => h) HBL7.out.size)); clear hown8 hT8 hf8))
      go_ret
      exact ⟨rfl, HBL10.out⟩
    | succ gh =>
      have hkM : (k : Int) < 29 := by omega
      have HST : Hid (tickF (ticks k G) = ticks (k + 1) G) := Lib.hid rfl
      have HOK := Lib.hid (OK1.out k (by omega))
      obtain ⟨Y, hY⟩ : ∃ Y, ticks (k + 1) G = Y := ⟨_, rfl⟩
      have HY := Lib.hid hY
      rw [hY] at HST
      clear hY
      generalize ticks k G = X at HT HST HOK
      go_wp2_with (go_at_call 16; (with_reducible refine (tick_at HT.out HOK.out Y HST.out).mono ?_); rintro e w5 ⟨rfl, hT5, hf5⟩)
      go_roundg gh
      case measure => omega
      case rel => exact ⟨k + 1, by omega, by go_num, by rw [HY.out]; exact hT5, hbl.trans (hf5.toBelow (fun _ h => h) hbl.size)⟩
end Go.Proofs.Ytjnbjcieepooaac
