/- TreePair: walked. -/
import Derived.Test.YtjnbjcieepooaacTPc
namespace Go.Proofs.Ytjnbjcieepooaac
open Go.RowKit
set_option linter.unusedVariables false
set_option linter.unusedSimpArgs false

theorem head_pair (w : World) (one two wires : Int) (h : one = two ∨ wires < 1 ∨ 6 < wires) : Calls Try.prog 7 #[.int .u64 one, .int .u64 two, .int .i64 wires] w fun r w' => r = .returned (.bool true) ∧ Below w.heap.size w w' := by
  by_cases h1 : one = two
  · have h1b : (one == two) = true := by rw [h1]; simp
    clear h1
    go_enter Try.func7, Try.ntmps7
    go_wp2_with (go_at_call 12; (with_reducible refine (grows_calls _).mono ?_); rintro r w1 ⟨rfl, hb1⟩)
    go_ret
    exact ⟨rfl, hb1⟩
  have h1b : (one == two) = false := by simpa using h1
  by_cases h2 : wires < 1
  · clear h1
    go_enter Try.func7, Try.ntmps7
    go_wp2_with (go_at_call 12; (with_reducible refine (grows_calls _).mono ?_); rintro r w1 ⟨rfl, hb1⟩)
    go_ret
    exact ⟨rfl, hb1⟩
  have h3 : 6 < wires := by omega
  · clear h1
    go_enter Try.func7, Try.ntmps7
    go_wp2_with (go_at_call 12; (with_reducible refine (grows_calls _).mono ?_); rintro r w1 ⟨rfl, hb1⟩)
    go_ret
    exact ⟨rfl, hb1⟩
theorem cell_be {w w' : World} {b o : Nat} {v : Value} (h : w.cell? ⟨b, o, none⟩ = some v) (hb : Below w.heap.size w w') : w'.cell? ⟨b, o, none⟩ = some v := by
  rw [hb.cell (p := ⟨b, o, none⟩) (World.block_lt_of_cell? w ⟨b, o, none⟩ h)]
  exact h
theorem info63 : (Try.prog.info? 63).map (fun i => (i.zero, i.size, i.bytes)) = some (some (.agg #[.int .i64 0, .int .i64 0]), 2, 16) := by kernel_rfl
def linkL (k : Nat) : List Value := (List.range k).flatMap fun i => (linkC i).toList
theorem linkL_succ (k : Nat) : linkL (k + 1) = linkL k ++ [.int .i64 (k : Int), .int .i64 (k : Int)] := by unfold linkL; rw [List.range_succ, List.flatMap_append]; simp [linkC]
def lk (k : Nat) (T : Tr) : Tr := upto (fun i T => linkF (i : Int) true T) k T
theorem lk_succ (k : Nat) (T : Tr) : lk (k + 1) T = linkF (k : Int) true (lk k T) := rfl
theorem lk_ok (id : Int) (n k : Nat) (hn : n ≤ 6) (hk : k ≤ n) : TOk (lk k (newN id (gports hids) n)) (lk k (newN id (gports hids) n)).n := by
  have h : TOk (lk k (newN id (gports hids) n)) 16 := links_ok k (TOk.new id _ n (16 * k + 16) (by omega) (mk_ok hids n) (by omega))
  exact h.mono h.n
set_option maxRecDepth 8000 in
set_option maxHeartbeats 16000000 in
theorem treePair_any (w : World) (one two wires : Int) (hone : 0 ≤ one ∧ one ≤ 18446744073709551615) (htwo : 0 ≤ two ∧ two ≤ 18446744073709551615) : Calls Try.prog 7 #[.int .u64 one, .int .u64 two, .int .i64 wires] w fun r w' => r = .returned (.bool true) ∧ Below w.heap.size w w' := by
  by_cases hout : one = two ∨ wires < 1 ∨ 6 < wires
  · exact head_pair w one two wires hout
  have h1 : one ≠ two := fun h => hout (.inl h)
  have h2 : ¬ wires < 1 := fun h => hout (.inr (.inl h))
  have h3 : ¬ 6 < wires := fun h => hout (.inr (.inr h))
  have h1b : (one == two) = false := by simpa using h1
  clear hout
  obtain ⟨n, rfl⟩ : ∃ n : Nat, wires = (n : Int) := ⟨wires.toNat, by omega⟩
  have hn1 : 1 ≤ n := by omega
  have hn6 : n ≤ 6 := by omega
  obtain ⟨hlaw, hend⟩ := pair_law one two hone htwo h1 n hn1 hn6
  obtain ⟨A0, hA0⟩ : ∃ A0, newN one (gports hids) n = A0 := ⟨_, rfl⟩
  obtain ⟨B0, hB0⟩ : ∃ B0, newN two (gports hids) n = B0 := ⟨_, rfl⟩
  have OKA : Hid (∀ k, k ≤ n → TOk (lk k A0) (lk k A0).n) := Lib.hid fun k hk => by rw [← hA0]; exact lk_ok one n k hn6 hk
  have OKB : Hid (∀ k, k ≤ n → TOk (lk k B0) (lk k B0).n) := Lib.hid fun k hk => by rw [← hB0]; exact lk_ok two n k hn6 hk
  have HX0 : Hid (pairX0 one two n = (lk n A0, lk n B0)) := by rw [← hA0, ← hB0]; exact Lib.hid rfl
  have HX1 : Hid (pairN n 4 (pairX0 one two n) = pairX1 one two n) := Lib.hid rfl
  have HX2 : Hid (pairX2 one two n = (tickF (pairX1 one two n).1, tickF (pairX1 one two n).2)) := Lib.hid rfl
  have HX3 : Hid (pairN n 4 (pairX2 one two n) = pairX3 one two n) := Lib.hid rfl
  have G1 : Hid (Good (pairX1 one two n).1 ∧ Good (pairX1 one two n).2) := Lib.hid (hlaw.g0 4 (by omega))
  have HG0 : Hid (∀ k, k < 4 + 1 → Good (pairN n k (pairX0 one two n)).1 ∧ Good (pairN n k (pairX0 one two n)).2) := Lib.hid hlaw.g0
  have HG2 : Hid (∀ k, k < 4 + 1 → Good (pairN n k (pairX2 one two n)).1 ∧ Good (pairN n k (pairX2 one two n)).2) := Lib.hid hlaw.g2
  have HN1 : Hid ((pairN n 4 (pairX0 one two n)).1.outs = [] ∧ (pairN n 4 (pairX0 one two n)).2.outs = []) := Lib.hid hlaw.n1
  have HN3 : Hid ((pairN n 4 (pairX2 one two n)).1.outs = [] ∧ (pairN n 4 (pairX2 one two n)).2.outs = []) := Lib.hid hlaw.n3
  have HEND := Lib.hid hend
  generalize pairX3 one two n = X3 at HX3 HEND
  generalize pairX2 one two n = X2 at HX2 HX3 HG2 HN3
  generalize pairX1 one two n = X1 at HX1 HX2 G1
  generalize pairX0 one two n = X0 at HX0 HX1 HG0 HN1
  have HA0 := Lib.hid hA0
  have HB0 := Lib.hid hB0
  have HC := Lib.hid (mk_ok hids n)
  have H1a : Hid (n ≤ 4611686018427387904) := Lib.hid (by omega)
  have H1b' : Hid ((if n ≤ 16 then n else 16) = n) := Lib.hid (if_pos (by omega))
  have H1c : Hid (n ≤ 1000) := Lib.hid (by omega)
  have H1 := Lib.hid h1
  clear hlaw hend hA0 hB0 h1
  go_enter Try.func7, Try.ntmps7
  go_upto_region 5 with (go_at_call 12; (with_reducible refine (grows_calls _).mono ?_); rintro r w1 ⟨rfl, hb1⟩)
  go_wp2
  have HB1 := Lib.hid hb1
  clear hb1
  go_loopg [7, 8, 9, 32] n (fun gh s7 s8 s9 s32 wx => ∃ k : Nat, k + gh = n ∧ s32 = .int .i64 (k : Int) ∧ wx.ownsRow w1.heap.size 3 1 s7 k (intL k) ∧ wx.ownsRow w1.heap.size 63 2 s8 k (linkL k) ∧ Below w1.heap.size w1 wx)
  case atStart => exact ⟨0, by omega, rfl, World.ownsRow_nil _ _ _ _, World.ownsRow_nil _ _ _ _, Below.refl _ _⟩
  case round =>
    obtain ⟨k, hkg, rfl, hown, hown2, hbel⟩ := hrel
    cases gk with
    | succ gh =>
      have hkM : (k : Int) < (n : Int) := by omega
      have s1 : IntKind.i64.wrap ((k : Int) + 1) = (k : Int) + 1 := IntWalk.i64_in _ (by omega)
      have ha := (Below.refl wr.heap.size wr).alloc (Nat.le_refl _) (.cells [Value.int .i64 ((k : Int) + 1)].toArray 3)
      have h2 := own_below hown ha
      have h2' := own_below hown2 ha
      have b2 := hbel.trans (ha.mono hbel.size)
      have hsz := b2.size
      clear hown hown2 hbel
      go_upto_region 11 with (refine wpList_append_one rfl _ _ 37 rfl w1.heap.size 3 _ 1 8 Try.underlying37 info3 rfl (by decide) _ k _ rfl h2 wr.heap.size [.int .i64 ((k : Int) + 1)] 3 rfl (Blk.new wr _ _) rfl (by simp [Value.oneCell']) (by unfold maxLen; omega) (by omega) hsz ?_; intro v3 w8 hown8 hfr hin)
      have hb8 : Below w1.heap.size w1 w8 := Below.fr b2 hfr b2.size fun i _ hi => by have := (own_ge h2 hi).1; omega
      have hl8 := own_fr h2' hfr fun j hj hi => own_ne_own h2' h2 (by decide) hj hi
      rw [← intL_succ] at hown8
      clear h2 h2' b2 hsz hfr ha hin
      have ha := (Below.refl w8.heap.size w8).alloc (Nat.le_refl _) (.cells [Value.int .i64 (k : Int), .int .i64 (k : Int)].toArray 63)
      have h3 := own_below hown8 ha
      have h3' := own_below hl8 ha
      have b3 := hb8.trans (ha.mono hb8.size)
      have hsz := b3.size
      clear hown8 hl8 hb8
      go_wp2_with (refine wpList_append_one rfl _ _ 62 rfl w1.heap.size 63 _ 2 16 Try.underlying62 info63 rfl (by decide) _ k _ rfl h3' w8.heap.size [.int .i64 (k : Int), .int .i64 (k : Int)] 63 rfl (Blk.new w8 _ _) rfl (by simp [Value.oneCell']) (by unfold maxLen; omega) (by omega) hsz ?_; intro v4 w9 hown9 hfr hin)
      have hb9 : Below w1.heap.size w1 w9 := Below.fr b3 hfr b3.size fun i _ hi => by have := (own_ge h3' hi).1; omega
      have hi9 := own_fr h3 hfr fun j hj hi => own_ne_own h3 h3' (by decide) hj hi
      rw [← linkL_succ] at hown9
      go_roundg gh
      case measure => omega
      case rel => exact ⟨k + 1, by omega, by go_num, hi9, hown9, hb9⟩
    | zero =>
      have hkM : ¬ ((k : Int) < (n : Int)) := by omega
      obtain rfl : k = n := by omega
      obtain ⟨g, c, rfl, hg1, hg2, hc, hcell⟩ := own_at hown (by omega)
      obtain ⟨lb, cl, rfl, hlb1, hlb2, _, _⟩ := own_at hown2 (by omega)
      have hL := RowsB.of_own (sz := 2) (f := linkC) (fun i => rfl) hown2
      have hcx : ∀ j, j < k → wr.cell? ⟨g, 0 + j, none⟩ = some (.int .i64 (hids j)) := fun j hj => by
        rw [Nat.zero_add, hcell j (by omega)]
        unfold intL
        simp [hj]
      have hcells : Hid (0 < k → ∃ b off, some (⟨g, 0, none⟩ : Addr) = some ⟨b, off, none⟩ ∧ b < wr.heap.size ∧ ∀ j, j < k → wr.cell? ⟨b, off + j, none⟩ = some (.int .i64 (hids j))) := Lib.hid fun _ => ⟨g, 0, rfl, hg2, hcx⟩
      have HCX : Hid (∀ w', Below wr.heap.size wr w' → (0 < k → ∃ b off, some (⟨g, 0, none⟩ : Addr) = some ⟨b, off, none⟩ ∧ b < w'.heap.size ∧ ∀ j, j < k → w'.cell? ⟨b, off + j, none⟩ = some (.int .i64 (hids j)))) := Lib.hid fun w' hb _ => ⟨g, 0, rfl, Nat.lt_of_lt_of_le hg2 hb.size, fun j hj => by rw [hb.cell (p := ⟨g, 0 + j, none⟩) hg2]; exact hcx j hj⟩
      have hbl := HB1.out.trans (hbel.mono HB1.out.size)
      have HL := Lib.hid hL
      have HLT := Lib.hid hlb2
      clear hcell hown hown2 hbel hL hcx hlb1 hlb2 hg1 hg2
      go_upto_region 14 with (first
        | (go_at_call 13; (with_reducible refine (mkports_calls hids _ k c H1c.out _ hcells.out).mono ?_); rintro e w2 ⟨v1, rfl, hown1, hb2⟩; obtain ⟨a1, c1, rfl, hc1, hp1⟩ := ports_of_own (f := gports hids) hown1; have HP1 := Lib.hid hp1; clear hp1 hown1 hcells)
        | (go_at_call 14; (with_reducible refine (new_calls one (gports hids) a1 k c1 H1a.out hc1 k H1b'.out HC.out _ HP1.out A0 HA0.out).mono ?_); intro e w3 hnew; obtain ⟨ta, rfl, hTA, hb3⟩ := hnew.at_; clear hnew HP1; have hb23 := hb2.trans (hb3.mono hb2.size); have hcells2 := Lib.hid (HCX.out _ hb23))
        | (go_at_call 13; (with_reducible refine (mkports_calls hids _ k c H1c.out _ hcells2.out).mono ?_); rintro e w4 ⟨v2, rfl, hown2, hb4⟩; obtain ⟨a2, c2, rfl, hc2, hp2⟩ := ports_of_own (f := gports hids) hown2; have HP2 := Lib.hid hp2; clear hp2 hown2 hcells2)
        | (go_at_call 14; (with_reducible refine (new_calls two (gports hids) a2 k c2 H1a.out hc2 k H1b'.out HC.out _ HP2.out B0 HB0.out).mono ?_); intro e w5 hnew; obtain ⟨tb, rfl, hTB, hb5⟩ := hnew.at_; clear hnew HP2))
      have hA' := hTA.more (Z' := fun j => j < w.heap.size ∨ j = lb) fun j hj => .inl (by
        have h1 := hbl.size
        have h2 := hb2.size
        have h3 := HLT.out
        rcases hj with h | h <;> omega)
      have hTwo := two_of hA' (hb4.trans (hb5.mono hb4.size)) (hTB.more (Z' := fun j => j < w3.heap.size) fun j hj => .inl (Nat.lt_of_lt_of_le hj hb4.size))
      have hball := hb23.trans ((hb4.trans (hb5.mono hb4.size)).mono hb23.size)
      have hbl5 := hbl.trans (hball.mono hbl.size)
      have HL5 := Lib.hid (RowsB.below HL.out hball)
      have HTW := Lib.hid hTwo
      clear hA' hTA hTB hTwo hball hb23 hb2 hb3 hb4 hb5 hbl HL hc1 hc2
      go_wp2
      go_loopg [56] k (fun gh s56 wx => ∃ j : Nat, j + gh = k ∧ s56 = .int .i64 (j : Int) ∧ Two wx ta (lk j A0) tb (lk j B0) (fun j => j < w.heap.size ∨ j = lb) ∧ RowsB wx lb 63 2 k linkC ∧ Below w.heap.size w wx)
      case atStart => exact ⟨0, by omega, rfl, HTW.out, HL5.out, hbl5⟩
      case round =>
        obtain ⟨j, hjg, rfl, hTj, hLj, hbj⟩ := hrel
        have HTj := Lib.hid hTj
        have HLj := Lib.hid hLj
        clear hTj hLj
        cases gk with
        | succ gj =>
          have hjM : (j : Int) < (k : Int) := by omega
          have OA := Lib.hid (OKA.out j (by omega))
          have OB := Lib.hid (OKB.out j (by omega))
          have EA : Hid (linkF (j : Int) true (lk j A0) = lk (j + 1) A0) := Lib.hid rfl
          have EB : Hid (linkF (j : Int) true (lk j B0) = lk (j + 1) B0) := Lib.hid rfl
          go_upto_region 18 with (go_at_call 15; (with_reducible refine (two_first HTj.out (fun Z' h => link_at h (j : Int) true OA.out (lk (j + 1) A0) EA.out)).mono ?_); rintro e w6 ⟨rfl, hT6, hf6⟩)
          have HT6 := Lib.hid hT6
          have hL6 := RowsB.fr HLj.out hf6 (fun h => h (.inr rfl))
          have hb6 := hbj.trans (hf6.toBelow (fun _ h => .inl h) hbj.size)
          clear hT6 hf6 hbj
          go_wp2_with (go_at_call 15; (with_reducible refine (two_second HT6.out (fun Z' h => link_at h (j : Int) true OB.out (lk (j + 1) B0) EB.out)).mono ?_); rintro e w7 ⟨rfl, hT7, hf7⟩)
          go_roundg gj
          case measure => omega
          case rel => exact ⟨j + 1, by omega, by go_num, hT7, RowsB.fr hL6 hf7 (fun h => h (.inr rfl)), hb6.trans (hf7.toBelow (fun _ h => .inl h) hb6.size)⟩
        | zero =>
          have hjM : ¬ ((j : Int) < (k : Int)) := by omega
          obtain rfl : j = k := by omega
          have hX0 : Two wr ta X0.1 tb X0.2 (fun j => j < w.heap.size ∨ j = lb) := by rw [HX0.out]; exact HTj.out
          have HT0 := Lib.hid hX0
          clear hX0 HTj
          have HPR : Hid (∀ w', Two w' ta X0.1 tb X0.2 (fun j => j < w.heap.size ∨ j = lb) → RowsB w' lb 63 2 j linkC → Calls Try.prog 29 #[.pointer (some ⟨ta, 0, none⟩), .pointer (some ⟨tb, 0, none⟩), .slice (some ⟨lb, 0, none⟩) j cl] w' (PairPost w' ta X1.1 tb X1.2 (fun j => j < w.heap.size ∨ j = lb))) :=
            Lib.hid fun w' h hl => pair_calls j hn6 4 (by omega) X0 HG0.out HN1.out lb cl ta tb _ w' h hl (.inr rfl) X1 HX1.out
          have HPR2 : Hid (∀ w', Two w' ta X2.1 tb X2.2 (fun j => j < w.heap.size ∨ j = lb) → RowsB w' lb 63 2 j linkC → Calls Try.prog 29 #[.pointer (some ⟨ta, 0, none⟩), .pointer (some ⟨tb, 0, none⟩), .slice (some ⟨lb, 0, none⟩) j cl] w' (PairPost w' ta X3.1 tb X3.2 (fun j => j < w.heap.size ∨ j = lb))) :=
            Lib.hid fun w' h hl => pair_calls j hn6 4 (by omega) X2 HG2.out HN3.out lb cl ta tb _ w' h hl (.inr rfl) X3 HX3.out
          have T1 : Hid (TOk X1.1 (2 * X1.1.n)) := Lib.hid (by have := G1.out.1.ok.n; exact G1.out.1.big.mono (by omega))
          have T2 : Hid (TOk X1.2 (2 * X1.2.n)) := Lib.hid (by have := G1.out.2.ok.n; exact G1.out.2.big.mono (by omega))
          have E1 : Hid (tickF X1.1 = X2.1) := by rw [HX2.out]; exact Lib.hid rfl
          have E2 : Hid (tickF X1.2 = X2.2) := by rw [HX2.out]; exact Lib.hid rfl
          go_upto_region 22 with (go_at_call 29; (with_reducible refine (HPR.out _ HT0.out HLj.out).mono ?_); rintro e w6 ⟨rfl, hT6, hf6⟩)
          have HT6 := Lib.hid hT6
          have HL6 := Lib.hid (RowsB.fr HLj.out hf6 (fun h => h (.inr rfl)))
          have hb6 := hbj.trans (hf6.toBelow (fun _ h => .inl h) hbj.size)
          clear hT6 hf6 hbj HT0 HLj HPR
          go_upto_region 23 with (go_at_call 16; (with_reducible refine (two_first HT6.out (fun Z' h => tick_at h T1.out X2.1 E1.out)).mono ?_); rintro e w7 ⟨rfl, hT7, hf7⟩)
          have HT7 := Lib.hid hT7
          have HL7 := Lib.hid (RowsB.fr HL6.out hf7 (fun h => h (.inr rfl)))
          have hb7 := hb6.trans (hf7.toBelow (fun _ h => .inl h) hb6.size)
          clear hT7 hf7 hb6 HT6 HL6
          go_upto_region 24 with (go_at_call 16; (with_reducible refine (two_second HT7.out (fun Z' h => tick_at h T2.out X2.2 E2.out)).mono ?_); rintro e w8 ⟨rfl, hT8, hf8⟩)
          have HT8 := Lib.hid hT8
          have HL8 := Lib.hid (RowsB.fr HL7.out hf8 (fun h => h (.inr rfl)))
          have hb8 := hb7.trans (hf8.toBelow (fun _ h => .inl h) hb7.size)
          clear hT8 hf8 hb7 HT7 HL7
          go_upto_region 26 with (go_at_call 29; (with_reducible refine (HPR2.out _ HT8.out HL8.out).mono ?_); rintro e w9 ⟨rfl, hT9, hf9⟩)
          have HT9 := Lib.hid hT9
          have hb9 := hb8.trans (hf9.toBelow (fun _ h => .inl h) hb8.size)
          clear hT9 hf9 hb8 HT8 HL8 HPR2
          have hend := HEND.out
          by_cases ht : two < one
          · rw [if_pos ht] at hend
            have HTE := Lib.hid HT9.out.swap
            have HE := Lib.hid hend
            have f1 : (X3.2.rp != -1) = false := by rw [hend.ap]; rfl
            have f2 : (X3.1.rp != 0) = false := by rw [hend.bp]; rfl
            clear hend
            go_upto_region 29 with (go_at_call 27; (with_reducible refine (root_at HTE.out.fst).mono ?_); rintro e w10 ⟨rfl, hb10⟩)
            have h10 := hb10.alloc hb10.size (.cells #[.int .u64 X3.2.vec.root, .int .u64 X3.2.vec.cost, .int .u64 X3.2.vec.bridge, .int .i64 X3.2.vec.port] 27)
            have hq10 := Blk.new w10 #[.int .u64 X3.2.vec.root, .int .u64 X3.2.vec.cost, .int .u64 X3.2.vec.bridge, .int .i64 X3.2.vec.port] 27
            change Code.wp _ _ _ _ (w10.alloc (.cells #[.int .u64 X3.2.vec.root, .int .u64 X3.2.vec.cost, .int .u64 X3.2.vec.bridge, .int .i64 X3.2.vec.port] 27))
            generalize w10.alloc (.cells #[.int .u64 X3.2.vec.root, .int .u64 X3.2.vec.cost, .int .u64 X3.2.vec.bridge, .int .i64 X3.2.vec.port] 27) = W10 at h10 hq10 ⊢
            have HTE2 := Lib.hid (HTE.out.below h10)
            have hbl10 := hb9.trans (h10.mono hb9.size)
            have c13 : W10.cell? ⟨w10.heap.size, 0, none⟩ = some (.int .u64 two) := by rw [hq10.cell, ← HE.out.ar]; rfl
            clear hq10 h10 hb10 HTE hb9
            generalize w10.heap.size = b13 at c13 ⊢
            go_upto_region 30 with (go_at_call 27; (with_reducible refine (root_at HTE2.out.snd).mono ?_); rintro e w11 ⟨rfl, hb11⟩)
            have h11 := hb11.alloc hb11.size (.cells #[.int .u64 X3.1.vec.root, .int .u64 X3.1.vec.cost, .int .u64 X3.1.vec.bridge, .int .i64 X3.1.vec.port] 27)
            have hq11 := Blk.new w11 #[.int .u64 X3.1.vec.root, .int .u64 X3.1.vec.cost, .int .u64 X3.1.vec.bridge, .int .i64 X3.1.vec.port] 27
            change Code.wp _ _ _ _ (w11.alloc (.cells #[.int .u64 X3.1.vec.root, .int .u64 X3.1.vec.cost, .int .u64 X3.1.vec.bridge, .int .i64 X3.1.vec.port] 27))
            generalize w11.alloc (.cells #[.int .u64 X3.1.vec.root, .int .u64 X3.1.vec.cost, .int .u64 X3.1.vec.bridge, .int .i64 X3.1.vec.port] 27) = W11 at h11 hq11 ⊢
            have HTE3 := Lib.hid (HTE2.out.below h11)
            have hbl11 := hbl10.trans (h11.mono hbl10.size)
            have d13 := cell_be c13 h11
            have c15 : W11.cell? ⟨w11.heap.size, 0, none⟩ = some (.int .u64 two) := by rw [hq11.cell, ← HE.out.br]; rfl
            clear hq11 h11 hb11 HTE2 hbl10 c13
            generalize w11.heap.size = b15 at c15 ⊢
            go_wp2
            clear f1 f2 d13 c15
            go_loopg [17, 117] j (fun gh s17 s117 wx => ∃ i : Nat, i + gh = j ∧ s117 = .int .i64 (i : Int) ∧ wx = W11)
            case atStart => exact ⟨0, by omega, rfl, rfl⟩
            case round =>
              obtain ⟨i, hig, rfl, rfl⟩ := hrel
              cases gk with
              | zero =>
                have hiM : ¬ ((i : Int) < (j : Int)) := by omega
                go_wp2
                go_ret
                exact ⟨rfl, hbl11⟩
              | succ gi =>
                have hiM : (i : Int) < (j : Int) := by omega
                have hbs := HE.out.bs i (by omega)
                by_cases hi0 : i = 0
                · subst hi0
                  have SA : Hid (stateF X3.2 0 = 2) := Lib.hid HE.out.a0
                  have SB : Hid (stateF X3.1 0 = 2) := Lib.hid (hbs.2 rfl)
                  clear hbs
                  go_wp2_with (first
                    | (go_at_call 17; (with_reducible refine (state_at HTE3.out.fst 0 2 SA.out).mono ?_); rintro e w12 ⟨rfl, rfl⟩)
                    | (go_at_call 17; (with_reducible refine (state_at HTE3.out.snd 0 2 SB.out).mono ?_); rintro e w12 ⟨rfl, rfl⟩))
                  go_roundg gi
                  case measure => omega
                  case rel => exact ⟨0 + 1, by omega, by go_num, rfl⟩
                · have hib : ((i : Int) == 0) = false := by simp; exact hi0
                  obtain ⟨y, hy⟩ : ∃ y, stateF X3.2 (i : Int) = y := ⟨_, rfl⟩
                  obtain ⟨z, hz⟩ : ∃ z, stateF X3.1 (i : Int) = z := ⟨_, rfl⟩
                  have hz2 : (z == 2) = false := by rw [hz] at hbs; simp; exact fun h => hi0 (hbs.1 h)
                  have SA := Lib.hid hy
                  have SB := Lib.hid hz
                  clear hbs hy hz hi0
                  by_cases hy2 : y = 2
                  · have hy2b : (y != 2) = false := by rw [hy2]; rfl
                    clear hy2
                    go_wp2_with (first
                      | (go_at_call 17; (with_reducible refine (state_at HTE3.out.fst _ y SA.out).mono ?_); rintro e w12 ⟨rfl, rfl⟩)
                      | (go_at_call 17; (with_reducible refine (state_at HTE3.out.snd _ z SB.out).mono ?_); rintro e w12 ⟨rfl, rfl⟩))
                    go_roundg gi
                    case measure => omega
                    case rel => exact ⟨i + 1, by omega, by go_num, rfl⟩
                  · have hy2b : (y != 2) = true := by simpa using hy2
                    clear hy2
                    go_wp2_with (first
                      | (go_at_call 17; (with_reducible refine (state_at HTE3.out.fst _ y SA.out).mono ?_); rintro e w12 ⟨rfl, rfl⟩)
                      | (go_at_call 17; (with_reducible refine (state_at HTE3.out.snd _ z SB.out).mono ?_); rintro e w12 ⟨rfl, rfl⟩))
                    go_roundg gi
                    case measure => omega
                    case rel => exact ⟨i + 1, by omega, by go_num, rfl⟩
          · rw [if_neg ht] at hend
            have ht2 : one < two := by have := H1.out; omega
            have HTE := Lib.hid HT9.out
            have HE := Lib.hid hend
            have f1 : (X3.1.rp != -1) = false := by rw [hend.ap]; rfl
            have f2 : (X3.2.rp != 0) = false := by rw [hend.bp]; rfl
            clear hend
            go_upto_region 29 with (go_at_call 27; (with_reducible refine (root_at HTE.out.fst).mono ?_); rintro e w10 ⟨rfl, hb10⟩)
            have h10 := hb10.alloc hb10.size (.cells #[.int .u64 X3.1.vec.root, .int .u64 X3.1.vec.cost, .int .u64 X3.1.vec.bridge, .int .i64 X3.1.vec.port] 27)
            have hq10 := Blk.new w10 #[.int .u64 X3.1.vec.root, .int .u64 X3.1.vec.cost, .int .u64 X3.1.vec.bridge, .int .i64 X3.1.vec.port] 27
            change Code.wp _ _ _ _ (w10.alloc (.cells #[.int .u64 X3.1.vec.root, .int .u64 X3.1.vec.cost, .int .u64 X3.1.vec.bridge, .int .i64 X3.1.vec.port] 27))
            generalize w10.alloc (.cells #[.int .u64 X3.1.vec.root, .int .u64 X3.1.vec.cost, .int .u64 X3.1.vec.bridge, .int .i64 X3.1.vec.port] 27) = W10 at h10 hq10 ⊢
            have HTE2 := Lib.hid (HTE.out.below h10)
            have hbl10 := hb9.trans (h10.mono hb9.size)
            have c13 : W10.cell? ⟨w10.heap.size, 0, none⟩ = some (.int .u64 one) := by rw [hq10.cell, ← HE.out.ar]; rfl
            clear hq10 h10 hb10 HTE hb9
            generalize w10.heap.size = b13 at c13 ⊢
            go_upto_region 30 with (go_at_call 27; (with_reducible refine (root_at HTE2.out.snd).mono ?_); rintro e w11 ⟨rfl, hb11⟩)
            have h11 := hb11.alloc hb11.size (.cells #[.int .u64 X3.2.vec.root, .int .u64 X3.2.vec.cost, .int .u64 X3.2.vec.bridge, .int .i64 X3.2.vec.port] 27)
            have hq11 := Blk.new w11 #[.int .u64 X3.2.vec.root, .int .u64 X3.2.vec.cost, .int .u64 X3.2.vec.bridge, .int .i64 X3.2.vec.port] 27
            change Code.wp _ _ _ _ (w11.alloc (.cells #[.int .u64 X3.2.vec.root, .int .u64 X3.2.vec.cost, .int .u64 X3.2.vec.bridge, .int .i64 X3.2.vec.port] 27))
            generalize w11.alloc (.cells #[.int .u64 X3.2.vec.root, .int .u64 X3.2.vec.cost, .int .u64 X3.2.vec.bridge, .int .i64 X3.2.vec.port] 27) = W11 at h11 hq11 ⊢
            have HTE3 := Lib.hid (HTE2.out.below h11)
            have hbl11 := hbl10.trans (h11.mono hbl10.size)
            have d13 := cell_be c13 h11
            have c15 : W11.cell? ⟨w11.heap.size, 0, none⟩ = some (.int .u64 one) := by rw [hq11.cell, ← HE.out.br]; rfl
            clear hq11 h11 hb11 HTE2 hbl10 c13
            generalize w11.heap.size = b15 at c15 ⊢
            go_wp2
            clear f1 f2 d13 c15
            go_loopg [17, 117] j (fun gh s17 s117 wx => ∃ i : Nat, i + gh = j ∧ s117 = .int .i64 (i : Int) ∧ wx = W11)
            case atStart => exact ⟨0, by omega, rfl, rfl⟩
            case round =>
              obtain ⟨i, hig, rfl, rfl⟩ := hrel
              cases gk with
              | zero =>
                have hiM : ¬ ((i : Int) < (j : Int)) := by omega
                go_wp2
                go_ret
                exact ⟨rfl, hbl11⟩
              | succ gi =>
                have hiM : (i : Int) < (j : Int) := by omega
                have hbs := HE.out.bs i (by omega)
                by_cases hi0 : i = 0
                · subst hi0
                  have SA : Hid (stateF X3.1 0 = 2) := Lib.hid HE.out.a0
                  have SB : Hid (stateF X3.2 0 = 2) := Lib.hid (hbs.2 rfl)
                  clear hbs
                  go_wp2_with (first
                    | (go_at_call 17; (with_reducible refine (state_at HTE3.out.fst 0 2 SA.out).mono ?_); rintro e w12 ⟨rfl, rfl⟩)
                    | (go_at_call 17; (with_reducible refine (state_at HTE3.out.snd 0 2 SB.out).mono ?_); rintro e w12 ⟨rfl, rfl⟩))
                  go_roundg gi
                  case measure => omega
                  case rel => exact ⟨0 + 1, by omega, by go_num, rfl⟩
                · have hib : ((i : Int) == 0) = false := by simp; exact hi0
                  obtain ⟨y, hy⟩ : ∃ y, stateF X3.1 (i : Int) = y := ⟨_, rfl⟩
                  obtain ⟨z, hz⟩ : ∃ z, stateF X3.2 (i : Int) = z := ⟨_, rfl⟩
                  have hz2 : (z == 2) = false := by rw [hz] at hbs; simp; exact fun h => hi0 (hbs.1 h)
                  have SA := Lib.hid hy
                  have SB := Lib.hid hz
                  clear hbs hy hz hi0
                  by_cases hy2 : y = 2
                  · have hy2b : (y != 2) = false := by rw [hy2]; rfl
                    clear hy2
                    go_wp2_with (first
                      | (go_at_call 17; (with_reducible refine (state_at HTE3.out.fst _ y SA.out).mono ?_); rintro e w12 ⟨rfl, rfl⟩)
                      | (go_at_call 17; (with_reducible refine (state_at HTE3.out.snd _ z SB.out).mono ?_); rintro e w12 ⟨rfl, rfl⟩))
                    go_roundg gi
                    case measure => omega
                    case rel => exact ⟨i + 1, by omega, by go_num, rfl⟩
                  · have hy2b : (y != 2) = true := by simpa using hy2
                    clear hy2
                    go_wp2_with (first
                      | (go_at_call 17; (with_reducible refine (state_at HTE3.out.fst _ y SA.out).mono ?_); rintro e w12 ⟨rfl, rfl⟩)
                      | (go_at_call 17; (with_reducible refine (state_at HTE3.out.snd _ z SB.out).mono ?_); rintro e w12 ⟨rfl, rfl⟩))
                    go_roundg gi
                    case measure => omega
                    case rel => exact ⟨i + 1, by omega, by go_num, rfl⟩
end Go.Proofs.Ytjnbjcieepooaac
