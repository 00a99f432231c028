/- Receive as the laws call it; TreeForgets: walked. -/
import Derived.Test.YtjnbjcieepooaacTWR
import Derived.Test.YtjnbjcieepooaacTLG
namespace Go.Proofs.Ytjnbjcieepooaac
open Go.RowKit
set_option linter.unusedVariables false
set_option linter.unusedSimpArgs false

theorem receive_at {w : World} {tb : Nat} {T : Tr} {Z : Nat → Prop} (hT : TAt w tb T Z) (x : Int) (m : Msg) (hm : m.v.ok) (hok : TOk T (2 * T.n + 2)) (U : Tr) (hU : receiveF x m T = U) : Calls Try.prog 30 #[.pointer (some ⟨tb, 0, none⟩), .int .i64 x, .agg m.cells] w (AtPost w tb U Z) :=
  at_post (args := fun _ => #[]) hT (by rw [← hU]; exact (shp_receive x m T).n) fun B e h => by subst e; exact receive_calls T B x m hok hm w h U hU
/-- A block more that no method touches. -/
theorem TAt.keep {w w' : World} {tb : Nat} {T : Tr} {Z : Nat → Prop} (h : TAt w tb T Z) (hb : Below w.heap.size w w') {b : Nat} (h1 : w.heap.size ≤ b) (h2 : b < w'.heap.size) : TAt w' tb T (fun k => Z k ∨ k = b) := by
  obtain ⟨B, e, hT, ho, hz⟩ := h
  refine ⟨B, e, hT.below hb, fun k hk => ?_, fun k hk => ?_⟩
  · rintro (g | g)
    · exact ho k hk g
    · have := hT.own_lt hk; omega
  · rcases hk with g | g
    · exact Nat.lt_of_lt_of_le (hz k g) hb.size
    · omega
def fmsg (r : Int) : Msg := ⟨1, ⟨r, 0, r, 9⟩, false, false, false, false, false, false, 3, 0, 5120, 0, 0⟩
def forG : Tr := linkF 0 true (newN 100 (gports fun _ => 1) 1)
def forT (r : Int) : Tr := receiveF 0 (fmsg r) forG
def forB (r : Int) (s : Nat) : Bool := if s < 6 then decide ((ticks s (forT r)).vec.root = r) && decide ((ticks s (forT r)).rp = 0) else decide ((ticks s (forT r)).vec.root = 100) && decide ((ticks s (forT r)).rp = -1)
theorem for_all : ∀ r : Nat, r < 100 → ∀ s, s < 21 → forB (r : Int) s = true := by decide +kernel
theorem fmsg_ok (r : Int) (h0 : 0 ≤ r) (h1 : r < 100) : (fmsg r).v.ok := ⟨h0, by show r ≤ 18446744073709551615; omega, by show (0 : Int) ≤ 0; omega, by show (0 : Int) ≤ 18446744073709551615; omega, h0, by show r ≤ 18446744073709551615; omega, by show (-9223372036854775808 : Int) ≤ 9; omega, by show (9 : Int) ≤ 9223372036854775807; omega⟩
theorem forG_ok : TOk forG 750 := by
  have o0 : TOk (newN 100 (gports fun _ => 1) 1) 800 := TOk.new 100 (gports fun _ => 1) 1 800 (by omega) (mk_ok (fun _ => 1) 1) (by omega)
  have hn : (newN 100 (gports fun _ => 1) 1).n = 1 := newN_n _ _ _
  generalize hT : newN 100 (gports fun _ => 1) 1 = T at o0 hn
  have o1 : TOk T (T.n + 750) := o0.mono (by omega)
  unfold forG
  rw [hT]
  exact o1.link 0 true
theorem forT_ok (r : Int) (h0 : 0 ≤ r) (h1 : r < 100) (k : Nat) (hk : k ≤ 20) : TOk (ticks k (forT r)) (2 * (ticks k (forT r)).n) := by
  have o1 : TOk (forT r) 700 := by
    unfold forT
    have hg := forG_ok
    generalize forG = T at hg
    have hn := hg.n
    have o0 : TOk T (2 * T.n + 2 + 700) := hg.mono (by omega)
    exact o0.receive 0 (fmsg r) (fmsg_ok r h0 h1)
  have o2 : TOk (ticks k (forT r)) 32 := (o1.mono (by omega)).tickN k
  exact o2.mono (by have := o2.n; omega)
set_option maxRecDepth 8000 in
set_option maxHeartbeats 4000000 in
theorem treeForgets_any (w : World) (root secs : Int) (hroot : 0 ≤ root) : Calls Try.prog 8 #[.int .u64 root, .int .i64 secs] w fun r w' => r = .returned (.bool true) ∧ Below w.heap.size w w' := by
  by_cases h1 : 100 ≤ root
  · go_enter Try.func8, Try.ntmps8
    go_wp2_with (go_at_call 12; (with_reducible refine (grows_calls _).mono ?_); rintro r w1 ⟨rfl, hb1⟩)
    go_ret
    exact ⟨rfl, hb1⟩
  by_cases h2 : secs < 0
  · go_enter Try.func8, Try.ntmps8
    go_wp2_with (go_at_call 12; (with_reducible refine (grows_calls _).mono ?_); rintro r w1 ⟨rfl, hb1⟩)
    go_ret
    exact ⟨rfl, hb1⟩
  by_cases h3 : 20 < secs
  · go_enter Try.func8, Try.ntmps8
    go_wp2_with (go_at_call 12; (with_reducible refine (grows_calls _).mono ?_); rintro r w1 ⟨rfl, hb1⟩)
    go_ret
    exact ⟨rfl, hb1⟩
  obtain ⟨R, rfl⟩ : ∃ R : Nat, root = (R : Int) := ⟨root.toNat, by omega⟩
  obtain ⟨S, rfl⟩ : ∃ S : Nat, secs = (S : Int) := ⟨secs.toNat, by omega⟩
  have hR : R < 100 := by omega
  have hS : S ≤ 20 := by omega
  have HALL : Hid (∀ s, s < 21 → forB (R : Int) s = true) := Lib.hid (for_all R hR)
  have HOK : Hid (∀ k, k ≤ 20 → TOk (ticks k (forT R)) (2 * (ticks k (forT R)).n)) := Lib.hid fun k hk => forT_ok R (by omega) (by omega) k hk
  have HV := Lib.hid (fmsg_ok (R : Int) (by omega) (by omega))
  obtain ⟨N0, hN0⟩ : ∃ N0, newN 100 (gports fun _ => 1) 1 = N0 := ⟨_, rfl⟩
  have HN0 := Lib.hid hN0
  have O0 : Hid (TOk N0 N0.n) := by
    rw [← hN0, newN_n]
    exact Lib.hid (TOk.new 100 (gports fun _ => 1) 1 1 (by omega) (mk_ok (fun _ => 1) 1) (by omega))
  have HG : Hid (linkF 0 true N0 = forG) := by rw [← hN0]; exact Lib.hid rfl
  have OG : Hid (TOk forG (2 * forG.n + 2)) := Lib.hid (forG_ok.mono (by have := forG_ok.n; omega))
  have HF : Hid (receiveF 0 (fmsg R) forG = forT R) := Lib.hid rfl
  obtain ⟨F, hF⟩ : ∃ F, forT R = F := ⟨_, rfl⟩
  have HB : Hid (∀ s, s < 21 → (if s < 6 then (ticks s F).vec.root = (R : Int) ∧ (ticks s F).rp = 0 else (ticks s F).vec.root = 100 ∧ (ticks s F).rp = -1)) := Lib.hid fun s hs => by
    have h := HALL.out s hs
    unfold forB at h
    rw [hF] at h
    split
    · rename_i g
      rw [if_pos g, Bool.and_eq_true, decide_eq_true_eq, decide_eq_true_eq] at h
      exact h
    · rename_i g
      rw [if_neg g, Bool.and_eq_true, decide_eq_true_eq, decide_eq_true_eq] at h
      exact h
  rw [hF] at HOK HF
  generalize forG = G at HG OG HF
  have HC := Lib.hid (mk_ok (fun _ => 1) 1)
  have H1a : Hid (1 ≤ 4611686018427387904) := Lib.hid (by omega)
  have H1b : Hid ((if 1 ≤ 16 then 1 else 16) = 1) := Lib.hid rfl
  have hrecv : Hid (∀ (w' : World) (tb : Nat) (Z : Nat → Prop), TAt w' tb G Z → Calls Try.prog 30 #[.pointer (some ⟨tb, 0, none⟩), .int .i64 0, .agg #[.int .i64 1, .int .u64 (R : Int), .int .u64 0, .int .u64 (R : Int), .int .i64 9, .bool false, .bool false, .bool false, .bool false, .bool false, .bool false, .int .i64 3, .int .i64 0, .int .i64 5120, .int .i64 0, .int .i64 0]] w' (AtPost w' tb F Z)) :=
    Lib.hid fun w' tb Z h => receive_at h 0 (fmsg R) HV.out OG.out F HF.out
  clear hN0 hF HALL
  go_enter Try.func8, Try.ntmps8
  go_upto_region 5 with (go_at_call 12; (with_reducible refine (grows_calls _).mono ?_); rintro r w1 ⟨rfl, hb1⟩)
  have hA := (Below.refl w1.heap.size w1).alloc (Nat.le_refl _) (.cells #[.int .i64 1] 3)
  have hB := Blk.new w1 #[.int .i64 1] 3
  have hcells : Hid (0 < 1 → ∃ b off, some (⟨w1.heap.size, 0, none⟩ : Addr) = some ⟨b, off, none⟩ ∧ b < (w1.alloc (.cells #[.int .i64 1] 3)).heap.size ∧ ∀ j, j < 1 → (w1.alloc (.cells #[.int .i64 1] 3)).cell? ⟨b, off + j, none⟩ = some (.int .i64 ((fun _ => 1 : Nat → Int) j))) :=
    Lib.hid fun _ => ⟨w1.heap.size, 0, rfl, hB.lt, fun j hj => by
      obtain rfl : j = 0 := by omega
      rw [Nat.zero_add, hB.cell]; rfl⟩
  clear hB
  go_upto_region 6 with (first
    | (go_at_call 13; (with_reducible refine (mkports_calls (fun _ => 1) _ 1 1 (by omega) _ hcells.out).mono ?_); rintro e w2 ⟨v1, rfl, hown1, hb2⟩; obtain ⟨a1, c1, rfl, hc1, hp1⟩ := ports_of_own (f := gports fun _ => 1) hown1; have HP1 := Lib.hid hp1; clear hp1 hown1 hcells)
    | (go_at_call 14; (with_reducible refine (new_calls 100 (gports fun _ => 1) a1 1 c1 H1a.out hc1 1 H1b.out HC.out _ HP1.out N0 HN0.out).mono ?_); intro e w3 hnew; obtain ⟨tb, rfl, hT2, hb3⟩ := hnew.at_; clear hnew HP1))
  have hbl2 := hb1.trans ((hA.trans ((hb2.mono hA.size).trans (hb3.mono (Nat.le_trans hA.size hb2.size)))).mono hb1.size)
  have hT := hT2.more (Z' := fun j => j < w.heap.size) fun j hj => .inl (Nat.lt_of_lt_of_le hj (Nat.le_trans hb1.size (Nat.le_trans hA.size hb2.size)))
  have HT := Lib.hid hT
  clear hT2 hA hb1 hb2 hb3 hc1 hT
  go_upto_region 7 with (go_at_call 15; (with_reducible refine (link_at HT.out 0 true O0.out G HG.out).mono ?_); rintro e w4 ⟨rfl, hT4, hf4⟩)
  have HT4 := Lib.hid hT4
  have hbl4 := hbl2.trans (hf4.toBelow (fun _ h => h) hbl2.size)
  clear hT4 hbl2 hf4 HT
  go_upto_region 8 with (go_at_call 30; (with_reducible refine (hrecv.out _ _ _ HT4.out).mono ?_); rintro e w5 ⟨rfl, hT5, hf5⟩)
  have HT5 := Lib.hid hT5
  have hbl5 := hbl4.trans (hf5.toBelow (fun _ h => h) hbl4.size)
  clear hT5 hbl4 hf5 HT4
  go_upto_region 9 with (go_at_call 27; (with_reducible refine (root_at HT5.out).mono ?_); rintro e w6 ⟨rfl, hb6⟩)
  have h00 := HB.out 0 (by omega)
  rw [if_pos (by omega)] at h00
  have f1 : (F.vec.root != (R : Int)) = false := by have := h00.1; simp; exact this
  have f2 : (F.rp != 0) = false := by have := h00.2; simp; exact this
  have hb7 := hb6.alloc hb6.size (.cells #[.int .u64 F.vec.root, .int .u64 F.vec.cost, .int .u64 F.vec.bridge, .int .i64 F.vec.port] 27)
  have hB7 := Blk.new w6 #[.int .u64 F.vec.root, .int .u64 F.vec.cost, .int .u64 F.vec.bridge, .int .i64 F.vec.port] 27
  have hT7 := HT5.out.keep hb7 (b := w6.heap.size) hb6.size hB7.lt
  have hg7 : w.heap.size ≤ w6.heap.size := Nat.le_trans hbl5.size hb6.size
  have hbl7 := hbl5.trans (hb7.mono hbl5.size)
  change Code.wp _ _ _ _ (w6.alloc (.cells #[.int .u64 F.vec.root, .int .u64 F.vec.cost, .int .u64 F.vec.bridge, .int .i64 F.vec.port] 27))
  generalize w6.alloc (.cells #[.int .u64 F.vec.root, .int .u64 F.vec.cost, .int .u64 F.vec.bridge, .int .i64 F.vec.port] 27) = W7 at hb7 hB7 hT7 hbl7 ⊢
  generalize w6.heap.size = b7 at hB7 hT7 hg7 ⊢
  have q7 := hB7.cell
  have HB7 := Lib.hid hB7
  have HT7 := Lib.hid hT7
  have HG7 := Lib.hid hg7
  clear hb6 hb7 hB7 hT7 hg7 hbl5 HT5 h00
  go_wp2
  clear q7 f1 f2
  go_loopg [45] S (fun gh s45 wx => ∃ k : Nat, k + gh = S ∧ s45 = .int .i64 (k : Int) ∧ TAt wx tb (ticks k F) (fun j => j < w.heap.size ∨ j = b7) ∧ Blk wx b7 #[.int .u64 F.vec.root, .int .u64 F.vec.cost, .int .u64 F.vec.bridge, .int .i64 F.vec.port] 27 ∧ Below w.heap.size w wx)
  case atStart => exact ⟨0, by omega, rfl, HT7.out, HB7.out, hbl7⟩
  case round =>
    obtain ⟨k, hkg, rfl, hT, hBk, hbl⟩ := hrel
    have HT := Lib.hid hT
    clear hT
    cases gk with
    | succ gh =>
      have hkM : (k : Int) < (S : Int) := by omega
      have HST : Hid (tickF (ticks k F) = ticks (k + 1) F) := Lib.hid rfl
      have HOK1 := Lib.hid (HOK.out k (by omega))
      obtain ⟨Y, hY⟩ : ∃ Y, ticks (k + 1) F = Y := ⟨_, rfl⟩
      have HY := Lib.hid hY
      rw [hY] at HST
      clear hY
      generalize ticks k F = X at HT HST HOK1
      go_wp2_with (go_at_call 16; (with_reducible refine (tick_at HT.out HOK1.out Y HST.out).mono ?_); rintro e w8 ⟨rfl, hT8, hf8⟩)
      go_roundg gh
      case measure => omega
      case rel => exact ⟨k + 1, by omega, by go_num, by rw [HY.out]; exact hT8, hf8.blk hBk (.inr rfl), hbl.trans (hf8.toBelow (fun _ h => .inl h) hbl.size)⟩
    | zero =>
      have hkM : ¬ ((k : Int) < (S : Int)) := by omega
      obtain rfl : k = S := by omega
      have hend := HB.out k (by omega)
      obtain ⟨E, hE⟩ : ∃ E, ticks k F = E := ⟨_, rfl⟩
      rw [hE] at hend HT
      clear hE
      go_upto_region 15 with (fail)
      by_cases h6 : k < 6
      · rw [if_pos h6] at hend
        have f1 : (E.vec.root == (R : Int)) = true := by have := hend.1; simp; exact this
        have f2 : (E.rp == 0) = true := by have := hend.2; simp; exact this
        have f6 : (k : Int) < 6 := by omega
        clear hend h6
        go_upto_region 16 with (go_at_call 27; (with_reducible refine (root_at HT.out).mono ?_); rintro e w9 ⟨rfl, hb9⟩; have hB9 := hBk.below hb9 hBk.lt; have q9 := hB9.cell; have fr9 := hB9.free)
        have hbl9 := hbl.trans (hb9.mono hbl.size)
        have hblE := (((hbl9.setCell (p := ⟨b7, 0, none⟩) HG7.out (.int .u64 E.vec.root)).setCell (p := ⟨b7, 1, none⟩) HG7.out (.int .u64 E.vec.cost)).setCell (p := ⟨b7, 2, none⟩) HG7.out (.int .u64 E.vec.bridge)).setCell (p := ⟨b7, 3, none⟩) HG7.out (.int .i64 E.vec.port)
        have HBE := Lib.hid hblE
        clear hblE hbl9 hb9 hB9
        go_wp2
        go_ret
        exact ⟨rfl, HBE.out⟩
      · rw [if_neg h6] at hend
        have f1 : (E.vec.root == 100) = true := by have := hend.1; simp; exact this
        have f2 : (E.rp == -1) = true := by have := hend.2; simp; exact this
        have f6 : ¬ (k : Int) < 6 := by omega
        clear hend h6
        go_upto_region 16 with (go_at_call 27; (with_reducible refine (root_at HT.out).mono ?_); rintro e w9 ⟨rfl, hb9⟩; have hB9 := hBk.below hb9 hBk.lt; have q9 := hB9.cell; have fr9 := hB9.free)
        have hbl9 := hbl.trans (hb9.mono hbl.size)
        have hblE := (((hbl9.setCell (p := ⟨b7, 0, none⟩) HG7.out (.int .u64 E.vec.root)).setCell (p := ⟨b7, 1, none⟩) HG7.out (.int .u64 E.vec.cost)).setCell (p := ⟨b7, 2, none⟩) HG7.out (.int .u64 E.vec.bridge)).setCell (p := ⟨b7, 3, none⟩) HG7.out (.int .i64 E.vec.port)
        have HBE := Lib.hid hblE
        clear hblE hbl9 hb9 hB9
        go_wp2
        go_ret
        exact ⟨rfl, HBE.out⟩
end Go.Proofs.Ytjnbjcieepooaac
