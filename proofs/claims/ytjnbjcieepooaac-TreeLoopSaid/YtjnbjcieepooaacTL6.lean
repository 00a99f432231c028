/- TreeLoop: walked. -/
import Derived.Test.YtjnbjcieepooaacTArg2
import Derived.Test.YtjnbjcieepooaacTP2
namespace Go.Proofs.Ytjnbjcieepooaac
open Go.RowKit
set_option linter.unusedVariables false
set_option linter.unusedSimpArgs false

theorem recv1_n (l : List OutM) (T : Tr) : (recv1 l T).n = T.n := by
  induction l generalizing T with
  | nil => rfl
  | cons x l ih => exact (ih (receiveF (1 - x.port) x.m T)).trans (shp_receive _ _ _).n
theorem rounds1_n (k : Nat) (T : Tr) : (rounds1 k T).n = T.n := by
  induction k with
  | zero => rfl
  | succ k ih => exact (recv1_n _ _).trans ih
theorem loopS_n (T : Tr) (k : Nat) : (loopS T k).n = T.n := by
  induction k with
  | zero => rfl
  | succ k ih => exact (shp_tick _).n.trans ((rounds1_n 20 _).trans ih)
theorem recv1_take (l : List OutM) (T : Tr) {q : Nat} {o : OutM} (h : l[q]? = some o) : recv1 (l.take (q + 1)) T = receiveF (1 - o.port) o.m (recv1 (l.take q) T) := by
  unfold recv1
  rw [List.take_add_one, h, List.foldl_append]
  rfl
theorem recv1_all (T : Tr) : recv1 (T.outs.take T.outs.length) (outsF T) = round1 T := by rw [List.take_length]; rfl
theorem recv1_ok {T : Tr} (g : Good T) (q : Nat) (hq : q ≤ T.outs.length) : TOk (recv1 (T.outs.take q) (outsF T)) (2 * (recv1 (T.outs.take q) (outsF T)).n + 2) := by
  have h : TOk (recv1 (T.outs.take q) (outsF T)) 100 := TOk.recv1s _ (fun x hx => (g.o x (List.mem_of_mem_take hx)).1) (g.ok.outs0.mono (by have := g.len; rw [List.length_take]; omega))
  have hn := h.n
  exact h.mono (by omega)
theorem head_loop (w : World) (id one two : Int) (h : one < 1 ∨ two < 1 ∨ 4000 < one ∨ 4000 < two ∨ one = two) : Calls Try.prog 9 #[.int .u64 id, .int .i64 one, .int .i64 two] w fun r w' => r = .returned (.bool true) ∧ Below w.heap.size w w' := by
  by_cases h1 : one < 1
  · go_enter Try.func9, Try.ntmps9
    go_wp2_with (go_at_call 12; (with_reducible refine (grows_calls _).mono ?_); rintro r w1 ⟨rfl, hb1⟩)
    go_ret
    exact ⟨rfl, hb1⟩
  by_cases h2 : two < 1
  · go_enter Try.func9, Try.ntmps9
    go_wp2_with (go_at_call 12; (with_reducible refine (grows_calls _).mono ?_); rintro r w1 ⟨rfl, hb1⟩)
    go_ret
    exact ⟨rfl, hb1⟩
  by_cases h3 : 4000 < one
  · go_enter Try.func9, Try.ntmps9
    go_wp2_with (go_at_call 12; (with_reducible refine (grows_calls _).mono ?_); rintro r w1 ⟨rfl, hb1⟩)
    go_ret
    exact ⟨rfl, hb1⟩
  by_cases h4 : 4000 < two
  · go_enter Try.func9, Try.ntmps9
    go_wp2_with (go_at_call 12; (with_reducible refine (grows_calls _).mono ?_); rintro r w1 ⟨rfl, hb1⟩)
    go_ret
    exact ⟨rfl, hb1⟩
  · have h6 : one = two := by omega
    have h5 : (one == two) = true := by rw [h6]; simp
    clear h6
    go_enter Try.func9, Try.ntmps9
    go_wp2_with (go_at_call 12; (with_reducible refine (grows_calls _).mono ?_); rintro r w1 ⟨rfl, hb1⟩)
    go_ret
    exact ⟨rfl, hb1⟩
set_option maxRecDepth 8000 in
set_option maxHeartbeats 8000000 in
theorem treeLoop_any (w : World) (id one two : Int) (hid : 0 ≤ id ∧ id ≤ 18446744073709551615) : Calls Try.prog 9 #[.int .u64 id, .int .i64 one, .int .i64 two] w fun r w' => r = .returned (.bool true) ∧ Below w.heap.size w w' := by
  by_cases hout : one < 1 ∨ two < 1 ∨ 4000 < one ∨ 4000 < two ∨ one = two
  · exact head_loop w id one two hout
  have h1 : ¬ one < 1 := fun h => hout (.inl h)
  have h2 : ¬ two < 1 := fun h => hout (.inr (.inl h))
  have h3 : ¬ 4000 < one := fun h => hout (.inr (.inr (.inl h)))
  have h4 : ¬ 4000 < two := fun h => hout (.inr (.inr (.inr (.inl h))))
  have h5 : one ≠ two := fun h => hout (.inr (.inr (.inr (.inr h))))
  have h5b : (one == two) = false := by simpa using h5
  obtain ⟨hgood, hend⟩ := loop_law id one two hid (by omega) (by omega) (by omega) (by omega) h5
  have HGOOD := Lib.hid hgood
  have HEND := Lib.hid hend
  obtain ⟨N0, hN0⟩ : ∃ N0, newN id (gports (lids one two)) 2 = N0 := ⟨_, rfl⟩
  obtain ⟨L1, hL1⟩ : ∃ L1, linkF 0 true N0 = L1 := ⟨_, rfl⟩
  have hG : linkF 1 true L1 = loop0 id one two := by rw [← hL1, ← hN0]; rfl
  have ok0 : TOk N0 100 := by rw [← hN0]; exact TOk.new id _ 2 100 (by omega) (mk_ok _ 2) (by omega)
  have n0 : N0.n = 2 := by rw [← hN0]; exact newN_n _ _ _
  have ok1 : TOk L1 50 := by rw [← hL1]; exact (ok0.mono (by omega)).link _ _
  have n1 : L1.n = 2 := by rw [← hL1]; exact (shp_link _ _ _).n.trans n0
  have HN0 := Lib.hid hN0
  have HL1 := Lib.hid hL1
  have HG := Lib.hid hG
  have OK0 : Hid (TOk N0 N0.n) := Lib.hid (ok0.mono (by omega))
  have OK1 : Hid (TOk L1 L1.n) := Lib.hid (ok1.mono (by omega))
  have HGN : Hid ((loop0 id one two).n = 2) := by rw [← hG]; exact Lib.hid ((shp_link _ _ _).n.trans n1)
  generalize loop0 id one two = G at HGOOD HEND HG HGN
  have HC := Lib.hid (mk_ok (lids one two) 2)
  have H1a : Hid (2 ≤ 4611686018427387904) := Lib.hid (by omega)
  have H1b : Hid ((if 2 ≤ 16 then 2 else 16) = 2) := Lib.hid rfl
  have H5 := Lib.hid h5
  clear hgood hend hN0 hL1 hG ok0 n0 ok1 n1 hout h5
  go_enter Try.func9, Try.ntmps9
  go_upto_region 5 with (go_at_call 12; (with_reducible refine (grows_calls _).mono ?_); rintro r w1 ⟨rfl, hb1⟩)
  have hA := (Below.refl w1.heap.size w1).alloc (Nat.le_refl _) (.cells #[.int .i64 one, .int .i64 two] 3)
  have hB := Blk.new w1 #[.int .i64 one, .int .i64 two] 3
  have hcells : Hid (0 < 2 → ∃ b off, some (⟨w1.heap.size, 0, none⟩ : Addr) = some ⟨b, off, none⟩ ∧ b < (w1.alloc (.cells #[.int .i64 one, .int .i64 two] 3)).heap.size ∧ ∀ j, j < 2 → (w1.alloc (.cells #[.int .i64 one, .int .i64 two] 3)).cell? ⟨b, off + j, none⟩ = some (.int .i64 (lids one two j))) :=
    Lib.hid fun _ => ⟨w1.heap.size, 0, rfl, hB.lt, fun j hj => by
      rw [Nat.zero_add, hB.cell]
      have : j = 0 ∨ j = 1 := by omega
      rcases this with rfl | rfl <;> rfl⟩
  clear hB
  go_upto_region 6 with (first
    | (go_at_call 13; (with_reducible refine (mkports_calls (lids one two) _ 2 2 (by omega) _ hcells.out).mono ?_); rintro e w2 ⟨v1, rfl, hown1, hb2⟩; obtain ⟨a1, c1, rfl, hc1, hp1⟩ := ports_of_own (f := gports (lids one two)) hown1; have HQ1 := Lib.hid hp1; clear hp1 hown1 hcells)
    | (go_at_call 14; (with_reducible refine (new_calls id (gports (lids one two)) a1 2 c1 H1a.out hc1 2 H1b.out HC.out _ HQ1.out N0 HN0.out).mono ?_); intro e w3 hnew; obtain ⟨tb, rfl, hT2, hb3⟩ := hnew.at_; clear hnew HQ1))
  have hbl2 := hb1.trans ((hA.trans ((hb2.mono hA.size).trans (hb3.mono (Nat.le_trans hA.size hb2.size)))).mono hb1.size)
  have hT := hT2.more (Z' := fun j => j < w.heap.size) fun j hj => .inl (Nat.lt_of_lt_of_le hj (Nat.le_trans hb1.size (Nat.le_trans hA.size hb2.size)))
  have HT := Lib.hid hT
  clear hT2 hA hb1 hb2 hb3 hc1 hT
  go_upto_region 7 with (go_at_call 15; (with_reducible refine (link_at HT.out 0 true OK0.out L1 HL1.out).mono ?_); rintro r w4 ⟨rfl, hT4, hf4⟩)
  have HT4 := Lib.hid hT4
  have hbl4 := hbl2.trans (hf4.toBelow (fun _ h => h) hbl2.size)
  clear hT4 hf4 hbl2 HT
  go_upto_region 8 with (go_at_call 15; (with_reducible refine (link_at HT4.out 1 true OK1.out G HG.out).mono ?_); rintro r w5 ⟨rfl, hT5, hf5⟩)
  have HT5 := Lib.hid hT5
  have hbl5 := hbl4.trans (hf5.toBelow (fun _ h => h) hbl4.size)
  clear hT5 hf5 hbl4 HT4
  go_wp2
  go_loopg [44] 35 (fun gh s44 wx => ∃ k : Nat, k + gh = 35 ∧ s44 = .int .i64 (k : Int) ∧ TAt wx tb (loopS G k) (fun j => j < w.heap.size) ∧ Below w.heap.size w wx)
  case atStart => exact ⟨0, by omega, rfl, HT5.out, hbl5⟩
  case round =>
    obtain ⟨k, hkg, rfl, hT, hbl⟩ := hrel
    have HTk := Lib.hid hT
    clear hT
    cases gk with
    | succ gh =>
      have hkM : (k : Int) < 35 := by omega
      have HGk : Hid (∀ j, j < 21 → Good (rounds1 j (loopS G k))) := Lib.hid (HGOOD.out k (by omega))
      have HSk : Hid (tickF (rounds1 20 (loopS G k)) = loopS G (k + 1)) := Lib.hid rfl
      have hk35 : k < 35 := by omega
      go_wp2
      go_loopg [46] 20 (fun gh s46 wx => ∃ j : Nat, j + gh = 20 ∧ s46 = .int .i64 (j : Int) ∧ TAt wx tb (rounds1 j (loopS G k)) (fun j => j < w.heap.size) ∧ Below w.heap.size w wx)
      case atStart => exact ⟨0, by omega, rfl, HTk.out, hbl⟩
      case round =>
        obtain ⟨j, hjg, rfl, hT, hblj⟩ := hrel
        have HTj := Lib.hid hT
        clear hT
        obtain ⟨X, hX⟩ : ∃ X, rounds1 j (loopS G k) = X := ⟨_, rfl⟩
        have hg := HGk.out j (by omega)
        rw [hX] at hg HTj
        have HGX := Lib.hid hg
        have HX := Lib.hid hX
        have hlen := hg.len
        have OKT : Hid (TOk X (2 * X.n)) := Lib.hid (by have := hg.ok.n; exact hg.big.mono (by omega))
        obtain ⟨Y, hY⟩ : ∃ Y, loopS G (k + 1) = Y := ⟨_, rfl⟩
        have HY := Lib.hid hY
        clear hX hg hY
        cases gk with
        | zero =>
          have hjM : ¬ ((j : Int) < 20) := by omega
          have HS : Hid (tickF X = Y) := by
            have : j = 20 := by omega
            subst this
            rw [← HX.out, ← HY.out]; exact HSk
          go_wp2_with (go_at_call 16; (with_reducible refine (tick_at HTj.out OKT.out Y HS.out).mono ?_); rintro e w8 ⟨rfl, hT8, hf8⟩)
          go_roundg gh
          case measure => omega
          case rel => exact ⟨k + 1, by omega, by go_num, by rw [HY.out]; exact hT8, hblj.trans (hf8.toBelow (fun _ h => h) hblj.size)⟩
        | succ gj =>
          have hjM : (j : Int) < 20 := by omega
          by_cases he : X.outs = []
          · have hl0 : X.outs.length = 0 := by rw [he]; rfl
            have HS : Hid (tickF X = Y) := by
              have h := rounds1_nil (j := j) (T := loopS G k) (by rw [HX.out]; exact he) (20 - j)
              rw [show j + (20 - j) = 20 by omega, HX.out] at h
              rw [← h, ← HY.out]; exact HSk
            have HNIL : Hid (outsF X = X) := Lib.hid (outs_nil he)
            have HL0 := Lib.hid hl0
            clear he hl0
            go_wp2_with (first
              | (go_at_call 16; (with_reducible refine (tick_at HT7.out OKT.out Y HS.out).mono ?_); rintro e w8 ⟨rfl, hT8, hf8⟩)
              | (go_at_call 18; (with_reducible refine (outs_at HTj.out).mono ?_); rintro e w7 ⟨a7, c7, rfl, hown7, hT7, hf7, _⟩; rw [HL0.out, HNIL.out] at *; have HT7 := Lib.hid (hT7.more (Z' := fun j => j < w.heap.size) fun j hj => .inl (.inl hj)); have HBL7 := Lib.hid (hblj.trans (hf7.toBelow (fun _ h => h) hblj.size)); clear hT7 hf7 hown7))
            go_roundg gh
            case measure => omega
            case rel => exact ⟨k + 1, by omega, by go_num, by rw [HY.out]; exact hT8, HBL7.out.trans (hf8.toBelow (fun _ h => h) HBL7.out.size)⟩
          · have hl0 : ((X.outs.length : Int) == 0) = false := by
              have : X.outs.length ≠ 0 := fun h => he (List.eq_nil_of_length_eq_zero h)
              simp
              exact he
            have hpos : 0 < X.outs.length := Nat.pos_of_ne_zero fun h => he (List.eq_nil_of_length_eq_zero h)
            have HLB := Lib.hid hl0
            have HPOS := Lib.hid hpos
            clear hpos he
            go_wp2_with (go_at_call 18; (with_reducible refine (outs_at HTj.out).mono ?_); rintro e w7 ⟨a7, c7, rfl, hown7, hT7, hf7, _⟩)
            have HT7 := Lib.hid hT7
            have HOWN7 := Lib.hid hown7
            have hbl7 := hblj.trans (hf7.toBelow (fun _ h => h) hblj.size)
            clear hT7 hown7 hf7 hblj HTj hl0
            go_loopg [55] X.outs.length (fun gh s55 wx => ∃ q : Nat, q + gh = X.outs.length ∧ s55 = .int .i64 (q : Int) ∧ TAt wx tb (recv1 (X.outs.take q) (outsF X)) (fun k => k < w.heap.size ∨ InRow (.slice a7 X.outs.length c7) k) ∧ wx.ownsRow 0 43 17 (.slice a7 X.outs.length c7) X.outs.length (outsL X.outs) ∧ Below w.heap.size w wx)
            case atStart => exact ⟨0, by omega, rfl, HT7.out, HOWN7.out, hbl7⟩
            case round =>
              obtain ⟨q, hqg, rfl, hTq, hownq, hblq⟩ := hrel
              have HTq := Lib.hid hTq
              have HOWNq := Lib.hid hownq
              clear hTq hownq
              cases gk with
              | zero =>
                have hqM : ¬ ((q : Int) < (X.outs.length : Int)) := by omega
                obtain rfl : q = X.outs.length := by omega
                go_wp2
                go_roundg gj
                case measure => omega
                case rel => exact ⟨j + 1, by omega, by go_num, by
                  have h := HTq.out.more (Z' := fun j => j < w.heap.size) fun j hj => .inl (.inl hj)
                  rw [recv1_all X, ← HX.out] at h
                  exact h, hblq⟩
              | succ gq =>
                have hqM : (q : Int) < (X.outs.length : Int) := by omega
                have hqn : q < X.outs.length := by omega
                obtain ⟨g7, c7', hv, _, hlt7, _, _⟩ := own_at HOWNq.out HPOS.out
                simp only [Value.slice.injEq] at hv
                obtain ⟨rfl, _, rfl⟩ := hv
                obtain ⟨o, ho⟩ : ∃ o, X.outs[q]? = some o := ⟨_, List.getElem?_eq_getElem hqn⟩
                have hrq := out_range HOWNq.out rfl ho
                obtain ⟨hov, hop0, hop1⟩ := HGX.out.o o (List.mem_of_getElem? ho)
                have hrq' : wr.rangeAt g7 (q * 17) [.int .i64 o.port, .int .i64 o.m.kind, .int .u64 o.m.v.root, .int .u64 o.m.v.cost, .int .u64 o.m.v.bridge, .int .i64 o.m.v.port, .bool o.m.change, .bool o.m.ack, .bool o.m.proposal, .bool o.m.agreement, .bool o.m.learning, .bool o.m.forwarding, .int .i64 o.m.role, .int .i64 o.m.age, .int .i64 o.m.maxAge, .int .i64 o.m.hello, .int .i64 o.m.delay] := hrq
                have OKq := Lib.hid (recv1_ok HGX.out q (by omega))
                have hst := recv1_take X.outs (outsF X) ho
                obtain ⟨V, hV⟩ : ∃ V, recv1 (X.outs.take (q + 1)) (outsF X) = V := ⟨_, rfl⟩
                have HV := Lib.hid hV
                rw [hV] at hst
                have s1 : IntKind.i64.wrap (1 - o.port) = 1 - o.port := IntWalk.i64_in _ (by omega)
                have HRC : Hid (∀ (w' : World) (Z : Nat → Prop), TAt w' tb (recv1 (X.outs.take q) (outsF X)) Z → Calls Try.prog 30 #[.pointer (some ⟨tb, 0, none⟩), .int .i64 (1 - o.port), .agg #[.int .i64 o.m.kind, .int .u64 o.m.v.root, .int .u64 o.m.v.cost, .int .u64 o.m.v.bridge, .int .i64 o.m.v.port, .bool o.m.change, .bool o.m.ack, .bool o.m.proposal, .bool o.m.agreement, .bool o.m.learning, .bool o.m.forwarding, .int .i64 o.m.role, .int .i64 o.m.age, .int .i64 o.m.maxAge, .int .i64 o.m.hello, .int .i64 o.m.delay]] w' (AtPost w' tb V Z)) := Lib.hid fun w' Z h => receive_at h (1 - o.port) o.m hov OKq.out V hst.symm
                generalize recv1 (X.outs.take q) (outsF X) = R at HTq OKq HRC
                clear hrq ho hov hst hV OKq hlt7
                go_upto_region 17 with (refine wpList_load_mid rfl 43 _ rfl g7 (q * 17) rfl _ _ hrq' Try.underlying43 rfl sz43 ?_)
                have ha := (Below.refl wr.heap.size wr).alloc (Nat.le_refl _) (.cells #[.int .i64 o.port, .int .i64 o.m.kind, .int .u64 o.m.v.root, .int .u64 o.m.v.cost, .int .u64 o.m.v.bridge, .int .i64 o.m.v.port, .bool o.m.change, .bool o.m.ack, .bool o.m.proposal, .bool o.m.agreement, .bool o.m.learning, .bool o.m.forwarding, .int .i64 o.m.role, .int .i64 o.m.age, .int .i64 o.m.maxAge, .int .i64 o.m.hello, .int .i64 o.m.delay] 43)
                have hq := Blk.new wr #[.int .i64 o.port, .int .i64 o.m.kind, .int .u64 o.m.v.root, .int .u64 o.m.v.cost, .int .u64 o.m.v.bridge, .int .i64 o.m.v.port, .bool o.m.change, .bool o.m.ack, .bool o.m.proposal, .bool o.m.agreement, .bool o.m.learning, .bool o.m.forwarding, .int .i64 o.m.role, .int .i64 o.m.age, .int .i64 o.m.maxAge, .int .i64 o.m.hello, .int .i64 o.m.delay] 43
                change Code.wp _ _ _ _ (wr.alloc (.cells #[.int .i64 o.port, .int .i64 o.m.kind, .int .u64 o.m.v.root, .int .u64 o.m.v.cost, .int .u64 o.m.v.bridge, .int .i64 o.m.v.port, .bool o.m.change, .bool o.m.ack, .bool o.m.proposal, .bool o.m.agreement, .bool o.m.learning, .bool o.m.forwarding, .int .i64 o.m.role, .int .i64 o.m.age, .int .i64 o.m.maxAge, .int .i64 o.m.hello, .int .i64 o.m.delay] 43))
                generalize wr.alloc (.cells #[.int .i64 o.port, .int .i64 o.m.kind, .int .u64 o.m.v.root, .int .u64 o.m.v.cost, .int .u64 o.m.v.bridge, .int .i64 o.m.v.port, .bool o.m.change, .bool o.m.ack, .bool o.m.proposal, .bool o.m.agreement, .bool o.m.learning, .bool o.m.forwarding, .int .i64 o.m.role, .int .i64 o.m.age, .int .i64 o.m.maxAge, .int .i64 o.m.hello, .int .i64 o.m.delay] 43) = W at ha hq ⊢
                have HTW := Lib.hid (HTq.out.below ha)
                have HOWNW := Lib.hid (own_below HOWNq.out ha)
                have hbW := hblq.trans (ha.mono hblq.size)
                clear ha hrq'
                generalize wr.heap.size = b10 at hq ⊢
                have q0 : W.cell? ⟨b10, 0, none⟩ = some (.int .i64 o.port) := by rw [hq.cell]; rfl
                have q1 : W.rangeAt b10 1 [.int .i64 o.m.kind, .int .u64 o.m.v.root, .int .u64 o.m.v.cost, .int .u64 o.m.v.bridge, .int .i64 o.m.v.port, .bool o.m.change, .bool o.m.ack, .bool o.m.proposal, .bool o.m.agreement, .bool o.m.learning, .bool o.m.forwarding, .int .i64 o.m.role, .int .i64 o.m.age, .int .i64 o.m.maxAge, .int .i64 o.m.hello, .int .i64 o.m.delay] := fun j v hj => by
                  have := hq.range (1 + j) v (by rw [Nat.add_comm]; exact hj)
                  rw [Nat.zero_add] at this
                  exact this
                clear hq
                go_wp2_with (first
                  | (refine wpList_load_mid rfl 41 _ rfl b10 1 rfl _ _ q1 Try.underlying41 rfl sz41 ?_)
                  | (go_at_call 30; (with_reducible refine (HRC.out _ _ HTW.out).mono ?_); rintro e w9 ⟨rfl, hT9, hf9⟩))
                go_roundg gq
                case measure => omega
                case rel => exact ⟨q + 1, by omega, by go_num, by rw [HV.out]; exact hT9, own_fr HOWNW.out hf9 (fun k hk hn => hn (.inr hk)), hbW.trans (hf9.toBelow (fun _ h => .inl h) hbW.size)⟩
    | zero =>
      have hkM : ¬ ((k : Int) < 35) := by omega
      obtain rfl : k = 35 := by omega
      have hend := HEND.out
      have hEn : (loopS G 35).n = 2 := (loopS_n G 35).trans HGN.out
      obtain ⟨E, hE⟩ : ∃ E, loopS G 35 = E := ⟨_, rfl⟩
      rw [hE] at hend HTk hEn
      have HN2 := Lib.hid hEn
      have N16 : Hid (E.n ≤ 16) := Lib.hid (by omega)
      clear hE hEn
      by_cases ht : two < one
      · rw [if_pos ht] at hend
        have c0 : (E.at_ 1).role = 2 ∧ (E.at_ 1).state = 2 ∧ (E.at_ 0).role = 4 ∧ (E.at_ 0).state = 0 := by
          unfold loopB at hend
          simp only [Bool.and_eq_true, decide_eq_true_eq] at hend
          exact ⟨hend.1.1.1, hend.1.1.2, hend.1.2, hend.2⟩
        have C0 := Lib.hid c0
        clear c0 hend
        go_wp2_with (go_at_call 28; (with_reducible refine (ports_at HTk.out N16.out).mono ?_); rintro e w6 ⟨v6, rfl, hown6, hb6⟩; rw [HN2.out] at hown6; obtain ⟨g6, c6, rfl, hg6, hlt6, hP6⟩ := port_rows hown6 HN2.out (by omega); have hblE := hbl.trans (hb6.mono hbl.size); have d1 : w6.cell? ⟨g6, 25, none⟩ = some (.int .i64 2) := (hP6.c 1 9 (by omega) (by omega)).trans (congrArg (fun x => some (Value.int .i64 x)) C0.out.1); have d2 : w6.cell? ⟨g6, 26, none⟩ = some (.int .i64 2) := (hP6.c 1 10 (by omega) (by omega)).trans (congrArg (fun x => some (Value.int .i64 x)) C0.out.2.1); have d3 : w6.cell? ⟨g6, 9, none⟩ = some (.int .i64 4) := (hP6.c 0 9 (by omega) (by omega)).trans (congrArg (fun x => some (Value.int .i64 x)) C0.out.2.2.1); have d4 : w6.cell? ⟨g6, 10, none⟩ = some (.int .i64 0) := (hP6.c 0 10 (by omega) (by omega)).trans (congrArg (fun x => some (Value.int .i64 x)) C0.out.2.2.2); clear hP6 hown6 hb6)
        go_ret
        exact ⟨rfl, hblE⟩
      · rw [if_neg ht] at hend
        have c0 : (E.at_ 0).role = 2 ∧ (E.at_ 0).state = 2 ∧ (E.at_ 1).role = 4 ∧ (E.at_ 1).state = 0 := by
          unfold loopB at hend
          simp only [Bool.and_eq_true, decide_eq_true_eq] at hend
          exact ⟨hend.1.1.1, hend.1.1.2, hend.1.2, hend.2⟩
        have C0 := Lib.hid c0
        clear c0 hend
        go_wp2_with (go_at_call 28; (with_reducible refine (ports_at HTk.out N16.out).mono ?_); rintro e w6 ⟨v6, rfl, hown6, hb6⟩; rw [HN2.out] at hown6; obtain ⟨g6, c6, rfl, hg6, hlt6, hP6⟩ := port_rows hown6 HN2.out (by omega); have hblE := hbl.trans (hb6.mono hbl.size); have d1 : w6.cell? ⟨g6, 9, none⟩ = some (.int .i64 2) := (hP6.c 0 9 (by omega) (by omega)).trans (congrArg (fun x => some (Value.int .i64 x)) C0.out.1); have d2 : w6.cell? ⟨g6, 10, none⟩ = some (.int .i64 2) := (hP6.c 0 10 (by omega) (by omega)).trans (congrArg (fun x => some (Value.int .i64 x)) C0.out.2.1); have d3 : w6.cell? ⟨g6, 25, none⟩ = some (.int .i64 4) := (hP6.c 1 9 (by omega) (by omega)).trans (congrArg (fun x => some (Value.int .i64 x)) C0.out.2.2.1); have d4 : w6.cell? ⟨g6, 26, none⟩ = some (.int .i64 0) := (hP6.c 1 10 (by omega) (by omega)).trans (congrArg (fun x => some (Value.int .i64 x)) C0.out.2.2.2); clear hP6 hown6 hb6)
        go_ret
        exact ⟨rfl, hblE⟩
end Go.Proofs.Ytjnbjcieepooaac
