/- TreeEdge: walked. -/
import Derived.Test.YtjnbjcieepooaacTL3
import Derived.Test.YtjnbjcieepooaacTL2
import Derived.Test.YtjnbjcieepooaacTE
import Derived.Test.YtjnbjcieepooaacTOpen
import Derived.Test.YtjnbjcieepooaacTArg
import Derived.Test.YtjnbjcieepooaacTP
namespace Go.Proofs.Ytjnbjcieepooaac
open Go.RowKit
set_option linter.unusedVariables false
set_option linter.unusedSimpArgs false

theorem edge_ok (id : Int) : TOk (edgeT id) 700 := by
  have hc : ∀ i, i < 2 → 0 ≤ (eports i).p.cost ∧ (eports i).p.cost ≤ 18446744073709551615 := fun i _ => by
    unfold eports
    split <;> exact ⟨by show (0 : Int) ≤ 10; omega, by show (10 : Int) ≤ 18446744073709551615; omega⟩
  have o0 : TOk (newN id eports 2) 800 := TOk.new id eports 2 800 (by omega) hc (by omega)
  have hn : (newN id eports 2).n = 2 := newN_n _ _ _
  unfold edgeT
  generalize newN id eports 2 = T at o0 hn
  have o1 : TOk T (T.n + 700) := o0.mono (by omega)
  exact o1.link 0 true
theorem edge_cost : ∀ i, i < 2 → 0 ≤ (eports i).p.cost ∧ (eports i).p.cost ≤ 18446744073709551615 := fun i _ => by
  unfold eports
  split <;> exact ⟨by show (0 : Int) ≤ 10; omega, by show (10 : Int) ≤ 18446744073709551615; omega⟩
theorem new_any_ok (id : Int) (f : Nat → TP) (M : Nat) (hM : M ≤ 16) (hc : ∀ i, i < M → 0 ≤ (f i).p.cost ∧ (f i).p.cost ≤ 18446744073709551615) : TOk (newN id f M) (newN id f M).n := by
  rw [newN_n]
  exact TOk.new id f M M hM hc (by omega)
theorem edge_fact {T : Tr} {m : Msg} {X : Bool} (h0 : 0 < T.n) (hu : (T.at_ 0).p.up = true) (hr : (T.at_ 0).role = 2) (hs : (T.at_ 0).state = 2) (he : (T.at_ 0).edge = true) (hX : chkF m = X) :
    ((receiveF 0 m T).at_ 0).edge = !X ∧ (((receiveF 0 m T).at_ 0).role = 2 ∨ ((receiveF 0 m T).at_ 0).role = 1 → ((receiveF 0 m T).at_ 0).state = 2) := by
  cases X with
  | true => exact edge_after h0 hu hr hs hX
  | false =>
    rw [edge_no hX]
    exact ⟨he, fun _ => hs⟩
theorem cell_below {w w' : World} {b o : Nat} {v : Value} (h : w.cell? ⟨b, o, none⟩ = some v) (hb : Below w.heap.size w w') : w'.cell? ⟨b, o, none⟩ = some v := by
  rw [hb.cell (p := ⟨b, o, none⟩) (World.block_lt_of_cell? w ⟨b, o, none⟩ h)]
  exact h
theorem held_six {w w' : World} {b c d : Nat} {v1 v2 v3 v4 v5 : Value} {o1 o2 o3 o4 o5 : Nat} {cs : Array Value} {t : TypeId} (h : w.cell? ⟨b, o1, none⟩ = some v1 ∧ w.cell? ⟨b, o2, none⟩ = some v2 ∧ w.cell? ⟨c, o3, none⟩ = some v3 ∧ w.cell? ⟨c, o4, none⟩ = some v4 ∧ w.cell? ⟨c, o5, none⟩ = some v5 ∧ Blk w d cs t ∧ ∀ o, w.cell? ⟨d, o, none⟩ = cs[o]?) (hb : Below w.heap.size w w') :
    w'.cell? ⟨b, o1, none⟩ = some v1 ∧ w'.cell? ⟨b, o2, none⟩ = some v2 ∧ w'.cell? ⟨c, o3, none⟩ = some v3 ∧ w'.cell? ⟨c, o4, none⟩ = some v4 ∧ w'.cell? ⟨c, o5, none⟩ = some v5 ∧ Blk w' d cs t ∧ ∀ o, w'.cell? ⟨d, o, none⟩ = cs[o]? := by
  obtain ⟨h1, h2, h3, h4, h5, h6, _⟩ := h
  have g6 := h6.below hb h6.lt
  exact ⟨cell_below h1 hb, cell_below h2 hb, cell_below h3 hb, cell_below h4 hb, cell_below h5 hb, g6, g6.cell⟩
set_option maxRecDepth 8000 in
set_option maxHeartbeats 8000000 in
theorem treeEdge_any (w : World) (id : Int) (m : Msg) (hm : m.v.ok) : Calls Try.prog 11 #[.int .u64 id, .agg m.cells] w fun r w' => r = .returned (.bool true) ∧ Below w.heap.size w w' := by
  obtain ⟨hall, h1, h2, h3, h4⟩ := edge_any id
  have hok := edge_ok id
  have HALL := Lib.hid hall
  have HR := Lib.hid h1
  have HS := Lib.hid h2
  have HE := Lib.hid h3
  have HU := Lib.hid h4
  have HOK := Lib.hid hok
  have HC := Lib.hid edge_cost
  obtain ⟨N0, hN0⟩ : ∃ N0, newN id eports 2 = N0 := ⟨_, rfl⟩
  have O0 : Hid (TOk N0 N0.n) := by
    rw [← hN0]
    exact Lib.hid (new_any_ok id eports 2 (by omega) edge_cost)
  have HN0 := Lib.hid hN0
  have HG : Hid (linkF 0 true N0 = edgeT id) := by rw [← hN0]; exact Lib.hid rfl
  have hgn : (edgeT id).n = 2 := (shp_link 0 true _).n.trans (newN_n _ _ _)
  have HGN := Lib.hid hgn
  generalize edgeT id = G at HALL HR HS HE HU HOK HG HGN
  obtain ⟨X, hX⟩ : ∃ X, chkF m = X := ⟨_, rfl⟩
  have HX := Lib.hid hX
  have H1a : Hid (2 ≤ 4611686018427387904) := Lib.hid (by omega)
  have H1b : Hid ((if 2 ≤ 16 then 2 else 16) = 2) := Lib.hid rfl
  clear hall h1 h2 h3 h4 hok hN0 hgn hX
  obtain ⟨mk, ⟨vr, vc, vb, vp⟩, ch, ak, pr, ag, le, fo, ro, a0, a1, a2, a3⟩ := m
  have HM := Lib.hid hm
  clear hm
  simp only [Msg.cells]
  go_enter Try.func11, Try.ntmps11
  go_upto_region 1 with fail
  have hb0 := (Below.refl w.heap.size w).alloc (Nat.le_refl _) (.cells #[.int .i64 mk, .int .u64 vr, .int .u64 vc, .int .u64 vb, .int .i64 vp, .bool ch, .bool ak, .bool pr, .bool ag, .bool le, .bool fo, .int .i64 ro, .int .i64 a0, .int .i64 a1, .int .i64 a2, .int .i64 a3] 41)
  have hB0 := Blk.new w #[.int .i64 mk, .int .u64 vr, .int .u64 vc, .int .u64 vb, .int .i64 vp, .bool ch, .bool ak, .bool pr, .bool ag, .bool le, .bool fo, .int .i64 ro, .int .i64 a0, .int .i64 a1, .int .i64 a2, .int .i64 a3] 41
  change Code.wp _ _ _ _ (w.alloc (.cells #[.int .i64 mk, .int .u64 vr, .int .u64 vc, .int .u64 vb, .int .i64 vp, .bool ch, .bool ak, .bool pr, .bool ag, .bool le, .bool fo, .int .i64 ro, .int .i64 a0, .int .i64 a1, .int .i64 a2, .int .i64 a3] 41))
  generalize w.alloc (.cells #[.int .i64 mk, .int .u64 vr, .int .u64 vc, .int .u64 vb, .int .i64 vp, .bool ch, .bool ak, .bool pr, .bool ag, .bool le, .bool fo, .int .i64 ro, .int .i64 a0, .int .i64 a1, .int .i64 a2, .int .i64 a3] 41) = w0 at hb0 hB0 ⊢
  have hb0' : w.heap.size ≤ w.heap.size := Nat.le_refl _
  generalize hbm : w.heap.size = bm at hB0
  have hbm' : w.heap.size ≤ bm := by omega
  clear hbm hb0'
  go_upto_region 3 with (go_at_call 12; (with_reducible refine (grows_calls _).mono ?_); rintro r w1 ⟨rfl, hb1⟩)
  have hB1 := hB0.below hb1 hB0.lt
  have hbl1 := hb0.trans (hb1.mono hb0.size)
  clear hB0 hb0 hb1
  have hA := (Below.refl w1.heap.size w1).alloc (Nat.le_refl _) (.cells #[.int .i64 1, .int .i64 2] 3)
  have hB := Blk.new w1 #[.int .i64 1, .int .i64 2] 3
  have hcells : Hid (0 < 2 → ∃ b off, some (⟨w1.heap.size, 0, none⟩ : Addr) = some ⟨b, off, none⟩ ∧ b < (w1.alloc (.cells #[.int .i64 1, .int .i64 2] 3)).heap.size ∧ ∀ j, j < 2 → (w1.alloc (.cells #[.int .i64 1, .int .i64 2] 3)).cell? ⟨b, off + j, none⟩ = some (.int .i64 (gids j))) :=
    Lib.hid fun _ => ⟨w1.heap.size, 0, rfl, hB.lt, fun j hj => by
      rw [Nat.zero_add, hB.cell]
      have : j = 0 ∨ j = 1 := by omega
      rcases this with rfl | rfl <;> rfl⟩
  clear hB
  go_upto_region 4 with (go_at_call 13; (with_reducible refine (mkports_calls gids _ 2 2 (by omega) _ hcells.out).mono ?_); rintro e w2 ⟨v1, rfl, hown2, hb2⟩)
  obtain ⟨g, c2, rfl, hg1, hg2, hc2, _⟩ := own_at hown2 (by omega)
  have hR := RowsB.of_own (sz := 16) (f := fun i => (portP (gids i) false).cells) (fun i => rfl) hown2
  have hbl2 := hA.trans (hb2.mono hA.size)
  have hB2 := hB1.below hbl2 hB1.lt
  have hgw : w1.heap.size ≤ g := Nat.le_trans hA.size hg1
  have q8 : w2.cell? ⟨g, 8, none⟩ = some (.bool false) := (hR.cell 0 8 (by omega) (by omega)).trans rfl
  have f8 := hR.free 8
  have hR2 := hR.set (m := 0) (o := 8) (by omega) (by omega) (.bool true)
  have hP2 : TPorts (w2.setCell ⟨g, 8, none⟩ (.bool true)) g 0 2 eports := ⟨hR2.lt, fun i o hi ho => by
    rw [Nat.zero_add]
    refine (hR2.cell i o hi ho).trans ?_
    have : i = 0 ∨ i = 1 := by omega
    rcases this with rfl | rfl
    · rw [updF_same]; rfl
    · rw [updF_ne _ _ (by omega)]; rfl⟩
  have HP2 : Hid (0 < 2 → ∃ b off, some (⟨g, 0, none⟩ : Addr) = some ⟨b, off, none⟩ ∧ TPorts (w2.setCell ⟨g, 8, none⟩ (.bool true)) b off 2 eports) := Lib.hid fun _ => ⟨g, 0, rfl, hP2⟩
  have hbl3 : Below w1.heap.size w1 (w2.setCell ⟨g, 8, none⟩ (.bool true)) := hbl2.setCell (p := ⟨g, 8, none⟩) hgw _
  have hB3 := hB1.below hbl3 hB1.lt
  have HBL3 := Lib.hid (hbl1.trans (hbl3.mono hbl1.size))
  have HB3 := Lib.hid hB3
  have HC2 := Lib.hid hc2
  clear hR hR2 hP2 hbl2 hbl3 hown2 hb2 hA hcells hbl1 hc2 hg1 hB1 hB2 hB3
  go_upto_region 6 with (go_at_call 14; (with_reducible refine (new_calls id eports _ 2 c2 H1a.out HC2.out 2 H1b.out HC.out _ HP2.out N0 HN0.out).mono ?_); intro r w3 hnew; obtain ⟨tb, rfl, hT3, hb3⟩ := hnew.at_; clear hnew HP2)
  have hlt := HB3.out.lt
  have hT := hT3.more (Z' := fun k => k < w.heap.size ∨ k = bm) fun k hk => .inl (by rcases hk with h | h; exact Nat.lt_of_lt_of_le h HBL3.out.size; omega)
  have hbl := HBL3.out.trans (hb3.mono HBL3.out.size)
  have hB4 := HB3.out.below hb3 hlt
  have HT := Lib.hid hT
  clear hT3 hb3 HBL3 hT q8 f8 hlt HB3 hgw hg2
  go_upto_region 7 with (go_at_call 15; (with_reducible refine (link_at HT.out 0 true O0.out G HG.out).mono ?_); rintro r w4 ⟨rfl, hT4, hf4⟩)
  have HT4 := Lib.hid hT4
  have hbl4 := hbl.trans (hf4.toBelow (fun _ h => .inl h) hbl.size)
  have hB5 := hf4.blk hB4 (.inr rfl)
  clear hT4 hbl hf4 HT hB4
  go_wp2_with (go_at_call 18; (with_reducible refine (outs_at HT4.out).mono ?_); rintro e w5 ⟨a5, c5, rfl, hown5, hT5, hf5, hz5⟩)
  have hT5' := hT5.more (Z' := fun k => k < w.heap.size ∨ k = bm) fun k hk => .inl (.inl hk)
  have HT5 := Lib.hid hT5'
  have hB6 := hf5.blk hB5 (.inr rfl)
  have HB6 := Lib.hid hB6
  have HBL5 := Lib.hid (hbl4.trans (hf5.toBelow (fun _ h => .inl h) hbl4.size))
  have HOWN := Lib.hid hown5
  clear hT5 hT5' hf5 hz5 hB5 hB6 hbl4 hown5 HT4
  have hlen : G.outs.length ≤ 1000000 := by have := HOK.out.room; omega
  go_loopg [26] G.outs.length (fun gh s26 wx => ∃ k : Nat, k + gh = G.outs.length ∧ s26 = .int .i64 (k : Int) ∧ Below w5.heap.size w5 wx)
  case atStart => exact ⟨0, by omega, rfl, Below.refl _ _⟩
  case round =>
    obtain ⟨k, hkg, rfl, hbx⟩ := hrel
    cases gk with
    | succ gh =>
      have hkM : (k : Int) < (G.outs.length : Int) := by omega
      have hkn : k < G.outs.length := by omega
      obtain ⟨g5, c5', hv, _, _, _, _⟩ := own_at HOWN.out (by omega)
      simp only [Value.slice.injEq] at hv
      obtain ⟨rfl, _, rfl⟩ := hv
      obtain ⟨o, ho⟩ : ∃ o, G.outs[k]? = some o := ⟨_, List.getElem?_eq_getElem hkn⟩
      have hrq := range_below (out_range HOWN.out rfl ho) hbx
      have hed := HALL.out k o ho
      unfold edgeOk at hed
      rw [Bool.and_eq_true] at hed
      obtain ⟨he1, he2⟩ := hed
      have he1' : o.m.proposal = false := by simpa using he1
      clear he1 ho hkn
      have hrq' : wr.rangeAt g5 (k * 17) [.int .i64 o.port, .int .i64 o.m.kind, .int .u64 o.m.v.root, .int .u64 o.m.v.cost, .int .u64 o.m.v.bridge, .int .i64 o.m.v.port, .bool o.m.change, .bool o.m.ack, .bool false, .bool o.m.agreement, .bool o.m.learning, .bool true, .int .i64 o.m.role, .int .i64 o.m.age, .int .i64 o.m.maxAge, .int .i64 o.m.hello, .int .i64 o.m.delay] := by
        unfold OutM.cells at hrq
        rw [he1', he2] at hrq
        exact hrq
      clear hrq
      go_upto_region 10 with (refine wpList_load_mid rfl 43 _ rfl g5 (k * 17) rfl _ _ hrq' Try.underlying43 rfl sz43 ?_)
      have ha := (Below.refl wr.heap.size wr).alloc (Nat.le_refl _) (.cells #[.int .i64 o.port, .int .i64 o.m.kind, .int .u64 o.m.v.root, .int .u64 o.m.v.cost, .int .u64 o.m.v.bridge, .int .i64 o.m.v.port, .bool o.m.change, .bool o.m.ack, .bool false, .bool o.m.agreement, .bool o.m.learning, .bool true, .int .i64 o.m.role, .int .i64 o.m.age, .int .i64 o.m.maxAge, .int .i64 o.m.hello, .int .i64 o.m.delay] 43)
      have hq := Blk.new wr #[.int .i64 o.port, .int .i64 o.m.kind, .int .u64 o.m.v.root, .int .u64 o.m.v.cost, .int .u64 o.m.v.bridge, .int .i64 o.m.v.port, .bool o.m.change, .bool o.m.ack, .bool false, .bool o.m.agreement, .bool o.m.learning, .bool true, .int .i64 o.m.role, .int .i64 o.m.age, .int .i64 o.m.maxAge, .int .i64 o.m.hello, .int .i64 o.m.delay] 43
      change Code.wp _ _ _ _ (wr.alloc (.cells #[.int .i64 o.port, .int .i64 o.m.kind, .int .u64 o.m.v.root, .int .u64 o.m.v.cost, .int .u64 o.m.v.bridge, .int .i64 o.m.v.port, .bool o.m.change, .bool o.m.ack, .bool false, .bool o.m.agreement, .bool o.m.learning, .bool true, .int .i64 o.m.role, .int .i64 o.m.age, .int .i64 o.m.maxAge, .int .i64 o.m.hello, .int .i64 o.m.delay] 43))
      generalize wr.alloc (.cells #[.int .i64 o.port, .int .i64 o.m.kind, .int .u64 o.m.v.root, .int .u64 o.m.v.cost, .int .u64 o.m.v.bridge, .int .i64 o.m.v.port, .bool o.m.change, .bool o.m.ack, .bool false, .bool o.m.agreement, .bool o.m.learning, .bool true, .int .i64 o.m.role, .int .i64 o.m.age, .int .i64 o.m.maxAge, .int .i64 o.m.hello, .int .i64 o.m.delay] 43) = W at ha hq ⊢
      have hbz := hbx.trans (ha.mono hbx.size)
      clear ha
      generalize wr.heap.size = b9 at hq ⊢
      have q9 := hq.cell
      clear hq hrq'
      go_wp2
      go_roundg gh
      case measure => omega
      case rel => exact ⟨k + 1, by omega, by go_num, hbz⟩
    | zero =>
      as_aux_lemma =>
        have hkM : ¬ ((k : Int) < (G.outs.length : Int)) := by omega
        have hTr := HT5.out.below hbx
        have hBr := HB6.out.below hbx HB6.out.lt
        have hblr := HBL5.out.trans (hbx.mono HBL5.out.size)
        have HN16 : Hid ((outsF G).n ≤ 16) := by show G.n ≤ 16; have := HGN.out; omega
        have HTr := Lib.hid hTr
        clear hTr hbx HT5 HB6 HBL5 HOWN HALL
        obtain ⟨P, hP⟩ : ∃ P, (outsF G).at_ 0 = P := ⟨_, rfl⟩
        have HPs : Hid (P.state = 2) := by rw [← hP]; exact HS
        have HPe : Hid (P.edge = true) := by rw [← hP]; exact HE
        have HP := Lib.hid hP
        obtain ⟨R, hR⟩ : ∃ R, receiveF 0 ⟨mk, ⟨vr, vc, vb, vp⟩, ch, ak, pr, ag, le, fo, ro, a0, a1, a2, a3⟩ (outsF G) = R := ⟨_, rfl⟩
        have hRn : R.n = 2 := by rw [← hR]; exact (shp_receive _ _ _).n.trans HGN.out
        have hRf := edge_fact (T := outsF G) (by show 0 < G.n; have := HGN.out; omega) HU.out HR.out HS.out HE.out HX.out
        rw [hR] at hRf
        obtain ⟨Q, hQ⟩ : ∃ Q, R.at_ 0 = Q := ⟨_, rfl⟩
        rw [hQ] at hRf
        have HQe := Lib.hid hRf.1
        have hQr := hRf.2
        have HQR := Lib.hid hQr
        have HQ := Lib.hid hQ
        have HRN := Lib.hid hRn
        have HRR : Hid (∀ (w' : World) (Z : Nat → Prop), TAt w' tb (outsF G) Z → Calls Try.prog 30 #[.pointer (some ⟨tb, 0, none⟩), .int .i64 0, .agg #[.int .i64 mk, .int .u64 vr, .int .u64 vc, .int .u64 vb, .int .i64 vp, .bool ch, .bool ak, .bool pr, .bool ag, .bool le, .bool fo, .int .i64 ro, .int .i64 a0, .int .i64 a1, .int .i64 a2, .int .i64 a3]] w' (AtPost w' tb R Z)) := Lib.hid fun w' Z h => receive_at h 0 ⟨mk, ⟨vr, vc, vb, vp⟩, ch, ak, pr, ag, le, fo, ro, a0, a1, a2, a3⟩ HM.out (by
          have o : TOk (outsF G) 700 := HOK.out.outs0.mono (by omega)
          exact o.mono (by show 2 * G.n + 2 ≤ 700; have := HGN.out; omega)) R hR
        have hchk : Hid (∀ w', Calls Try.prog 24 #[.agg #[.int .i64 mk, .int .u64 vr, .int .u64 vc, .int .u64 vb, .int .i64 vp, .bool ch, .bool ak, .bool pr, .bool ag, .bool le, .bool fo, .int .i64 ro, .int .i64 a0, .int .i64 a1, .int .i64 a2, .int .i64 a3]] w' (ChkPost X w')) := Lib.hid fun w' => check_calls ⟨mk, ⟨vr, vc, vb, vp⟩, ch, ak, pr, ag, le, fo, ro, a0, a1, a2, a3⟩ X HX.out w'
        clear hP hR hQr hQ hRn hRf
        go_upto_region 14 with (first
          | (go_at_call 28; (with_reducible refine (ports_at HTr.out HN16.out).mono ?_); rintro e w6 ⟨v6, rfl, hown6, hb6⟩; obtain ⟨g6, c6, rfl, hg6, hlt6, hP6⟩ := port_rows hown6 rfl (by show 0 < G.n; have := HGN.out; omega); have hr6 := hP6.range (i := 0) (by show 0 < G.n; have := HGN.out; omega); have hn6 : ((outsF G).n : Int) = 2 := by show (G.n : Int) = 2; have := HGN.out; omega)
          | (rw [HP.out] at hr6; refine wpList_load_mid rfl 31 _ rfl g6 (0 + 0 * 16) rfl _ _ hr6 Try.underlying31 rfl sz31 ?_))
        have h7 := hb6.alloc hb6.size (.cells #[.int .i64 P.p.id, .int .u64 P.p.cost, .bool P.p.up, .bool P.p.has, .int .u64 P.p.told.root, .int .u64 P.p.told.cost, .int .u64 P.p.told.bridge, .int .i64 P.p.told.port, .bool P.edge, .int .i64 P.role, .int .i64 P.state, .int .i64 P.age, .int .i64 P.left, .int .i64 P.wait, .int .i64 P.change, .bool P.agreed] 31)
        have hB7 := Blk.new w6 #[.int .i64 P.p.id, .int .u64 P.p.cost, .bool P.p.up, .bool P.p.has, .int .u64 P.p.told.root, .int .u64 P.p.told.cost, .int .u64 P.p.told.bridge, .int .i64 P.p.told.port, .bool P.edge, .int .i64 P.role, .int .i64 P.state, .int .i64 P.age, .int .i64 P.left, .int .i64 P.wait, .int .i64 P.change, .bool P.agreed] 31
        change Code.wp _ _ _ _ (w6.alloc (.cells #[.int .i64 P.p.id, .int .u64 P.p.cost, .bool P.p.up, .bool P.p.has, .int .u64 P.p.told.root, .int .u64 P.p.told.cost, .int .u64 P.p.told.bridge, .int .i64 P.p.told.port, .bool P.edge, .int .i64 P.role, .int .i64 P.state, .int .i64 P.age, .int .i64 P.left, .int .i64 P.wait, .int .i64 P.change, .bool P.agreed] 31))
        generalize w6.alloc (.cells #[.int .i64 P.p.id, .int .u64 P.p.cost, .bool P.p.up, .bool P.p.has, .int .u64 P.p.told.root, .int .u64 P.p.told.cost, .int .u64 P.p.told.bridge, .int .i64 P.p.told.port, .bool P.edge, .int .i64 P.role, .int .i64 P.state, .int .i64 P.age, .int .i64 P.left, .int .i64 P.wait, .int .i64 P.change, .bool P.agreed] 31) = w7 at h7 hB7 ⊢
        generalize hb9 : w6.heap.size = b9 at hB7
        have hb9' : wr.heap.size ≤ b9 := by have := hb6.size; omega
        have HT7 := Lib.hid (HTr.out.keep h7 hb9' hB7.lt)
        have hBm7 := hBr.below h7 hBr.lt
        have qm := hBm7.cell
        have hbl7 := hblr.trans (h7.mono hblr.size)
        clear hb6 hown6 hP6 hr6 hn6 hg6 hlt6 HTr hblr h7 hb9 hb9' hBr
        go_upto_region 15 with (go_at_call 30; (with_reducible refine (HRR.out _ _ HT7.out).mono ?_); rintro r w8 ⟨rfl, hT8, hf8⟩)
        have hBm8 := hf8.blk hBm7 (.inl (.inr rfl))
        have hB8 := hf8.blk hB7 (.inr rfl)
        have HT8 := Lib.hid hT8
        have hbl8 := hbl7.trans (hf8.toBelow (fun _ h => .inl (.inl h)) hbl7.size)
        have HRN16 : Hid (R.n ≤ 16) := by have := HRN.out; exact Lib.hid (by omega)
        clear hT8 hf8 hbl7 hB7 hBm7 qm HT7
        go_upto_region 16 with (first
          | (go_at_call 28; (with_reducible refine (ports_at HT8.out HRN16.out).mono ?_); rintro e w9 ⟨v9, rfl, hown9, hb9⟩; obtain ⟨g9, c9, rfl, hg9, hlt9, hP9⟩ := port_rows hown9 rfl (by have := HRN.out; omega); have hr9 := hP9.range (i := 0) (by have := HRN.out; omega); have hn9 : (R.n : Int) = 2 := by have := HRN.out; omega)
          | (rw [HQ.out] at hr9; refine wpList_load_mid rfl 31 _ rfl g9 (0 + 0 * 16) rfl _ _ hr9 Try.underlying31 rfl sz31 ?_))
        have h10 := hb9.alloc hb9.size (.cells #[.int .i64 Q.p.id, .int .u64 Q.p.cost, .bool Q.p.up, .bool Q.p.has, .int .u64 Q.p.told.root, .int .u64 Q.p.told.cost, .int .u64 Q.p.told.bridge, .int .i64 Q.p.told.port, .bool Q.edge, .int .i64 Q.role, .int .i64 Q.state, .int .i64 Q.age, .int .i64 Q.left, .int .i64 Q.wait, .int .i64 Q.change, .bool Q.agreed] 31)
        have hB10 := Blk.new w9 #[.int .i64 Q.p.id, .int .u64 Q.p.cost, .bool Q.p.up, .bool Q.p.has, .int .u64 Q.p.told.root, .int .u64 Q.p.told.cost, .int .u64 Q.p.told.bridge, .int .i64 Q.p.told.port, .bool Q.edge, .int .i64 Q.role, .int .i64 Q.state, .int .i64 Q.age, .int .i64 Q.left, .int .i64 Q.wait, .int .i64 Q.change, .bool Q.agreed] 31
        change Code.wp _ _ _ _ (w9.alloc (.cells #[.int .i64 Q.p.id, .int .u64 Q.p.cost, .bool Q.p.up, .bool Q.p.has, .int .u64 Q.p.told.root, .int .u64 Q.p.told.cost, .int .u64 Q.p.told.bridge, .int .i64 Q.p.told.port, .bool Q.edge, .int .i64 Q.role, .int .i64 Q.state, .int .i64 Q.age, .int .i64 Q.left, .int .i64 Q.wait, .int .i64 Q.change, .bool Q.agreed] 31))
        generalize w9.alloc (.cells #[.int .i64 Q.p.id, .int .u64 Q.p.cost, .bool Q.p.up, .bool Q.p.has, .int .u64 Q.p.told.root, .int .u64 Q.p.told.cost, .int .u64 Q.p.told.bridge, .int .i64 Q.p.told.port, .bool Q.edge, .int .i64 Q.role, .int .i64 Q.state, .int .i64 Q.age, .int .i64 Q.left, .int .i64 Q.wait, .int .i64 Q.change, .bool Q.agreed] 31) = w10 at h10 hB10 ⊢
        have hB9 := hB8.below h10 hB8.lt
        have hBm9 := hBm8.below h10 hBm8.lt
        have hbl10 := hbl8.trans (h10.mono hbl8.size)
        generalize w9.heap.size = b10 at hB10 ⊢
        clear hb9 hown9 hP9 hr9 hn9 hg9 hlt9 HT8 hbl8 h10 hB8 hBm8
        have p8 : w10.cell? ⟨b9, 8, none⟩ = some (.bool true) := by rw [hB9.cell, ← HPe.out]; rfl
        have p10 : w10.cell? ⟨b9, 10, none⟩ = some (.int .i64 2) := by rw [hB9.cell, ← HPs.out]; rfl
        have r8 : w10.cell? ⟨b10, 8, none⟩ = some (.bool (!X)) := by rw [hB10.cell, ← HQe.out]; rfl
        have r9 : w10.cell? ⟨b10, 9, none⟩ = some (.int .i64 Q.role) := by rw [hB10.cell]; rfl
        have r10 : w10.cell? ⟨b10, 10, none⟩ = some (.int .i64 Q.state) := by rw [hB10.cell]; rfl
        have H0 : Hid (w10.cell? ⟨b9, 8, none⟩ = some (.bool true) ∧ w10.cell? ⟨b9, 10, none⟩ = some (.int .i64 2) ∧ w10.cell? ⟨b10, 8, none⟩ = some (.bool (!X)) ∧ w10.cell? ⟨b10, 9, none⟩ = some (.int .i64 Q.role) ∧ w10.cell? ⟨b10, 10, none⟩ = some (.int .i64 Q.state) ∧ Blk w10 bm #[.int .i64 mk, .int .u64 vr, .int .u64 vc, .int .u64 vb, .int .i64 vp, .bool ch, .bool ak, .bool pr, .bool ag, .bool le, .bool fo, .int .i64 ro, .int .i64 a0, .int .i64 a1, .int .i64 a2, .int .i64 a3] 41 ∧ ∀ o, w10.cell? ⟨bm, o, none⟩ = (#[.int .i64 mk, .int .u64 vr, .int .u64 vc, .int .u64 vb, .int .i64 vp, .bool ch, .bool ak, .bool pr, .bool ag, .bool le, .bool fo, .int .i64 ro, .int .i64 a0, .int .i64 a1, .int .i64 a2, .int .i64 a3] : Array Value)[o]?) := Lib.hid ⟨p8, p10, r8, r9, r10, hBm9, hBm9.cell⟩
        have HBL10 := Lib.hid hbl10
        clear p8 p10 r8 r9 r10 hB9 hB10 hBm9 hbl10
        go_region_held3 (fun w' => w'.cell? ⟨b9, 8, none⟩ = some (.bool true) ∧ w'.cell? ⟨b9, 10, none⟩ = some (.int .i64 2) ∧ w'.cell? ⟨b10, 8, none⟩ = some (.bool (!X)) ∧ w'.cell? ⟨b10, 9, none⟩ = some (.int .i64 Q.role) ∧ w'.cell? ⟨b10, 10, none⟩ = some (.int .i64 Q.state) ∧ Blk w' bm #[.int .i64 mk, .int .u64 vr, .int .u64 vc, .int .u64 vb, .int .i64 vp, .bool ch, .bool ak, .bool pr, .bool ag, .bool le, .bool fo, .int .i64 ro, .int .i64 a0, .int .i64 a1, .int .i64 a2, .int .i64 a3] 41 ∧ ∀ o, w'.cell? ⟨bm, o, none⟩ = (#[.int .i64 mk, .int .u64 vr, .int .u64 vc, .int .u64 vb, .int .i64 vp, .bool ch, .bool ak, .bool pr, .bool ag, .bool le, .bool fo, .int .i64 ro, .int .i64 a0, .int .i64 a1, .int .i64 a2, .int .i64 a3] : Array Value)[o]?)
          (first | assumption | exact H0.out | exact held_six (by assumption) (by assumption))
          (first | (go_at_call 24; (with_reducible refine (hchk.out _).mono ?_); rintro e w11 ⟨cd, rfl, hc0, hcn, hb11⟩))
        have hbE := HBL10.out.trans ((below_undrew hb11).mono HBL10.out.size)
        rename_i hHd
        obtain ⟨-, -, -, r9, r10, -, -⟩ := hHd
        by_cases h2 : Q.role = 2
        · have hs := HQR.out (.inl h2)
          rw [h2] at r9
          rw [hs] at r10
          clear h2 hs
          go_wp2
          go_ret
          exact ⟨rfl, hbE⟩
        by_cases h1 : Q.role = 1
        · have hs := HQR.out (.inr h1)
          rw [h1] at r9
          rw [hs] at r10
          clear h1 h2 hs
          go_wp2
          go_ret
          exact ⟨rfl, hbE⟩
        have h2b : (Q.role != 2) = true := by simpa using h2
        have h1b : (Q.role != 1) = true := by simpa using h1
        clear h1 h2
        go_wp2
        go_ret
        exact ⟨rfl, hbE⟩
end Go.Proofs.Ytjnbjcieepooaac
