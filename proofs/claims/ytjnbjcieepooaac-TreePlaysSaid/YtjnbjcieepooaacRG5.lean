/- Receive of the reference's tree: a notice, an answer. Conditions: none. -/
import Derived.Test.YtjnbjcieepooaacRG4
namespace Go.Proofs.Ytjnbjcieepooaac
open Go.RowKit
set_option linter.unusedVariables false
set_option linter.unusedSimpArgs false

set_option maxRecDepth 8000 in
set_option maxHeartbeats 40000000 in
theorem rreceive_a (T : Tr) (B : RB) (i : Nat) (m : Msg) (hi : i < T.n) (hup : (T.at_ i).p.up = true) (hX : chkF m = true) (hk : m.kind = 2) (hok : TOk T (2 * T.n + 2)) (hst : AllP StB T) (hm : m.v.ok) (w : World) (hT : RefW w B T) (U : Tr) (hU : receiveF (i : Int) m T = U) :
    Calls Try.prog 25 #[.pointer (some ⟨B.tb, 0, none⟩), .int .i64 (i : Int), .agg #[.int .i64 m.kind, .int .u64 m.v.root, .int .u64 m.v.cost, .int .u64 m.v.bridge, .int .i64 m.v.port, .bool m.change, .bool m.ack, .bool m.proposal, .bool m.agreement, .bool m.learning, .bool m.forwarding, .int .i64 m.role, .int .i64 m.age, .int .i64 m.maxAge, .int .i64 m.hello, .int .i64 m.delay]] w (RPost w B T.n U) := by
  have hn := hok.n
  have hn0 : 0 < T.n := by omega
  have hin : (i : Int) < (T.n : Int) := by omega
  have hz := receive_yes hi hup hX
  rw [hU] at hz
  have ho1 := hok.edge i
  have hs1 : AllP StB (T.upd i { T.at_ i with edge := false }) := AllP.upd (I := StB) hst (fun hi => hst i hi)
  have hh := heard_of hT hi m
  have hT1 := hT.below ((Below.refl w.heap.size w).alloc (Nat.le_refl _) (.cells #[.int .i64 m.kind, .int .u64 m.v.root, .int .u64 m.v.cost, .int .u64 m.v.bridge, .int .i64 m.v.port, .bool m.change, .bool m.ack, .bool m.proposal, .bool m.agreement, .bool m.learning, .bool m.forwarding, .int .i64 m.role, .int .i64 m.age, .int .i64 m.maxAge, .int .i64 m.hello, .int .i64 m.delay] 41))
  generalize T.upd i { T.at_ i with edge := false } = T1 at hz ho1 hh hs1
  have HH := Lib.hid hh
  have T1N := Lib.hid hh.n
  have O1 : Hid (TOk T1 (2 * T1.n + 2)) := by rw [hh.n]; exact Lib.hid ho1
  have N16 : Hid (T1.n ≤ 16) := Lib.hid (by rw [hh.n]; exact hn)
  have NF := Lib.hid ho1.fl
  have HI1 : Hid (i < T1.n) := Lib.hid (by rw [hh.n]; exact hi)
  have S1 := Lib.hid hs1
  have HAGE := Lib.hid (chk_age hX)
  have HM := Lib.hid hm
  have qt := hT1.ownp hn0
  have r3 : World.cell? _ ⟨B.b 3, i, none⟩ = some (.bool (T.at_ i).p.up) := hT1.get hi (.inl (by omega)) rfl
  rw [hup] at r3
  have r5 := hT1.g5 hi
  have f5 := hT1.free hn0 (f := 5) (.inl (by omega))
  have HT1 := Lib.hid hT1
  rw [if_pos hk] at hz
  have HE : Hid (noticeF i T1 = U) := Lib.hid hz.symm
  have k2b : (m.kind == 2) = true := by simpa using hk
  clear hz hk HAGE HM
  clear hU hok hT hup hX hh hs1 ho1 hT1 hst hm
  go_enter Try.func25, Try.ntmps25
  go_upto_region 1 with (fail)
  change Code.wp _ _ _ _ (w.alloc (.cells #[.int .i64 m.kind, .int .u64 m.v.root, .int .u64 m.v.cost, .int .u64 m.v.bridge, .int .i64 m.v.port, .bool m.change, .bool m.ack, .bool m.proposal, .bool m.agreement, .bool m.learning, .bool m.forwarding, .int .i64 m.role, .int .i64 m.age, .int .i64 m.maxAge, .int .i64 m.hello, .int .i64 m.delay] 41))
  generalize w.alloc (.cells #[.int .i64 m.kind, .int .u64 m.v.root, .int .u64 m.v.cost, .int .u64 m.v.bridge, .int .i64 m.v.port, .bool m.change, .bool m.ack, .bool m.proposal, .bool m.agreement, .bool m.learning, .bool m.forwarding, .int .i64 m.role, .int .i64 m.age, .int .i64 m.maxAge, .int .i64 m.hello, .int .i64 m.delay] 41) = W0 at HH HT1 qt r3 r5 f5 ⊢
  go_upto_region 3 with (fail)
  have hh := HH.out
  clear HH
  generalize W0.setCell ⟨B.b 5, i, none⟩ (.bool false) = W at hh ⊢
  clear qt r3 r5 f5 HT1
  generalize w.heap.size = b5 at hh ⊢
  have HW := Lib.hid hh.t
  have HB := Lib.hid hh.m
  have HS := Lib.hid hh.s
  have HNB := Lib.hid hh.no
  have q5 := hh.m.cell
  clear hh
  have HC : Hid (Calls Try.prog 40 #[.pointer (some ⟨B.tb, 0, none⟩), .int .i64 (i : Int)] W (RQPost W B T1.n U)) := Lib.hid (rnotice_calls T1 B i HI1.out N16.out NF.out W HW.out U HE.out)
  go_wp2_with (go_at_call 40; (with_reducible refine HC.out.mono ?_); rintro e w' ⟨rfl, hT', hS'⟩)
  refine bodyPost_ret (results_none rfl _ _ _) rfl ?_
  rw [T1N.out] at hS'
  exact ⟨B, rfl, hT', HS.out.trans hS'⟩
set_option maxRecDepth 8000 in
set_option maxHeartbeats 40000000 in
theorem rreceive_b (T : Tr) (B : RB) (i : Nat) (m : Msg) (hi : i < T.n) (hup : (T.at_ i).p.up = true) (hX : chkF m = true) (hk1 : m.kind = 1) (hk3 : ¬ m.role = 3) (hok : TOk T (2 * T.n + 2)) (hst : AllP StB T) (hm : m.v.ok) (w : World) (hT : RefW w B T) (U : Tr) (hU : receiveF (i : Int) m T = U) :
    Calls Try.prog 25 #[.pointer (some ⟨B.tb, 0, none⟩), .int .i64 (i : Int), .agg #[.int .i64 m.kind, .int .u64 m.v.root, .int .u64 m.v.cost, .int .u64 m.v.bridge, .int .i64 m.v.port, .bool m.change, .bool m.ack, .bool m.proposal, .bool m.agreement, .bool m.learning, .bool m.forwarding, .int .i64 m.role, .int .i64 m.age, .int .i64 m.maxAge, .int .i64 m.hello, .int .i64 m.delay]] w (RPost w B T.n U) := by
  have hn := hok.n
  have hn0 : 0 < T.n := by omega
  have hin : (i : Int) < (T.n : Int) := by omega
  have hz := receive_yes hi hup hX
  rw [hU] at hz
  have ho1 := hok.edge i
  have hs1 : AllP StB (T.upd i { T.at_ i with edge := false }) := AllP.upd (I := StB) hst (fun hi => hst i hi)
  have hh := heard_of hT hi m
  have hT1 := hT.below ((Below.refl w.heap.size w).alloc (Nat.le_refl _) (.cells #[.int .i64 m.kind, .int .u64 m.v.root, .int .u64 m.v.cost, .int .u64 m.v.bridge, .int .i64 m.v.port, .bool m.change, .bool m.ack, .bool m.proposal, .bool m.agreement, .bool m.learning, .bool m.forwarding, .int .i64 m.role, .int .i64 m.age, .int .i64 m.maxAge, .int .i64 m.hello, .int .i64 m.delay] 41))
  generalize T.upd i { T.at_ i with edge := false } = T1 at hz ho1 hh hs1
  have HH := Lib.hid hh
  have T1N := Lib.hid hh.n
  have O1 : Hid (TOk T1 (2 * T1.n + 2)) := by rw [hh.n]; exact Lib.hid ho1
  have N16 : Hid (T1.n ≤ 16) := Lib.hid (by rw [hh.n]; exact hn)
  have NF := Lib.hid ho1.fl
  have HI1 : Hid (i < T1.n) := Lib.hid (by rw [hh.n]; exact hi)
  have S1 := Lib.hid hs1
  have HAGE := Lib.hid (chk_age hX)
  have HM := Lib.hid hm
  have qt := hT1.ownp hn0
  have r3 : World.cell? _ ⟨B.b 3, i, none⟩ = some (.bool (T.at_ i).p.up) := hT1.get hi (.inl (by omega)) rfl
  rw [hup] at r3
  have r5 := hT1.g5 hi
  have f5 := hT1.free hn0 (f := 5) (.inl (by omega))
  have HT1 := Lib.hid hT1
  rw [if_neg (show ¬ m.kind = 2 by omega), if_pos ⟨hk1, hk3⟩] at hz
  have HE : Hid (answerF i m T1 = U) := Lib.hid hz.symm
  have k1b : (m.kind == 1) = true := by simpa using hk1
  have k2b : (m.kind == 2) = false := by simpa using (show ¬ m.kind = 2 by omega)
  have k3b : (m.role != 3) = true := by simpa using hk3
  clear hz hk1 hk3 HAGE HM
  clear hU hok hT hup hX hh hs1 ho1 hT1 hst hm
  go_enter Try.func25, Try.ntmps25
  go_upto_region 1 with (fail)
  change Code.wp _ _ _ _ (w.alloc (.cells #[.int .i64 m.kind, .int .u64 m.v.root, .int .u64 m.v.cost, .int .u64 m.v.bridge, .int .i64 m.v.port, .bool m.change, .bool m.ack, .bool m.proposal, .bool m.agreement, .bool m.learning, .bool m.forwarding, .int .i64 m.role, .int .i64 m.age, .int .i64 m.maxAge, .int .i64 m.hello, .int .i64 m.delay] 41))
  generalize w.alloc (.cells #[.int .i64 m.kind, .int .u64 m.v.root, .int .u64 m.v.cost, .int .u64 m.v.bridge, .int .i64 m.v.port, .bool m.change, .bool m.ack, .bool m.proposal, .bool m.agreement, .bool m.learning, .bool m.forwarding, .int .i64 m.role, .int .i64 m.age, .int .i64 m.maxAge, .int .i64 m.hello, .int .i64 m.delay] 41) = W0 at HH HT1 qt r3 r5 f5 ⊢
  go_upto_region 3 with (fail)
  have hh := HH.out
  clear HH
  generalize W0.setCell ⟨B.b 5, i, none⟩ (.bool false) = W at hh ⊢
  clear qt r3 r5 f5 HT1
  generalize w.heap.size = b5 at hh ⊢
  have HW := Lib.hid hh.t
  have HB := Lib.hid hh.m
  have HS := Lib.hid hh.s
  have HNB := Lib.hid hh.no
  have q5 := hh.m.cell
  clear hh
  obtain ⟨q, hq⟩ : ∃ q, T1.at_ i = q := ⟨_, rfl⟩
  obtain ⟨V, hV⟩ : ∃ V, T1.tell_ i = V := ⟨_, rfl⟩
  obtain ⟨D, hD⟩ : ∃ D, (decide (q.role = 2) && m.agreement && decide (m.v.root = V.root) && decide (q.state ≠ 2)) = D := ⟨_, rfl⟩
  have HD := Lib.hid hD
  obtain ⟨T2, hT2⟩ : ∃ T2, (if (T1.at_ i).role = 2 ∧ m.agreement = true ∧ m.v.root = (T1.tell_ i).root ∧ (T1.at_ i).state ≠ 2 then sendF i false (forwardF i (T1.upd i { T1.at_ i with agreed := true })) else T1) = T2 := ⟨_, rfl⟩
  have HE2 : Hid ((if m.change = true then noticeF i T2 else T2) = U) := Lib.hid (by rw [← HE.out, ← hT2]; rfl)
  have H2D : Hid (D = true → sendF i false (forwardF i (T1.upd i { T1.at_ i with agreed := true })) = T2) := Lib.hid fun h => by
    rw [← hD, Bool.and_eq_true, Bool.and_eq_true, Bool.and_eq_true, decide_eq_true_eq, decide_eq_true_eq, decide_eq_true_eq] at h
    rw [← hT2, if_pos ⟨by rw [hq]; exact h.1.1.1, h.1.1.2, by rw [hV]; exact h.1.2, by rw [hq]; exact h.2⟩]
  have H2N : Hid (D = false → T1 = T2) := Lib.hid fun h => by
    rw [← hT2, if_neg]
    rintro ⟨e1, e2, e3, e4⟩
    rw [hq] at e1 e4
    rw [hV] at e3
    rw [← hD, decide_eq_true e1, e2, decide_eq_true e3, decide_eq_true e4] at h
    cases h
  have t2n : T2.n = T1.n ∧ T2.flush.length = T2.n := by
    have h : Shp T1 T2 1 := by
      rw [← hT2]
      split
      · exact (((shp_upd T1 i _).trans (shp_forward i _) (Nat.le_refl 0)).trans (shp_send i false _) (Nat.le_refl _))
      · exact Shp.refl _ _
    exact ⟨h.n, (h.fl.trans NF.out).trans h.n.symm⟩
  have T2N := Lib.hid t2n.1
  have T2F := Lib.hid t2n.2
  have HQ := Lib.hid hq
  have HV := Lib.hid hV
  have Z1 : Hid (0 < T1.n) := Lib.hid (by have := HI1.out; omega)
  clear hq hV hD hT2 t2n HE
  go_upto_region 6 with (fail)
  go_cut [83, 2] (fun s83 _ wx => s83 = .bool D ∧ Below W.heap.size W wx)
  case first => as_aux_lemma =>
    have hX := HW.out
    have qt := hX.ownp Z1.out
    rw [T1N.out] at qt
    have r9 := hX.g9 HI1.out
    have r10 := hX.g10 HI1.out
    have t0 : W.cell? ⟨B.b 17, i * 4, none⟩ = some (.int .u64 V.root) := by have := hX.get4 HI1.out (f := 17) (.inr rfl) rfl 0 (by omega); rw [show cont T1 17 i = (T1.tell_ i).cells from rfl, HV.out] at this; exact this
    rw [HQ.out] at r9 r10
    clear hX
    by_cases c1 : q.role = 2
    rotate_left
    · have c1b : (q.role == 2) = false := by simpa using c1
      have HE : Hid (D = false) := Lib.hid (by rw [← HD.out, decide_eq_false c1]; rfl)
      clear c1
      go_quiet (fail)
      go_wp2
      go_meet
      exact ⟨by rw [HE.out], ⟨rfl, rfl, rfl, Nat.le_refl _, fun _ _ => rfl⟩⟩
    have c1b : (q.role == 2) = true := by simpa using c1
    cases c2 : m.agreement with
    | false =>
      have HE : Hid (D = false) := Lib.hid (by rw [← HD.out, c2, decide_eq_true c1]; rfl)
      rw [c2] at q5
      clear c1 c2
      go_quiet (fail)
      go_wp2
      go_meet
      exact ⟨by rw [HE.out], ⟨rfl, rfl, rfl, Nat.le_refl _, fun _ _ => rfl⟩⟩
    | true =>
      rw [c2] at q5
      by_cases c3 : m.v.root = V.root
      rotate_left
      · have c3b : (m.v.root == V.root) = false := by simpa using c3
        have HE : Hid (D = false) := Lib.hid (by rw [← HD.out, c2, decide_eq_true c1, decide_eq_false c3]; rfl)
        clear c1 c2 c3
        go_quiet (fail)
        go_wp2
        go_meet
        exact ⟨by rw [HE.out], ⟨rfl, rfl, rfl, Nat.le_refl _, fun _ _ => rfl⟩⟩
      have c3b : (m.v.root == V.root) = true := by simpa using c3
      by_cases c4 : q.state = 2
      · have c4b : (q.state != 2) = false := by simpa using c4
        have HE : Hid (D = false) := Lib.hid (by rw [← HD.out, c2, decide_eq_true c1, decide_eq_true c3, decide_eq_false (fun h => h c4)]; rfl)
        clear c1 c2 c3 c4
        go_quiet (fail)
        go_wp2
        go_meet
        exact ⟨by rw [HE.out], ⟨rfl, rfl, rfl, Nat.le_refl _, fun _ _ => rfl⟩⟩
      · have c4b : (q.state != 2) = true := by simpa using c4
        have HE : Hid (D = true) := Lib.hid (by rw [← HD.out, c2, decide_eq_true c1, decide_eq_true c3, decide_eq_true c4]; rfl)
        clear c1 c2 c3 c4
        go_quiet (fail)
        go_wp2
        go_meet
        exact ⟨by rw [HE.out], ⟨rfl, rfl, rfl, Nat.le_refl _, fun _ _ => rfl⟩⟩
  case rest => as_aux_lemma =>
    obtain ⟨rfl, hb⟩ := hcut
    have HW6 := Lib.hid (HW.out.below hb)
    have HS6 := Lib.hid (HS.out.trans (RStep.below B T.n hb))
    have HB6 := Lib.hid (HB.out.below hb HB.out.lt)
    clear hb q5
    go_upto_if 83 with (fail)
    go_cut [] (fun wx => ∃ v, RefW wx { B with ov := v } T2 ∧ RStep w B T.n wx { B with ov := v } ∧ Blk wx b5 #[.int .i64 m.kind, .int .u64 m.v.root, .int .u64 m.v.cost, .int .u64 m.v.bridge, .int .i64 m.v.port, .bool m.change, .bool m.ack, .bool m.proposal, .bool m.agreement, .bool m.learning, .bool m.forwarding, .int .i64 m.role, .int .i64 m.age, .int .i64 m.maxAge, .int .i64 m.hello, .int .i64 m.delay] 41)
    case first =>
      cases D with
      | false =>
        have HE := Lib.hid (H2N.out rfl)
        go_wp2
        go_meet
        exact ⟨B.ov, by rw [← HE.out]; exact HW6.out, HS6.out, HB6.out⟩
      | true =>
        have h2 := H2D.out rfl
        have hX := HW6.out
        have qt := hX.ownp Z1.out
        rw [T1N.out] at qt
        have f6 := hX.free Z1.out (f := 6) (.inl (by omega))
        have r6 := hX.g6 HI1.out
        have hin : (i : Int) < (T.n : Int) := by have := HI1.out; have := T1N.out; omega
        have g1 := hX.set_agreed HI1.out true
        have s1 : RStep wc B T1.n (wc.setCell ⟨B.b 6, i, none⟩ (.bool true)) B := (RStep.refl wc B T1.n).set Z1.out (f := 6) (.inl (by omega)) i (.bool true)
        have o1 : TOk (T1.upd i { T1.at_ i with agreed := true }) 1 := (O1.out.mono (k := 1) (by omega)).step (shp_upd T1 i _) (kep_upd _ _ _).rps (AllP.upd O1.out.ps fun hi => clo_ok.agr _ _ (O1.out.ps i hi)) (by omega)
        have v1n : (T1.upd i { T1.at_ i with agreed := true }).n = T1.n := upd_n _ _ _
        generalize T1.upd i { T1.at_ i with agreed := true } = V1 at h2 g1 o1 v1n
        obtain ⟨V2, hV2⟩ : ∃ V2, forwardF i V1 = V2 := ⟨_, rfl⟩
        have o2 : TOk V2 1 := by rw [← hV2]; exact o1.step (shp_forward i V1) (kep_forward i V1).rps (allP_forward clo_ok i o1.ps) (by omega)
        have v2n : V2.n = T1.n := by rw [← hV2]; exact (shp_forward i V1).n.trans v1n
        rw [hV2] at h2
        have HC : Hid (Calls Try.prog 38 #[.pointer (some ⟨B.tb, 0, none⟩), .int .i64 (i : Int)] (wc.setCell ⟨B.b 6, i, none⟩ (.bool true)) (RQPost (wc.setCell ⟨B.b 6, i, none⟩ (.bool true)) B V1.n V2)) := Lib.hid (rforward_calls V1 B i (by rw [v1n]; exact HI1.out) o1.n o1.fl _ g1 V2 hV2)
        have HC2 : Hid (∀ w', RefW w' B V2 → Calls Try.prog 41 #[.pointer (some ⟨B.tb, 0, none⟩), .int .i64 (i : Int), .bool false] w' (RSPost w' B V2.n T2)) := Lib.hid fun w' h => rsend_calls V2 B i false (by rw [v2n]; exact HI1.out) o2.n o2.rp o2.room w' h T2 h2
        have V1N := Lib.hid v1n
        have V2N := Lib.hid v2n
        have SS1 := Lib.hid s1
        clear hX g1 s1 o1 v1n h2 hV2 o2 v2n
        go_wp2_with (first
          | (go_at_call 38; (with_reducible refine HC.out.mono ?_); rintro e w2 ⟨rfl, hT2, hS2⟩; rw [V1N.out] at hS2; have HT2 := Lib.hid hT2; have HS2 := Lib.hid (SS1.out.trans hS2); clear hT2 hS2)
          | (go_at_call 41; (with_reducible refine (HC2.out _ HT2.out).mono ?_); rintro e w3 ⟨v3, rfl, hT3, hS3⟩; rw [V2N.out] at hS3))
        go_meet
        have hS4 := HS2.out.trans hS3
        exact ⟨v3, hT3, HS6.out.trans (by rw [← T1N.out]; exact hS4), HB6.out.fr hS4.fr (by rw [T1N.out]; exact HNB.out)⟩
    case rest =>
      obtain ⟨v, hT2, hS2, hB2⟩ := hcut
      have q5 := hB2.cell
      have HT2 := Lib.hid hT2
      have HS2 := Lib.hid hS2
      clear hB2 hS2 hT2
      cases hch : m.change with
      | false =>
        have HE : Hid (T2 = U) := by have h := HE2.out; rw [hch, if_neg (by simp)] at h; exact Lib.hid h
        rw [hch] at q5
        clear hch
        go_wp2
        refine bodyPost_ret (results_none rfl _ _ _) rfl ?_
        exact ⟨_, rfl, by rw [← HE.out]; exact HT2.out, HS2.out⟩
      | true =>
        have HE : Hid (noticeF i T2 = U) := by have h := HE2.out; rw [hch, if_pos rfl] at h; exact Lib.hid h
        rw [hch] at q5
        have HC : Hid (Calls Try.prog 40 #[.pointer (some ⟨B.tb, 0, none⟩), .int .i64 (i : Int)] wc (RQPost wc { B with ov := v } T2.n U)) := Lib.hid (rnotice_calls T2 { B with ov := v } i (by rw [T2N.out]; exact HI1.out) (by rw [T2N.out]; exact N16.out) T2F.out wc HT2.out U HE.out)
        clear hch
        go_wp2_with (go_at_call 40; (with_reducible refine HC.out.mono ?_); rintro e w' ⟨rfl, hT', hS'⟩)
        refine bodyPost_ret (results_none rfl _ _ _) rfl ?_
        rw [T2N.out, T1N.out] at hS'
        exact ⟨_, rfl, hT', HS2.out.trans hS'⟩
end Go.Proofs.Ytjnbjcieepooaac
