/- proposed of package tree, by its contract. -/
import Derived.Test.YtjnbjcieepooaacTW5
namespace Go.Proofs.Ytjnbjcieepooaac
open Go.RowKit
set_option linter.unusedVariables false
set_option linter.unusedSimpArgs false

theorem prop_skip {a i : Nat} {T : Tr} (h : ¬ (i ≠ a ∧ (T.at_ i).role = 2 ∧ (T.at_ i).edge = false ∧ (T.at_ i).agreed = false ∧ (T.at_ i).state ≠ 0)) : propStep a i T = T := if_neg h
theorem prop_do {a i : Nat} {T : Tr} (h : i ≠ a ∧ (T.at_ i).role = 2 ∧ (T.at_ i).edge = false ∧ (T.at_ i).agreed = false ∧ (T.at_ i).state ≠ 0) : propStep a i T = (T.upd i (propP (T.at_ i))).fl i := if_pos h
theorem shp_props (a k : Nat) (T : Tr) : Shp T (upto (propStep a) k T) 0 := by have := shp_upto (shp_prop a) k T; rwa [Nat.mul_zero] at this
theorem kep_props (a k : Nat) (T : Tr) : Kep T (upto (propStep a) k T) := kep_upto (fun i T => by
  unfold propStep
  split
  · exact (kep_upd _ _ _).trans (kep_fl _ _)
  · exact Kep.refl _) _ _
theorem TOk.props {T : Tr} {m : Nat} (h : TOk T m) (a k : Nat) : TOk (upto (propStep a) k T) m :=
  h.step (shp_props a k T) (kep_props a k T).rps (allP_upto (fun i T h => by
    unfold propStep
    split
    · exact (h.upd fun hi => clo_ok.prop _ (h i hi)).fl i
    · exact h) _ h.ps) (by omega)
theorem TOk.send {T : Tr} {m k : Nat} (h : TOk T m) (i : Nat) (b : Bool) (hk : 1 + k ≤ m) : TOk (sendF i b T) k := h.step (shp_send i b T) (kep_send i b T).rps (allP_send i b h.ps) hk
theorem proposed_34 {a : Nat} {T : Tr} (h : (T.at_ a).role = 3 ∨ (T.at_ a).role = 4) : proposedF a T = sendF a true T := if_pos h
theorem proposed_1 {a : Nat} {T : Tr} (h : (T.at_ a).role = 1) : proposedF a T = tellAll (sendF a true (upto (propStep a) T.n T)) := by
  unfold proposedF
  rw [if_neg (by omega), if_pos h]
theorem proposed_no {a : Nat} {T : Tr} (h : ¬ ((T.at_ a).role = 3 ∨ (T.at_ a).role = 4)) (h1 : ¬ (T.at_ a).role = 1) : proposedF a T = T := by
  unfold proposedF
  rw [if_neg h, if_neg h1]
set_option maxRecDepth 8000 in
set_option maxHeartbeats 8000000 in
theorem proposed_calls (T : Tr) (B : TB) (a : Nat) (ha : a < T.n) (hok : TOk T (T.n + 1)) (w : World) (hT : TreeW w B T) (U : Tr) (hU : proposedF a T = U) :
    Calls Try.prog 47 #[.pointer (some ⟨B.tb, 0, none⟩), .int .i64 (a : Int)] w (TPost w B T.n U) := by
  have HU := Lib.hid hU
  have HO := Lib.hid hok
  have HT := Lib.hid hT
  have HA := Lib.hid ha
  have hn := hok.n
  have hn0 : 0 < T.n := by omega
  have qt := hT.ownp hn0
  have ra : w.cell? ⟨B.pb, a * 16 + 9, none⟩ = some (.int .i64 (T.at_ a).role) := hT.row ha 9 (by decide)
  have han : (a : Int) < (T.n : Int) := by omega
  have HN0 := Lib.hid hn0
  have HO1 : Hid (TOk T 1) := Lib.hid (hok.mono (by omega))
  clear hok hT
  by_cases h34 : (T.at_ a).role = 3 ∨ (T.at_ a).role = 4
  · have HE : Hid (sendF a true T = U) := by rw [← hU]; exact Lib.hid (proposed_34 h34).symm
    clear hU hn ha hn0
    rcases h34 with h | h
    all_goals
      rw [h] at ra
      clear h
      go_enter Try.func47, Try.ntmps47
      go_wp2_with (go_at_call 49; (with_reducible refine (send_calls T B a true HA.out HO1.out _ HT.out U HE.out).mono ?_); rintro e w' ⟨v', rfl, hT', hS'⟩)
      refine bodyPost_ret (results_none rfl _ _ _) rfl ?_
      exact ⟨_, rfl, hT', hS'⟩
  have h3b : ((T.at_ a).role == 3) = false := by simpa using fun h => h34 (.inl h)
  have h4b : ((T.at_ a).role == 4) = false := by simpa using fun h => h34 (.inr h)
  by_cases h1 : (T.at_ a).role = 1
  rotate_left
  · have HE : Hid (T = U) := by rw [← hU]; exact Lib.hid (proposed_no h34 h1).symm
    have h1b : ((T.at_ a).role != 1) = true := by simpa using h1
    clear hU hn ha hn0 h34 h1
    go_enter Try.func47, Try.ntmps47
    go_wp2
    refine bodyPost_ret (results_none rfl _ _ _) rfl ?_
    exact ⟨B, rfl, by rw [← HE.out]; exact HT.out, TStep.refl _ _ _⟩
  have HE : Hid (tellAll (sendF a true (upto (propStep a) T.n T)) = U) := by rw [← hU]; exact Lib.hid (proposed_1 h1).symm
  rw [h1] at ra
  clear hU ha hn0 h34 h1 h3b h4b HO1
  go_enter Try.func47, Try.ntmps47
  go_wp2
  clear qt ra
  go_loopg [31] T.n (fun gh s31 wx => ∃ k : Nat, k + gh = T.n ∧ s31 = .int .i64 (k : Int) ∧ TreeW wx B (upto (propStep a) k T) ∧ TStep w B T.n wx B)
  case atStart => exact ⟨0, by omega, rfl, HT.out, TStep.refl _ _ _⟩
  case round =>
    obtain ⟨k, hkg, rfl, hX, hS⟩ := hrel
    have hxo := HO.out.props a k
    have sn : (upto (propStep a) k T).n = T.n := (shp_props a k T).n
    cases gk with
    | zero =>
      have hkM : ¬ ((k : Int) < (T.n : Int)) := by omega
      obtain rfl : k = T.n := by omega
      generalize upto (propStep a) T.n T = X at hX sn hxo HE
      obtain ⟨Y, hY⟩ : ∃ Y, sendF a true X = Y := ⟨_, rfl⟩
      have HY := Lib.hid hY
      rw [hY] at HE
      have yo : TOk Y T.n := by rw [← hY]; exact hxo.send a true (by omega)
      have yn : Y.n = T.n := by rw [← hY]; exact (shp_send a true X).n.trans sn
      have HYO : Hid (TOk Y Y.n) := by rw [yn]; exact Lib.hid yo
      have HYN := Lib.hid yn
      have HXN := Lib.hid sn
      have HXO : Hid (TOk X 1) := Lib.hid (hxo.mono (by omega))
      have HAX : Hid (a < X.n) := by rw [sn]; exact HA
      have HX := Lib.hid hX
      clear hX sn hxo hY yo yn
      go_wp2_with (first | (go_at_call 49; (with_reducible refine (send_calls X B a true HAX.out HXO.out _ HX.out Y HY.out).mono ?_); rintro e w' ⟨v', rfl, hT', hS'⟩; have HT' := Lib.hid hT'; clear hT') | (go_at_call 35; (with_reducible refine (tell_calls Y _ HYO.out _ HT'.out U HE.out).mono ?_); rintro e w2 ⟨v2, rfl, hT2, hS2⟩))
      go_end0
      rw [HXN.out] at hS'
      rw [HYN.out] at hS2
      exact ⟨_, rfl, hT2, (hS.trans hS').trans hS2⟩
    | succ gh =>
      have hkM : (k : Int) < (T.n : Int) := by omega
      have HST : Hid (upto (propStep a) (k + 1) T = propStep a k (upto (propStep a) k T)) := Lib.hid rfl
      generalize upto (propStep a) k T = X at hX sn hxo HST
      have hkn : k < X.n := by rw [sn]; omega
      have hX0 : 0 < X.n := by omega
      have hrow := hX.row hkn
      have N := hX.nes hX0
      have n1 := N.tp; have n2 := N.tf; have n3 := N.pf
      have hfp := hX.rowfree hX0
      have hff := hX.f.free
      have hfi := hX.flush_at hkn
      have qt := hX.ownp hX0
      rw [sn] at qt
      have r8 : wr.cell? ⟨B.pb, k * 16 + 8, none⟩ = some (.bool (X.at_ k).edge) := hrow 8 (by decide)
      have r9 : wr.cell? ⟨B.pb, k * 16 + 9, none⟩ = some (.int .i64 (X.at_ k).role) := hrow 9 (by decide)
      have r10 : wr.cell? ⟨B.pb, k * 16 + 10, none⟩ = some (.int .i64 (X.at_ k).state) := hrow 10 (by decide)
      have r13 : wr.cell? ⟨B.pb, k * 16 + 13, none⟩ = some (.int .i64 (X.at_ k).wait) := hrow 13 (by decide)
      have r15 : wr.cell? ⟨B.pb, k * 16 + 15, none⟩ = some (.bool (X.at_ k).agreed) := hrow 15 (by decide)
      have h1 := hX.set_port hkn [(10, .int .i64 0), (13, .int .i64 15)] (propP (X.at_ k)) (by simp) rfl
      have H2 := Lib.hid (h1.set_flush (i := k) (by rw [upd_n]; exact hkn) (by rw [upd_n]; exact hxo.fl))
      have HX := Lib.hid hX
      clear h1 hX hrow N hkn hX0 hxo sn
      obtain ⟨q, hq⟩ : ∃ q, X.at_ k = q := ⟨_, rfl⟩
      have HP : Hid (k ≠ a → q.role = 2 → q.edge = false → q.agreed = false → q.state ≠ 0 → propStep a k X = (X.upd k (propP q)).fl k) := Lib.hid fun e1 e2 e3 e4 e5 => by rw [← hq] at *; exact prop_do ⟨e1, e2, e3, e4, e5⟩
      have HQ : Hid (¬ (k ≠ a ∧ q.role = 2 ∧ q.edge = false ∧ q.agreed = false ∧ q.state ≠ 0) → propStep a k X = X) := Lib.hid fun h => by rw [← hq] at h; exact prop_skip h
      rw [hq] at r8 r9 r10 r13 r15 H2
      clear hq
      by_cases c1 : k = a
      · have cb : ((k : Int) != (a : Int)) = false := by simpa using (show (k : Int) = (a : Int) by omega)
        have HZ := Lib.hid (HQ.out fun h => h.1 c1)
        clear c1
        go_wp2
        go_roundg gh
        case measure => omega
        case rel => exact ⟨k + 1, by omega, by go_num, by rw [HST.out, HZ.out]; exact HX.out, hS⟩
      have cb : ((k : Int) != (a : Int)) = true := by simpa using (show ¬ (k : Int) = (a : Int) by omega)
      by_cases c2 : q.role = 2
      rotate_left
      · have c2b : (q.role == 2) = false := by simpa using c2
        have HZ := Lib.hid (HQ.out fun h => c2 h.2.1)
        clear c1 c2
        go_wp2
        go_roundg gh
        case measure => omega
        case rel => exact ⟨k + 1, by omega, by go_num, by rw [HST.out, HZ.out]; exact HX.out, hS⟩
      rw [c2] at r9
      cases c3 : q.edge with
      | true =>
        rw [c3] at r8
        have HZ := Lib.hid (HQ.out fun h => by have := h.2.2.1; rw [c3] at this; cases this)
        clear c1 c2 c3
        go_wp2
        go_roundg gh
        case measure => omega
        case rel => exact ⟨k + 1, by omega, by go_num, by rw [HST.out, HZ.out]; exact HX.out, hS⟩
      | false =>
        rw [c3] at r8
        cases c4 : q.agreed with
        | true =>
          rw [c4] at r15
          have HZ := Lib.hid (HQ.out fun h => by have := h.2.2.2.1; rw [c4] at this; cases this)
          clear c1 c2 c3 c4
          go_wp2
          go_roundg gh
          case measure => omega
          case rel => exact ⟨k + 1, by omega, by go_num, by rw [HST.out, HZ.out]; exact HX.out, hS⟩
        | false =>
          rw [c4] at r15
          by_cases c5 : q.state = 0
          · have HZ := Lib.hid (HQ.out fun h => h.2.2.2.2 c5)
            rw [c5] at r10
            clear c1 c2 c3 c4 c5
            go_wp2
            go_roundg gh
            case measure => omega
            case rel => exact ⟨k + 1, by omega, by go_num, by rw [HST.out, HZ.out]; exact HX.out, hS⟩
          · have c5b : (q.state != 0) = true := by simpa using c5
            have HZ := Lib.hid (HP.out c1 c2 c3 c4 c5)
            clear c1 c2 c3 c4 c5
            go_wp2
            go_roundg gh
            case measure => omega
            case rel => exact ⟨k + 1, by omega, by go_num, by rw [HST.out, HZ.out]; exact H2.out, (hS.set_port HN0.out (k * 16) [(10, .int .i64 0), (13, .int .i64 15)]).set_flush k (.bool true)⟩
end Go.Proofs.Ytjnbjcieepooaac
