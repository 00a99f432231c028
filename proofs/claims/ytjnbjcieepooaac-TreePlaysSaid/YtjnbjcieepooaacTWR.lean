/- Receive of package tree, by its contract. -/
import Derived.Test.YtjnbjcieepooaacTW7
import Derived.Test.YtjnbjcieepooaacTW8
namespace Go.Proofs.Ytjnbjcieepooaac
open Go.RowKit
set_option linter.unusedVariables false
set_option linter.unusedSimpArgs false

theorem chk_age {m : Msg} (h : chkF m = true) (hk : ¬ m.kind = 2) : 0 ≤ m.age ∧ m.age ≤ 65535 := by
  unfold chkF at h
  split at h
  · cases h
  · split at h
    · cases h
    · split at h
      · cases h
      · simp only [Bool.and_eq_true, ageB, decide_eq_true_eq] at h
        exact h.1.1.1.1
theorem receive_no {T : Tr} {x : Int} {m : Msg} (h : ¬ (0 ≤ x ∧ x < (T.n : Int) ∧ (T.at_ x.toNat).p.up = true ∧ chkF m = true)) : receiveF x m T = T := if_neg h
theorem receive_yes {T : Tr} {i : Nat} {m : Msg} (hi : i < T.n) (hu : (T.at_ i).p.up = true) (hc : chkF m = true) : receiveF (i : Int) m T =
    if m.kind = 2 then noticeF i (T.upd i { T.at_ i with edge := false }) else if m.kind = 1 ∧ m.role ≠ 3 then answerF i m (T.upd i { T.at_ i with edge := false }) else changeF i m (replyF i m (hearF i m (T.upd i { T.at_ i with edge := false }))) := by
  unfold receiveF
  rw [if_pos ⟨by omega, by omega, by rw [Int.toNat_natCast]; exact hu, hc⟩]
  simp only [Int.toNat_natCast]
def heardB (q : TP) (m : Msg) : Bool := !q.p.has || supB m.v q.p.told
theorem hear_no {T : Tr} {i : Nat} {m : Msg} (h : heardB (T.at_ i) m = false) : hearF i m T = T := by
  unfold heardB at h
  rw [Bool.or_eq_false_iff] at h
  exact if_neg (by rintro (g | g); rw [g] at h; simp at h; rw [g] at h; simp at h)
theorem hear_yes {T : Tr} {i : Nat} {m : Msg} (h : heardB (T.at_ i) m = true) : hearF i m T = if m.proposal = true then proposedF i (againF false (T.upd i (hearP (T.at_ i) m))) else againF false (T.upd i (hearP (T.at_ i) m)) := by
  unfold heardB at h
  rw [Bool.or_eq_true] at h
  refine if_pos ?_
  rcases h with h | h
  · exact .inl (by simpa using h)
  · exact .inr h
theorem TOk.edge {T : Tr} {k : Nat} (h : TOk T k) (i : Nat) : TOk (T.upd i { T.at_ i with edge := false }) k :=
  h.step (shp_upd T i _) (kep_upd _ _ _).rps (h.ps.upd fun hi => clo_ok.edge _ (h.ps i hi)) (by omega)
theorem TOk.heard {T : Tr} {k : Nat} (h : TOk T k) (i : Nat) (m : Msg) (hm : m.v.ok) : TOk (T.upd i (hearP (T.at_ i) m)) k :=
  h.step (shp_upd T i _) (kep_upd _ _ _).rps (h.ps.upd fun hi => clo_ok.hear _ m hm (h.ps i hi)) (by omega)
theorem TOk.hear {T : Tr} {k : Nat} (h : TOk T (2 * T.n + 1 + k)) (i : Nat) (m : Msg) (hm : m.v.ok) : TOk (hearF i m T) k := h.step (shp_hear i m T) (rps_hear i m T) (allP_hear clo_ok i m hm h.ps) (Nat.le_refl _)
theorem reply_yes {T : Tr} {i : Nat} {m : Msg} (h : (decide ((T.at_ i).role = 2) && betB (T.tell_ i) m.v) = true) : replyF i m T = sendF i false T := by
  rw [Bool.and_eq_true, decide_eq_true_eq] at h; exact if_pos h
theorem reply_no {T : Tr} {i : Nat} {m : Msg} (h : (decide ((T.at_ i).role = 2) && betB (T.tell_ i) m.v) = false) : replyF i m T = T :=
  if_neg fun g => by rw [decide_eq_true g.1, g.2] at h; cases h
set_option maxRecDepth 8000 in
set_option maxHeartbeats 40000000 in
theorem receive_main (T : Tr) (B : TB) (i : Nat) (m : Msg) (hi : i < T.n) (hup : (T.at_ i).p.up = true) (hX : chkF m = true) (hok : TOk T (2 * T.n + 2)) (hm : m.v.ok) (w : World) (hT : TreeW w B T) (U : Tr) (hU : receiveF (i : Int) m T = U) :
    Calls Try.prog 30 #[.pointer (some ⟨B.tb, 0, none⟩), .int .i64 (i : Int), .agg #[.int .i64 m.kind, .int .u64 m.v.root, .int .u64 m.v.cost, .int .u64 m.v.bridge, .int .i64 m.v.port, .bool m.change, .bool m.ack, .bool m.proposal, .bool m.agreement, .bool m.learning, .bool m.forwarding, .int .i64 m.role, .int .i64 m.age, .int .i64 m.maxAge, .int .i64 m.hello, .int .i64 m.delay]] w (TPost w B T.n U) := by
  have HO := Lib.hid hok
  have HT := Lib.hid hT
  have hn := hok.n
  have hb0 := (Below.refl w.heap.size w).alloc (Nat.le_refl _) (.cells #[.int .i64 m.kind, .int .u64 m.v.root, .int .u64 m.v.cost, .int .u64 m.v.bridge, .int .i64 m.v.port, .bool m.change, .bool m.ack, .bool m.proposal, .bool m.agreement, .bool m.learning, .bool m.forwarding, .int .i64 m.role, .int .i64 m.age, .int .i64 m.maxAge, .int .i64 m.hello, .int .i64 m.delay] 41)
  have lt := hT.t.lt
  have hin : (i : Int) < (T.n : Int) := by omega
  have hn0 : 0 < T.n := by omega
  have qt := hT.ownp hn0
  have n1 := (hT.nes hn0).tp
  have ltp := (hT.p hn0).2.lt
  have r2 : w.cell? ⟨B.pb, i * 16 + 2, none⟩ = some (.bool (T.at_ i).p.up) := hT.row hi 2 (by decide)
  rw [hup] at r2
  have hchk : Hid (∀ w', Calls Try.prog 24 #[.agg #[.int .i64 m.kind, .int .u64 m.v.root, .int .u64 m.v.cost, .int .u64 m.v.bridge, .int .i64 m.v.port, .bool m.change, .bool m.ack, .bool m.proposal, .bool m.agreement, .bool m.learning, .bool m.forwarding, .int .i64 m.role, .int .i64 m.age, .int .i64 m.maxAge, .int .i64 m.hello, .int .i64 m.delay]] w' (ChkPost true w')) := Lib.hid fun w' => check_calls m true hX w'
  have hz := receive_yes hi hup hX
  rw [hU] at hz
  have hage : ¬ m.kind = 2 → 0 ≤ m.age ∧ m.age ≤ 65535 := chk_age hX
  have HAGE := Lib.hid hage
  have HB0 := Lib.hid hb0
  have HB5 := Lib.hid (Blk.new w #[.int .i64 m.kind, .int .u64 m.v.root, .int .u64 m.v.cost, .int .u64 m.v.bridge, .int .i64 m.v.port, .bool m.change, .bool m.ack, .bool m.proposal, .bool m.agreement, .bool m.learning, .bool m.forwarding, .int .i64 m.role, .int .i64 m.age, .int .i64 m.maxAge, .int .i64 m.hello, .int .i64 m.delay] 41)
  have HNB : Hid (¬ TOwn B T.n w.heap.size) := Lib.hid fun h => by have := hT.own_lt h; omega
  have HI := Lib.hid hi
  have HN0 := Lib.hid hn0
  have ho1 := hok.edge i
  have tn : (T.upd i { T.at_ i with edge := false }).n = T.n := upd_n _ _ _
  have hset := fun (W : World) (h : TreeW W B T) => h.set_port hi [(8, .bool false)] { T.at_ i with edge := false } (by simp) rfl
  generalize T.upd i { T.at_ i with edge := false } = T1 at hz ho1 tn hset
  have HZ := Lib.hid hz
  have O1 : Hid (TOk T1 (2 * T1.n + 2)) := by rw [tn]; exact Lib.hid ho1
  have T1N := Lib.hid tn
  have HSET := Lib.hid hset
  clear hU hok hT hup hX hage hb0 hz ho1 tn hset
  go_enter Try.func30, Try.ntmps30
  go_upto_region 2 with (go_at_call 24; (with_reducible refine (hchk.out _).mono ?_); rintro e w1 ⟨c, rfl, hc0, hcn, hb1⟩)
  have hbl := HB0.out.trans (hb1.mono HB0.out.size)
  have HT1 := Lib.hid (HT.out.below hbl)
  have hB5 := HB5.out.below hb1 HB5.out.lt
  have hS1 := TStep.below B T.n hbl
  have H2 := HSET.out _ HT1.out
  have hS2 := hS1.set_port HN0.out (i * 16) [(8, .bool false)]
  have hfs := setsW_fr B.pb (i * 16) [(8, .bool false)] w1
  have e5p : B.pb ≠ w.heap.size := Nat.ne_of_lt ltp
  have hB52 := hB5.fr hfs (fun e => e5p e.symm)
  clear qt r2 lt ltp hb1 hbl HB0 HB5 hc0 hcn
  have qt := HT1.out.ownp hn0
  have hfp := HT1.out.rowfree hn0
  have r8 : w1.cell? ⟨B.pb, i * 16 + 8, none⟩ = some (.bool (T.at_ i).edge) := HT1.out.row hi 8 (by decide)
  go_upto_region 4 with (fail)
  change Code.wp _ _ _ _ (setsW B.pb (i * 16) [(8, .bool false)] w1)
  generalize setsW B.pb (i * 16) [(8, .bool false)] w1 = W at H2 hS2 hB52 ⊢
  clear qt hfp r8 HT1 hB5 hS1 hfs
  generalize w.heap.size = b5 at hB52 HNB e5p ⊢
  have HW := Lib.hid H2
  have HB := Lib.hid hB52
  have HS := Lib.hid hS2
  have i1 : i < T1.n := by have := T1N.out; omega
  have hi1 := Lib.hid i1
  have q5 := hB52.cell
  clear H2 hB52 hS2 HT
  have N16 : Hid (T1.n ≤ 16) := Lib.hid (by have := T1N.out; omega)
  have NF := Lib.hid O1.out.fl
  by_cases hk2 : m.kind = 2
  · have HE : Hid (noticeF i T1 = U) := by have h := HZ.out; rw [if_pos hk2] at h; exact Lib.hid h.symm
    have k2b : (m.kind == 2) = true := by simpa using hk2
    clear hk2 HZ
    go_wp2_with (go_at_call 44; (with_reducible refine (notice_calls T1 B i hi1.out N16.out NF.out _ HW.out U HE.out).mono ?_); rintro e w' ⟨B3, rfl, hT', hS'⟩)
    refine bodyPost_ret (results_none rfl _ _ _) rfl ?_
    rw [T1N.out] at hS'
    exact ⟨B3, rfl, hT', HS.out.trans hS'⟩
  have k2b : (m.kind == 2) = false := by simpa using hk2
  have hz := HZ.out
  rw [if_neg hk2] at hz
  obtain ⟨ha0, ha1⟩ := HAGE.out hk2
  clear HZ hk2 HAGE
  by_cases hka : m.kind = 1 ∧ m.role ≠ 3
  · obtain ⟨hk1, hk3⟩ := hka
    rw [if_pos ⟨hk1, hk3⟩] at hz
    have HE : Hid (answerF i m T1 = U) := Lib.hid hz.symm
    have hans : Hid (∀ w', TreeW w' B T1 → Calls Try.prog 45 #[.pointer (some ⟨B.tb, 0, none⟩), .int .i64 (i : Int), .agg #[.int .i64 m.kind, .int .u64 m.v.root, .int .u64 m.v.cost, .int .u64 m.v.bridge, .int .i64 m.v.port, .bool m.change, .bool m.ack, .bool m.proposal, .bool m.agreement, .bool m.learning, .bool m.forwarding, .int .i64 m.role, .int .i64 m.age, .int .i64 m.maxAge, .int .i64 m.hello, .int .i64 m.delay]] w' (TPost w' B T1.n U)) := Lib.hid fun w' h => answer_calls T1 B i m hi1.out (O1.out.mono (by omega)) w' h U HE.out
    have k1b : (m.kind == 1) = true := by simpa using hk1
    have k3b : (m.role != 3) = true := by simpa using hk3
    clear hk1 hk3 hz
    go_wp2_with (go_at_call 45; (with_reducible refine (hans.out _ HW.out).mono ?_); rintro e w' ⟨B3, rfl, hT', hS'⟩)
    refine bodyPost_ret (results_none rfl _ _ _) rfl ?_
    rw [T1N.out] at hS'
    exact ⟨B3, rfl, hT', HS.out.trans hS'⟩
  rw [if_neg hka] at hz
  have HZ := Lib.hid hz
  have s1 : IntKind.i64.wrap (m.age + 256) = m.age + 256 := IntWalk.i64_in _ (by omega)
  obtain ⟨D, hD⟩ : ∃ D, heardB (T1.at_ i) m = D := ⟨_, rfl⟩
  have HD := Lib.hid hD
  have hsup : Hid ((T1.at_ i).p.has = true → ∀ w', Calls Try.prog 46 #[.agg #[.int .u64 m.v.root, .int .u64 m.v.cost, .int .u64 m.v.bridge, .int .i64 m.v.port], .agg #[.int .u64 (T1.at_ i).p.told.root, .int .u64 (T1.at_ i).p.told.cost, .int .u64 (T1.at_ i).p.told.bridge, .int .i64 (T1.at_ i).p.told.port]] w' fun e w2 => e = .returned (.bool D) ∧ Below w'.heap.size w' w2) :=
    Lib.hid fun h w' => super_calls m.v (T1.at_ i).p.told D (by rw [← hD]; unfold heardB; rw [h]; rfl) w'
  clear hz hD
  have hD0 : (T1.at_ i).p.has = false → D = true := fun h => by rw [← HD.out]; unfold heardB; rw [h]; rfl
  have HD0 := Lib.hid hD0
  clear hD0
  obtain ⟨T2, hT2⟩ : ∃ T2, hearF i m T1 = T2 := ⟨_, rfl⟩
  have HT2 := Lib.hid hT2
  have o2 : TOk T2 1 := by rw [← hT2]; exact (O1.out.mono (by omega)).hear i m hm
  have t2n : T2.n = T.n := by rw [← hT2]; exact (shp_hear i m T1).n.trans T1N.out
  have O2 := Lib.hid o2
  have T2N := Lib.hid t2n
  rw [hT2] at HZ
  clear hT2 o2 t2n
  go_upto_region 6 with (fail)
  go_cut [58] (fun s58 wx => s58 = .bool false ∧ wx = W)
  case first =>
    by_cases hk1 : m.kind = 1
    · have hk3 : m.role = 3 := Classical.byContradiction fun h => hka ⟨hk1, h⟩
      have k1b : (m.kind == 1) = true := by simpa using hk1
      have k3b : (m.role != 3) = false := by simpa using hk3
      clear hka hk1 hk3
      go_wp2
      go_meet
      exact ⟨rfl, rfl⟩
    · have k1b : (m.kind == 1) = false := by simpa using hk1
      clear hka hk1
      go_wp2
      go_meet
      exact ⟨rfl, rfl⟩
  case rest =>
    obtain ⟨rfl, rfl⟩ := hcut
    clear hka
    go_upto_block 0 with (fail)
    go_cut [2] (fun s2 wx => ∃ B' : TB, TreeW wx B' T2 ∧ TStep wc B T.n wx B')
    case first =>
      go_upto_region 9 with (fail)
      go_cut [66] (fun s66 wx => s66 = .bool D ∧ Below wc.heap.size wc wx)
      case first =>
        cases hhas : (T1.at_ i).p.has with
        | false =>
          have r3 : wc.cell? ⟨B.pb, i * 16 + 3, none⟩ = some (.bool false) := (HW.out.row i1 3 (by decide)).trans (congrArg (fun x => some (Value.bool x)) hhas)
          have HE := Lib.hid (HD0.out hhas)
          clear hhas
          go_quiet (fail)
          go_wp2
          go_meet
          exact ⟨by rw [HE.out], ⟨rfl, rfl, rfl, Nat.le_refl _, fun _ _ => rfl⟩⟩
        | true =>
          have HHS := Lib.hid hhas
          have HSUP := Lib.hid (hsup.out hhas)
          clear hhas
          refine wp_region_held_drew (S := fun w' => TreeW w' B T1 ∧ Blk w' b5 #[.int .i64 m.kind, .int .u64 m.v.root, .int .u64 m.v.cost, .int .u64 m.v.bridge, .int .i64 m.v.port, .bool m.change, .bool m.ack, .bool m.proposal, .bool m.agreement, .bool m.learning, .bool m.forwarding, .int .i64 m.role, .int .i64 m.age, .int .i64 m.maxAge, .int .i64 m.hello, .int .i64 m.delay] 41 ∧ Below wc.heap.size wc w') (by kernel_rfl) ⟨HW.out.drew, HB.out.drewN 1, (Below.refl _ _).drew⟩ (fun hS => ?_)
          refine wpAnyH_take (i := 0) (v := .pointer (some ⟨B.pb, i * 16, none⟩)) (show _ = some (Oper.mk (some 67) _ _ _ _ _) from rfl) (by kernel_rfl) (by kernel_rfl) (by kernel_rfl) (fun _ _ _ h => h) (Or.inl ⟨by rfl, by intro w hSw; go_simp⟩) hS ?_
          try simp only [Act.put, List.setIfInBounds_toArray, List.set_cons_zero, List.set_cons_succ]
          refine wpAnyH_take (i := 1) (v := .pointer (some ⟨B.pb, i * 16, none⟩)) (show _ = some (Oper.mk (some 68) _ _ _ _ _) from rfl) (by kernel_rfl) (by kernel_rfl) (by kernel_rfl) (fun _ _ _ h => h) (Or.inl ⟨by rfl, by intro w hSw; go_simp⟩) hS ?_
          try simp only [Act.put, List.setIfInBounds_toArray, List.set_cons_zero, List.set_cons_succ]
          refine wpAnyH_take (i := 2) (v := .pointer (some ⟨B.pb, i * 16, none⟩)) (show _ = some (Oper.mk (some 69) _ _ _ _ _) from rfl) (by kernel_rfl) (by kernel_rfl) (by kernel_rfl) (fun _ _ _ h => h) (Or.inl ⟨by rfl, by intro w hSw; go_simp⟩) hS ?_
          try simp only [Act.put, List.setIfInBounds_toArray, List.set_cons_zero, List.set_cons_succ]
          refine wpAnyH_take (i := 3) (v := .pointer (some ⟨B.pb, i * 16 + 3, none⟩)) (show _ = some (Oper.mk (some 70) _ _ _ _ _) from rfl) (by kernel_rfl) (by kernel_rfl) (by kernel_rfl) (fun _ _ _ h => h) (Or.inl ⟨by rfl, by intro w hSw; go_simp⟩) hS ?_
          try simp only [Act.put, List.setIfInBounds_toArray, List.set_cons_zero, List.set_cons_succ]
          refine wpAnyH_take (i := 4) (v := .bool true) (show _ = some (Oper.mk (some 71) _ _ _ _ _) from rfl) (by kernel_rfl) (by kernel_rfl) (by kernel_rfl) (fun _ _ _ h => h) (Or.inl ⟨by rfl, by intro w hSw; have r3 : w.cell? ⟨B.pb, i * 16 + 3, none⟩ = some (.bool true) := (hSw.1.row hi1.out 3 (by decide)).trans (congrArg (fun x => some (Value.bool x)) HHS.out); go_simp⟩) hS ?_
          try simp only [Act.put, List.setIfInBounds_toArray, List.set_cons_zero, List.set_cons_succ]
          refine wpAnyH_take (i := 5) (v := .bool false) (show _ = some (Oper.mk (some 72) _ _ _ _ _) from rfl) (by kernel_rfl) (by kernel_rfl) (by kernel_rfl) (fun _ _ _ h => h) (Or.inl ⟨by rfl, by intro w hSw; go_simp⟩) hS ?_
          try simp only [Act.put, List.setIfInBounds_toArray, List.set_cons_zero, List.set_cons_succ]
          refine wpAnyH_take (i := 6) (v := .bool false) (show _ = some (Oper.mk (some 73) _ _ _ _ _) from rfl) (by kernel_rfl) (by kernel_rfl) (by kernel_rfl) (fun _ _ _ h => h) (Or.inl ⟨by rfl, by intro w hSw; go_simp⟩) hS ?_
          try simp only [Act.put, List.setIfInBounds_toArray, List.set_cons_zero, List.set_cons_succ]
          refine wpAnyH_take (i := 7) (v := .pointer (some ⟨b5, 1, none⟩)) (show _ = some (Oper.mk (some 74) _ _ _ _ _) from rfl) (by kernel_rfl) (by kernel_rfl) (by kernel_rfl) (fun _ _ _ h => h) (Or.inl ⟨by rfl, by intro w hSw; go_simp⟩) hS ?_
          try simp only [Act.put, List.setIfInBounds_toArray, List.set_cons_zero, List.set_cons_succ]
          refine wpAnyH_take (i := 8) (v := .agg #[.int .u64 m.v.root, .int .u64 m.v.cost, .int .u64 m.v.bridge, .int .i64 m.v.port]) (show _ = some (Oper.mk (some 75) _ _ _ _ _) from rfl) (by kernel_rfl) (by kernel_rfl) (by kernel_rfl) (fun _ _ _ h => h) (Or.inl ⟨by rfl, by intro w hSw; have hc := hSw.2.1.cell; go_simp⟩) hS ?_
          try simp only [Act.put, List.setIfInBounds_toArray, List.set_cons_zero, List.set_cons_succ]
          refine wpAnyH_take (i := 9) (v := .pointer (some ⟨B.pb, i * 16, none⟩)) (show _ = some (Oper.mk (some 76) _ _ _ _ _) from rfl) (by kernel_rfl) (by kernel_rfl) (by kernel_rfl) (fun _ _ _ h => h) (Or.inl ⟨by rfl, by intro w hSw; go_simp⟩) hS ?_
          try simp only [Act.put, List.setIfInBounds_toArray, List.set_cons_zero, List.set_cons_succ]
          refine wpAnyH_take (i := 10) (v := .pointer (some ⟨B.pb, i * 16, none⟩)) (show _ = some (Oper.mk (some 77) _ _ _ _ _) from rfl) (by kernel_rfl) (by kernel_rfl) (by kernel_rfl) (fun _ _ _ h => h) (Or.inl ⟨by rfl, by intro w hSw; go_simp⟩) hS ?_
          try simp only [Act.put, List.setIfInBounds_toArray, List.set_cons_zero, List.set_cons_succ]
          refine wpAnyH_take (i := 11) (v := .pointer (some ⟨B.pb, i * 16, none⟩)) (show _ = some (Oper.mk (some 78) _ _ _ _ _) from rfl) (by kernel_rfl) (by kernel_rfl) (by kernel_rfl) (fun _ _ _ h => h) (Or.inl ⟨by rfl, by intro w hSw; go_simp⟩) hS ?_
          try simp only [Act.put, List.setIfInBounds_toArray, List.set_cons_zero, List.set_cons_succ]
          refine wpAnyH_take (i := 12) (v := .pointer (some ⟨B.pb, i * 16 + 4, none⟩)) (show _ = some (Oper.mk (some 79) _ _ _ _ _) from rfl) (by kernel_rfl) (by kernel_rfl) (by kernel_rfl) (fun _ _ _ h => h) (Or.inl ⟨by rfl, by intro w hSw; go_simp⟩) hS ?_
          try simp only [Act.put, List.setIfInBounds_toArray, List.set_cons_zero, List.set_cons_succ]
          refine wpAnyH_take (i := 13) (v := .agg #[.int .u64 (T1.at_ i).p.told.root, .int .u64 (T1.at_ i).p.told.cost, .int .u64 (T1.at_ i).p.told.bridge, .int .i64 (T1.at_ i).p.told.port]) (show _ = some (Oper.mk (some 80) _ _ _ _ _) from rfl) (by kernel_rfl) (by kernel_rfl) (by kernel_rfl) (fun _ _ _ h => h) (Or.inl ⟨by rfl, by intro w hSw; have r4 : w.cell? ⟨B.pb, i * 16 + 4, none⟩ = some (.int .u64 (T1.at_ i).p.told.root) := hSw.1.row hi1.out 4 (by decide); have r5 : w.cell? ⟨B.pb, i * 16 + 4 + 1, none⟩ = some (.int .u64 (T1.at_ i).p.told.cost) := hSw.1.row hi1.out 5 (by decide); have r6 : w.cell? ⟨B.pb, i * 16 + 4 + 2, none⟩ = some (.int .u64 (T1.at_ i).p.told.bridge) := hSw.1.row hi1.out 6 (by decide); have r7 : w.cell? ⟨B.pb, i * 16 + 4 + 3, none⟩ = some (.int .i64 (T1.at_ i).p.told.port) := hSw.1.row hi1.out 7 (by decide); go_simp⟩) hS ?_
          try simp only [Act.put, List.setIfInBounds_toArray, List.set_cons_zero, List.set_cons_succ]
          refine wpAnyH_ready (rs := [14]) (by kernel_rfl) (by simp) ?_
          refine AllReadyH.cons (show _ = some (Oper.mk (some 81) _ _ _ _ _) from rfl) (fun K hK => ?_) AllReadyH.nil
          go_simp
          go_at_call 46
          (with_reducible refine (HSUP.out _).mono ?_)
          rintro e w' ⟨rfl, hb1⟩
          dsimp only
          refine hK.out _ _ ⟨hS.1.below hb1, hS.2.1.below hb1 hS.2.1.lt, hS.2.2.trans (hb1.mono hS.2.2.size)⟩ (fun hS => ?_)
          clear hK K
          try simp only [Act.put, List.setIfInBounds_toArray, List.set_cons_zero, List.set_cons_succ]
          refine wpAnyH_take (i := 15) (v := .bool D) (show _ = some (Oper.mk (some 82) _ _ _ _ _) from rfl) (by kernel_rfl) (by kernel_rfl) (by kernel_rfl) (fun _ _ _ h => h) (Or.inl ⟨by rfl, by intro w hSw; go_simp⟩) hS ?_
          try simp only [Act.put, List.setIfInBounds_toArray, List.set_cons_zero, List.set_cons_succ]
          refine wpAnyH_take (i := 16) (v := .bool D) (show _ = some (Oper.mk (some 66) _ _ _ _ _) from rfl) (by kernel_rfl) (by kernel_rfl) (by kernel_rfl) (fun _ _ _ h => h) (Or.inl ⟨by rfl, by intro w hSw; go_simp⟩) hS ?_
          try simp only [Act.put, List.setIfInBounds_toArray, List.set_cons_zero, List.set_cons_succ]
          refine wpAnyH_done (by kernel_rfl) ?_ _
          go_wp2
          go_meet
          exact ⟨rfl, hS.2.2⟩
      case rest =>
        obtain ⟨rfl, hb9⟩ := hcut
        have Hwc := Lib.hid (HW.out.below hb9)
        have HB9 := Lib.hid (HB.out.below hb9 HB.out.lt)
        have HSB9 := Lib.hid (TStep.below B T.n hb9)
        have HNB1 : Hid (¬ TOwn B T1.n b5) := by rw [T1N.out]; exact HNB
        have HN1 : Hid (0 < T1.n) := Lib.hid (by have := T1N.out; omega)
        have e5n : b5 ≠ B.pb := fun e => e5p e.symm
        clear q5 hb9 HW HB HS
        have q5 := HB9.out.cell
        have ltb : b5 < wc.heap.size := HB9.out.lt
        have hbk : True := trivial
        · clear hbk
          cases D with
          | false =>
            have HE : Hid (T1 = T2) := by rw [← HT2.out]; exact Lib.hid (hear_no HD.out).symm
            clear q5
            go_wp2
            go_meet
            exact ⟨B, by rw [← HE.out]; exact Hwc.out, HSB9.out⟩
          | true =>
            have hhe := hear_yes HD.out
            rw [HT2.out] at hhe
            have oth := (O1.out.heard i m hm).mono (k := T1.n + (T1.n + 1)) (by omega)
            obtain ⟨TH, hTHe⟩ : ∃ TH, T1.upd i (hearP (T1.at_ i) m) = TH := ⟨_, rfl⟩
            have thn : TH.n = T1.n := by rw [← hTHe]; exact upd_n _ _ _
            rw [hTHe] at hhe oth
            rw [← thn] at oth
            have o3 := TOk.again (k := TH.n + 1) oth false
            obtain ⟨T3, hT3⟩ : ∃ T3, againF false TH = T3 := ⟨_, rfl⟩
            have t3n : T3.n = T1.n := by rw [← hT3]; exact (shp_again false TH).n.trans thn
            rw [hT3] at hhe o3
            have HHE := Lib.hid hhe
            have HTHe := Lib.hid hTHe
            have HT3 := Lib.hid hT3
            have OTH : Hid (TOk TH TH.n) := Lib.hid (oth.mono (by omega))
            have O3 : Hid (TOk T3 (T3.n + 1)) := by rw [t3n, ← thn]; exact Lib.hid o3
            have HI3 : Hid (i < T3.n) := Lib.hid (by rw [t3n]; exact i1)
            have THN := Lib.hid thn
            have T3N := Lib.hid t3n
            clear hhe oth hTHe thn o3 hT3 t3n
            go_upto_region 10 with (fail)
            obtain ⟨hb, hhb⟩ : ∃ hb, decide (m.age + 256 < m.maxAge) = hb := ⟨_, rfl⟩
            have HHB := Lib.hid hhb
            refine wp_region_held_drew (S := fun w' => Blk w' b5 #[.int .i64 m.kind, .int .u64 m.v.root, .int .u64 m.v.cost, .int .u64 m.v.bridge, .int .i64 m.v.port, .bool m.change, .bool m.ack, .bool m.proposal, .bool m.agreement, .bool m.learning, .bool m.forwarding, .int .i64 m.role, .int .i64 m.age, .int .i64 m.maxAge, .int .i64 m.hello, .int .i64 m.delay] 41 ∧ ∀ o, w'.cell? ⟨b5, o, none⟩ = (#[.int .i64 m.kind, .int .u64 m.v.root, .int .u64 m.v.cost, .int .u64 m.v.bridge, .int .i64 m.v.port, .bool m.change, .bool m.ack, .bool m.proposal, .bool m.agreement, .bool m.learning, .bool m.forwarding, .int .i64 m.role, .int .i64 m.age, .int .i64 m.maxAge, .int .i64 m.hello, .int .i64 m.delay] : Array Value)[o]?) (by kernel_rfl) (held_drew HB9.out) (fun hS => ?_)
            obtain ⟨w0, hw0⟩ : ∃ w0, wc.drew = w0 := ⟨_, rfl⟩
            have hT0 : TreeW w0 B T1 := by rw [← hw0]; exact Hwc.out.drew
            have hst0 : TStep wc B T1.n w0 B := by rw [← hw0]; exact TStep.below _ _ ((Below.refl _ _).drew)
            rw [hw0] at hS ⊢
            clear hw0
            have HT0 := Lib.hid hT0
            have HST0 := Lib.hid hst0
            have hfp := hT0.rowfree HN1.out
            have r3 : w0.cell? ⟨B.pb, i * 16 + 3, none⟩ = some (.bool (T1.at_ i).p.has) := hT0.row i1 3 (by decide)
            have r4 : w0.cell? ⟨B.pb, i * 16 + 4, none⟩ = some (.int .u64 (T1.at_ i).p.told.root) := hT0.row i1 4 (by decide)
            have r5 : w0.cell? ⟨B.pb, i * 16 + 4 + 1, none⟩ = some (.int .u64 (T1.at_ i).p.told.cost) := hT0.row i1 5 (by decide)
            have r6 : w0.cell? ⟨B.pb, i * 16 + 4 + 2, none⟩ = some (.int .u64 (T1.at_ i).p.told.bridge) := hT0.row i1 6 (by decide)
            have r7 : w0.cell? ⟨B.pb, i * 16 + 4 + 3, none⟩ = some (.int .i64 (T1.at_ i).p.told.port) := hT0.row i1 7 (by decide)
            have r11 : w0.cell? ⟨B.pb, i * 16 + 11, none⟩ = some (.int .i64 (T1.at_ i).age) := hT0.row i1 11 (by decide)
            have r12 : w0.cell? ⟨B.pb, i * 16 + 12, none⟩ = some (.int .i64 (T1.at_ i).left) := hT0.row i1 12 (by decide)
            clear hT0 hst0 q5 ltb
            refine wpAnyH_take (i := 0) (v := .pointer (some ⟨B.pb, i * 16, none⟩)) (show _ = some (Oper.mk (some 83) _ _ _ _ _) from rfl) (by kernel_rfl) (by kernel_rfl) (by kernel_rfl) (fun _ _ _ h => h) (Or.inl ⟨by rfl, by intro w hSw; go_simp⟩) hS ?_
            try simp only [Act.put, List.setIfInBounds_toArray, List.set_cons_zero, List.set_cons_succ]
            refine wpAnyH_take (i := 1) (v := .pointer (some ⟨B.pb, i * 16, none⟩)) (show _ = some (Oper.mk (some 84) _ _ _ _ _) from rfl) (by kernel_rfl) (by kernel_rfl) (by kernel_rfl) (fun _ _ _ h => h) (Or.inl ⟨by rfl, by intro w hSw; go_simp⟩) hS ?_
            try simp only [Act.put, List.setIfInBounds_toArray, List.set_cons_zero, List.set_cons_succ]
            refine wpAnyH_take (i := 2) (v := .pointer (some ⟨B.pb, i * 16, none⟩)) (show _ = some (Oper.mk (some 85) _ _ _ _ _) from rfl) (by kernel_rfl) (by kernel_rfl) (by kernel_rfl) (fun _ _ _ h => h) (Or.inl ⟨by rfl, by intro w hSw; go_simp⟩) hS ?_
            try simp only [Act.put, List.setIfInBounds_toArray, List.set_cons_zero, List.set_cons_succ]
            refine wpAnyH_take (i := 3) (v := .pointer (some ⟨B.pb, i * 16, none⟩)) (show _ = some (Oper.mk (some 86) _ _ _ _ _) from rfl) (by kernel_rfl) (by kernel_rfl) (by kernel_rfl) (fun _ _ _ h => h) (Or.inl ⟨by rfl, by intro w hSw; go_simp⟩) hS ?_
            try simp only [Act.put, List.setIfInBounds_toArray, List.set_cons_zero, List.set_cons_succ]
            refine wpAnyH_take (i := 4) (v := .int .i64 (m.age + 256)) (show _ = some (Oper.mk (some 87) _ _ _ _ _) from rfl) (by kernel_rfl) (by kernel_rfl) (by kernel_rfl) (fun _ _ _ h => h) (Or.inl ⟨by rfl, by intro w hSw; go_simp⟩) hS ?_
            try simp only [Act.put, List.setIfInBounds_toArray, List.set_cons_zero, List.set_cons_succ]
            refine wpAnyH_take (i := 5) (v := .pointer (some ⟨b5, 13, none⟩)) (show _ = some (Oper.mk (some 88) _ _ _ _ _) from rfl) (by kernel_rfl) (by kernel_rfl) (by kernel_rfl) (fun _ _ _ h => h) (Or.inl ⟨by rfl, by intro w hSw; go_simp⟩) hS ?_
            try simp only [Act.put, List.setIfInBounds_toArray, List.set_cons_zero, List.set_cons_succ]
            refine wpAnyH_take (i := 6) (v := .int .i64 m.maxAge) (show _ = some (Oper.mk (some 89) _ _ _ _ _) from rfl) (by kernel_rfl) (by kernel_rfl) (by kernel_rfl) (fun _ _ _ h => h) (Or.inl ⟨by rfl, by intro w hSw; have hc := hSw.2; go_simp⟩) hS ?_
            try simp only [Act.put, List.setIfInBounds_toArray, List.set_cons_zero, List.set_cons_succ]
            refine wpAnyH_take (i := 7) (v := .bool hb) (show _ = some (Oper.mk (some 90) _ _ _ _ _) from rfl) (by kernel_rfl) (by kernel_rfl) (by kernel_rfl) (fun _ _ _ h => h) (Or.inl ⟨by rfl, by intro w hSw; go_simp⟩) hS ?_
            try simp only [Act.put, List.setIfInBounds_toArray, List.set_cons_zero, List.set_cons_succ]
            refine wpAnyH_take (i := 8) (v := .pointer (some ⟨b5, 1, none⟩)) (show _ = some (Oper.mk (some 91) _ _ _ _ _) from rfl) (by kernel_rfl) (by kernel_rfl) (by kernel_rfl) (fun _ _ _ h => h) (Or.inl ⟨by rfl, by intro w hSw; go_simp⟩) hS ?_
            try simp only [Act.put, List.setIfInBounds_toArray, List.set_cons_zero, List.set_cons_succ]
            refine wpAnyH_take (i := 9) (v := .agg #[.int .u64 m.v.root, .int .u64 m.v.cost, .int .u64 m.v.bridge, .int .i64 m.v.port]) (show _ = some (Oper.mk (some 92) _ _ _ _ _) from rfl) (by kernel_rfl) (by kernel_rfl) (by kernel_rfl) (fun _ _ _ h => h) (Or.inl ⟨by rfl, by intro w hSw; have hc := hSw.2; go_simp⟩) hS ?_
            try simp only [Act.put, List.setIfInBounds_toArray, List.set_cons_zero, List.set_cons_succ]
            refine wpAnyH_take (i := 10) (v := .int .i64 (m.age + 256)) (show _ = some (Oper.mk (some 93) _ _ _ _ _) from rfl) (by kernel_rfl) (by kernel_rfl) (by kernel_rfl) (fun _ _ _ h => h) (Or.inl ⟨by rfl, by intro w hSw; go_simp⟩) hS ?_
            try simp only [Act.put, List.setIfInBounds_toArray, List.set_cons_zero, List.set_cons_succ]
            refine wpAnyH_take (i := 11) (v := .pointer (some ⟨B.pb, i * 16, none⟩)) (show _ = some (Oper.mk (some 94) _ _ _ _ _) from rfl) (by kernel_rfl) (by kernel_rfl) (by kernel_rfl) (fun _ _ _ h => h) (Or.inl ⟨by rfl, by intro w hSw; go_simp⟩) hS ?_
            try simp only [Act.put, List.setIfInBounds_toArray, List.set_cons_zero, List.set_cons_succ]
            refine wpAnyH_take (i := 12) (v := .pointer (some ⟨B.pb, i * 16, none⟩)) (show _ = some (Oper.mk (some 95) _ _ _ _ _) from rfl) (by kernel_rfl) (by kernel_rfl) (by kernel_rfl) (fun _ _ _ h => h) (Or.inl ⟨by rfl, by intro w hSw; go_simp⟩) hS ?_
            try simp only [Act.put, List.setIfInBounds_toArray, List.set_cons_zero, List.set_cons_succ]
            refine wpAnyH_take (i := 13) (v := .pointer (some ⟨B.pb, i * 16 + 3, none⟩)) (show _ = some (Oper.mk (some 96) _ _ _ _ _) from rfl) (by kernel_rfl) (by kernel_rfl) (by kernel_rfl) (fun _ _ _ h => h) (Or.inl ⟨by rfl, by intro w hSw; go_simp⟩) hS ?_
            try simp only [Act.put, List.setIfInBounds_toArray, List.set_cons_zero, List.set_cons_succ]
            refine wpAnyH_ready (rs := [14]) (by kernel_rfl) (by simp) ?_
            refine AllReadyH.cons (show _ = some (Oper.mk none _ _ _ _ _) from rfl) (fun K hK => ?_) AllReadyH.nil
            go_simp
            refine hK.out _ _ (held_set hS e5n _) (fun hS => ?_)
            clear hK K
            try simp only [Act.put, List.setIfInBounds_toArray, List.set_cons_zero, List.set_cons_succ]
            refine wpAnyH_take (i := 15) (v := .pointer (some ⟨B.pb, i * 16, none⟩)) (show _ = some (Oper.mk (some 97) _ _ _ _ _) from rfl) (by kernel_rfl) (by kernel_rfl) (by kernel_rfl) (fun _ _ _ h => h) (Or.inl ⟨by rfl, by intro w hSw; go_simp⟩) hS ?_
            try simp only [Act.put, List.setIfInBounds_toArray, List.set_cons_zero, List.set_cons_succ]
            refine wpAnyH_take (i := 16) (v := .pointer (some ⟨B.pb, i * 16, none⟩)) (show _ = some (Oper.mk (some 98) _ _ _ _ _) from rfl) (by kernel_rfl) (by kernel_rfl) (by kernel_rfl) (fun _ _ _ h => h) (Or.inl ⟨by rfl, by intro w hSw; go_simp⟩) hS ?_
            try simp only [Act.put, List.setIfInBounds_toArray, List.set_cons_zero, List.set_cons_succ]
            refine wpAnyH_take (i := 17) (v := .pointer (some ⟨B.pb, i * 16 + 4, none⟩)) (show _ = some (Oper.mk (some 99) _ _ _ _ _) from rfl) (by kernel_rfl) (by kernel_rfl) (by kernel_rfl) (fun _ _ _ h => h) (Or.inl ⟨by rfl, by intro w hSw; go_simp⟩) hS ?_
            try simp only [Act.put, List.setIfInBounds_toArray, List.set_cons_zero, List.set_cons_succ]
            refine wpAnyH_ready (rs := [18]) (by kernel_rfl) (by simp) ?_
            refine AllReadyH.cons (show _ = some (Oper.mk none _ _ _ _ _) from rfl) (fun K hK => ?_) AllReadyH.nil
            go_simp
            refine hK.out _ _ (held_set (held_set (held_set (held_set hS e5n _) e5n _) e5n _) e5n _) (fun hS => ?_)
            clear hK K
            try simp only [Act.put, List.setIfInBounds_toArray, List.set_cons_zero, List.set_cons_succ]
            refine wpAnyH_take (i := 19) (v := .pointer (some ⟨B.pb, i * 16, none⟩)) (show _ = some (Oper.mk (some 100) _ _ _ _ _) from rfl) (by kernel_rfl) (by kernel_rfl) (by kernel_rfl) (fun _ _ _ h => h) (Or.inl ⟨by rfl, by intro w hSw; go_simp⟩) hS ?_
            try simp only [Act.put, List.setIfInBounds_toArray, List.set_cons_zero, List.set_cons_succ]
            refine wpAnyH_take (i := 20) (v := .pointer (some ⟨B.pb, i * 16 + 11, none⟩)) (show _ = some (Oper.mk (some 101) _ _ _ _ _) from rfl) (by kernel_rfl) (by kernel_rfl) (by kernel_rfl) (fun _ _ _ h => h) (Or.inl ⟨by rfl, by intro w hSw; go_simp⟩) hS ?_
            try simp only [Act.put, List.setIfInBounds_toArray, List.set_cons_zero, List.set_cons_succ]
            refine wpAnyH_ready (rs := [21]) (by kernel_rfl) (by simp) ?_
            refine AllReadyH.cons (show _ = some (Oper.mk none _ _ _ _ _) from rfl) (fun K hK => ?_) AllReadyH.nil
            go_simp
            refine hK.out _ _ (held_set hS e5n _) (fun hS => ?_)
            clear hK K
            try simp only [Act.put, List.setIfInBounds_toArray, List.set_cons_zero, List.set_cons_succ]
            refine wpAnyH_take (i := 22) (v := .pointer (some ⟨B.pb, i * 16, none⟩)) (show _ = some (Oper.mk (some 102) _ _ _ _ _) from rfl) (by kernel_rfl) (by kernel_rfl) (by kernel_rfl) (fun _ _ _ h => h) (Or.inl ⟨by rfl, by intro w hSw; go_simp⟩) hS ?_
            try simp only [Act.put, List.setIfInBounds_toArray, List.set_cons_zero, List.set_cons_succ]
            refine wpAnyH_take (i := 23) (v := .pointer (some ⟨B.pb, i * 16 + 12, none⟩)) (show _ = some (Oper.mk (some 103) _ _ _ _ _) from rfl) (by kernel_rfl) (by kernel_rfl) (by kernel_rfl) (fun _ _ _ h => h) (Or.inl ⟨by rfl, by intro w hSw; go_simp⟩) hS ?_
            try simp only [Act.put, List.setIfInBounds_toArray, List.set_cons_zero, List.set_cons_succ]
            refine wpAnyH_ready (rs := [24]) (by kernel_rfl) (by simp) ?_
            refine AllReadyH.cons (show _ = some (Oper.mk none _ _ _ _ _) from rfl) (fun K hK => ?_) AllReadyH.nil
            go_simp
            refine hK.out _ _ (held_set hS e5n _) (fun hS => ?_)
            clear hK K
            try simp only [Act.put, List.setIfInBounds_toArray, List.set_cons_zero, List.set_cons_succ]
            refine wpAnyH_done (by kernel_rfl) ?_ _
            clear hS
            clear hhb
            go_upto_if 109 with (fail)
            go_cut [] (fun wx => TreeW wx B TH ∧ TStep wc B T1.n wx B ∧ Blk wx b5 #[.int .i64 m.kind, .int .u64 m.v.root, .int .u64 m.v.cost, .int .u64 m.v.bridge, .int .i64 m.v.port, .bool m.change, .bool m.ack, .bool m.proposal, .bool m.agreement, .bool m.learning, .bool m.forwarding, .int .i64 m.role, .int .i64 m.age, .int .i64 m.maxAge, .int .i64 m.hello, .int .i64 m.delay] 41)
            case first =>
              cases hb with
              | true =>
                have hlt : m.age + 256 < m.maxAge := of_decide_eq_true HHB.out
                have hcell : (hearP (T1.at_ i) m).cells = setsC [(3, .bool true), (4, .int .u64 m.v.root), (5, .int .u64 m.v.cost), (6, .int .u64 m.v.bridge), (7, .int .i64 m.v.port), (11, .int .i64 (m.age + 256)), (12, .int .i64 6)] (T1.at_ i).cells := by
                  unfold hearP
                  rw [decide_eq_true hlt, if_pos hlt]
                  rfl
                have hTH := HT0.out.set_port i1 [(3, .bool true), (4, .int .u64 m.v.root), (5, .int .u64 m.v.cost), (6, .int .u64 m.v.bridge), (7, .int .i64 m.v.port), (11, .int .i64 (m.age + 256)), (12, .int .i64 6)] (hearP (T1.at_ i) m) (by simp) hcell
                have hSH := HST0.out.set_port HN1.out (i * 16) [(3, .bool true), (4, .int .u64 m.v.root), (5, .int .u64 m.v.cost), (6, .int .u64 m.v.bridge), (7, .int .i64 m.v.port), (11, .int .i64 (m.age + 256)), (12, .int .i64 6)]
                have HTH : Hid (TreeW ((((((((((((((w0).setCell ⟨B.pb, i * 16 + 3, none⟩ (.bool true))).setCell ⟨B.pb, i * 16 + 4, none⟩ (.int .u64 m.v.root))).setCell ⟨B.pb, i * 16 + 4 + 1, none⟩ (.int .u64 m.v.cost))).setCell ⟨B.pb, i * 16 + 4 + 2, none⟩ (.int .u64 m.v.bridge))).setCell ⟨B.pb, i * 16 + 4 + 3, none⟩ (.int .i64 m.v.port))).setCell ⟨B.pb, i * 16 + 11, none⟩ (.int .i64 (m.age + 256)))).setCell ⟨B.pb, i * 16 + 12, none⟩ (.int .i64 6)) B TH) := Lib.hid (by rw [← HTHe.out]; exact hTH)
                have HSH : Hid (TStep wc B T1.n ((((((((((((((w0).setCell ⟨B.pb, i * 16 + 3, none⟩ (.bool true))).setCell ⟨B.pb, i * 16 + 4, none⟩ (.int .u64 m.v.root))).setCell ⟨B.pb, i * 16 + 4 + 1, none⟩ (.int .u64 m.v.cost))).setCell ⟨B.pb, i * 16 + 4 + 2, none⟩ (.int .u64 m.v.bridge))).setCell ⟨B.pb, i * 16 + 4 + 3, none⟩ (.int .i64 m.v.port))).setCell ⟨B.pb, i * 16 + 11, none⟩ (.int .i64 (m.age + 256)))).setCell ⟨B.pb, i * 16 + 12, none⟩ (.int .i64 6)) B) := Lib.hid hSH
                clear hcell hTH hSH hlt
                go_wp2
                go_meet
                exact ⟨HTH.out, HSH.out, HB9.out.fr HSH.out.fr HNB1.out⟩
              | false =>
                have hlt : ¬ m.age + 256 < m.maxAge := of_decide_eq_false HHB.out
                have hcell : (hearP (T1.at_ i) m).cells = setsC [(3, .bool false), (4, .int .u64 m.v.root), (5, .int .u64 m.v.cost), (6, .int .u64 m.v.bridge), (7, .int .i64 m.v.port), (11, .int .i64 (m.age + 256)), (12, .int .i64 6), (4, .int .u64 0), (5, .int .u64 0), (6, .int .u64 0), (7, .int .i64 0)] (T1.at_ i).cells := by
                  unfold hearP
                  rw [decide_eq_false hlt, if_neg hlt]
                  simp [setsC, TP.cells, v0]
                have hTH := HT0.out.set_port i1 [(3, .bool false), (4, .int .u64 m.v.root), (5, .int .u64 m.v.cost), (6, .int .u64 m.v.bridge), (7, .int .i64 m.v.port), (11, .int .i64 (m.age + 256)), (12, .int .i64 6), (4, .int .u64 0), (5, .int .u64 0), (6, .int .u64 0), (7, .int .i64 0)] (hearP (T1.at_ i) m) (by simp) hcell
                have hSH := HST0.out.set_port HN1.out (i * 16) [(3, .bool false), (4, .int .u64 m.v.root), (5, .int .u64 m.v.cost), (6, .int .u64 m.v.bridge), (7, .int .i64 m.v.port), (11, .int .i64 (m.age + 256)), (12, .int .i64 6), (4, .int .u64 0), (5, .int .u64 0), (6, .int .u64 0), (7, .int .i64 0)]
                have HTH : Hid (TreeW ((((((((((((((((((((((w0).setCell ⟨B.pb, i * 16 + 3, none⟩ (.bool false))).setCell ⟨B.pb, i * 16 + 4, none⟩ (.int .u64 m.v.root))).setCell ⟨B.pb, i * 16 + 4 + 1, none⟩ (.int .u64 m.v.cost))).setCell ⟨B.pb, i * 16 + 4 + 2, none⟩ (.int .u64 m.v.bridge))).setCell ⟨B.pb, i * 16 + 4 + 3, none⟩ (.int .i64 m.v.port))).setCell ⟨B.pb, i * 16 + 11, none⟩ (.int .i64 (m.age + 256)))).setCell ⟨B.pb, i * 16 + 12, none⟩ (.int .i64 6))).setCell ⟨B.pb, i * 16 + 4, none⟩ (.int .u64 0))).setCell ⟨B.pb, i * 16 + 4 + 1, none⟩ (.int .u64 0))).setCell ⟨B.pb, i * 16 + 4 + 2, none⟩ (.int .u64 0))).setCell ⟨B.pb, i * 16 + 4 + 3, none⟩ (.int .i64 0)) B TH) := Lib.hid (by rw [← HTHe.out]; exact hTH)
                have HSH : Hid (TStep wc B T1.n ((((((((((((((((((((((w0).setCell ⟨B.pb, i * 16 + 3, none⟩ (.bool false))).setCell ⟨B.pb, i * 16 + 4, none⟩ (.int .u64 m.v.root))).setCell ⟨B.pb, i * 16 + 4 + 1, none⟩ (.int .u64 m.v.cost))).setCell ⟨B.pb, i * 16 + 4 + 2, none⟩ (.int .u64 m.v.bridge))).setCell ⟨B.pb, i * 16 + 4 + 3, none⟩ (.int .i64 m.v.port))).setCell ⟨B.pb, i * 16 + 11, none⟩ (.int .i64 (m.age + 256)))).setCell ⟨B.pb, i * 16 + 12, none⟩ (.int .i64 6))).setCell ⟨B.pb, i * 16 + 4, none⟩ (.int .u64 0))).setCell ⟨B.pb, i * 16 + 4 + 1, none⟩ (.int .u64 0))).setCell ⟨B.pb, i * 16 + 4 + 2, none⟩ (.int .u64 0))).setCell ⟨B.pb, i * 16 + 4 + 3, none⟩ (.int .i64 0)) B) := Lib.hid hSH
                clear hcell hTH hSH hlt
                go_wp2
                go_meet
                exact ⟨HTH.out, HSH.out, HB9.out.fr HSH.out.fr HNB1.out⟩
            case rest =>
              obtain ⟨hTH, hSH, hBX⟩ := hcut
              have HTH := Lib.hid hTH
              have HSH := Lib.hid hSH
              clear hTH hSH hBX hfp r3 r4 r5 r6 r7 r11 r12
              cases hpr : m.proposal with
              | false =>
                have HT2e : Hid (T3 = T2) := by have h := HHE.out; rw [hpr, if_neg (by simp)] at h; exact Lib.hid h.symm
                go_wp2_with (first
                | (go_at_call 33; (with_reducible refine (again_calls TH B false OTH.out _ HTH.out T3 HT3.out).mono ?_); rintro e w3 ⟨⟨tb3, pb3, pc3, br3, bt3, fb3, pa3, ov3⟩, rfl, hT3, hS3⟩; obtain rfl : tb3 = B.tb := hS3.tb; rw [THN.out] at hS3; have HT3w := Lib.hid hT3; have hS3' := HSH.out.trans hS3; have q5 := (HB9.out.fr hS3'.fr HNB1.out).cell; clear hT3)
                | (go_at_call 47; (with_reducible refine (proposed_calls T3 _ i HI3.out O3.out _ HT3w.out T2 HPE.out).mono ?_); rintro e w4 ⟨B4, rfl, hT4, hS4⟩; rw [T3N.out] at hS4))
                go_meet
                exact ⟨_, by rw [← HT2e.out]; exact HT3w.out, HSB9.out.trans (by rw [← T1N.out]; exact hS3')⟩
              | true =>
                have HPE : Hid (proposedF i T3 = T2) := by have h := HHE.out; rw [hpr, if_pos rfl] at h; exact Lib.hid h.symm
                go_wp2_with (first
                | (go_at_call 33; (with_reducible refine (again_calls TH B false OTH.out _ HTH.out T3 HT3.out).mono ?_); rintro e w3 ⟨⟨tb3, pb3, pc3, br3, bt3, fb3, pa3, ov3⟩, rfl, hT3, hS3⟩; obtain rfl : tb3 = B.tb := hS3.tb; rw [THN.out] at hS3; have HT3w := Lib.hid hT3; have hS3' := HSH.out.trans hS3; have q5 := (HB9.out.fr hS3'.fr HNB1.out).cell; clear hT3)
                | (go_at_call 47; (with_reducible refine (proposed_calls T3 _ i HI3.out O3.out _ HT3w.out T2 HPE.out).mono ?_); rintro e w4 ⟨B4, rfl, hT4, hS4⟩; rw [T3N.out] at hS4))
                go_meet
                exact ⟨B4, hT4, HSB9.out.trans (by rw [← T1N.out]; exact hS3'.trans hS4)⟩
    case rest => as_aux_lemma =>
      obtain ⟨⟨tb2, pb2, pc2, br2, bt2, fb2, pa2, ov2⟩, hT2w, hS2w⟩ := hcut
      obtain rfl : tb2 = B.tb := hS2w.tb
      have HT2w := Lib.hid hT2w
      have hB10 := HB.out.fr hS2w.fr HNB.out
      have HB10 := Lib.hid hB10
      have HI2 : Hid (i < T2.n) := Lib.hid (by have := T2N.out; omega)
      have hin2 : (i : Int) < (T2.n : Int) := by have := T2N.out; omega
      have HS10 := Lib.hid (HS.out.trans hS2w)
      obtain ⟨V, hV⟩ : ∃ V, T2.tell_ i = V := ⟨_, rfl⟩
      obtain ⟨E, hE⟩ : ∃ E, (decide ((T2.at_ i).role = 2) && betB V m.v) = E := ⟨_, rfl⟩
      have HEE := Lib.hid hE
      have HVe := Lib.hid hV
      have HVr : Hid ((T2.tell_ i).cells[0]? = some (.int .u64 V.root)) := by rw [hV]; exact Lib.hid rfl
      have HVc : Hid ((T2.tell_ i).cells[1]? = some (.int .u64 V.cost)) := by rw [hV]; exact Lib.hid rfl
      have HVb : Hid ((T2.tell_ i).cells[2]? = some (.int .u64 V.bridge)) := by rw [hV]; exact Lib.hid rfl
      have HVp : Hid ((T2.tell_ i).cells[3]? = some (.int .i64 V.port)) := by rw [hV]; exact Lib.hid rfl
      have hbet : Hid ((T2.at_ i).role = 2 → ∀ w', Calls Try.prog 48 #[.agg #[.int .u64 V.root, .int .u64 V.cost, .int .u64 V.bridge, .int .i64 V.port], .agg #[.int .u64 m.v.root, .int .u64 m.v.cost, .int .u64 m.v.bridge, .int .i64 m.v.port]] w' fun e w2 => e = .returned (.bool E) ∧ Below w'.heap.size w' w2) :=
        Lib.hid fun h w' => better_calls V m.v E (by rw [← hE, decide_eq_true h]; rfl) w'
      have HS2w := Lib.hid hS2w
      clear q5 hT2w hS2w hB10 hV hE
      go_upto_region 16 with (fail)
      go_cut [143] (fun s143 wx => s143 = .bool E ∧ Below wc.heap.size wc wx)
      case first =>
        by_cases h2 : (T2.at_ i).role = 2
        rotate_left
        · have h2b : ((T2.at_ i).role == 2) = false := by simpa using h2
          have HE0 : Hid (E = false) := by rw [← HEE.out]; exact Lib.hid (by rw [decide_eq_false h2]; rfl)
          have qt := HT2w.out.ownp (by have := HI2.out; omega)
          dsimp only at qt
          have r9 : wc.cell? ⟨pb2, i * 16 + 9, none⟩ = some (.int .i64 (T2.at_ i).role) := HT2w.out.row HI2.out 9 (by decide)
          clear h2
          go_quiet (fail)
          go_wp2
          go_meet
          exact ⟨by rw [HE0.out], ⟨rfl, rfl, rfl, Nat.le_refl _, fun _ _ => rfl⟩⟩
        have HR2 := Lib.hid h2
        have HBET := Lib.hid (hbet.out h2)
        clear h2
        refine wp_region_held_drew (S := fun w' => TreeW w' ⟨B.tb, pb2, pc2, br2, bt2, fb2, pa2, ov2⟩ T2 ∧ Blk w' b5 #[.int .i64 m.kind, .int .u64 m.v.root, .int .u64 m.v.cost, .int .u64 m.v.bridge, .int .i64 m.v.port, .bool m.change, .bool m.ack, .bool m.proposal, .bool m.agreement, .bool m.learning, .bool m.forwarding, .int .i64 m.role, .int .i64 m.age, .int .i64 m.maxAge, .int .i64 m.hello, .int .i64 m.delay] 41 ∧ Below wc.heap.size wc w') (by kernel_rfl) ⟨HT2w.out.drew, HB10.out.drewN 1, (Below.refl _ _).drew⟩ (fun hS => ?_)
        refine wpAnyH_take (i := 0) (v := .pointer (some ⟨B.tb, 0, none⟩)) (show _ = some (Oper.mk (some 122) _ _ _ _ _) from rfl) (by kernel_rfl) (by kernel_rfl) (by kernel_rfl) (fun _ _ _ h => h) (Or.inl ⟨by rfl, by intro w hSw; go_simp⟩) hS ?_
        try simp only [Act.put, List.setIfInBounds_toArray, List.set_cons_zero, List.set_cons_succ]
        refine wpAnyH_take (i := 1) (v := .pointer (some ⟨B.tb, 0, none⟩)) (show _ = some (Oper.mk (some 123) _ _ _ _ _) from rfl) (by kernel_rfl) (by kernel_rfl) (by kernel_rfl) (fun _ _ _ h => h) (Or.inl ⟨by rfl, by intro w hSw; go_simp⟩) hS ?_
        try simp only [Act.put, List.setIfInBounds_toArray, List.set_cons_zero, List.set_cons_succ]
        refine wpAnyH_take (i := 2) (v := .pointer (some ⟨B.tb, 1, none⟩)) (show _ = some (Oper.mk (some 124) _ _ _ _ _) from rfl) (by kernel_rfl) (by kernel_rfl) (by kernel_rfl) (fun _ _ _ h => h) (Or.inl ⟨by rfl, by intro w hSw; go_simp⟩) hS ?_
        try simp only [Act.put, List.setIfInBounds_toArray, List.set_cons_zero, List.set_cons_succ]
        refine wpAnyH_take (i := 3) (v := .slice (some ⟨pb2, 0, none⟩) T2.n pc2) (show _ = some (Oper.mk (some 125) _ _ _ _ _) from rfl) (by kernel_rfl) (by kernel_rfl) (by kernel_rfl) (fun _ _ _ h => h) (Or.inl ⟨by rfl, by intro w hSw; have qt := hSw.1.ownp (by have := HI2.out; omega); dsimp only at qt; go_simp⟩) hS ?_
        try simp only [Act.put, List.setIfInBounds_toArray, List.set_cons_zero, List.set_cons_succ]
        refine wpAnyH_take (i := 4) (v := .int .i64 (i : Int)) (show _ = some (Oper.mk (some 126) _ _ _ _ _) from rfl) (by kernel_rfl) (by kernel_rfl) (by kernel_rfl) (fun _ _ _ h => h) (Or.inl ⟨by rfl, by intro w hSw; go_simp⟩) hS ?_
        try simp only [Act.put, List.setIfInBounds_toArray, List.set_cons_zero, List.set_cons_succ]
        refine wpAnyH_take (i := 5) (v := .pointer (some ⟨pb2, i * 16, none⟩)) (show _ = some (Oper.mk (some 127) _ _ _ _ _) from rfl) (by kernel_rfl) (by kernel_rfl) (by kernel_rfl) (fun _ _ _ h => h) (Or.inl ⟨by rfl, by intro w hSw; go_simp⟩) hS ?_
        try simp only [Act.put, List.setIfInBounds_toArray, List.set_cons_zero, List.set_cons_succ]
        refine wpAnyH_take (i := 6) (v := .pointer (some ⟨pb2, i * 16 + 9, none⟩)) (show _ = some (Oper.mk (some 128) _ _ _ _ _) from rfl) (by kernel_rfl) (by kernel_rfl) (by kernel_rfl) (fun _ _ _ h => h) (Or.inl ⟨by rfl, by intro w hSw; go_simp⟩) hS ?_
        try simp only [Act.put, List.setIfInBounds_toArray, List.set_cons_zero, List.set_cons_succ]
        refine wpAnyH_take (i := 7) (v := .int .i64 2) (show _ = some (Oper.mk (some 129) _ _ _ _ _) from rfl) (by kernel_rfl) (by kernel_rfl) (by kernel_rfl) (fun _ _ _ h => h) (Or.inl ⟨by rfl, by intro w hSw; have r9 : w.cell? ⟨pb2, i * 16 + 9, none⟩ = some (.int .i64 2) := (hSw.1.row HI2.out 9 (by decide)).trans (congrArg (fun x => some (Value.int .i64 x)) HR2.out); go_simp⟩) hS ?_
        try simp only [Act.put, List.setIfInBounds_toArray, List.set_cons_zero, List.set_cons_succ]
        refine wpAnyH_take (i := 8) (v := .bool true) (show _ = some (Oper.mk (some 130) _ _ _ _ _) from rfl) (by kernel_rfl) (by kernel_rfl) (by kernel_rfl) (fun _ _ _ h => h) (Or.inl ⟨by rfl, by intro w hSw; go_simp⟩) hS ?_
        try simp only [Act.put, List.setIfInBounds_toArray, List.set_cons_zero, List.set_cons_succ]
        refine wpAnyH_take (i := 9) (v := .bool true) (show _ = some (Oper.mk (some 131) _ _ _ _ _) from rfl) (by kernel_rfl) (by kernel_rfl) (by kernel_rfl) (fun _ _ _ h => h) (Or.inl ⟨by rfl, by intro w hSw; go_simp⟩) hS ?_
        try simp only [Act.put, List.setIfInBounds_toArray, List.set_cons_zero, List.set_cons_succ]
        refine wpAnyH_take (i := 10) (v := .pointer (some ⟨B.tb, 0, none⟩)) (show _ = some (Oper.mk (some 132) _ _ _ _ _) from rfl) (by kernel_rfl) (by kernel_rfl) (by kernel_rfl) (fun _ _ _ h => h) (Or.inl ⟨by rfl, by intro w hSw; go_simp⟩) hS ?_
        try simp only [Act.put, List.setIfInBounds_toArray, List.set_cons_zero, List.set_cons_succ]
        refine wpAnyH_take (i := 11) (v := .pointer (some ⟨B.tb, 0, none⟩)) (show _ = some (Oper.mk (some 133) _ _ _ _ _) from rfl) (by kernel_rfl) (by kernel_rfl) (by kernel_rfl) (fun _ _ _ h => h) (Or.inl ⟨by rfl, by intro w hSw; go_simp⟩) hS ?_
        try simp only [Act.put, List.setIfInBounds_toArray, List.set_cons_zero, List.set_cons_succ]
        refine wpAnyH_take (i := 12) (v := .pointer (some ⟨B.tb, 2, none⟩)) (show _ = some (Oper.mk (some 134) _ _ _ _ _) from rfl) (by kernel_rfl) (by kernel_rfl) (by kernel_rfl) (fun _ _ _ h => h) (Or.inl ⟨by rfl, by intro w hSw; go_simp⟩) hS ?_
        try simp only [Act.put, List.setIfInBounds_toArray, List.set_cons_zero, List.set_cons_succ]
        refine wpAnyH_take (i := 13) (v := .pointer (some ⟨B.tb, 8, none⟩)) (show _ = some (Oper.mk (some 135) _ _ _ _ _) from rfl) (by kernel_rfl) (by kernel_rfl) (by kernel_rfl) (fun _ _ _ h => h) (Or.inl ⟨by rfl, by intro w hSw; go_simp⟩) hS ?_
        try simp only [Act.put, List.setIfInBounds_toArray, List.set_cons_zero, List.set_cons_succ]
        refine wpAnyH_take (i := 14) (v := .slice (some ⟨bt2, 0, none⟩) T2.n T2.n) (show _ = some (Oper.mk (some 136) _ _ _ _ _) from rfl) (by kernel_rfl) (by kernel_rfl) (by kernel_rfl) (fun _ _ _ h => h) (Or.inl ⟨by rfl, by intro w hSw; have qt := hSw.1.ownp (by have := HI2.out; omega); dsimp only at qt; go_simp⟩) hS ?_
        try simp only [Act.put, List.setIfInBounds_toArray, List.set_cons_zero, List.set_cons_succ]
        refine wpAnyH_take (i := 15) (v := .int .i64 (i : Int)) (show _ = some (Oper.mk (some 137) _ _ _ _ _) from rfl) (by kernel_rfl) (by kernel_rfl) (by kernel_rfl) (fun _ _ _ h => h) (Or.inl ⟨by rfl, by intro w hSw; go_simp⟩) hS ?_
        try simp only [Act.put, List.setIfInBounds_toArray, List.set_cons_zero, List.set_cons_succ]
        refine wpAnyH_take (i := 16) (v := .pointer (some ⟨bt2, i * 4, none⟩)) (show _ = some (Oper.mk (some 138) _ _ _ _ _) from rfl) (by kernel_rfl) (by kernel_rfl) (by kernel_rfl) (fun _ _ _ h => h) (Or.inl ⟨by rfl, by intro w hSw; go_simp⟩) hS ?_
        try simp only [Act.put, List.setIfInBounds_toArray, List.set_cons_zero, List.set_cons_succ]
        refine wpAnyH_take (i := 17) (v := .agg #[.int .u64 V.root, .int .u64 V.cost, .int .u64 V.bridge, .int .i64 V.port]) (show _ = some (Oper.mk (some 139) _ _ _ _ _) from rfl) (by kernel_rfl) (by kernel_rfl) (by kernel_rfl) (fun _ _ _ h => h) (Or.inl ⟨by rfl, by intro w hSw; have t0 : w.cell? ⟨bt2, i * 4, none⟩ = some (.int .u64 V.root) := (hSw.1.l.cell i 0 HI2.out (by decide)).trans HVr.out; have t1 : w.cell? ⟨bt2, i * 4 + 1, none⟩ = some (.int .u64 V.cost) := (hSw.1.l.cell i 1 HI2.out (by decide)).trans HVc.out; have t2 : w.cell? ⟨bt2, i * 4 + 2, none⟩ = some (.int .u64 V.bridge) := (hSw.1.l.cell i 2 HI2.out (by decide)).trans HVb.out; have t3 : w.cell? ⟨bt2, i * 4 + 3, none⟩ = some (.int .i64 V.port) := (hSw.1.l.cell i 3 HI2.out (by decide)).trans HVp.out; go_simp⟩) hS ?_
        try simp only [Act.put, List.setIfInBounds_toArray, List.set_cons_zero, List.set_cons_succ]
        refine wpAnyH_take (i := 18) (v := .pointer (some ⟨b5, 1, none⟩)) (show _ = some (Oper.mk (some 140) _ _ _ _ _) from rfl) (by kernel_rfl) (by kernel_rfl) (by kernel_rfl) (fun _ _ _ h => h) (Or.inl ⟨by rfl, by intro w hSw; go_simp⟩) hS ?_
        try simp only [Act.put, List.setIfInBounds_toArray, List.set_cons_zero, List.set_cons_succ]
        refine wpAnyH_take (i := 19) (v := .agg #[.int .u64 m.v.root, .int .u64 m.v.cost, .int .u64 m.v.bridge, .int .i64 m.v.port]) (show _ = some (Oper.mk (some 141) _ _ _ _ _) from rfl) (by kernel_rfl) (by kernel_rfl) (by kernel_rfl) (fun _ _ _ h => h) (Or.inl ⟨by rfl, by intro w hSw; have hc := hSw.2.1.cell; go_simp⟩) hS ?_
        try simp only [Act.put, List.setIfInBounds_toArray, List.set_cons_zero, List.set_cons_succ]
        refine wpAnyH_ready (rs := [20]) (by kernel_rfl) (by simp) ?_
        refine AllReadyH.cons (show _ = some (Oper.mk (some 142) _ _ _ _ _) from rfl) (fun K hK => ?_) AllReadyH.nil
        go_simp
        go_at_call 48
        (with_reducible refine (HBET.out _).mono ?_)
        rintro e w' ⟨rfl, hb1⟩
        dsimp only
        refine hK.out _ _ ⟨hS.1.below hb1, hS.2.1.below hb1 hS.2.1.lt, hS.2.2.trans (hb1.mono hS.2.2.size)⟩ (fun hS => ?_)
        clear hK K
        try simp only [Act.put, List.setIfInBounds_toArray, List.set_cons_zero, List.set_cons_succ]
        refine wpAnyH_take (i := 21) (v := .bool E) (show _ = some (Oper.mk (some 143) _ _ _ _ _) from rfl) (by kernel_rfl) (by kernel_rfl) (by kernel_rfl) (fun _ _ _ h => h) (Or.inl ⟨by rfl, by intro w hSw; go_simp⟩) hS ?_
        try simp only [Act.put, List.setIfInBounds_toArray, List.set_cons_zero, List.set_cons_succ]
        refine wpAnyH_done (by kernel_rfl) ?_ _
        go_wp2
        go_meet
        exact ⟨rfl, hS.2.2⟩
      case rest =>
        obtain ⟨rfl, hb16⟩ := hcut
        have HT16 := Lib.hid (HT2w.out.below hb16)
        have HB16 := Lib.hid (HB10.out.below hb16 HB10.out.lt)
        have HS16 := Lib.hid (HS10.out.trans (TStep.below _ _ hb16))
        obtain ⟨T4, hT4⟩ : ∃ T4, replyF i m T2 = T4 := ⟨_, rfl⟩
        have hz4 := HZ.out
        rw [hT4] at hz4
        have HZ4 := Lib.hid hz4
        have o4 : T4.n = T.n ∧ T4.flush.length = T4.n := by
          have h := shp_reply i m T2
          rw [hT4] at h
          exact ⟨h.n.trans T2N.out, (h.fl.trans O2.out.fl).trans h.n.symm⟩
        have T4N := Lib.hid o4.1
        have HI4 : Hid (i < T4.n) := Lib.hid (by have := o4.1; omega)
        have N4 : Hid (T4.n ≤ 16) := Lib.hid (by have := o4.1; omega)
        have F4 := Lib.hid o4.2
        have hee := HEE.out
        rw [← HVe.out] at hee
        have HR0 : Hid (E = false → T4 = T2) := Lib.hid fun h => by rw [← hT4]; exact reply_no (hee.trans h)
        have HR1 : Hid (E = true → sendF i false T2 = T4) := Lib.hid fun h => by rw [← hT4]; exact (reply_yes (hee.trans h)).symm
        have HSS16 := Lib.hid (HS2w.out.trans (TStep.below _ _ hb16))
        clear hb16 hT4 hz4 o4 hee
        go_upto_if 143 with (fail)
        go_cut [] (fun wx => ∃ B' : TB, TreeW wx B' T4 ∧ TStep w B T.n wx B' ∧ Blk wx b5 #[.int .i64 m.kind, .int .u64 m.v.root, .int .u64 m.v.cost, .int .u64 m.v.bridge, .int .i64 m.v.port, .bool m.change, .bool m.ack, .bool m.proposal, .bool m.agreement, .bool m.learning, .bool m.forwarding, .int .i64 m.role, .int .i64 m.age, .int .i64 m.maxAge, .int .i64 m.hello, .int .i64 m.delay] 41)
        case first =>
          cases E with
          | false =>
            have HE : Hid (T2 = T4) := Lib.hid (HR0.out rfl).symm
            go_wp2
            go_meet
            exact ⟨_, by rw [← HE.out]; exact HT16.out, HS16.out, HB16.out⟩
          | true =>
            have HE := Lib.hid (HR1.out rfl)
            go_wp2_with (go_at_call 49; (with_reducible refine (send_calls T2 _ i false HI2.out O2.out _ HT16.out T4 HE.out).mono ?_); rintro e w' ⟨v', rfl, hT', hS'⟩; rw [T2N.out] at hS')
            go_meet
            exact ⟨_, hT', HS16.out.trans hS', HB.out.fr (HSS16.out.trans hS').fr HNB.out⟩
        case rest =>
          obtain ⟨⟨tb4, pb4, pc4, br4, bt4, fb4, pa4, ov4⟩, hT4, hS4, hB4⟩ := hcut
          obtain rfl : tb4 = B.tb := hS4.tb
          have q5 := hB4.cell
          have HT4 := Lib.hid hT4
          have HS4 := Lib.hid hS4
          clear hT4 hS4 hB4
          cases hch : m.change with
          | false =>
            have HE : Hid (T4 = U) := by have h := HZ4.out; unfold changeF at h; rw [hch, if_neg (by simp)] at h; exact Lib.hid h.symm
            go_wp2
            go_end0
            exact ⟨_, rfl, by rw [← HE.out]; exact HT4.out, HS4.out⟩
          | true =>
            have HE : Hid (noticeF i T4 = U) := by have h := HZ4.out; unfold changeF at h; rw [hch, if_pos rfl] at h; exact Lib.hid h.symm
            go_wp2_with (go_at_call 44; (with_reducible refine (notice_calls T4 _ i HI4.out N4.out F4.out _ HT4.out U HE.out).mono ?_); rintro e w' ⟨B5, rfl, hT', hS'⟩; rw [T4N.out] at hS')
            go_end0
            exact ⟨B5, rfl, hT', HS4.out.trans hS'⟩
set_option maxRecDepth 8000 in
set_option maxHeartbeats 8000000 in
theorem receive_calls (T : Tr) (B : TB) (x : Int) (m : Msg) (hok : TOk T (2 * T.n + 2)) (hm : m.v.ok) (w : World) (hT : TreeW w B T) (U : Tr) (hU : receiveF x m T = U) :
    Calls Try.prog 30 #[.pointer (some ⟨B.tb, 0, none⟩), .int .i64 x, .agg m.cells] w (TPost w B T.n U) := by
  have HU := Lib.hid hU
  have HO := Lib.hid hok
  have HT := Lib.hid hT
  have hn := hok.n
  have hb0 := (Below.refl w.heap.size w).alloc (Nat.le_refl _) (.cells #[.int .i64 m.kind, .int .u64 m.v.root, .int .u64 m.v.cost, .int .u64 m.v.bridge, .int .i64 m.v.port, .bool m.change, .bool m.ack, .bool m.proposal, .bool m.agreement, .bool m.learning, .bool m.forwarding, .int .i64 m.role, .int .i64 m.age, .int .i64 m.maxAge, .int .i64 m.hello, .int .i64 m.delay] 41)
  have HTb := Lib.hid (hT.below hb0)
  have HSb := Lib.hid (TStep.below B T.n hb0)
  have qt0 := hT.own
  have lt := hT.t.lt
  simp only [Msg.cells]
  by_cases h0 : x < 0
  · have HE : Hid (T = U) := by rw [← hU]; exact Lib.hid (receive_no (by omega)).symm
    clear hU hok hT HU HO hn hb0
    go_enter Try.func30, Try.ntmps30
    go_wp2
    refine bodyPost_ret (results_none rfl _ _ _) rfl ?_
    exact ⟨B, rfl, by rw [← HE.out]; exact HTb.out, HSb.out⟩
  by_cases h1 : x < (T.n : Int)
  rotate_left
  · have HE : Hid (T = U) := by rw [← hU]; exact Lib.hid (receive_no (by omega)).symm
    clear hU hok hT HU HO hn hb0
    go_enter Try.func30, Try.ntmps30
    go_wp2
    refine bodyPost_ret (results_none rfl _ _ _) rfl ?_
    exact ⟨B, rfl, by rw [← HE.out]; exact HTb.out, HSb.out⟩
  obtain ⟨i, rfl⟩ : ∃ i : Nat, x = (i : Int) := ⟨x.toNat, by omega⟩
  have hi : i < T.n := by omega
  have hn0 : 0 < T.n := by omega
  have qt := hT.ownp hn0
  have n1 := (hT.nes hn0).tp
  have ltp := (hT.p hn0).2.lt
  have hfp := hT.rowfree hn0
  have r2 : w.cell? ⟨B.pb, i * 16 + 2, none⟩ = some (.bool (T.at_ i).p.up) := hT.row hi 2 (by decide)
  have r8 : w.cell? ⟨B.pb, i * 16 + 8, none⟩ = some (.bool (T.at_ i).edge) := hT.row hi 8 (by decide)
  clear qt0 h0
  cases hup : (T.at_ i).p.up with
  | false =>
    have HE : Hid (T = U) := by rw [← hU]; exact Lib.hid (receive_no (by rw [Int.toNat_natCast]; exact fun h => by rw [hup] at h; cases h.2.2.1)).symm
    rw [hup] at r2
    clear hU hok hT HU HO hn hup hi hn0 hb0
    go_enter Try.func30, Try.ntmps30
    go_wp2
    refine bodyPost_ret (results_none rfl _ _ _) rfl ?_
    exact ⟨B, rfl, by rw [← HE.out]; exact HTb.out, HSb.out⟩
  | true =>
    rw [hup] at r2
    obtain ⟨X, hX⟩ : ∃ X, chkF m = X := ⟨_, rfl⟩
    have hchk : Hid (∀ w', Calls Try.prog 24 #[.agg #[.int .i64 m.kind, .int .u64 m.v.root, .int .u64 m.v.cost, .int .u64 m.v.bridge, .int .i64 m.v.port, .bool m.change, .bool m.ack, .bool m.proposal, .bool m.agreement, .bool m.learning, .bool m.forwarding, .int .i64 m.role, .int .i64 m.age, .int .i64 m.maxAge, .int .i64 m.hello, .int .i64 m.delay]] w' (ChkPost X w')) := Lib.hid fun w' => check_calls m X hX w'
    cases X with
    | false =>
      have HE : Hid (T = U) := by rw [← hU]; exact Lib.hid (receive_no (by rw [hX]; exact fun h => by cases h.2.2.2)).symm
      clear hU hok hT HU HO hn hup hi hn0 hX hb0
      go_enter Try.func30, Try.ntmps30
      go_wp2_with (go_at_call 24; (with_reducible refine (hchk.out _).mono ?_); rintro e w1 ⟨c, rfl, hc0, hcn, hb1⟩)
      refine bodyPost_ret (results_none rfl _ _ _) rfl ?_
      exact ⟨B, rfl, by rw [← HE.out]; exact HTb.out.below hb1, HSb.out.trans (TStep.below _ _ hb1)⟩
    | true =>
      exact receive_main T B i m hi hup hX hok hm w hT U hU
end Go.Proofs.Ytjnbjcieepooaac
