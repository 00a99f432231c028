/- again of package tree, by its contract. -/
import Derived.Test.YtjnbjcieepooaacTW4
namespace Go.Proofs.Ytjnbjcieepooaac
open Go.RowKit
set_option linter.unusedVariables false
set_option linter.unusedSimpArgs false

/-- The roles are laid anew. -/
theorem tree_sel {w w' : World} {B : TB} {T : Tr} {S : Way} {br bt : Nat} {cr ct : Array Value} (hT : TreeW w B T) (hS : selW T = S) (h : SelOut w' T.n T.id T.qs S br bt cr ct T.n T.n) (gr : w.heap.size ≤ br) (gt : w.heap.size ≤ bt) (hb : Below w.heap.size w w') :
    TreeW (setsW B.tb 0 [(2, .int .u64 S.v.root), (3, .int .u64 S.v.cost), (4, .int .u64 S.v.bridge), (5, .int .i64 S.v.port), (6, .int .i64 S.p), (7, .slice (some ⟨br, 0, none⟩) T.n T.n), (8, .slice (some ⟨bt, 0, none⟩) T.n T.n)] w') { B with br := br, bt := bt } (selF T)
    ∧ TStep w B T.n (setsW B.tb 0 [(2, .int .u64 S.v.root), (3, .int .u64 S.v.cost), (4, .int .u64 S.v.bridge), (5, .int .i64 S.v.port), (6, .int .i64 S.p), (7, .slice (some ⟨br, 0, none⟩) T.n T.n), (8, .slice (some ⟨bt, 0, none⟩) T.n T.n)] w') { B with br := br, bt := bt } := by
  have hT' := hT.below hb
  have hf := setsW_fr B.tb 0 [(2, .int .u64 S.v.root), (3, .int .u64 S.v.cost), (4, .int .u64 S.v.bridge), (5, .int .i64 S.v.port), (6, .int .i64 S.p), (7, .slice (some ⟨br, 0, none⟩) T.n T.n), (8, .slice (some ⟨bt, 0, none⟩) T.n T.n)] w'
  have hne := hT'.tb_ne
  have nr : br ≠ B.tb := by have := hT.t.lt; omega
  have nt : bt ≠ B.tb := by have := hT.t.lt; omega
  subst hS
  refine ⟨⟨?_, fun hn => ⟨(hT'.p hn).1, (hT'.p hn).2.fr hf (hne.1 hn).symm⟩, ?_, ?_, hT'.f.fr hf hne.2.2.2.1.symm, own_fr hT'.o hf fun k hk e => by subst e; exact hne.2.2.2.2 hk⟩, ?_⟩
  · have := ((((((hT'.t.set 2 (.int .u64 (selW T).v.root)).set 3 (.int .u64 (selW T).v.cost)).set 4 (.int .u64 (selW T).v.bridge)).set 5 (.int .i64 (selW T).v.port)).set 6 (.int .i64 (selW T).p)).set 7 (.slice (some ⟨br, 0, none⟩) T.n T.n)).set 8 (.slice (some ⟨bt, 0, none⟩) T.n T.n)
    simp only [treeC, List.setIfInBounds_toArray, List.set_cons_succ, List.set_cons_zero] at this
    exact this
  · refine ⟨cr, h.r.fr hf nr, ⟨fun i o hi ho => ?_, by rw [h.rs]; exact Nat.le_of_eq (Nat.mul_one _), fun i _ => rfl⟩⟩
    obtain rfl : o = 0 := by omega
    rw [Nat.mul_one, Nat.add_zero, h.rv i hi]
    have : (selF T).role_ i = roleF T.id T.qs (selW T) i := by
      unfold Tr.role_ selF
      have hi' : i < T.n := hi
      simp [List.getD, hi']
    rw [this]; rfl
  · refine ⟨ct, h.t.fr hf nt, ⟨fun i o hi ho => ?_, by rw [h.ts]; exact Nat.le_refl _, fun i _ => rfl⟩⟩
    have : (selF T).tell_ i = tellF T.id T.qs (selW T) i := by
      unfold Tr.tell_ selF
      have hi' : i < T.n := hi
      simp [List.getD, hi']
    rw [this]
    have ho4 : o = 0 ∨ o = 1 ∨ o = 2 ∨ o = 3 := by omega
    rcases ho4 with rfl | rfl | rfl | rfl
    · rw [Nat.add_zero, h.t0 i hi]; rfl
    · rw [h.t1 i hi]; rfl
    · rw [h.t2 i hi]; rfl
    · rw [h.t3 i hi]; rfl
  · refine ⟨(Fr.of_below (m := TOwn B T.n) hb).trans (hf.mono fun k _ e => .inl e), rfl, fun k hk => ?_⟩
    rcases hk with h | h | h | h | h | h
    · exact .inl (.inl h)
    · exact .inl (.inr (.inl h))
    · exact .inr (by show w.heap.size ≤ k; rw [h]; exact gr)
    · exact .inr (by show w.heap.size ≤ k; rw [h]; exact gt)
    · exact .inl (.inr (.inr (.inr (.inr (.inl h)))))
    · exact .inl (.inr (.inr (.inr (.inr (.inr h)))))
theorem TOk.fwd {T : Tr} {m : Nat} (h : TOk T m) (b : Bool) : TOk (fwdRoot (again2 T b).1) m :=
  h.step ((shp_again2 T b).trans (shp_fwdRoot _) (Nat.le_refl _)) ((rps_sel T).trans (by
    have h1 : Kep (selF T) (again1 T b).1 := by
      unfold again1
      dsimp only
      split
      · exact kep_upto (fun i T => kep_upd _ _ _) _ _
      · exact Kep.refl _
    have h2 : Kep (selF T) (again2 T b).1 := h1.trans (kep_uptoB (fun i X => by
      unfold roleStep
      split
      · exact Kep.refl _
      · exact kep_turn _ _ _) _ _)
    exact (h2.trans (kep_fwdRoot _)).rps)) (allP_fwdRoot clo_ok (allP_again2 clo_ok b h.ps)) (by omega)
theorem kep_again1 (T : Tr) (b : Bool) : Kep (selF T) (again1 T b).1 := by
  unfold again1
  dsimp only
  split
  · exact kep_upto (fun i T => kep_upd _ _ _) _ _
  · exact Kep.refl _
theorem kep_roles (k : Nat) (X : Tr × Bool) : Kep X.1 (uptoB roleStep k X).1 := kep_uptoB (fun i X => by
  unfold roleStep
  split
  · exact Kep.refl _
  · exact kep_turn _ _ _) _ _
theorem again1_yes {T : Tr} {b : Bool} (h : T.vec.root ≠ (selF T).vec.root ∨ T.vec.cost ≠ (selF T).vec.cost) : again1 T b = (upto noAgree (selF T).n (selF T), true) := if_pos h
theorem again1_no {T : Tr} {b : Bool} (h : ¬ (T.vec.root ≠ (selF T).vec.root ∨ T.vec.cost ≠ (selF T).vec.cost)) : again1 T b = (selF T, b) := if_neg h
theorem role_skip {k : Nat} {X : Tr × Bool} (h : X.1.role_ k = (X.1.at_ k).role) : roleStep k X = X := if_pos h
theorem role_do {k : Nat} {X : Tr × Bool} (h : ¬ X.1.role_ k = (X.1.at_ k).role) : roleStep k X = (turnF k (X.1.role_ k) X.1, true) := if_neg h
theorem shp_noAgrees (k : Nat) (T : Tr) : Shp T (upto noAgree k T) 0 := by have := shp_upto shp_noAgree k T; rwa [Nat.mul_zero] at this
theorem fwd_skip {T : Tr} (h : ¬ (0 ≤ T.rp ∧ (T.at_ T.rp.toNat).state ≠ 2)) : fwdRoot T = T := if_neg h
theorem fwd_do {T : Tr} (h : 0 ≤ T.rp ∧ (T.at_ T.rp.toNat).state ≠ 2) : fwdRoot T = forwardF T.rp.toNat T := if_pos h
theorem again2_rp (T : Tr) (b : Bool) : -1 ≤ (again2 T b).1.rp ∧ (again2 T b).1.rp < (T.n : Int) := by
  have h2 : Kep (selF T) (again2 T b).1 := (kep_again1 T b).trans (kep_roles _ _)
  rw [h2.rp]
  exact wayN_port T.id T.qs T.n
theorem again_eq (b : Bool) (T : Tr) : againF b T = if (again2 T b).2 = true then tellAll (fwdRoot (again2 T b).1) else fwdRoot (again2 T b).1 := rfl
set_option maxRecDepth 8000 in
set_option maxHeartbeats 8000000 in
theorem again_calls (T : Tr) (B : TB) (b : Bool) (hok : TOk T T.n) (w : World) (hT : TreeW w B T) (U : Tr) (hU : againF b T = U) :
    Calls Try.prog 33 #[.pointer (some ⟨B.tb, 0, none⟩), .bool b] w (TPost w B T.n U) := by
  have HU := Lib.hid hU
  have HO := Lib.hid hok
  have HT := Lib.hid hT
  have hn := hok.n
  have qt := hT.own
  have ft := hT.t.free
  have lt := hT.t.lt
  obtain ⟨S, hS⟩ : ∃ S, selW T = S := ⟨_, rfl⟩
  have HS := Lib.hid hS
  have HQ : Hid (∀ i, i < T.n → (T.qs i).ok) := Lib.hid fun i hi => (hok.ps i hi).p
  have HN := Lib.hid hn
  clear hU hok hT hS
  go_enter Try.func33, Try.ntmps33
  go_upto_region 1 with (fail)
  have hb4 := (Below.refl w.heap.size w).alloc (Nat.le_refl _) (.cells #[.int .u64 T.vec.root, .int .u64 T.vec.cost, .int .u64 T.vec.bridge, .int .i64 T.vec.port, .int .i64 T.rp, .slice (some ⟨B.br, 0, none⟩) T.n T.n, .slice (some ⟨B.bt, 0, none⟩) T.n T.n] 72)
  have hB4 := Blk.new w #[.int .u64 T.vec.root, .int .u64 T.vec.cost, .int .u64 T.vec.bridge, .int .i64 T.vec.port, .int .i64 T.rp, .slice (some ⟨B.br, 0, none⟩) T.n T.n, .slice (some ⟨B.bt, 0, none⟩) T.n T.n] 72
  change Code.wp _ _ _ _ (w.alloc (.cells #[.int .u64 T.vec.root, .int .u64 T.vec.cost, .int .u64 T.vec.bridge, .int .i64 T.vec.port, .int .i64 T.rp, .slice (some ⟨B.br, 0, none⟩) T.n T.n, .slice (some ⟨B.bt, 0, none⟩) T.n T.n] 72))
  generalize w.alloc (.cells #[.int .u64 T.vec.root, .int .u64 T.vec.cost, .int .u64 T.vec.bridge, .int .i64 T.vec.port, .int .i64 T.rp, .slice (some ⟨B.br, 0, none⟩) T.n T.n, .slice (some ⟨B.bt, 0, none⟩) T.n T.n] 72) = w4 at hb4 hB4 ⊢
  have e4 : w.heap.size ≠ B.tb := Nat.ne_of_gt lt
  have HT4 := Lib.hid (HT.out.below hb4)
  have hS4 := TStep.below B T.n hb4
  generalize w.heap.size = b4 at hB4 e4 ⊢
  clear qt ft lt
  go_upto_region 2 with (go_at_call 32; (with_reducible refine (selected_calls T B HN.out HQ.out _ HT4.out S HS.out).mono ?_); rintro e w' ⟨br, bt, cr, ct, rfl, ho, g1, g2, hb2⟩; have q4 := (HT4.out.below hb2).own; have f4 := ((HT4.out.below hb2).t.free))
  obtain ⟨h8, hS8a⟩ := tree_sel HT4.out HS.out ho g1 g2 hb2
  have hB8 := (hB4.below hb2 hB4.lt).fr (setsW_fr B.tb 0 [(2, .int .u64 S.v.root), (3, .int .u64 S.v.cost), (4, .int .u64 S.v.bridge), (5, .int .i64 S.v.port), (6, .int .i64 S.p), (7, .slice (some ⟨br, 0, none⟩) T.n T.n), (8, .slice (some ⟨bt, 0, none⟩) T.n T.n)] w') e4
  have hS8 := hS4.trans hS8a
  clear q4 f4 ho g1 g2 hb2 hS4 HT4 hb4 hB4 hS8a
  change Code.wp _ _ _ _ (setsW B.tb 0 [(2, .int .u64 S.v.root), (3, .int .u64 S.v.cost), (4, .int .u64 S.v.bridge), (5, .int .i64 S.v.port), (6, .int .i64 S.p), (7, .slice (some ⟨br, 0, none⟩) T.n T.n), (8, .slice (some ⟨bt, 0, none⟩) T.n T.n)] w')
  generalize setsW B.tb 0 [(2, .int .u64 S.v.root), (3, .int .u64 S.v.cost), (4, .int .u64 S.v.bridge), (5, .int .i64 S.v.port), (6, .int .i64 S.p), (7, .slice (some ⟨br, 0, none⟩) T.n T.n), (8, .slice (some ⟨bt, 0, none⟩) T.n T.n)] w' = W at h8 hS8 hB8 ⊢
  clear w4 w' 
  obtain ⟨V, hV⟩ : ∃ V, selF T = V := ⟨_, rfl⟩
  have VN : V.n = T.n := by rw [← hV]; rfl
  rw [hV] at h8
  have HV := Lib.hid hV
  obtain ⟨A1, hA1⟩ : ∃ A1, again1 T b = A1 := ⟨_, rfl⟩
  have HA1 := Lib.hid hA1
  have KA : Kep V A1.1 := by rw [← hV, ← hA1]; exact kep_again1 T b
  have SA : Shp T A1.1 0 := by rw [← hA1]; exact shp_again1 T b
  clear hV hA1
  have qt : ∀ o, W.cell? ⟨B.tb, o, none⟩ = #[Value.int .u64 V.id, .slice B.pa V.n B.pc, .int .u64 V.vec.root, .int .u64 V.vec.cost, .int .u64 V.vec.bridge, .int .i64 V.vec.port, .int .i64 V.rp, .slice (some ⟨br, 0, none⟩) V.n V.n, .slice (some ⟨bt, 0, none⟩) V.n V.n, .int .i64 V.hello, B.ov, .slice (some ⟨B.fb, 0, none⟩) V.n V.n][o]? := h8.own
  have q4 := hB8.cell
  have H8 := Lib.hid h8
  obtain ⟨D, hD⟩ : ∃ D, (decide (T.vec.root ≠ V.vec.root) || decide (T.vec.cost ≠ V.vec.cost)) = D := ⟨_, rfl⟩
  have HD := Lib.hid hD
  clear hD h8 hB8
  go_cut [40] (fun s40 wx => s40 = .bool D ∧ Below W.heap.size W wx)
  case first =>
    by_cases hr : T.vec.root = V.vec.root
    · have hrb : (T.vec.root != V.vec.root) = false := by simpa using hr
      by_cases hc : T.vec.cost = V.vec.cost
      · have hcb : (T.vec.cost != V.vec.cost) = false := by simpa using hc
        have HE : Hid (D = false) := by rw [← HD.out]; exact Lib.hid (by rw [decide_eq_false (by simpa using hr), decide_eq_false (by simpa using hc)]; rfl)
        clear hr hc
        go_quiet (fail)
        go_wp2
        go_meet
        exact ⟨by rw [HE.out], ⟨rfl, rfl, rfl, Nat.le_refl _, fun _ _ => rfl⟩⟩
      · have hcb : (T.vec.cost != V.vec.cost) = true := by simpa using hc
        have HE : Hid (D = true) := by rw [← HD.out]; exact Lib.hid (by rw [decide_eq_true hc, Bool.or_true])
        clear hr hc
        go_quiet (fail)
        go_wp2
        go_meet
        exact ⟨by rw [HE.out], ⟨rfl, rfl, rfl, Nat.le_refl _, fun _ _ => rfl⟩⟩
    · have hrb : (T.vec.root != V.vec.root) = true := by simpa using hr
      have HE : Hid (D = true) := by rw [← HD.out]; exact Lib.hid (by rw [decide_eq_true hr, Bool.true_or])
      clear hr
      go_quiet (fail)
      go_wp2
      go_meet
      exact ⟨by rw [HE.out], ⟨rfl, rfl, rfl, Nat.le_refl _, fun _ _ => rfl⟩⟩
  case rest =>
    obtain ⟨rfl, hbc⟩ := hcut
    have H8c := Lib.hid (H8.out.below hbc)
    have hS8c := hS8.trans (TStep.below _ _ hbc)
    clear qt q4 hS8 H8 hbc HS HT
    have qt : ∀ o, wc.cell? ⟨B.tb, o, none⟩ = #[Value.int .u64 V.id, .slice B.pa V.n B.pc, .int .u64 V.vec.root, .int .u64 V.vec.cost, .int .u64 V.vec.bridge, .int .i64 V.vec.port, .int .i64 V.rp, .slice (some ⟨br, 0, none⟩) V.n V.n, .slice (some ⟨bt, 0, none⟩) V.n V.n, .int .i64 V.hello, B.ov, .slice (some ⟨B.fb, 0, none⟩) V.n V.n][o]? := H8c.out.own
    go_upto_if 40 with (fail)
    go_cut [1] (fun s1 wx => ∃ B' : TB, s1 = .bool A1.2 ∧ TreeW wx B' A1.1 ∧ TStep w B T.n wx B')
    case first =>
      cases D with
      | false =>
        have HE : Hid (A1 = (V, b)) := by
          rw [← HA1.out, ← HV.out]
          exact Lib.hid (again1_no (by
            have h := HD.out
            rw [← HV.out] at h
            simp only [Bool.or_eq_false_iff, decide_eq_false_iff_not] at h
            rintro (x | x)
            · exact h.1 x
            · exact h.2 x))
        clear qt
        go_wp2
        go_meet
        exact ⟨_, by rw [HE.out], by rw [HE.out]; exact H8c.out, hS8c⟩
      | true =>
        have HE : Hid (A1 = (upto noAgree T.n V, true)) := by
          rw [← HA1.out, ← HV.out]
          exact Lib.hid (again1_yes (by
            have h := HD.out
            rw [← HV.out] at h
            simp only [Bool.or_eq_true, decide_eq_true_eq] at h
            exact h))
        rw [VN] at qt
        go_wp2
        clear qt
        go_loopg [46] T.n (fun gh s46 wx => ∃ k : Nat, k + gh = T.n ∧ s46 = .int .i64 (k : Int) ∧ TreeW wx { B with br := br, bt := bt } (upto noAgree k V) ∧ TStep w B T.n wx { B with br := br, bt := bt })
        case atStart => exact ⟨0, by omega, rfl, H8c.out, hS8c⟩
        case round =>
          obtain ⟨k, hkg, rfl, hX, hS⟩ := hrel
          have sh := shp_noAgrees k V
          cases gk with
          | zero =>
            have hkM : ¬ ((k : Int) < (T.n : Int)) := by omega
            obtain rfl : k = T.n := by omega
            have HX := Lib.hid hX
            clear hX sh
            go_wp2
            go_meet
            exact ⟨_, by rw [HE.out], by rw [HE.out]; exact HX.out, hS⟩
          | succ gh =>
            have hkM : (k : Int) < (T.n : Int) := by omega
            have HST : Hid (upto noAgree (k + 1) V = noAgree k (upto noAgree k V)) := Lib.hid rfl
            have sn := sh.n.trans VN
            generalize upto noAgree k V = X at hX sn HST
            have hkn : k < X.n := by rw [sn]; omega
            have hX0 : 0 < X.n := by omega
            have r15 : wr.cell? ⟨B.pb, k * 16 + 15, none⟩ = some (.bool (X.at_ k).agreed) := hX.row hkn 15 (by decide)
            have n1 : B.tb ≠ B.pb := (hX.nes hX0).tp
            have qt : ∀ o, wr.cell? ⟨B.tb, o, none⟩ = #[Value.int .u64 X.id, .slice (some ⟨B.pb, 0, none⟩) T.n B.pc, .int .u64 X.vec.root, .int .u64 X.vec.cost, .int .u64 X.vec.bridge, .int .i64 X.vec.port, .int .i64 X.rp, .slice (some ⟨br, 0, none⟩) T.n T.n, .slice (some ⟨bt, 0, none⟩) T.n T.n, .int .i64 X.hello, B.ov, .slice (some ⟨B.fb, 0, none⟩) T.n T.n][o]? := by
              have := hX.ownp hX0
              rw [sn] at this
              exact this
            have hfp : ∀ o, wr.frozen? ⟨B.pb, o, none⟩ = false := hX.rowfree hX0
            have H1 := Lib.hid (hX.set_port hkn [(15, .bool false)] { X.at_ k with agreed := false } (by simp) rfl)
            have hn0 : Hid (0 < T.n) := Lib.hid (by omega)
            clear hX sh sn hkn hX0
            go_wp2
            go_roundg gh
            case measure => omega
            case rel => exact ⟨k + 1, by omega, by go_num, by rw [HST.out]; exact H1.out, hS.set_port hn0.out (k * 16) [(15, .bool false)]⟩
    case rest =>
      obtain ⟨B1, rfl, hT1, hS1⟩ := hcut
      have AN : A1.1.n = T.n := KA.n.trans VN
      clear qt H8c hS8c
      obtain ⟨tb1, pb1, pc1, br1, bt1, fb1, pa1, ov1⟩ := B1
      obtain rfl : tb1 = B.tb := hS1.tb
      have qt := hT1.own
      dsimp only at qt
      rw [AN] at qt
      have HT1 := Lib.hid hT1
      clear hT1
      go_wp2
      clear qt
      have HX2 : Hid (again2 T b = uptoB roleStep T.n A1) := by
        have e : again2 T b = uptoB roleStep (again1 T b).1.n (again1 T b) := rfl
        rw [e, HA1.out, AN]
        exact Lib.hid rfl
      have SF : Hid (A1.1.flush.length = T.n) := Lib.hid (SA.fl.trans HO.out.fl)
      have HAN := Lib.hid AN
      clear AN SA KA VN
      go_loopg [62, 1] T.n (fun gh s62 s1 wx => ∃ (k : Nat) (B' : TB), k + gh = T.n ∧ s62 = .int .i64 (k : Int) ∧ s1 = .bool (uptoB roleStep k A1).2 ∧ TreeW wx B' (uptoB roleStep k A1).1 ∧ TStep w B T.n wx B')
      case atStart => exact ⟨0, _, by omega, rfl, rfl, HT1.out, hS1⟩
      case round =>
        obtain ⟨k, B', hkg, rfl, rfl, hX, hS⟩ := hrel
        have sh := shp_uptoB shp_role k A1
        have sn := sh.n.trans HAN.out
        have sf := sh.fl.trans SF.out
        obtain ⟨tb2, pb2, pc2, br2, bt2, fb2, pa2, ov2⟩ := B'
        obtain rfl : tb2 = B.tb := hS.tb
        cases gk with
        | zero =>
          have hkM : ¬ ((k : Int) < (T.n : Int)) := by omega
          obtain rfl : k = T.n := by omega
          have HZ2 := HX2.out
          generalize uptoB roleStep T.n A1 = X2 at hX sn sf HZ2 ⊢
          have HX2' := Lib.hid HZ2
          clear HZ2 HX2 sh
          have qt := hX.own
          dsimp only at qt
          rw [sn] at qt
          have hrp := again2_rp T b
          have hfw := HO.out.fwd b
          have hend := HU.out
          rw [again_eq] at hend
          rw [HX2'.out] at hrp hfw hend
          have fn : (fwdRoot X2.1).n = T.n := (shp_fwdRoot X2.1).n.trans sn
          have HFW := Lib.hid hfw
          have HEND := Lib.hid hend
          have FN := Lib.hid fn
          have SN := Lib.hid sn
          have SFX : Hid (X2.1.flush.length = X2.1.n) := Lib.hid (sf.trans sn.symm)
          have SN16 : Hid (X2.1.n ≤ 16) := by rw [sn]; exact HN
          have HX := Lib.hid hX
          obtain ⟨FW, hFWe⟩ : ∃ FW, fwdRoot X2.1 = FW := ⟨_, rfl⟩
          have HFWE := Lib.hid hFWe
          rw [hFWe] at HFW HEND FN
          obtain ⟨FB, hFB⟩ : ∃ FB, (decide (0 ≤ X2.1.rp) && decide ((X2.1.at_ X2.1.rp.toNat).state ≠ 2)) = FB := ⟨_, rfl⟩
          have HFB := Lib.hid hFB
          have HFT : Hid (FB = false → FW = X2.1) := Lib.hid fun h => by
            rw [← hFWe]; refine fwd_skip fun g => ?_
            rw [← hFB, decide_eq_true g.1, decide_eq_true g.2] at h
            cases h
          have HFD : Hid (FB = true → 0 ≤ X2.1.rp ∧ FW = forwardF X2.1.rp.toNat X2.1) := Lib.hid fun h => by
            rw [← hFB, Bool.and_eq_true, decide_eq_true_eq, decide_eq_true_eq] at h
            exact ⟨h.1, by rw [← hFWe]; exact fwd_do h⟩
          clear hfw hend fn hFWe hFB HX2'
          go_upto_region 19 with (fail)
          go_cut [107, 9] (fun s107 s9 wx => s107 = .bool FB ∧ s9 = .int .i64 X2.1.rp ∧ wx = wr)
          case first =>
            by_cases h0 : 0 ≤ X2.1.rp
            · obtain ⟨m, hm⟩ : ∃ m : Nat, X2.1.rp = (m : Int) := ⟨X2.1.rp.toNat, by omega⟩
              have hmn : m < X2.1.n := by omega
              have r10 : wr.cell? ⟨pb2, m * 16 + 10, none⟩ = some (.int .i64 (X2.1.at_ m).state) := hX.row hmn 10 (by decide)
              have hpa : pa2 = some ⟨pb2, 0, none⟩ := (hX.p (by omega)).1
              have hmi : (m : Int) < (T.n : Int) := by omega
              rw [hm, hpa] at qt
              rw [hm, Int.toNat_natCast] at HFB
              have hd : decide (0 ≤ (m : Int)) = true := decide_eq_true (by omega)
              rw [hd, Bool.true_and] at HFB
              rw [hm]
              have HM9 := Lib.hid hm
              clear hX sn sf hrp h0 hm hmn hpa hd HFT HFD
              by_cases hst : (X2.1.at_ m).state = 2
              · have hsb : ((X2.1.at_ m).state != 2) = false := by simpa using hst
                rw [decide_eq_false (by simpa using hst)] at HFB
                clear hst
                go_wp2
                go_meet
                exact ⟨by rw [← HFB.out], by rw [HM9.out], rfl⟩
              · have hsb : ((X2.1.at_ m).state != 2) = true := by simpa using hst
                rw [decide_eq_true hst] at HFB
                clear hst
                go_wp2
                go_meet
                exact ⟨by rw [← HFB.out], by rw [HM9.out], rfl⟩
            · have hd : decide (0 ≤ X2.1.rp) = false := decide_eq_false h0
              rw [hd, Bool.false_and] at HFB
              clear hX sn sf hd hrp HFT HFD
              go_wp2
              go_meet
              exact ⟨by rw [← HFB.out], rfl, rfl⟩
          case rest =>
            obtain ⟨rfl, rfl, rfl⟩ := hcut
            clear qt hX sn sf
            go_upto_if 107 with (fail)
            go_cut [9] (fun s9 wx => ∃ B' : TB, TreeW wx B' FW ∧ TStep w B T.n wx B')
            case first =>
              cases FB with
              | false =>
                have hE : Hid (FW = X2.1) := Lib.hid (HFT.out rfl)
                go_wp2
                go_meet
                exact ⟨_, by rw [hE.out]; exact HX.out, hS⟩
              | true =>
                obtain ⟨h0, hE⟩ := HFD.out rfl
                obtain ⟨m, hm⟩ : ∃ m : Nat, X2.1.rp = (m : Int) := ⟨X2.1.rp.toNat, by omega⟩
                have HM : Hid (m < X2.1.n) := Lib.hid (by have := SN.out; omega)
                rw [hm, Int.toNat_natCast] at hE
                have HE2 : Hid (forwardF m X2.1 = FW) := Lib.hid hE.symm
                rw [hm]
                clear h0 hm hE hrp HFT HFD
                go_wp2_with (go_at_call 34; (with_reducible refine (forward_calls X2.1 _ m HM.out SN16.out SFX.out _ HX.out FW HE2.out).mono ?_); rintro e w' ⟨B3, rfl, hT', hS'⟩)
                rw [SN.out] at hS'
                go_meet
                exact ⟨B3, hT', hS.trans hS'⟩
            case rest =>
              obtain ⟨B3, hT3, hS3⟩ := hcut
              obtain ⟨tb3, pb3, pc3, br3, bt3, fb3, pa3, ov3⟩ := B3
              obtain rfl : tb3 = B.tb := hS3.tb
              have HT3 := Lib.hid hT3
              have HOK3 : Hid (TOk FW FW.n) := by rw [FN.out]; exact HFW
              obtain ⟨X2t, X2b⟩ := X2
              clear hT3 HFT HFD hrp
              cases X2b with
              | false =>
                have HE : Hid (FW = U) := by have h := HEND.out; rw [if_neg (by simp)] at h; exact h
                clear HEND
                go_wp2
                go_end0
                exact ⟨_, rfl, by rw [← HE.out]; exact HT3.out, hS3⟩
              | true =>
                have HE : Hid (tellAll FW = U) := by have h := HEND.out; rw [if_pos rfl] at h; exact h
                clear HEND
                go_wp2_with (go_at_call 35; (with_reducible refine (tell_calls FW _ HOK3.out _ HT3.out U HE.out).mono ?_); rintro e w' ⟨v4, rfl, hT', hS'⟩)
                go_end0
                rw [FN.out] at hS'
                exact ⟨_, rfl, hT', hS3.trans hS'⟩
        | succ gh =>
          have hkM : (k : Int) < (T.n : Int) := by omega
          have HST : Hid (uptoB roleStep (k + 1) A1 = roleStep k (uptoB roleStep k A1)) := Lib.hid rfl
          generalize uptoB roleStep k A1 = X at hX sn sf HST ⊢
          have hkn : k < X.1.n := by rw [sn]; omega
          have hX0 : 0 < X.1.n := by omega
          have r9 : wr.cell? ⟨pb2, k * 16 + 9, none⟩ = some (.int .i64 (X.1.at_ k).role) := hX.row hkn 9 (by decide)
          have rr : wr.cell? ⟨br2, k, none⟩ = some (.int .i64 (X.1.role_ k)) := hX.role_at hkn
          have qt := hX.ownp hX0
          dsimp only at qt
          rw [sn] at qt
          have HX := Lib.hid hX
          have HKN := Lib.hid hkn
          have SN := Lib.hid sn
          have SFX : Hid (X.1.flush.length = X.1.n) := Lib.hid (sf.trans sn.symm)
          have SN16 : Hid (X.1.n ≤ 16) := by rw [sn]; exact HN
          clear hX sh sn sf hkn hX0
          by_cases hrr : X.1.role_ k = (X.1.at_ k).role
          · have hrb : (X.1.role_ k != (X.1.at_ k).role) = false := by simpa using hrr
            have HZ := Lib.hid (role_skip hrr)
            clear hrr
            go_wp2
            go_roundg gh
            case measure => omega
            case rel => exact ⟨k + 1, _, by omega, by go_num, by rw [HST.out, HZ.out], by rw [HST.out, HZ.out]; exact HX.out, hS⟩
          · have hrb : (X.1.role_ k != (X.1.at_ k).role) = true := by simpa using hrr
            obtain ⟨Y, hY⟩ : ∃ Y, turnF k (X.1.role_ k) X.1 = Y := ⟨_, rfl⟩
            have HZ : Hid (roleStep k X = (Y, true)) := by rw [← hY]; exact Lib.hid (role_do hrr)
            have HY := Lib.hid hY
            clear hrr hY
            go_wp2_with (go_at_call 51; (with_reducible refine (turn_calls X.1 _ k (X.1.role_ k) HKN.out SN16.out SFX.out _ HX.out Y HY.out).mono ?_); rintro e w' ⟨B3, rfl, hT', hS'⟩)
            rw [SN.out] at hS'
            go_roundg gh
            case measure => omega
            case rel => exact ⟨k + 1, B3, by omega, by go_num, by rw [HST.out, HZ.out], by rw [HST.out, HZ.out]; exact hT', hS.trans hS'⟩
end Go.Proofs.Ytjnbjcieepooaac
