/- Again of the reference's tree. Conditions: none. -/
import Derived.Test.YtjnbjcieepooaacRG2
import Derived.Test.YtjnbjcieepooaacTW5
import Derived.Test.YtjnbjcieepooaacTJ
namespace Go.Proofs.Ytjnbjcieepooaac
open Go.RowKit
set_option linter.unusedVariables false
set_option linter.unusedSimpArgs false

theorem RefW.g6 {w : World} {B : RB} {T : Tr} (h : RefW w B T) {i : Nat} (hi : i < T.n) : w.cell? ⟨B.b 6, i, none⟩ = some (.bool (T.at_ i).agreed) := h.get hi (.inl (by omega)) rfl
/-- The roles, told one by one. -/
theorem roles_at {w : World} {base n : Nat} {a : Option Addr} {c : Nat} {g : Int} {ps : Nat → RPort} {S : Way} (h : w.ownsRow base 3 1 (.slice a n c) n (rolesL g ps S n)) (hn : 0 < n) :
    ∃ b, a = some ⟨b, 0, none⟩ ∧ InRow (.slice a n c) b ∧ ∀ i, i < n → w.cell? ⟨b, i, none⟩ = some (.int .i64 (roleF g ps S i)) := by
  obtain ⟨b, c', hv, h1, h2, h3, h4⟩ := own_at h hn
  simp only [Value.slice.injEq] at hv
  obtain ⟨rfl, _, rfl⟩ := hv
  refine ⟨b, rfl, rfl, fun i hi => ?_⟩
  rw [h4 i (by omega)]
  unfold rolesL
  simp [hi]
set_option maxRecDepth 8000 in
set_option maxHeartbeats 16000000 in
theorem ragain_calls (T : Tr) (B : RB) (tell : Bool) (hok : TOk T T.n) (w : World) (hT : RefW w B T) (U : Tr) (hU : againF tell T = U) :
    Calls Try.prog 37 #[.pointer (some ⟨B.tb, 0, none⟩), .bool tell] w (RPost w B T.n U) := by
  have hn := hok.n
  have HU := Lib.hid hU
  have HQOK : Hid (∀ i, i < T.n → (T.qs i).ok) := Lib.hid fun i hi => (hok.ps i hi).p
  have HOK := Lib.hid hok
  have qt := hT.own
  have HTD : Hid (∀ m, RefW (w.drewN m) B T) := Lib.hid fun m => hT.below (below_drewN w m)
  clear hU hok hT
  go_enter Try.func37, Try.ntmps37
  go_wp2
  go_quiet (fail)
  go_upto_region 2 with (go_at_call 36; (with_reducible refine (choose_calls T B hn HQOK.out _ (HTD.out _)).mono ?_); rintro e w1 ⟨B1, ar, cr, rfl, hor, hR1, hS1, hdis, hov⟩)
  have hS1' := (RStep.below B T.n (below_drewN w nq)).trans hS1
  have HB1 := Lib.hid hS1.tb
  have HDIS := Lib.hid hdis
  clear hS1 hdis hov qt HTD
  obtain ⟨X1, hX1⟩ : ∃ X1, again1 T tell = X1 := ⟨_, rfl⟩
  have HX1 := Lib.hid hX1
  have HS1 := Lib.hid hS1'
  have HR1 := Lib.hid hR1
  have HOR := Lib.hid hor
  have htb : B1.tb = B.tb := HB1.out
  have htb' := htb
  have sn : (selF T).n = T.n := rfl
  have qt : ∀ o, w1.cell? ⟨B.tb, o, none⟩ = (refC B1 (selF T))[o]? := by rw [← htb]; exact hR1.own
  unfold refC at qt
  rw [sn] at qt
  have HQT := Lib.hid qt
  clear hX1 hS1' hR1 hor htb
  have HBD := Lib.hid htb'
  clear htb'
  go_cut [36] (fun s36 wx => s36 = .bool (decide (T.vec.root ≠ (selF T).vec.root ∨ T.vec.cost ≠ (selF T).vec.cost)) ∧ wx = w1)
  case first =>
    by_cases h1 : (selF T).vec.root = T.vec.root
    · have h1b : ((selF T).vec.root != T.vec.root) = false := by rw [h1]; simp
      by_cases h2 : (selF T).vec.cost = T.vec.cost
      · have h2b : ((selF T).vec.cost != T.vec.cost) = false := by rw [h2]; simp
        have HD : Hid (decide (T.vec.root ≠ (selF T).vec.root ∨ T.vec.cost ≠ (selF T).vec.cost) = false) := Lib.hid (decide_eq_false fun h => h.elim (fun g => g h1.symm) (fun g => g h2.symm))
        clear h1 h2
        go_wp2
        go_meet
        exact ⟨by rw [HD.out], rfl⟩
      · have h2b : ((selF T).vec.cost != T.vec.cost) = true := by simpa using h2
        have HD : Hid (decide (T.vec.root ≠ (selF T).vec.root ∨ T.vec.cost ≠ (selF T).vec.cost) = true) := Lib.hid (decide_eq_true (.inr fun g => h2 g.symm))
        clear h1 h2
        go_wp2
        go_meet
        exact ⟨by rw [HD.out], rfl⟩
    · have h1b : ((selF T).vec.root != T.vec.root) = true := by simpa using h1
      have HD : Hid (decide (T.vec.root ≠ (selF T).vec.root ∨ T.vec.cost ≠ (selF T).vec.cost) = true) := Lib.hid (decide_eq_true (.inl fun g => h1 g.symm))
      clear h1
      go_wp2
      go_meet
      exact ⟨by rw [HD.out], rfl⟩
  case rest =>
    obtain ⟨rfl, hwc⟩ := hcut
    subst wc
    go_upto_if 36 with (fail)
    go_cut [1] (fun s1 wx => s1 = .bool X1.2 ∧ RefW wx B1 X1.1 ∧ RStep w B T.n wx B1 ∧ wx.ownsRow 0 3 1 (.slice ar T.n cr) T.n (rolesL T.id T.qs (selW T) T.n))
    case first => as_aux_lemma =>
      by_cases hd : T.vec.root ≠ (selF T).vec.root ∨ T.vec.cost ≠ (selF T).vec.cost
      · have HE : Hid ((upto noAgree T.n (selF T), true) = X1) := Lib.hid ((again1_yes (b := tell) hd).symm.trans HX1.out)
        rw [decide_eq_true hd]
        clear hd qt
        go_wp2
        go_loopg [7] T.n (fun gh s7 wx => ∃ k : Nat, k + gh = T.n ∧ s7 = .int .i64 (k : Int) ∧ RefW wx B1 (upto noAgree k (selF T)) ∧ RStep w B T.n wx B1 ∧ wx.ownsRow 0 3 1 (.slice ar T.n cr) T.n (rolesL T.id T.qs (selW T) T.n))
        case atStart => exact ⟨0, by omega, rfl, HR1.out, HS1.out, own_base HOR.out (Nat.zero_le _)⟩
        case round =>
          obtain ⟨k, hkg, rfl, hX, hS, hO⟩ := hrel
          have snk : (upto noAgree k (selF T)).n = T.n := (shp_upto shp_noAgree k (selF T)).n
          have HS := Lib.hid hS
          have HO := Lib.hid hO
          clear hS hO
          cases gk with
          | zero =>
            have hkM : ¬ ((k : Int) < (T.n : Int)) := by omega
            have hk : k = T.n := by omega
            have qt := hX.own
            rw [HBD.out, snk] at qt
            have HX := Lib.hid hX
            clear hX snk
            go_wp2
            go_meet
            exact ⟨by rw [← HE.out], by rw [← HE.out]; show RefW _ _ (upto noAgree T.n (selF T)); rw [← hk]; exact HX.out, HS.out, HO.out⟩
          | succ gh =>
            have hkM : (k : Int) < (T.n : Int) := by omega
            have HST : Hid (upto noAgree (k + 1) (selF T) = noAgree k (upto noAgree k (selF T))) := Lib.hid rfl
            generalize upto noAgree k (selF T) = X at hX snk HST
            have hkn : k < X.n := by omega
            have hX0 : 0 < X.n := by omega
            have hn0 : 0 < T.n := by omega
            have qt := hX.ownp hX0
            rw [HBD.out, snk] at qt
            have r6 := hX.g6 hkn
            have f6 := hX.free hX0 (f := 6) (.inl (by omega))
            have H1 := Lib.hid (hX.set_agreed hkn false)
            have HN0 := Lib.hid hn0
            clear hX snk hkn hX0 hn0
            go_wp2
            go_roundg gh
            case measure => omega
            case rel => exact ⟨k + 1, by omega, by go_num, by rw [HST.out]; exact H1.out, HS.out.set HN0.out (f := 6) (.inl (by omega)) k _, own_fr HO.out ((Fr.refl (fun j => j = B1.b 6) _).set (p := ⟨B1.b 6, k, none⟩) (.inl rfl) _) (fun j hj e => HDIS.out j hj (.inr (.inl ⟨HN0.out, 6, .inl (by omega), e⟩)))⟩
      · have HE : Hid ((selF T, tell) = X1) := Lib.hid ((again1_no (b := tell) hd).symm.trans HX1.out)
        rw [decide_eq_false hd]
        clear hd
        go_wp2
        go_meet
        exact ⟨by rw [← HE.out], by rw [← HE.out]; exact HR1.out, HS1.out, own_base HOR.out (Nat.zero_le _)⟩
    case rest =>
      obtain ⟨rfl, hX, hS, hO⟩ := hcut
      have x1n : X1.1.n = T.n := by rw [← HX1.out]; exact (shp_again1 T tell).n
      clear qt HR1 HS1 HOR HQT
      have HX := Lib.hid hX
      have HS := Lib.hid hS
      have HO := Lib.hid hO
      have HNX := Lib.hid x1n
      clear hX hS hO
      go_wp2
      go_loopg [1, 8] T.n (fun gh s1 s8 wx => ∃ k : Nat, k + gh = T.n ∧ s8 = .int .i64 (k : Int) ∧ s1 = .bool (uptoB roleStep k X1).2 ∧ RefW wx B1 (uptoB roleStep k X1).1 ∧ RStep w B T.n wx B1 ∧ wx.ownsRow 0 3 1 (.slice ar T.n cr) T.n (rolesL T.id T.qs (selW T) T.n))
      case atStart => exact ⟨0, by omega, rfl, rfl, HX.out, HS.out, HO.out⟩
      case round =>
        obtain ⟨k, hkg, rfl, rfl, hX, hS, hO⟩ := hrel
        have shk := shp_uptoB shp_role k X1
        have HSk := Lib.hid hS
        have HOk := Lib.hid hO
        clear hS
        cases gk with
        | succ gh =>
          have hkM : (k : Int) < (T.n : Int) := by omega
          have hkn' : k < T.n := by omega
          have HST : Hid (uptoB roleStep (k + 1) X1 = roleStep k (uptoB roleStep k X1)) := Lib.hid rfl
          have kk := (role_ats T.n X1 x1n k (by omega)).1
          have hro : (uptoB roleStep k X1).1.role_ k = roleF T.id T.qs (selW T) k := by
            have e1 : (uptoB roleStep k X1).1.role_ k = X1.1.role_ k := by unfold Tr.role_; rw [kk.roles]
            have e2 : X1.1.role_ k = (selF T).role_ k := by rw [← HX1.out]; unfold Tr.role_; rw [(smp_again1 T tell).k.roles]
            rw [e1, e2]
            exact selRole T k hkn'
          have sn := kk.n.trans x1n
          have sf := shk.fl
          obtain ⟨rb, rfl, hrin, hrc⟩ := roles_at hO (by omega)
          have hrk := hrc k hkn'
          rw [← hro] at hrk
          generalize uptoB roleStep k X1 = Y at hX sn sf hro HST hrk
          obtain ⟨X, tb⟩ := Y
          dsimp only at hX sn sf hro hrk
          have hkn : k < X.n := by omega
          have hX0 : 0 < X.n := by omega
          have hn0 : 0 < T.n := by omega
          have sf' : X.flush.length = X.n := by
            have e0 : X1.1.flush.length = T.flush.length := by rw [← HX1.out]; exact (shp_again1 T tell).fl
            have := HOK.out.fl
            omega
          obtain ⟨r, hr⟩ : ∃ r, X.role_ k = r := ⟨_, rfl⟩
          obtain ⟨q, hq⟩ : ∃ q, X.at_ k = q := ⟨_, rfl⟩
          rw [hr] at hrk
          have qt := hX.ownp hX0
          rw [HBD.out, sn] at qt
          have r9 := hX.g9 hkn
          rw [hq] at r9
          have HXd := Lib.hid hX.drew
          have HSd := Lib.hid HSk.out.drew
          have HOd := Lib.hid (own_below hO (below_drew1 wr))
          have HR := Lib.hid hr
          have HRO := Lib.hid (hro.symm.trans hr)
          have HQ := Lib.hid hq
          have SN := Lib.hid sn
          have SF := Lib.hid sf'
          clear hX sn sf sf' hro hr hq kk shk hrc hO hrin
          by_cases hre : r = q.role
          · have hreb : (r == q.role) = true := by rw [hre]; simp
            have HZ : Hid (roleStep k (X, tb) = (X, tb)) := Lib.hid (roleS_skip (by show X.role_ k = (X.at_ k).role; rw [HR.out, HQ.out]; exact hre))
            clear hre
            go_upto_region 11 with fail
            go_region
            generalize World.drew _ = W1 at HXd HSd HOd ⊢
            clear qt r9 hrk
            go_wp2
            go_roundg gh
            case measure => omega
            case rel => exact ⟨k + 1, by omega, by go_num, by rw [HST.out, HZ.out], by rw [HST.out, HZ.out]; exact HXd.out, HSd.out, HOd.out⟩
          · have hreb : (r == q.role) = false := by simpa using hre
            have HZ : Hid (roleStep k (X, tb) = (turnF k r X, true)) := Lib.hid (by rw [roleS_do (X := (X, tb)) (by show ¬ X.role_ k = (X.at_ k).role; rw [HR.out, HQ.out]; exact hre)]; show (turnF k (X.role_ k) X, true) = _; rw [HR.out])
            clear hre
            go_upto_region 11 with fail
            go_region
            generalize World.drew _ = W1 at HXd HSd HOd ⊢
            clear qt r9 hrk
            go_upto_region 13 with fail
            go_cut [] (fun wx => RefW wx B1 (X.upd k { q with role := r, state := 0, wait := 0, agreed := false, change := 0 }) ∧ RStep w B T.n wx B1 ∧ wx.ownsRow 0 3 1 (.slice (some ⟨rb, 0, none⟩) T.n cr) T.n (rolesL T.id T.qs (selW T) T.n))
            case first => as_aux_lemma =>
              have hX := HXd.out
              have qt := hX.ownp hX0
              rw [HBD.out, SN.out] at qt
              obtain ⟨rb', hv, hrin, hrc⟩ := roles_at HOd.out hn0
              simp only [Option.some.injEq, Addr.mk.injEq, and_true] at hv
              subst hv
              have hrk : W1.cell? ⟨rb, k, none⟩ = some (.int .i64 r) := by
                rw [hrc k hkn', HRO.out]
              have r9 := hX.g9 hkn
              have r10 := hX.g10 hkn
              have r13 := hX.g13 hkn
              have r6 := hX.g6 hkn
              have r14 := hX.g14 hkn
              have n9_10 := hX.ne hX0 9 10 (.inl (by omega)) (.inl (by omega)) (by decide)
              have n9_13 := hX.ne hX0 9 13 (.inl (by omega)) (.inl (by omega)) (by decide)
              have n9_6 := hX.ne hX0 9 6 (.inl (by omega)) (.inl (by omega)) (by decide)
              have n9_14 := hX.ne hX0 9 14 (.inl (by omega)) (.inl (by omega)) (by decide)
              have n10_13 := hX.ne hX0 10 13 (.inl (by omega)) (.inl (by omega)) (by decide)
              have n10_6 := hX.ne hX0 10 6 (.inl (by omega)) (.inl (by omega)) (by decide)
              have n10_14 := hX.ne hX0 10 14 (.inl (by omega)) (.inl (by omega)) (by decide)
              have n13_6 := hX.ne hX0 13 6 (.inl (by omega)) (.inl (by omega)) (by decide)
              have n13_14 := hX.ne hX0 13 14 (.inl (by omega)) (.inl (by omega)) (by decide)
              have n6_14 := hX.ne hX0 6 14 (.inl (by omega)) (.inl (by omega)) (by decide)
              have m9 := hX.nt hX0 9 (.inl (by omega))
              rw [HBD.out] at m9
              have f9 := hX.free hX0 (f := 9) (.inl (by omega))
              have m10 := hX.nt hX0 10 (.inl (by omega))
              rw [HBD.out] at m10
              have f10 := hX.free hX0 (f := 10) (.inl (by omega))
              have m13 := hX.nt hX0 13 (.inl (by omega))
              rw [HBD.out] at m13
              have f13 := hX.free hX0 (f := 13) (.inl (by omega))
              have m6 := hX.nt hX0 6 (.inl (by omega))
              rw [HBD.out] at m6
              have f6 := hX.free hX0 (f := 6) (.inl (by omega))
              have m14 := hX.nt hX0 14 (.inl (by omega))
              rw [HBD.out] at m14
              have f14 := hX.free hX0 (f := 14) (.inl (by omega))
              have h1 := hX.set_role hkn r
              have h2 := h1.set_state (i := k) (by rw [upd_n]; exact hkn) 0
              rw [upd_at X _ hkn, upd_upd] at h2
              have h3 := h2.set_wait (i := k) (by rw [upd_n]; exact hkn) 0
              rw [upd_at X _ hkn, upd_upd] at h3
              have h4 := h3.set_agreed (i := k) (by rw [upd_n]; exact hkn) false
              rw [upd_at X _ hkn, upd_upd] at h4
              have h5 := h4.set_change (i := k) (by rw [upd_n]; exact hkn) 0
              rw [upd_at X _ hkn, upd_upd, HQ.out] at h5
              have h6 : RefW (((((W1.setCell ⟨B1.b 9, k, none⟩ (.int .i64 r)).setCell ⟨B1.b 10, k, none⟩ (.int .i64 0)).setCell ⟨B1.b 13, k, none⟩ (.int .i64 0)).setCell ⟨B1.b 6, k, none⟩ (.bool false)).setCell ⟨B1.b 14, k, none⟩ (.int .i64 0)).drew B1 (X.upd k { q with role := r, state := 0, wait := 0, agreed := false, change := 0 }) := h5.drew
              have s5 := ((((((RStep.refl W1 B1 T.n).set hn0 (f := 9) (.inl (by omega)) k (.int .i64 r)).set hn0 (f := 10) (.inl (by omega)) k (.int .i64 0)).set hn0 (f := 13) (.inl (by omega)) k (.int .i64 0)).set hn0 (f := 6) (.inl (by omega)) k (.bool false)).set hn0 (f := 14) (.inl (by omega)) k (.int .i64 0)).drew
              have HS5 : Hid (RStep W1 B1 T.n (((((W1.setCell ⟨B1.b 9, k, none⟩ (.int .i64 r)).setCell ⟨B1.b 10, k, none⟩ (.int .i64 0)).setCell ⟨B1.b 13, k, none⟩ (.int .i64 0)).setCell ⟨B1.b 6, k, none⟩ (.bool false)).setCell ⟨B1.b 14, k, none⟩ (.int .i64 0)).drew B1) := Lib.hid s5
              clear h1 h2 h3 h4 h5 s5 hrc hrin
              go_region
              generalize World.drew _ = W2 at h6 HS5 ⊢
              clear qt r9 r10 r13 r6 r14 hrk n9_10 n9_13 n9_6 n9_14 n10_13 n10_6 n10_14 n13_6 n13_14 n6_14 m9 f9 m10 f10 m13 f13 m6 f6 m14 f14 hX
              go_wp2
              go_meet
              exact ⟨h6, HSd.out.trans HS5.out, own_fr HOd.out HS5.out.fr (fun j hj g => HDIS.out j hj g)⟩
            case rest => as_aux_lemma =>
              obtain ⟨h6, hS6, hO6⟩ := hcut
              obtain ⟨W2, hW2⟩ : ∃ x, x = wc := ⟨_, rfl⟩
              subst hW2
              clear HXd HSd HOd
              have x5n : (X.upd k { q with role := r, state := 0, wait := 0, agreed := false, change := 0 }).n = T.n := (upd_n _ _ _).trans SN.out
              have x5f : (X.upd k { q with role := r, state := 0, wait := 0, agreed := false, change := 0 }).flush.length = (X.upd k { q with role := r, state := 0, wait := 0, agreed := false, change := 0 }).n := by rw [upd_n]; exact SF.out
              have x5a : (X.upd k { q with role := r, state := 0, wait := 0, agreed := false, change := 0 }).at_ k = { q with role := r, state := 0, wait := 0, agreed := false, change := 0 } := upd_at X _ hkn
              have HTU : Hid (turnF k r X = if r = 1 then X.upd k (turnP q r) else (X.upd k (turnP q r)).fl k) := Lib.hid (by unfold turnF; rw [HQ.out])
              have HUU : Hid (∀ y, (X.upd k { q with role := r, state := 0, wait := 0, agreed := false, change := 0 }).upd k y = X.upd k y) := Lib.hid fun y => upd_upd _ _ _ _
              have x6n : (X.upd k (turnP q r)).n = T.n := (upd_n _ _ _).trans SN.out
              have x6f : (X.upd k (turnP q r)).flush.length = (X.upd k (turnP q r)).n := by rw [upd_n]; exact SF.out
              obtain ⟨X5, hX5⟩ : ∃ X5, X.upd k { q with role := r, state := 0, wait := 0, agreed := false, change := 0 } = X5 := ⟨_, rfl⟩
              have HX6a : Hid (r = 2 → q.edge = true → X5.upd k { X5.at_ k with state := 2 } = X.upd k (turnP q r)) := Lib.hid fun h2 he => by
                rw [← hX5, x5a, HUU.out]
                unfold turnP
                rw [if_pos ⟨h2, he⟩, if_neg (fun g => by rw [he] at g; exact absurd g.2 (by decide))]
              have HX6b : Hid (r = 2 → q.edge = false → X5.upd k { X5.at_ k with wait := 15 } = X.upd k (turnP q r)) := Lib.hid fun h2 he => by
                rw [← hX5, x5a, HUU.out]
                unfold turnP
                rw [if_neg (fun g => by rw [he] at g; exact absurd g.2 (by decide)), if_pos ⟨h2, he⟩]
              have HX6c : Hid (¬ r = 2 → X5 = X.upd k (turnP q r)) := Lib.hid fun h2 => by
                rw [← hX5]
                unfold turnP
                rw [if_neg (fun g => h2 g.1), if_neg (fun g => h2 g.1)]
              rw [hX5] at h6 x5n x5f x5a
              clear hX5 HUU
              obtain ⟨X6, hX6⟩ : ∃ X6, X.upd k (turnP q r) = X6 := ⟨_, rfl⟩
              rw [hX6] at HTU HX6a HX6b HX6c x6n x6f
              clear hX6
              have k5 : k < X5.n := by omega
              have z5 : 0 < X5.n := by omega
              have k6 : k < X6.n := by omega
              have z6 : 0 < X6.n := by omega
              obtain ⟨rb', hv, hrin, hrc⟩ := roles_at hO6 hn0
              simp only [Option.some.injEq, Addr.mk.injEq, and_true] at hv
              subst hv
              have hrk : W2.cell? ⟨rb, k, none⟩ = some (.int .i64 r) := by rw [hrc k hkn', HRO.out]
              have HRIN := Lib.hid hrin
              have H6 := Lib.hid h6
              have HS6 := Lib.hid hS6
              have HO6 := Lib.hid hO6
              have X5N := Lib.hid x5n
              have X5F := Lib.hid x5f
              have X5A := Lib.hid x5a
              have X6N := Lib.hid x6n
              have X6F := Lib.hid x6f
              have K5 := Lib.hid k5
              have Z5 := Lib.hid z5
              have K6 := Lib.hid k6
              have Z6 := Lib.hid z6
              have HN0 := Lib.hid hn0
              clear h6 hS6 hO6 x5n x5f x5a x6n x6f k5 z5 k6 z6 hrc hrin hkn hX0 hn0 hkn' SN SF HQ
              obtain ⟨D, hD⟩ : ∃ D, (decide (r = 2) && q.edge) = D := ⟨_, rfl⟩
              have HD := Lib.hid hD
              clear hD
              go_upto_region 14 with fail
              go_cut [117] (fun s117 wx => s117 = .bool D ∧ wx = W2)
              case first =>
                have qt := H6.out.ownp Z5.out
                rw [HBD.out, X5N.out] at qt
                have r5 := H6.out.g5 K5.out
                rw [X5A.out] at r5
                dsimp only at r5
                by_cases h2 : r = 2
                · have h2b : (r == 2) = true := by rw [h2]; rfl
                  have HE : Hid (D = q.edge) := Lib.hid (by rw [← HD.out, decide_eq_true h2]; rfl)
                  clear h2
                  go_wp2
                  go_meet
                  exact ⟨by rw [HE.out], rfl⟩
                · have h2b : (r == 2) = false := by simpa using h2
                  have HE : Hid (D = false) := Lib.hid (by rw [← HD.out, decide_eq_false h2]; rfl)
                  clear h2
                  go_wp2
                  go_meet
                  exact ⟨by rw [HE.out], rfl⟩
              case rest =>
                obtain ⟨rfl, rfl⟩ := hcut
                go_upto_if 117 with (fail)
                go_cut [] (fun wx => RefW wx B1 X6 ∧ RStep wc B1 T.n wx B1)
                case first =>
                  have qt := H6.out.ownp Z5.out
                  rw [HBD.out, X5N.out] at qt
                  have r10 := H6.out.g10 K5.out
                  have r13 := H6.out.g13 K5.out
                  have f10 := H6.out.free Z5.out (f := 10) (.inl (by omega))
                  have f13 := H6.out.free Z5.out (f := 13) (.inl (by omega))
                  cases D with
                  | true =>
                    have hd := HD.out
                    rw [Bool.and_eq_true, decide_eq_true_eq] at hd
                    have HE := Lib.hid (HX6a.out hd.1 hd.2)
                    have HV := Lib.hid (H6.out.set_state K5.out 2)
                    have HVS := Lib.hid ((RStep.refl wc B1 T.n).set HN0.out (f := 10) (.inl (by omega)) k (.int .i64 2))
                    clear hd
                    go_wp2
                    go_meet
                    exact ⟨by rw [← HE.out]; exact HV.out, HVS.out⟩
                  | false =>
                    by_cases h2 : r = 2
                    · have he : q.edge = false := by have hd := HD.out; rw [decide_eq_true h2] at hd; exact hd
                      have h2b : (r == 2) = true := by rw [h2]; rfl
                      have HE := Lib.hid (HX6b.out h2 he)
                      have HV := Lib.hid (H6.out.set_wait K5.out 15)
                      have HVS := Lib.hid ((RStep.refl wc B1 T.n).set HN0.out (f := 13) (.inl (by omega)) k (.int .i64 15))
                      clear h2 he
                      go_wp2
                      go_meet
                      exact ⟨by rw [← HE.out]; exact HV.out, HVS.out⟩
                    · have h2b : (r == 2) = false := by simpa using h2
                      have HE := Lib.hid (HX6c.out h2)
                      clear h2
                      go_wp2
                      go_meet
                      exact ⟨by rw [← HE.out]; exact H6.out, RStep.refl _ _ _⟩
                case rest =>
                  obtain ⟨h7, hS7⟩ := hcut
                  obtain ⟨W3, hW3⟩ : ∃ x, x = wc := ⟨_, rfl⟩
                  subst hW3
                  have hO7 := own_fr HO6.out hS7.fr (fun j hj g => HDIS.out j hj g)
                  have hS8 := HS6.out.trans hS7
                  obtain ⟨rb', hv, hrin, hrc⟩ := roles_at hO7 HN0.out
                  simp only [Option.some.injEq, Addr.mk.injEq, and_true] at hv
                  subst hv
                  have hrk2 : W3.cell? ⟨rb, k, none⟩ = some (.int .i64 r) := by rw [hrc k (by omega), HRO.out]
                  have qt := h7.ownp Z6.out
                  rw [HBD.out, X6N.out] at qt
                  have f7 := h7.free Z6.out (f := 7) (.inl (by omega))
                  have r7 := h7.g7 K6.out
                  have HV := Lib.hid (h7.set_flush K6.out X6F.out)
                  have HVS := Lib.hid ((RStep.refl W3 B1 T.n).set HN0.out (f := 7) (.inl (by omega)) k (.bool true))
                  have H7 := Lib.hid h7
                  have HS8 := Lib.hid hS8
                  have HO7 := Lib.hid hO7
                  clear h7 hS7 hO7 hS8 hrin hrc hrk H6 HS6 HO6 HX6a HX6b HX6c HD X5N X5F X5A K5 Z5
                  by_cases h1 : r = 1
                  · have h1b : (r != 1) = false := by rw [h1]; rfl
                    have HTF : Hid (turnF k r X = X6) := Lib.hid (by rw [HTU.out, if_pos h1])
                    clear h1
                    go_wp2
                    go_roundg gh
                    case measure => omega
                    case rel => exact ⟨k + 1, by omega, by go_num, by rw [HST.out, HZ.out], by rw [HST.out, HZ.out]; show RefW _ B1 (turnF k r X); rw [HTF.out]; exact H7.out, HS8.out, HO7.out⟩
                  · have h1b : (r != 1) = true := by simpa using h1
                    have HTF : Hid (turnF k r X = X6.fl k) := Lib.hid (by rw [HTU.out, if_neg h1])
                    clear h1
                    go_wp2
                    go_roundg gh
                    case measure => omega
                    case rel => exact ⟨k + 1, by omega, by go_num, by rw [HST.out, HZ.out], by rw [HST.out, HZ.out]; show RefW _ B1 (turnF k r X); rw [HTF.out]; exact HV.out, HS8.out.trans HVS.out, own_fr HO7.out HVS.out.fr (fun j hj g => HDIS.out j hj g)⟩
        | zero => as_aux_lemma =>
          have hkM : ¬ ((k : Int) < (T.n : Int)) := by omega
          obtain rfl : k = T.n := by omega
          have hz2 : again2 T tell = uptoB roleStep T.n X1 := by
            unfold again2
            rw [(shp_again1 T tell).n, HX1.out]
          have sn := shk.n.trans HNX.out
          have sf : (uptoB roleStep T.n X1).1.flush.length = T.n := by
            have e0 : X1.1.flush.length = T.flush.length := by rw [← HX1.out]; exact (shp_again1 T tell).fl
            rw [shk.fl, e0]; exact HOK.out.fl
          clear shk hO HOk
          generalize uptoB roleStep T.n X1 = X2 at hX sn sf hz2 ⊢
          have hrp := again2_rp T tell
          have hfw := HOK.out.fwd tell
          have hend := HU.out
          rw [again_eq] at hend
          rw [hz2] at hrp hfw hend
          have fn : (fwdRoot X2.1).n = T.n := (shp_fwdRoot X2.1).n.trans sn
          have qt := hX.own
          rw [HBD.out, sn] at qt
          have HFW := Lib.hid hfw
          have HEND := Lib.hid hend
          have FN := Lib.hid fn
          have SN := Lib.hid sn
          have SFX : Hid (X2.1.flush.length = X2.1.n) := Lib.hid (sf.trans sn.symm)
          have SN16 : Hid (X2.1.n ≤ 16) := by rw [sn]; exact Lib.hid hn
          have HX := Lib.hid hX
          obtain ⟨FW, hFWe⟩ : ∃ FW, fwdRoot X2.1 = FW := ⟨_, rfl⟩
          have HFWE := Lib.hid hFWe
          rw [hFWe] at HFW HEND FN
          obtain ⟨FB, hFB⟩ : ∃ FB, (decide (0 ≤ X2.1.rp) && decide ((X2.1.at_ X2.1.rp.toNat).state ≠ 2)) = FB := ⟨_, rfl⟩
          have HFB := Lib.hid hFB
          have HFT : Hid (FB = false → FW = X2.1) := Lib.hid fun h => by
            rw [← hFWe]; refine fwd_skip fun g => ?_
            rw [← hFB, decide_eq_true g.1, decide_eq_true g.2] at h
            cases h
          have HFD : Hid (FB = true → 0 ≤ X2.1.rp ∧ FW = forwardF X2.1.rp.toNat X2.1) := Lib.hid fun h => by
            rw [← hFB, Bool.and_eq_true, decide_eq_true_eq, decide_eq_true_eq] at h
            exact ⟨h.1, by rw [← hFWe]; exact fwd_do h⟩
          clear hfw hend fn hFWe hFB hz2
          go_upto_region 20 with (fail)
          go_cut [163] (fun s163 wx => s163 = .bool FB ∧ Below wr.heap.size wr wx)
          case first =>
            by_cases h0 : 0 ≤ X2.1.rp
            · obtain ⟨m, hm⟩ : ∃ m : Nat, X2.1.rp = (m : Int) := ⟨X2.1.rp.toNat, by omega⟩
              have hmn : m < X2.1.n := by omega
              have r10 := hX.g10 hmn
              have hpa := hX.a (by omega) 10 (.inl (by omega))
              have hmi : (m : Int) < (T.n : Int) := by omega
              rw [hm, hpa] at qt
              rw [hm, Int.toNat_natCast] at HFB
              have hd : decide (0 ≤ (m : Int)) = true := decide_eq_true (by omega)
              rw [hd, Bool.true_and] at HFB
              clear hX sn sf hrp h0 hm hmn hpa hd HFT HFD
              by_cases hst : (X2.1.at_ m).state = 2
              · have hsb : ((X2.1.at_ m).state != 2) = false := by simpa using hst
                rw [decide_eq_false (by simpa using hst)] at HFB
                clear hst
                go_quiet (fail)
                go_wp2
                go_meet
                exact ⟨by rw [← HFB.out], ⟨rfl, rfl, rfl, Nat.le_refl _, fun _ _ => rfl⟩⟩
              · have hsb : ((X2.1.at_ m).state != 2) = true := by simpa using hst
                rw [decide_eq_true hst] at HFB
                clear hst
                go_quiet (fail)
                go_wp2
                go_meet
                exact ⟨by rw [← HFB.out], ⟨rfl, rfl, rfl, Nat.le_refl _, fun _ _ => rfl⟩⟩
            · have hd : decide (0 ≤ X2.1.rp) = false := decide_eq_false h0
              rw [hd, Bool.false_and] at HFB
              clear hX sn sf hd hrp HFT HFD
              go_quiet (fail)
              go_wp2
              go_meet
              exact ⟨by rw [← HFB.out], ⟨rfl, rfl, rfl, Nat.le_refl _, fun _ _ => rfl⟩⟩
          case rest =>
            obtain ⟨rfl, hb⟩ := hcut
            obtain ⟨W2, hW2⟩ : ∃ x, x = wc := ⟨_, rfl⟩
            subst hW2
            have hX := HX.out.below hb
            have hS := HSk.out.trans (RStep.below B1 T.n hb)
            have qt := hX.own
            rw [HBD.out, SN.out] at qt
            have HX' := Lib.hid hX
            have HS' := Lib.hid hS
            clear hX hS HX HSk hb sn sf HFB
            go_upto_if 163 with (fail)
            go_cut [] (fun wx => RefW wx B1 FW ∧ RStep w B T.n wx B1)
            case first =>
              cases FB with
              | false =>
                have hE : Hid (FW = X2.1) := Lib.hid (HFT.out rfl)
                go_wp2
                go_meet
                exact ⟨by rw [hE.out]; exact HX'.out, HS'.out⟩
              | true =>
                obtain ⟨h0, hE⟩ := HFD.out rfl
                obtain ⟨m, hm⟩ : ∃ m : Nat, X2.1.rp = (m : Int) := ⟨X2.1.rp.toNat, by omega⟩
                have HM : Hid (m < X2.1.n) := Lib.hid (by have := SN.out; omega)
                rw [hm, Int.toNat_natCast] at hE
                have HE2 : Hid (forwardF m X2.1 = FW) := Lib.hid hE.symm
                rw [hm] at qt
                have HC : Hid (Calls Try.prog 38 #[.pointer (some ⟨B.tb, 0, none⟩), .int .i64 (m : Int)] W2 (RQPost W2 B1 X2.1.n FW)) := Lib.hid (by
                  have := rforward_calls X2.1 B1 m HM.out SN16.out SFX.out W2 HX'.out FW HE2.out
                  rw [HBD.out] at this
                  exact this)
                clear h0 hm hE hrp HFT HFD
                go_wp2_with (go_at_call 38; (with_reducible refine HC.out.mono ?_); rintro e w' ⟨rfl, hT', hS'⟩)
                rw [SN.out] at hS'
                go_meet
                exact ⟨hT', HS'.out.trans hS'⟩
            case rest =>
              obtain ⟨hT3, hS3⟩ := hcut
              have HT3 := Lib.hid hT3
              have HS3 := Lib.hid hS3
              have HOK3 : Hid (TOk FW FW.n) := by rw [FN.out]; exact HFW
              obtain ⟨X2t, X2b⟩ := X2
              clear hT3 hS3 HFT HFD hrp qt HX' HS'
              cases X2b with
              | false =>
                have HE : Hid (FW = U) := by have h := HEND.out; rw [if_neg (by simp)] at h; exact Lib.hid h
                clear HEND
                go_wp2
                go_end0
                exact ⟨B1, rfl, by rw [← HE.out]; exact HT3.out, HS3.out⟩
              | true =>
                have HE : Hid (tellAll FW = U) := by have h := HEND.out; rw [if_pos rfl] at h; exact Lib.hid h
                have HC : Hid (Calls Try.prog 39 #[.pointer (some ⟨B.tb, 0, none⟩)] wc (RSPost wc B1 FW.n U)) := Lib.hid (by
                  have := rtell_calls FW B1 HOK3.out.n HOK3.out.rp HOK3.out.room wc HT3.out U HE.out
                  rw [HBD.out] at this
                  exact this)
                clear HEND
                go_wp2_with (go_at_call 39; (with_reducible refine HC.out.mono ?_); rintro e w' ⟨v4, rfl, hT', hS'⟩)
                go_end0
                rw [FN.out] at hS'
                exact ⟨_, rfl, hT', HS3.out.trans hS'⟩
end Go.Proofs.Ytjnbjcieepooaac
