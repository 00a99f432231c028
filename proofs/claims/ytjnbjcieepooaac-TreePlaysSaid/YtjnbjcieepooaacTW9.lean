/- Tick of package tree, by its contract. -/
import Derived.Test.YtjnbjcieepooaacTW5
namespace Go.Proofs.Ytjnbjcieepooaac
open Go.RowKit
set_option linter.unusedVariables false
set_option linter.unusedSimpArgs false

theorem shp_ages (k : Nat) (X : Tr × Bool) : Shp X.1 (uptoB ageStep k X).1 0 := shp_uptoB shp_age k X
theorem TOk.ages {T : Tr} {m : Nat} (h : TOk T m) (k : Nat) (b : Bool) : TOk (uptoB ageStep k (T, b)).1 m :=
  h.step (shp_ages k (T, b)) (kep_ages k (T, b)).rps (allP_ages clo_ok k (X := (T, b)) h.ps) (by omega)
theorem TOk.tickOne {T : Tr} {m : Nat} (h : TOk T (T.n + m)) : TOk (tick1 T) m := h.step (shp_tick1 T) (rps_tick1 T) (allP_tick1 clo_ok h.ps) (Nat.le_refl _)
theorem TOk.tick1' {T : Tr} (h : TOk T (2 * T.n)) : TOk (tick1 T) T.n := TOk.tickOne (m := T.n) (h.mono (by omega))
theorem shp_waits (k : Nat) (T : Tr) : Shp T (upto waitStep k T) 0 := by have := shp_upto shp_wait k T; rwa [Nat.mul_zero] at this
theorem TOk.waits {T : Tr} {m : Nat} (h : TOk T m) (k : Nat) (hk : k ≤ T.n) : TOk (upto waitStep k T) m :=
  h.step (shp_waits k T) (kep_waits k T).rps (allP_waits clo_ok k hk h.ps) (by omega)
def decC (q : TP) : Int := if q.change - 1 < 0 then 0 else q.change - 1
theorem aged_gone {q : TP} (h : q.p.has = true) (hl : q.left - 1 ≤ 0) : agedP q = ({ q with p := { q.p with has := false, told := v0 }, left := q.left - 1, change := decC q }, true) := by unfold agedP; dsimp only; rw [if_pos h, if_pos hl]; rfl
theorem aged_has {q : TP} (h : q.p.has = true) (hl : ¬ q.left - 1 ≤ 0) : agedP q = ({ q with left := q.left - 1, change := decC q }, false) := by unfold agedP; dsimp only; rw [if_pos h, if_neg hl]; rfl
theorem aged_none {q : TP} (h : q.p.has = false) : agedP q = ({ q with change := decC q }, false) := by unfold agedP; dsimp only; rw [if_neg (by rw [h]; simp)]; rfl
theorem wait_skip {k : Nat} {T : Tr} (h : (T.at_ k).role ≠ 2 ∨ (T.at_ k).state = 2) : waitStep k T = T := if_pos h
theorem wait_more {k : Nat} {T : Tr} (h : ¬ ((T.at_ k).role ≠ 2 ∨ (T.at_ k).state = 2)) (h1 : 0 < (T.at_ k).wait - 1) : waitStep k T = T.upd k { T.at_ k with wait := (T.at_ k).wait - 1 } := by
  unfold waitStep; dsimp only; rw [if_neg h, if_pos h1]
theorem wait_learn {k : Nat} {T : Tr} (h : ¬ ((T.at_ k).role ≠ 2 ∨ (T.at_ k).state = 2)) (h1 : ¬ 0 < (T.at_ k).wait - 1) (h2 : (T.at_ k).state = 0) : waitStep k T = T.upd k { T.at_ k with state := 1, wait := 15 } := by
  unfold waitStep; dsimp only; rw [if_neg h, if_neg h1, if_pos h2]
theorem wait_fwd {k : Nat} {T : Tr} (h : ¬ ((T.at_ k).role ≠ 2 ∨ (T.at_ k).state = 2)) (h1 : ¬ 0 < (T.at_ k).wait - 1) (h2 : ¬ (T.at_ k).state = 0) : waitStep k T = forwardF k (T.upd k { T.at_ k with wait := (T.at_ k).wait - 1 }) := by
  unfold waitStep; dsimp only; rw [if_neg h, if_neg h1, if_neg h2]
theorem TreeW.set_hello {w : World} {B : TB} {T : Tr} (h : TreeW w B T) (x : Int) : TreeW (w.setCell ⟨B.tb, 9, none⟩ (.int .i64 x)) B { T with hello := x } :=
  h.set_own 9 _ rfl rfl rfl rfl rfl rfl rfl rfl rfl rfl rfl rfl (own_fr h.o ((Fr.refl (fun k => k = B.tb) w).set (p := ⟨B.tb, 9, none⟩) (.inl rfl) _) fun k hk e => by subst e; exact h.tb_ne.2.2.2.2 hk)
theorem TStep.set_hello {w w' : World} {B B' : TB} {n : Nat} (h : TStep w B n w' B') (o : Nat) (v : Value) : TStep w B n (w'.setCell ⟨B'.tb, o, none⟩ v) B' :=
  h.trans ⟨(Fr.refl _ w').set (p := ⟨B'.tb, o, none⟩) (.inl (.inl rfl)) _, rfl, fun _ h => .inl h⟩
set_option maxRecDepth 8000 in
set_option maxHeartbeats 8000000 in
theorem tick_calls (T : Tr) (B : TB) (hok : TOk T (2 * T.n)) (w : World) (hT : TreeW w B T) (U : Tr) (hU : tickF T = U) :
    Calls Try.prog 16 #[.pointer (some ⟨B.tb, 0, none⟩)] w (TPost w B T.n U) := by
  have HU := Lib.hid hU
  have HO := Lib.hid hok
  have HT := Lib.hid hT
  have hn := hok.n
  have qt := hT.own
  clear hU hok hT
  go_enter Try.func16, Try.ntmps16
  go_wp2
  clear qt
  go_loopg [12, 2] T.n (fun gh s12 s2 wx => ∃ k : Nat, k + gh = T.n ∧ s12 = .int .i64 (k : Int) ∧ s2 = .bool (uptoB ageStep k (T, false)).2 ∧ TreeW wx B (uptoB ageStep k (T, false)).1 ∧ TStep w B T.n wx B)
  case atStart => exact ⟨0, by omega, rfl, rfl, HT.out, TStep.refl _ _ _⟩
  case round =>
    obtain ⟨k, hkg, rfl, rfl, hX, hS⟩ := hrel
    have hxo := HO.out.ages k false
    have sn : (uptoB ageStep k (T, false)).1.n = T.n := (shp_ages k (T, false)).n
    cases gk with
    | succ gh =>
      have hkM : (k : Int) < (T.n : Int) := by omega
      have HST : Hid (uptoB ageStep (k + 1) (T, false) = ageStep k (uptoB ageStep k (T, false))) := Lib.hid rfl
      generalize uptoB ageStep k (T, false) = X at hX sn hxo HST ⊢
      have hkn : k < X.1.n := by rw [sn]; omega
      have hX0 : 0 < X.1.n := by omega
      have HN0 : Hid (0 < T.n) := Lib.hid (by omega)
      have hrow := hX.row hkn
      have N := hX.nes hX0
      have n1 := N.tp
      have hfp := hX.rowfree hX0
      have qt := hX.ownp hX0
      rw [sn] at qt
      have r3 : wr.cell? ⟨B.pb, k * 16 + 3, none⟩ = some (.bool (X.1.at_ k).p.has) := hrow 3 (by decide)
      have r4 : wr.cell? ⟨B.pb, k * 16 + 4, none⟩ = some (.int .u64 (X.1.at_ k).p.told.root) := hrow 4 (by decide)
      have r5 : wr.cell? ⟨B.pb, k * 16 + 5, none⟩ = some (.int .u64 (X.1.at_ k).p.told.cost) := hrow 5 (by decide)
      have r6 : wr.cell? ⟨B.pb, k * 16 + 6, none⟩ = some (.int .u64 (X.1.at_ k).p.told.bridge) := hrow 6 (by decide)
      have r7 : wr.cell? ⟨B.pb, k * 16 + 7, none⟩ = some (.int .i64 (X.1.at_ k).p.told.port) := hrow 7 (by decide)
      have r12 : wr.cell? ⟨B.pb, k * 16 + 12, none⟩ = some (.int .i64 (X.1.at_ k).left) := hrow 12 (by decide)
      have r14 : wr.cell? ⟨B.pb, k * 16 + 14, none⟩ = some (.int .i64 (X.1.at_ k).change) := hrow 14 (by decide)
      have hq := hxo.ps k hkn
      have hset := fun (l : List (Nat × Value)) (x : TP) => hX.set_port (i := k) hkn l x
      have hst : ageStep k X = (X.1.upd k (agedP (X.1.at_ k)).1, X.2 || (agedP (X.1.at_ k)).2) := rfl
      rw [hst] at HST
      obtain ⟨q, hqe⟩ : ∃ q, X.1.at_ k = q := ⟨_, rfl⟩
      rw [hqe] at r3 r4 r5 r6 r7 r12 r14 hq hset HST
      have HSET : Hid (∀ (l : List (Nat × Value)) (x : TP), (∀ y ∈ l, y.1 < 16) → x.cells = setsC l q.cells → TreeW (setsW B.pb (k * 16) l wr) B (X.1.upd k x)) := Lib.hid hset
      have hc := hq.c
      have hl := hq.l
      clear hst hX sn hxo hkn hX0 hrow N hset hqe hq
      have s1 : IntKind.i64.wrap (q.change - 1) = q.change - 1 := IntWalk.i64_in _ (by omega)
      have hd1 : q.change ≤ 1 → decC q = 0 := fun h => by unfold decC; split <;> omega
      have hd2 : ¬ q.change ≤ 1 → decC q = q.change - 1 := fun h => by unfold decC; split <;> omega
      have HD1 := Lib.hid hd1
      have HD2 := Lib.hid hd2
      clear hd1 hd2
      cases c1 : q.p.has with
      | false =>
        rw [c1] at r3
        have HA := Lib.hid (aged_none c1)
        clear c1 hl
        by_cases hcc : q.change ≤ 1
        · have HC := Lib.hid (HD1.out hcc)
          go_wp2
          go_roundg gh
          case measure => omega
          case rel => exact ⟨k + 1, by omega, by go_num, by rw [HST.out, HA.out]; simp, by rw [HST.out, HA.out]; exact HSET.out [(14, .int .i64 0)] _ (by simp) (by rw [HC.out]; rfl), hS.set_port HN0.out (k * 16) [(14, .int .i64 0)]⟩
        · have HC := Lib.hid (HD2.out hcc)
          go_wp2
          go_roundg gh
          case measure => omega
          case rel => exact ⟨k + 1, by omega, by go_num, by rw [HST.out, HA.out]; simp, by rw [HST.out, HA.out]; exact HSET.out [(14, .int .i64 (q.change - 1))] _ (by simp) (by rw [HC.out]; rfl), hS.set_port HN0.out (k * 16) [(14, .int .i64 (q.change - 1))]⟩
      | true =>
        rw [c1] at r3
        obtain ⟨hl1, hl6⟩ := hl c1
        have s2 : IntKind.i64.wrap (q.left - 1) = q.left - 1 := IntWalk.i64_in _ (by omega)
        by_cases hll : q.left - 1 ≤ 0
        · have HA := Lib.hid (aged_gone c1 hll)
          clear c1 hl
          by_cases hcc : q.change ≤ 1
          · have HC := Lib.hid (HD1.out hcc)
            go_wp2
            go_roundg gh
            case measure => omega
            case rel => exact ⟨k + 1, by omega, by go_num, by rw [HST.out, HA.out]; simp, by rw [HST.out, HA.out]; exact HSET.out [(12, .int .i64 (q.left - 1)), (3, .bool false), (4, .int .u64 0), (5, .int .u64 0), (6, .int .u64 0), (7, .int .i64 0), (14, .int .i64 0)] _ (by simp) (by rw [HC.out]; rfl), hS.set_port HN0.out (k * 16) [(12, .int .i64 (q.left - 1)), (3, .bool false), (4, .int .u64 0), (5, .int .u64 0), (6, .int .u64 0), (7, .int .i64 0), (14, .int .i64 0)]⟩
          · have HC := Lib.hid (HD2.out hcc)
            go_wp2
            go_roundg gh
            case measure => omega
            case rel => exact ⟨k + 1, by omega, by go_num, by rw [HST.out, HA.out]; simp, by rw [HST.out, HA.out]; exact HSET.out [(12, .int .i64 (q.left - 1)), (3, .bool false), (4, .int .u64 0), (5, .int .u64 0), (6, .int .u64 0), (7, .int .i64 0), (14, .int .i64 (q.change - 1))] _ (by simp) (by rw [HC.out]; rfl), hS.set_port HN0.out (k * 16) [(12, .int .i64 (q.left - 1)), (3, .bool false), (4, .int .u64 0), (5, .int .u64 0), (6, .int .u64 0), (7, .int .i64 0), (14, .int .i64 (q.change - 1))]⟩
        · have HA := Lib.hid (aged_has c1 hll)
          clear c1 hl
          by_cases hcc : q.change ≤ 1
          · have HC := Lib.hid (HD1.out hcc)
            go_wp2
            go_roundg gh
            case measure => omega
            case rel => exact ⟨k + 1, by omega, by go_num, by rw [HST.out, HA.out]; simp, by rw [HST.out, HA.out]; exact HSET.out [(12, .int .i64 (q.left - 1)), (14, .int .i64 0)] _ (by simp) (by rw [HC.out]; rfl), hS.set_port HN0.out (k * 16) [(12, .int .i64 (q.left - 1)), (14, .int .i64 0)]⟩
          · have HC := Lib.hid (HD2.out hcc)
            go_wp2
            go_roundg gh
            case measure => omega
            case rel => exact ⟨k + 1, by omega, by go_num, by rw [HST.out, HA.out]; simp, by rw [HST.out, HA.out]; exact HSET.out [(12, .int .i64 (q.left - 1)), (14, .int .i64 (q.change - 1))] _ (by simp) (by rw [HC.out]; rfl), hS.set_port HN0.out (k * 16) [(12, .int .i64 (q.left - 1)), (14, .int .i64 (q.change - 1))]⟩
    | zero =>
      have hkM : ¬ ((k : Int) < (T.n : Int)) := by omega
      obtain rfl : k = T.n := by omega
      have T1 : Hid (tick1 T = if (uptoB ageStep T.n (T, false)).2 = true then againF false (uptoB ageStep T.n (T, false)).1 else (uptoB ageStep T.n (T, false)).1) := Lib.hid rfl
      generalize uptoB ageStep T.n (T, false) = X at hX sn hxo T1 ⊢
      have HX := Lib.hid hX
      have HXO : Hid (TOk X.1 X.1.n) := Lib.hid (hxo.mono (by omega))
      have SN := Lib.hid sn
      clear hX sn hxo
      go_upto_if 57 with (fail)
      go_cut [] (fun wx => ∃ B' : TB, TreeW wx B' (tick1 T) ∧ TStep w B T.n wx B')
      case first =>
        obtain ⟨Xt, Xb⟩ := X
        cases Xb with
        | false =>
          have HE : Hid (tick1 T = Xt) := by have h := T1.out; rw [if_neg (by simp)] at h; exact h
          go_wp2
          go_meet
          exact ⟨B, by rw [HE.out]; exact HX.out, hS⟩
        | true =>
          have HE : Hid (againF false Xt = tick1 T) := by have h := T1.out; rw [if_pos rfl] at h; exact h.symm
          go_wp2_with (go_at_call 33; (with_reducible refine (again_calls Xt B false HXO.out _ HX.out (tick1 T) HE.out).mono ?_); rintro e w' ⟨B', rfl, hT', hS'⟩)
          rw [SN.out] at hS'
          go_meet
          exact ⟨B', hT', hS.trans hS'⟩
      case rest =>
        obtain ⟨B1, hT1, hS1⟩ := hcut
        obtain ⟨tb1, pb1, pc1, br1, bt1, fb1, pa1, ov1⟩ := B1
        obtain rfl : tb1 = B.tb := hS1.tb
        have y1 : TOk (tick1 T) T.n := HO.out.tick1' 
        have yn : (tick1 T).n = T.n := (shp_tick1 T).n
        have HU2 : Hid (helloF (upto waitStep T.n (tick1 T)) = U) := HU
        generalize tick1 T = Y at hT1 y1 yn HU2
        have HT1 := Lib.hid hT1
        have Y1 := Lib.hid y1
        have YN := Lib.hid yn
        have qt := hT1.own
        dsimp only at qt
        rw [yn] at qt
        clear hT1 y1 yn T1 HX HXO SN HU HO HT
        go_wp2
        clear qt
        go_loopg [65] T.n (fun gh s65 wx => ∃ (k : Nat) (B' : TB), k + gh = T.n ∧ s65 = .int .i64 (k : Int) ∧ TreeW wx B' (upto waitStep k Y) ∧ TStep w B T.n wx B')
        case atStart => exact ⟨0, _, by omega, rfl, HT1.out, hS1⟩
        case round =>
          obtain ⟨k, B2, hkg, rfl, hX, hS2⟩ := hrel
          obtain ⟨tb2, pb2, pc2, br2, bt2, fb2, pa2, ov2⟩ := B2
          obtain rfl : tb2 = B.tb := hS2.tb
          have hxo := Y1.out.waits k (by have := YN.out; omega)
          have sn : (upto waitStep k Y).n = T.n := (shp_waits k Y).n.trans YN.out
          cases gk with
          | zero =>
            have hkM : ¬ ((k : Int) < (T.n : Int)) := by omega
            obtain rfl : k = T.n := by omega
            generalize upto waitStep T.n Y = X at hX sn hxo HU2
            have hhl := hxo.hello
            have qt := hX.own
            dsimp only at qt
            have ft : ∀ o, wr.frozen? ⟨B.tb, o, none⟩ = false := hX.t.free
            have hx2 := hX.set_hello (X.hello - 1)
            have hx3 := hx2.set_hello 2
            have hS3 := hS2.set_hello 9 (.int .i64 (X.hello - 1))
            have hS4 := hS3.set_hello 9 (.int .i64 2)
            have s1 : IntKind.i64.wrap (X.hello - 1) = X.hello - 1 := IntWalk.i64_in _ (by omega)
            have HX2 := Lib.hid hx2
            have HX3 := Lib.hid hx3
            have HX3O : Hid (TOk { X with hello := 2 } X.n) := by
              rw [sn]
              exact Lib.hid (hxo.step (U := { X with hello := 2 }) (m := 0) ⟨rfl, rfl, rfl, Nat.le_refl _⟩ ⟨fun h => h, fun _ => by show (-1 : Int) ≤ 2 ∧ (2 : Int) ≤ 2; omega⟩ hxo.ps (by omega))
            have SN := Lib.hid sn
            clear hX hx2 hx3 hxo sn
            by_cases hh : X.hello - 1 ≤ 0
            · have HE : Hid (tellAll { X with hello := 2 } = U) := by have h := HU2.out; unfold helloF at h; rw [if_pos hh] at h; exact h
              clear HU2
              go_wp2_with (go_at_call 35; (with_reducible refine (tell_calls { X with hello := 2 } _ HX3O.out _ HX3.out U HE.out).mono ?_); rintro e w' ⟨v4, rfl, hT', hS'⟩)
              go_end0
              have hS' : TStep ((wr.setCell ⟨B.tb, 9, none⟩ (.int .i64 (X.hello - 1))).setCell ⟨B.tb, 9, none⟩ (.int .i64 2)) _ X.n w' _ := hS'
              rw [SN.out] at hS'
              exact ⟨_, rfl, hT', hS4.trans hS'⟩
            · have HE : Hid ({ X with hello := X.hello - 1 } = U) := by have h := HU2.out; unfold helloF at h; rw [if_neg hh] at h; exact h
              clear HU2
              go_wp2
              go_end0
              exact ⟨_, rfl, by rw [← HE.out]; exact HX2.out, hS3⟩
          | succ gh =>
            have hkM : (k : Int) < (T.n : Int) := by omega
            have HST : Hid (upto waitStep (k + 1) Y = waitStep k (upto waitStep k Y)) := Lib.hid rfl
            generalize upto waitStep k Y = X at hX sn hxo HST
            have hkn : k < X.n := by rw [sn]; omega
            have hX0 : 0 < X.n := by omega
            have HN0 : Hid (0 < T.n) := Lib.hid (by omega)
            have hrow := hX.row hkn
            have N := hX.nes hX0
            have n1 : B.tb ≠ pb2 := N.tp
            have hfp : ∀ o, wr.frozen? ⟨pb2, o, none⟩ = false := hX.rowfree hX0
            have qt := hX.ownp hX0
            dsimp only at qt
            rw [sn] at qt
            have r9 : wr.cell? ⟨pb2, k * 16 + 9, none⟩ = some (.int .i64 (X.at_ k).role) := hrow 9 (by decide)
            have r10 : wr.cell? ⟨pb2, k * 16 + 10, none⟩ = some (.int .i64 (X.at_ k).state) := hrow 10 (by decide)
            have r13 : wr.cell? ⟨pb2, k * 16 + 13, none⟩ = some (.int .i64 (X.at_ k).wait) := hrow 13 (by decide)
            have hq := (hxo.ps k hkn).w
            have hset := fun (l : List (Nat × Value)) (x : TP) => hX.set_port (i := k) hkn l x
            have w1 := @wait_skip k X
            have w2 := @wait_more k X
            have w3 := @wait_learn k X
            have w4 := @wait_fwd k X
            obtain ⟨q, hqe⟩ : ∃ q, X.at_ k = q := ⟨_, rfl⟩
            rw [hqe] at r9 r10 r13 hq hset w1 w2 w3 w4
            have HSET : Hid (∀ (l : List (Nat × Value)) (x : TP), (∀ y ∈ l, y.1 < 16) → x.cells = setsC l q.cells → TreeW (setsW pb2 (k * 16) l wr) ⟨B.tb, pb2, pc2, br2, bt2, fb2, pa2, ov2⟩ (X.upd k x)) := Lib.hid hset
            have W1 := Lib.hid w1
            have W2 := Lib.hid w2
            have W3 := Lib.hid w3
            have W4 := Lib.hid w4
            have HX := Lib.hid hX
            have SN := Lib.hid sn
            have hvn : ∀ z, (X.upd k z).n = X.n := fun z => upd_n X k z
            have HVN := Lib.hid hvn
            have HKN := Lib.hid hkn
            have HXF := Lib.hid hxo.fl
            clear hX sn hxo hkn hX0 hrow N hset hqe w1 w2 w3 w4 hvn
            by_cases c2 : q.role = 2
            rotate_left
            · have c2b : (q.role != 2) = true := by simpa using c2
              have HZ := Lib.hid (W1.out (.inl c2))
              clear c2
              go_wp2
              go_roundg gh
              case measure => omega
              case rel => exact ⟨k + 1, _, by omega, by go_num, by rw [HST.out, HZ.out]; exact HX.out, hS2⟩
            by_cases c3 : q.state = 2
            · have HZ := Lib.hid (W1.out (.inr c3))
              rw [c2] at r9
              rw [c3] at r10
              clear c2 c3
              go_wp2
              go_roundg gh
              case measure => omega
              case rel => exact ⟨k + 1, _, by omega, by go_num, by rw [HST.out, HZ.out]; exact HX.out, hS2⟩
            have c3b : (q.state == 2) = false := by simpa using c3
            have hnot : Hid (¬ (q.role ≠ 2 ∨ q.state = 2)) := Lib.hid (by rintro (h | h); exact h c2; exact c3 h)
            rw [c2] at r9
            clear c2 c3
            have s1 : IntKind.i64.wrap (q.wait - 1) = q.wait - 1 := IntWalk.i64_in _ (by omega)
            by_cases c4 : 0 < q.wait - 1
            · have HZ := Lib.hid (W2.out hnot.out c4)
              go_wp2
              go_roundg gh
              case measure => omega
              case rel => exact ⟨k + 1, _, by omega, by go_num, by rw [HST.out, HZ.out]; exact HSET.out [(13, .int .i64 (q.wait - 1))] _ (by simp) rfl, hS2.set_port HN0.out (k * 16) [(13, .int .i64 (q.wait - 1))]⟩
            by_cases c5 : q.state = 0
            · have HZ := Lib.hid (W3.out hnot.out c4 c5)
              rw [c5] at r10
              clear c5 c3b
              go_wp2
              go_roundg gh
              case measure => omega
              case rel => exact ⟨k + 1, _, by omega, by go_num, by rw [HST.out, HZ.out]; exact HSET.out [(13, .int .i64 (q.wait - 1)), (10, .int .i64 1), (13, .int .i64 15)] _ (by simp) rfl, hS2.set_port HN0.out (k * 16) [(13, .int .i64 (q.wait - 1)), (10, .int .i64 1), (13, .int .i64 15)]⟩
            · have c5b : (q.state == 0) = false := by simpa using c5
              have hz := W4.out hnot.out c4 c5
              have h2 : TreeW (wr.setCell ⟨pb2, k * 16 + 13, none⟩ (.int .i64 (q.wait - 1))) ⟨B.tb, pb2, pc2, br2, bt2, fb2, pa2, ov2⟩ (X.upd k { q with wait := q.wait - 1 }) := HSET.out [(13, .int .i64 (q.wait - 1))] _ (by simp) rfl
              have hS5 := hS2.set_port HN0.out (k * 16) [(13, .int .i64 (q.wait - 1))]
              have vn := HVN.out { q with wait := q.wait - 1 }
              have vf : (X.upd k { q with wait := q.wait - 1 }).flush.length = X.n := HXF.out
              generalize X.upd k { q with wait := q.wait - 1 } = V at hz h2 vn vf
              have H2 := Lib.hid h2
              have VK : Hid (k < V.n) := by rw [vn]; exact HKN
              have V16 : Hid (V.n ≤ 16) := Lib.hid (by rw [vn, SN.out]; exact hn)
              have VF : Hid (V.flush.length = V.n) := Lib.hid (by rw [vn]; exact vf)
              have VN := Lib.hid (vn.trans SN.out)
              obtain ⟨Z, hZ⟩ : ∃ Z, forwardF k V = Z := ⟨_, rfl⟩
              have HZF := Lib.hid hZ
              have HZ := Lib.hid (hz.trans hZ)
              clear hz h2 vn vf c5 hZ
              go_wp2_with (go_at_call 34; (with_reducible refine (forward_calls V _ k VK.out V16.out VF.out _ H2.out Z HZF.out).mono ?_); rintro e w' ⟨B3, rfl, hT', hS'⟩)
              go_roundg gh
              rw [VN.out] at hS'
              case measure => omega
              case rel => exact ⟨k + 1, B3, by omega, by go_num, by rw [HST.out, HZ.out]; exact hT', hS5.trans hS'⟩
end Go.Proofs.Ytjnbjcieepooaac
