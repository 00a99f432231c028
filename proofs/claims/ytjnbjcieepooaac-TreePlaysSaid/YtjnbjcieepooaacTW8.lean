/- answer of package tree, by its contract. -/
import Derived.Test.YtjnbjcieepooaacTW5
namespace Go.Proofs.Ytjnbjcieepooaac
open Go.RowKit
set_option linter.unusedVariables false
set_option linter.unusedSimpArgs false

def ansB (T : Tr) (i : Nat) (m : Msg) : Bool := decide ((T.at_ i).role = 2) && m.agreement && decide (m.v.root = (T.tell_ i).root) && decide ((T.at_ i).state ≠ 2)
def ansU (T : Tr) (i : Nat) (m : Msg) : Tr := if ansB T i m = true then sendF i false (forwardF i (T.upd i { T.at_ i with agreed := true })) else T
theorem answer_eq (T : Tr) (i : Nat) (m : Msg) : answerF i m T = if m.change = true then noticeF i (ansU T i m) else ansU T i m := by
  have : ansU T i m = (if (T.at_ i).role = 2 ∧ m.agreement = true ∧ m.v.root = (T.tell_ i).root ∧ (T.at_ i).state ≠ 2 then sendF i false (forwardF i (T.upd i { T.at_ i with agreed := true })) else T) := by
    unfold ansU ansB
    by_cases h : (T.at_ i).role = 2 ∧ m.agreement = true ∧ m.v.root = (T.tell_ i).root ∧ (T.at_ i).state ≠ 2
    · rw [if_pos h, if_pos (by rw [decide_eq_true h.1, h.2.1, decide_eq_true h.2.2.1, decide_eq_true h.2.2.2]; rfl)]
    · rw [if_neg h, if_neg (fun g => h (by simpa [Bool.and_eq_true, and_assoc] using g))]
  rw [this]; rfl
theorem shp_ansU (T : Tr) (i : Nat) (m : Msg) : Shp T (ansU T i m) 1 := by
  unfold ansU
  split
  · exact ((shp_upd _ _ _).trans (shp_forward _ _) (Nat.le_refl _)).trans (shp_send _ _ _) (by omega)
  · exact Shp.refl _ _
set_option maxRecDepth 8000 in
set_option maxHeartbeats 8000000 in
theorem answer_calls (T : Tr) (B : TB) (i : Nat) (m : Msg) (hi : i < T.n) (hok : TOk T 1) (w : World) (hT : TreeW w B T) (U : Tr) (hU : answerF i m T = U) :
    Calls Try.prog 45 #[.pointer (some ⟨B.tb, 0, none⟩), .int .i64 (i : Int), .agg m.cells] w (TPost w B T.n U) := by
  rw [answer_eq] at hU
  have HU := Lib.hid hU
  have HO := Lib.hid hok
  have HT := Lib.hid hT
  have HI := Lib.hid hi
  have hn := hok.n
  have hn0 : 0 < T.n := by omega
  have hin : (i : Int) < (T.n : Int) := by omega
  have HN0 := Lib.hid hn0
  obtain ⟨X, hX⟩ : ∃ X, ansU T i m = X := ⟨_, rfl⟩
  obtain ⟨D, hD⟩ : ∃ D, ansB T i m = D := ⟨_, rfl⟩
  have xn : X.n = T.n := by rw [← hX]; exact (shp_ansU T i m).n
  have xf : X.flush.length = X.n := by rw [← hX]; exact ((shp_ansU T i m).fl.trans hok.fl).trans (shp_ansU T i m).n.symm
  have XN := Lib.hid xn
  have XF := Lib.hid xf
  have X16 : Hid (X.n ≤ 16) := Lib.hid (by rw [xn]; exact hn)
  have XI : Hid (i < X.n) := Lib.hid (by rw [xn]; exact hi)
  have HXU : Hid (X = if D = true then sendF i false (forwardF i (T.upd i { T.at_ i with agreed := true })) else T) := by rw [← hX, ← hD]; exact Lib.hid rfl
  rw [hX] at HU
  have HD0 : Hid ((decide ((T.at_ i).role = 2) && m.agreement && decide (m.v.root = (T.tell_ i).root) && decide ((T.at_ i).state ≠ 2)) = D) := Lib.hid hD
  clear hU hok hT hX hD xn xf
  obtain ⟨kk, ⟨vr, vc, vb, vp⟩, ch, ak, pr, ag, le, fo, ro, a0, a1, a2, a3⟩ := m
  simp only [Msg.cells]
  dsimp only at HU HD0
  obtain ⟨V, hV⟩ : ∃ V, T.tell_ i = V := ⟨_, rfl⟩
  have t0 : w.cell? ⟨B.bt, i * 4, none⟩ = some (.int .u64 V.root) := by have := HT.out.l.cell i 0 hi (by decide); rw [hV] at this; exact this
  have t1 : w.cell? ⟨B.bt, i * 4 + 1, none⟩ = some (.int .u64 V.cost) := by have := HT.out.l.cell i 1 hi (by decide); rw [hV] at this; exact this
  have t2 : w.cell? ⟨B.bt, i * 4 + 2, none⟩ = some (.int .u64 V.bridge) := by have := HT.out.l.cell i 2 hi (by decide); rw [hV] at this; exact this
  have t3 : w.cell? ⟨B.bt, i * 4 + 3, none⟩ = some (.int .i64 V.port) := by have := HT.out.l.cell i 3 hi (by decide); rw [hV] at this; exact this
  rw [hV] at HD0
  have qt := HT.out.ownp hn0
  have lt := HT.out.t.lt
  have ltl := HT.out.l.lt
  have ltp := (HT.out.p hn0).2.lt
  clear hV
  go_enter Try.func45, Try.ntmps45
  go_upto_region 3 with (fail)
  have hb1 := (Below.refl w.heap.size w).alloc (Nat.le_refl _) (.cells #[.int .i64 kk, .int .u64 vr, .int .u64 vc, .int .u64 vb, .int .i64 vp, .bool ch, .bool ak, .bool pr, .bool ag, .bool le, .bool fo, .int .i64 ro, .int .i64 a0, .int .i64 a1, .int .i64 a2, .int .i64 a3] 41)
  have hsz : (w.alloc (.cells #[.int .i64 kk, .int .u64 vr, .int .u64 vc, .int .u64 vb, .int .i64 vp, .bool ch, .bool ak, .bool pr, .bool ag, .bool le, .bool fo, .int .i64 ro, .int .i64 a0, .int .i64 a1, .int .i64 a2, .int .i64 a3] 41)).heap.size = w.heap.size + 1 := size_alloc' _ _
  have hbW := hb1.alloc (by rw [hsz]; omega) (.cells #[.int .u64 V.root, .int .u64 V.cost, .int .u64 V.bridge, .int .i64 V.port] 27)
  have hB5 := (Blk.new w #[.int .i64 kk, .int .u64 vr, .int .u64 vc, .int .u64 vb, .int .i64 vp, .bool ch, .bool ak, .bool pr, .bool ag, .bool le, .bool fo, .int .i64 ro, .int .i64 a0, .int .i64 a1, .int .i64 a2, .int .i64 a3] 41).alloc (.cells #[.int .u64 V.root, .int .u64 V.cost, .int .u64 V.bridge, .int .i64 V.port] 27)
  have hB7 := Blk.new (w.alloc (.cells #[.int .i64 kk, .int .u64 vr, .int .u64 vc, .int .u64 vb, .int .i64 vp, .bool ch, .bool ak, .bool pr, .bool ag, .bool le, .bool fo, .int .i64 ro, .int .i64 a0, .int .i64 a1, .int .i64 a2, .int .i64 a3] 41)) #[.int .u64 V.root, .int .u64 V.cost, .int .u64 V.bridge, .int .i64 V.port] 27
  rw [hsz] at hB7
  change Code.wp _ _ _ _ ((w.alloc (.cells #[.int .i64 kk, .int .u64 vr, .int .u64 vc, .int .u64 vb, .int .i64 vp, .bool ch, .bool ak, .bool pr, .bool ag, .bool le, .bool fo, .int .i64 ro, .int .i64 a0, .int .i64 a1, .int .i64 a2, .int .i64 a3] 41)).alloc (.cells #[.int .u64 V.root, .int .u64 V.cost, .int .u64 V.bridge, .int .i64 V.port] 27))
  generalize (w.alloc (.cells #[.int .i64 kk, .int .u64 vr, .int .u64 vc, .int .u64 vb, .int .i64 vp, .bool ch, .bool ak, .bool pr, .bool ag, .bool le, .bool fo, .int .i64 ro, .int .i64 a0, .int .i64 a1, .int .i64 a2, .int .i64 a3] 41)).alloc (.cells #[.int .u64 V.root, .int .u64 V.cost, .int .u64 V.bridge, .int .i64 V.port] 27) = W at hbW hB5 hB7 ⊢
  have HTW := Lib.hid (HT.out.below hbW)
  have HSW := Lib.hid (TStep.below B T.n hbW)
  have HNB : Hid (¬ TOwn B T.n w.heap.size) := Lib.hid fun h => by have := HT.out.own_lt h; omega
  have HB5 := Lib.hid hB5
  have q5 := hB5.cell
  have q7 := hB7.cell
  generalize w.heap.size = b5 at q5 q7 HB5 HNB ⊢
  have qt := HTW.out.ownp hn0
  have hrow := HTW.out.row hi
  have r9 : W.cell? ⟨B.pb, i * 16 + 9, none⟩ = some (.int .i64 (T.at_ i).role) := hrow 9 (by decide)
  have r10 : W.cell? ⟨B.pb, i * 16 + 10, none⟩ = some (.int .i64 (T.at_ i).state) := hrow 10 (by decide)
  clear hb1 hsz hbW hB5 hB7 t0 t1 t2 t3 lt ltl ltp hrow
  go_cut [45] (fun s45 wx => s45 = .bool D ∧ wx = W)
  case first =>
    by_cases c2 : (T.at_ i).role = 2
    rotate_left
    · have c2b : ((T.at_ i).role == 2) = false := by simpa using c2
      have HE : Hid (D = false) := by rw [← HD0.out]; exact Lib.hid (by rw [decide_eq_false c2]; rfl)
      clear c2
      go_wp2
      go_meet
      exact ⟨by rw [HE.out], rfl⟩
    have c2b : ((T.at_ i).role == 2) = true := by simpa using c2
    cases ag with
    | false =>
      have HE : Hid (D = false) := by rw [← HD0.out]; exact Lib.hid (by simp)
      clear c2
      go_wp2
      go_meet
      exact ⟨by rw [HE.out], rfl⟩
    | true =>
      by_cases c3 : vr = V.root
      rotate_left
      · have c3b : (vr == V.root) = false := by simpa using c3
        have HE : Hid (D = false) := by rw [← HD0.out]; exact Lib.hid (by rw [decide_eq_false c3]; simp)
        clear c2 c3
        go_wp2
        go_meet
        exact ⟨by rw [HE.out], rfl⟩
      have c3b : (vr == V.root) = true := by simpa using c3
      by_cases c4 : (T.at_ i).state = 2
      · have c4b : ((T.at_ i).state != 2) = false := by simpa using c4
        have HE : Hid (D = false) := by rw [← HD0.out]; exact Lib.hid (by rw [c4]; simp)
        clear c2 c3 c4
        go_wp2
        go_meet
        exact ⟨by rw [HE.out], rfl⟩
      · have c4b : ((T.at_ i).state != 2) = true := by simpa using c4
        have HE : Hid (D = true) := by rw [← HD0.out]; exact Lib.hid (by rw [decide_eq_true c2, decide_eq_true c3, decide_eq_true c4]; rfl)
        clear c2 c3 c4
        go_wp2
        go_meet
        exact ⟨by rw [HE.out], rfl⟩
  case rest =>
    obtain ⟨rfl, rfl⟩ := hcut
    clear q7 r9 r10
    have hfp := HTW.out.rowfree hn0
    have r15 : wc.cell? ⟨B.pb, i * 16 + 15, none⟩ = some (.bool (T.at_ i).agreed) := HTW.out.row hi 15 (by decide)
    go_upto_if 45 with (fail)
    go_cut [] (fun wx => ∃ B' : TB, TreeW wx B' X ∧ TStep wc B T.n wx B')
    case first =>
      cases D with
      | false =>
        have HE : Hid (X = T) := by have h := HXU.out; rw [if_neg (by simp)] at h; exact Lib.hid h
        clear q5 qt hfp r15
        go_wp2
        go_meet
        exact ⟨B, by rw [HE.out]; exact HTW.out, TStep.refl _ _ _⟩
      | true =>
        have hx := HXU.out
        rw [if_pos rfl] at hx
        have h1 := HTW.out.set_port hi [(15, .bool true)] { T.at_ i with agreed := true } (by simp) rfl
        have hS1 := (TStep.refl wc B T.n).set_port HN0.out (i * 16) [(15, .bool true)]
        have ho1 : TOk (T.upd i { T.at_ i with agreed := true }) 1 := HO.out.step (shp_upd _ _ _) (kep_upd _ _ _).rps (HO.out.ps.upd fun hi => clo_ok.agr _ _ (HO.out.ps i hi)) (by omega)
        have hn1 : (T.upd i { T.at_ i with agreed := true }).n = T.n := upd_n _ _ _
        generalize T.upd i { T.at_ i with agreed := true } = Y at hx h1 ho1 hn1
        have ho2 : TOk (forwardF i Y) 1 := ho1.step (shp_forward i Y) (kep_forward i Y).rps (allP_forward clo_ok i ho1.ps) (by omega)
        have hn2 : (forwardF i Y).n = T.n := (shp_forward i Y).n.trans hn1
        obtain ⟨Z, hZ⟩ : ∃ Z, forwardF i Y = Z := ⟨_, rfl⟩
        rw [hZ] at hx ho2 hn2
        have HZ := Lib.hid hZ
        have H1 : Hid (TreeW (wc.setCell ⟨B.pb, i * 16 + 15, none⟩ (.bool true)) B Y) := h1
        have YI : Hid (i < Y.n) := Lib.hid (by rw [hn1]; exact hi)
        have Y16 : Hid (Y.n ≤ 16) := Lib.hid (by rw [hn1]; exact hn)
        have YF := Lib.hid ho1.fl
        have YN := Lib.hid hn1
        have ZI : Hid (i < Z.n) := Lib.hid (by rw [hn2]; exact hi)
        have ZO := Lib.hid ho2
        have ZN := Lib.hid hn2
        have HX2 : Hid (sendF i false Z = X) := Lib.hid hx.symm
        clear hx h1 ho1 hn1 ho2 hn2 hZ q5
        go_wp2_with (first
          | (go_at_call 34; (with_reducible refine (forward_calls Y B i YI.out Y16.out YF.out _ H1.out Z HZ.out).mono ?_); rintro e w' ⟨⟨tb3, pb3, pc3, br3, bt3, fb3, pa3, ov3⟩, rfl, hT', hS'⟩; obtain rfl : tb3 = B.tb := hS'.tb; have HT' := Lib.hid hT'; clear hT')
          | (go_at_call 49; (with_reducible refine (send_calls Z _ i false ZI.out ZO.out _ HT'.out X HX2.out).mono ?_); rintro e w2 ⟨v2, rfl, hT2, hS2⟩))
        go_meet
        rw [YN.out] at hS'
        rw [ZN.out] at hS2
        exact ⟨_, hT2, (hS1.trans hS').trans hS2⟩
    case rest =>
      obtain ⟨⟨tb1, pb1, pc1, br1, bt1, fb1, pa1, ov1⟩, hT1, hS1⟩ := hcut
      obtain rfl : tb1 = B.tb := hS1.tb
      have hB5 := HB5.out.fr hS1.fr HNB.out
      clear q5 qt hfp r15
      have q5 := hB5.cell
      have HT1 := Lib.hid hT1
      have HSF := Lib.hid (HSW.out.trans hS1)
      clear hT1 hB5 hS1
      cases ch with
      | false =>
        have HE : Hid (X = U) := by have h := HU.out; rw [if_neg (by simp)] at h; exact h
        go_wp2
        go_end0
        exact ⟨_, rfl, by rw [← HE.out]; exact HT1.out, HSF.out⟩
      | true =>
        have HE : Hid (noticeF i X = U) := by have h := HU.out; rw [if_pos rfl] at h; exact h
        go_wp2_with (go_at_call 44; (with_reducible refine (notice_calls X _ i XI.out X16.out XF.out _ HT1.out U HE.out).mono ?_); rintro e w' ⟨B3, rfl, hT', hS'⟩)
        go_end0
        rw [XN.out] at hS'
        exact ⟨B3, rfl, hT', HSF.out.trans hS'⟩
end Go.Proofs.Ytjnbjcieepooaac
