/- Receive of the reference's tree: what a designated port tells. Conditions: none. -/
import Derived.Test.YtjnbjcieepooaacRG4
namespace Go.Proofs.Ytjnbjcieepooaac
open Go.RowKit
set_option linter.unusedVariables false
set_option linter.unusedSimpArgs false

set_option maxRecDepth 100000 in
/-- A number, stored. -/
theorem wp_sti {o : Oper} {a : Act} {w : World} {K : Act → World → Prop} {Q : Exit → Act → World → Prop} (p x : Operand) (b k : Nat) (n : Int) (hd : o.dst = none) (h : o.op = .store 3 p x) (hp : a.eval p = .pointer (some ⟨b, k, none⟩)) (hx : a.eval x = .int .i64 n)
    (hc : (w.cell? ⟨b, k, none⟩).isSome = true) (hf : w.frozen? ⟨b, k, none⟩ = false) (hk : K a (w.setCell ⟨b, k, none⟩ (.int .i64 n))) : o.wp Try.prog a w K Q := by
  have hk' : K (a.put o.dst undef) (w.setCell ⟨b, k, none⟩ (.int .i64 n)) := by rw [hd]; exact hk
  clear hk hd
  unfold Oper.wp execOp
  simp only [h, hp, hx]
  obtain ⟨v, hv⟩ := Option.isSome_iff_exists.1 hc
  go_simp
  exact hk'
section
variable {o : Oper} {a : Act} {w : World} {K : Act → World → Prop} {Q : Exit → Act → World → Prop}
set_option maxRecDepth 100000 in
theorem wp_faB (x : Operand) (b k k' : Nat) (hk : k = 9 ∧ k' = 12 ∨ k = 10 ∧ k' = 13) (h : o.op = .fieldAddr 41 x k) (hx : a.eval x = .pointer (some ⟨b, 0, none⟩)) (hk' : K (a.put o.dst (.pointer (some ⟨b, k', none⟩))) w) : o.wp Try.prog a w K Q := by
  unfold Oper.wp execOp
  simp only [h, hx]
  rcases hk with ⟨rfl, rfl⟩ | ⟨rfl, rfl⟩
  all_goals
    go_simp
    exact hk'
set_option maxRecDepth 100000 in
theorem wp_ldi (x : Operand) (b o' : Nat) (v : Value) (h : o.op = .load 3 x) (hx : a.eval x = .pointer (some ⟨b, o', none⟩)) (hc : w.cell? ⟨b, o', none⟩ = some v) (hk : K (a.put o.dst v) w) : o.wp Try.prog a w K Q := by
  unfold Oper.wp execOp
  simp only [h, hx]
  go_simp
  exact hk
set_option maxRecDepth 100000 in
theorem wp_add (x y : Operand) (p q : Int) (h : o.op = .binOp .add 3 x y 3) (hx : a.eval x = .int .i64 p) (hy : a.eval y = .int .i64 q) (h0 : 0 ≤ p + q) (h1 : p + q ≤ 1000000) (hk : K (a.put o.dst (.int .i64 (p + q))) w) : o.wp Try.prog a w K Q := by
  have hw : IntKind.i64.wrap (p + q) = p + q := IntWalk.i64_in _ (by omega)
  unfold Oper.wp execOp
  simp only [h]
  generalize a.eval = ev at hx hy ⊢
  simp [go_sem, hx, hy, hw]
  exact hk
set_option maxRecDepth 100000 in
theorem wp_geq (x y : Operand) (p q : Int) (h : o.op = .binOp .geq 3 x y 3) (hx : a.eval x = .int .i64 p) (hy : a.eval y = .int .i64 q) (hk : K (a.put o.dst (.bool (decide (q ≤ p)))) w) : o.wp Try.prog a w K Q := by
  unfold Oper.wp execOp
  simp only [h]
  generalize a.eval = ev at hx hy ⊢
  simp [go_sem, hx, hy]
  exact hk
end
/-- A statement that is to be proved behind the walk that has need of it. -/
structure Later (P : Prop) : Prop where
  out : P
def Later.pack {G P : Prop} (h : Later P → G) : {P : Prop // Later P → G} := ⟨P, h⟩
set_option maxRecDepth 8000 in
set_option maxHeartbeats 40000000 in
noncomputable def rreceive_cP : {P : Prop // Later P → ∀ (T : Tr) (B : RB) (i : Nat) (m : Msg) (hi : i < T.n) (hup : (T.at_ i).p.up = true) (hX : chkF m = true) (hk2 : ¬ m.kind = 2) (hk : ¬ (m.kind = 1 ∧ ¬ m.role = 3)) (hok : TOk T (2 * T.n + 2)) (hst : AllP StB T) (hm : m.v.ok) (w : World) (hT : RefW w B T) (U : Tr) (hU : receiveF (i : Int) m T = U),
    Calls Try.prog 25 #[.pointer (some ⟨B.tb, 0, none⟩), .int .i64 (i : Int), .agg #[.int .i64 m.kind, .int .u64 m.v.root, .int .u64 m.v.cost, .int .u64 m.v.bridge, .int .i64 m.v.port, .bool m.change, .bool m.ack, .bool m.proposal, .bool m.agreement, .bool m.learning, .bool m.forwarding, .int .i64 m.role, .int .i64 m.age, .int .i64 m.maxAge, .int .i64 m.hello, .int .i64 m.delay]] w (RPost w B T.n U)} :=
  Later.pack fun hLater T B i m hi hup hX hk2 hk hok hst hm w hT U hU => by
  have hn := hok.n
  have hn0 : 0 < T.n := by omega
  have hin : (i : Int) < (T.n : Int) := by omega
  have hz := receive_yes hi hup hX
  rw [hU] at hz
  have ho1 := hok.edge i
  have hs1 : AllP StB (T.upd i { T.at_ i with edge := false }) := AllP.upd (I := StB) hst (fun hi => hst i hi)
  have hh := heard_of hT hi m
  have hT1 := hT.below ((Below.refl w.heap.size w).alloc (Nat.le_refl _) (.cells #[.int .i64 m.kind, .int .u64 m.v.root, .int .u64 m.v.cost, .int .u64 m.v.bridge, .int .i64 m.v.port, .bool m.change, .bool m.ack, .bool m.proposal, .bool m.agreement, .bool m.learning, .bool m.forwarding, .int .i64 m.role, .int .i64 m.age, .int .i64 m.maxAge, .int .i64 m.hello, .int .i64 m.delay] 41))
  generalize T.upd i { T.at_ i with edge := false } = T1 at hz ho1 hh hs1
  have HH := Lib.hid hh
  have T1N := Lib.hid hh.n
  have O1 : Hid (TOk T1 (2 * T1.n + 2)) := by rw [hh.n]; exact Lib.hid ho1
  have N16 : Hid (T1.n ≤ 16) := Lib.hid (by rw [hh.n]; exact hn)
  have NF := Lib.hid ho1.fl
  have HI1 : Hid (i < T1.n) := Lib.hid (by rw [hh.n]; exact hi)
  have S1 := Lib.hid hs1
  have HAGE := Lib.hid (chk_age hX)
  have HM := Lib.hid hm
  have qt := hT1.ownp hn0
  have r3 : World.cell? _ ⟨B.b 3, i, none⟩ = some (.bool (T.at_ i).p.up) := hT1.get hi (.inl (by omega)) rfl
  rw [hup] at r3
  have r5 := hT1.g5 hi
  have f5 := hT1.free hn0 (f := 5) (.inl (by omega))
  have HT1 := Lib.hid hT1
  rw [if_neg hk2, if_neg hk] at hz
  have HZ : Hid (changeF i m (replyF i m (hearF i m T1)) = U) := Lib.hid hz.symm
  have k2b : (m.kind == 2) = false := by simpa using hk2
  obtain ⟨ha0, ha1⟩ := HAGE.out hk2
  clear hz hk2 HAGE
  clear hU hok hT hup hX hh hs1 ho1 hT1 hst hm
  go_enter Try.func25, Try.ntmps25
  go_upto_region 1 with (fail)
  change Code.wp _ _ _ _ (w.alloc (.cells #[.int .i64 m.kind, .int .u64 m.v.root, .int .u64 m.v.cost, .int .u64 m.v.bridge, .int .i64 m.v.port, .bool m.change, .bool m.ack, .bool m.proposal, .bool m.agreement, .bool m.learning, .bool m.forwarding, .int .i64 m.role, .int .i64 m.age, .int .i64 m.maxAge, .int .i64 m.hello, .int .i64 m.delay] 41))
  generalize w.alloc (.cells #[.int .i64 m.kind, .int .u64 m.v.root, .int .u64 m.v.cost, .int .u64 m.v.bridge, .int .i64 m.v.port, .bool m.change, .bool m.ack, .bool m.proposal, .bool m.agreement, .bool m.learning, .bool m.forwarding, .int .i64 m.role, .int .i64 m.age, .int .i64 m.maxAge, .int .i64 m.hello, .int .i64 m.delay] 41) = W0 at HH HT1 qt r3 r5 f5 ⊢
  go_upto_region 3 with (fail)
  have hh := HH.out
  clear HH
  generalize W0.setCell ⟨B.b 5, i, none⟩ (.bool false) = W at hh ⊢
  clear qt r3 r5 f5 HT1
  generalize w.heap.size = b5 at hh ⊢
  have HW := Lib.hid hh.t
  have HB := Lib.hid hh.m
  have HS := Lib.hid hh.s
  have HNB := Lib.hid hh.no
  have q5 := hh.m.cell
  clear hh
  obtain ⟨q, hq⟩ : ∃ q, T1.at_ i = q := ⟨_, rfl⟩
  have HQ := Lib.hid hq
  have Z1 : Hid (0 < T1.n) := Lib.hid (by have := HI1.out; omega)
  obtain ⟨D, hD⟩ : ∃ D, heardB (T1.at_ i) m = D := ⟨_, rfl⟩
  have HD := Lib.hid hD
  obtain ⟨L, hL⟩ : ∃ L, ((q.p.told.bridge == m.v.bridge) && (q.p.told.port == m.v.port)) = L := ⟨_, rfl⟩
  have HL := Lib.hid hL
  have hD1 : Hid (q.p.has = false → D = true) := Lib.hid fun h => by rw [← hD, hq]; unfold heardB; rw [h]; rfl
  have hD2 : Hid (L = true → D = true) := Lib.hid fun h => by
    rw [← hL, Bool.and_eq_true, beq_iff_eq, beq_iff_eq] at h
    rw [← hD, hq]
    unfold heardB supB
    rw [h.1, h.2]
    simp
  have hD3 : Hid (q.p.has = true → L = false → betB m.v q.p.told = D) := Lib.hid fun h h2 => by
    rw [← hD, hq]
    unfold heardB supB
    have e : (m.v.bridge == q.p.told.bridge && m.v.port == q.p.told.port) = false := by
      rw [← hL] at h2
      rw [show (m.v.bridge == q.p.told.bridge) = (q.p.told.bridge == m.v.bridge) from Bool.eq_iff_iff.2 (by simp only [beq_iff_eq]; exact eq_comm), show (m.v.port == q.p.told.port) = (q.p.told.port == m.v.port) from Bool.eq_iff_iff.2 (by simp only [beq_iff_eq]; exact eq_comm)]
      exact h2
    rw [h, e]
    simp
  obtain ⟨T2, hT2⟩ : ∃ T2, hearF i m T1 = T2 := ⟨_, rfl⟩
  have HT2 := Lib.hid hT2
  have o2 : TOk T2 1 := by rw [← hT2]; exact (O1.out.mono (by omega)).hear i m HM.out
  have t2n : T2.n = T1.n := by rw [← hT2]; exact (shp_hear i m T1).n
  have O2 := Lib.hid o2
  have T2N := Lib.hid t2n
  rw [hT2] at HZ
  clear hT2 o2 t2n hD hL hq
  go_upto_region 5 with (fail)
  go_cut [47] (fun s47 wx => s47 = .bool false ∧ wx = W)
  case first =>
    by_cases hk1 : m.kind = 1
    · have hk3 : m.role = 3 := Classical.byContradiction fun h => hk ⟨hk1, h⟩
      have k1b : (m.kind == 1) = true := by simpa using hk1
      have k3b : (m.role != 3) = false := by simpa using hk3
      clear hk hk1 hk3
      go_wp2
      go_meet
      exact ⟨rfl, rfl⟩
    · have k1b : (m.kind == 1) = false := by simpa using hk1
      clear hk hk1
      go_wp2
      go_meet
      exact ⟨rfl, rfl⟩
  case rest =>
    obtain ⟨rfl, rfl⟩ := hcut
    clear hk
    obtain ⟨W, hW⟩ : ∃ x, x = wc := ⟨_, rfl⟩
    subst hW
    go_upto_region 12 with (fail)
    go_cut [6] (fun s6 wx => s6 = .bool L ∧ Below W.heap.size W wx)
    case first => as_aux_lemma =>
      have hX := HW.out
      have qt := hX.ownp Z1.out
      rw [T1N.out] at qt
      have hin : (i : Int) < (T.n : Int) := by have := HI1.out; have := T1N.out; omega
      have r80 : W.cell? ⟨B.b 8, i * 4, none⟩ = some (.int .u64 (T1.at_ i).p.told.root) := hX.get4 HI1.out (f := 8) (.inl (by omega)) rfl 0 (by omega)
      have r81 : W.cell? ⟨B.b 8, i * 4 + 1, none⟩ = some (.int .u64 (T1.at_ i).p.told.cost) := hX.get4 HI1.out (f := 8) (.inl (by omega)) rfl 1 (by omega)
      have r82 : W.cell? ⟨B.b 8, i * 4 + 2, none⟩ = some (.int .u64 (T1.at_ i).p.told.bridge) := hX.get4 HI1.out (f := 8) (.inl (by omega)) rfl 2 (by omega)
      have r83 : W.cell? ⟨B.b 8, i * 4 + 3, none⟩ = some (.int .i64 (T1.at_ i).p.told.port) := hX.get4 HI1.out (f := 8) (.inl (by omega)) rfl 3 (by omega)
      rw [HQ.out] at r80 r81 r82 r83
      clear hX
      by_cases c1 : q.p.told.bridge = m.v.bridge
      rotate_left
      · have c1b : (q.p.told.bridge == m.v.bridge) = false := by simpa using c1
        have HE : Hid (L = false) := Lib.hid (by rw [← HL.out, c1b]; rfl)
        clear c1
        go_quiet (fail)
        go_wp2
        go_meet
        exact ⟨by rw [HE.out], ⟨rfl, rfl, rfl, Nat.le_refl _, fun _ _ => rfl⟩⟩
      have c1b : (q.p.told.bridge == m.v.bridge) = true := by simpa using c1
      by_cases c2 : q.p.told.port = m.v.port
      · have c2b : (q.p.told.port == m.v.port) = true := by simpa using c2
        have HE : Hid (L = true) := Lib.hid (by rw [← HL.out, c1b, c2b]; rfl)
        clear c1 c2
        go_quiet (fail)
        go_wp2
        go_meet
        exact ⟨by rw [HE.out], ⟨rfl, rfl, rfl, Nat.le_refl _, fun _ _ => rfl⟩⟩
      · have c2b : (q.p.told.port == m.v.port) = false := by simpa using c2
        have HE : Hid (L = false) := Lib.hid (by rw [← HL.out, c1b, c2b]; rfl)
        clear c1 c2
        go_quiet (fail)
        go_wp2
        go_meet
        exact ⟨by rw [HE.out], ⟨rfl, rfl, rfl, Nat.le_refl _, fun _ _ => rfl⟩⟩
    case rest =>
      obtain ⟨rfl, hb⟩ := hcut
      obtain ⟨W2, hW2⟩ : ∃ x, x = wc := ⟨_, rfl⟩
      subst hW2
      have hX := HW.out.below hb
      have HSa := Lib.hid (RStep.below B T.n hb)
      have HBa := Lib.hid (HB.out.below hb HB.out.lt)
      have HWa := Lib.hid hX
      clear hb hX q5 HW
      go_upto_region 13 with (fail)
      go_cut [149] (fun s149 wx => s149 = .bool D ∧ Below W2.heap.size W2 wx)
      case first => as_aux_lemma =>
        have hX := HWa.out
        have q5 := HBa.out.cell
        have hin : (i : Int) < (T.n : Int) := by have := HI1.out; have := T1N.out; omega
        have qt := hX.ownp Z1.out
        rw [T1N.out] at qt
        have r4 : W2.cell? ⟨B.b 4, i, none⟩ = some (.bool (T1.at_ i).p.has) := hX.get HI1.out (.inl (by omega)) rfl
        have r80 : W2.cell? ⟨B.b 8, i * 4, none⟩ = some (.int .u64 (T1.at_ i).p.told.root) := hX.get4 HI1.out (f := 8) (.inl (by omega)) rfl 0 (by omega)
        have r81 : W2.cell? ⟨B.b 8, i * 4 + 1, none⟩ = some (.int .u64 (T1.at_ i).p.told.cost) := hX.get4 HI1.out (f := 8) (.inl (by omega)) rfl 1 (by omega)
        have r82 : W2.cell? ⟨B.b 8, i * 4 + 2, none⟩ = some (.int .u64 (T1.at_ i).p.told.bridge) := hX.get4 HI1.out (f := 8) (.inl (by omega)) rfl 2 (by omega)
        have r83 : W2.cell? ⟨B.b 8, i * 4 + 3, none⟩ = some (.int .i64 (T1.at_ i).p.told.port) := hX.get4 HI1.out (f := 8) (.inl (by omega)) rfl 3 (by omega)
        rw [HQ.out] at r4 r80 r81 r82 r83
        cases hhas : q.p.has with
        | false =>
          have HE := Lib.hid (hD1.out hhas)
          rw [hhas] at r4
          clear hhas hX
          go_quiet (fail)
          go_wp2
          go_meet
          exact ⟨by rw [HE.out], ⟨rfl, rfl, rfl, Nat.le_refl _, fun _ _ => rfl⟩⟩
        | true =>
          rw [hhas] at r4
          cases L with
          | true =>
            have HE := Lib.hid (hD2.out rfl)
            clear hhas hX
            go_quiet (fail)
            go_wp2
            go_meet
            exact ⟨by rw [HE.out], ⟨rfl, rfl, rfl, Nat.le_refl _, fun _ _ => rfl⟩⟩
          | false =>
            have HBF := Lib.hid (hD3.out hhas rfl)
            have lt0 := hX.t.lt
            have lt4 := (hX.r Z1.out 4 (.inl (by omega))).lt
            have lt8 := (hX.r Z1.out 8 (.inl (by omega))).lt
            have lt5 := HBa.out.lt
            have et : ∀ (n : KW W2 []) (o : Nat), n.val.cell? ⟨B.tb, o, none⟩ = _ := fun n o => (n.keep.below.cell (p := ⟨B.tb, o, none⟩) lt0).trans (qt o)
            have e4 : ∀ (n : KW W2 []), n.val.cell? ⟨B.b 4, i, none⟩ = _ := fun n => (n.keep.below.cell (p := ⟨B.b 4, i, none⟩) lt4).trans r4
            have e80 : ∀ (n : KW W2 []), n.val.cell? ⟨B.b 8, i * 4, none⟩ = _ := fun n => (n.keep.below.cell (p := ⟨B.b 8, i * 4, none⟩) lt8).trans r80
            have e81 : ∀ (n : KW W2 []), n.val.cell? ⟨B.b 8, i * 4 + 1, none⟩ = _ := fun n => (n.keep.below.cell (p := ⟨B.b 8, i * 4 + 1, none⟩) lt8).trans r81
            have e82 : ∀ (n : KW W2 []), n.val.cell? ⟨B.b 8, i * 4 + 2, none⟩ = _ := fun n => (n.keep.below.cell (p := ⟨B.b 8, i * 4 + 2, none⟩) lt8).trans r82
            have e83 : ∀ (n : KW W2 []), n.val.cell? ⟨B.b 8, i * 4 + 3, none⟩ = _ := fun n => (n.keep.below.cell (p := ⟨B.b 8, i * 4 + 3, none⟩) lt8).trans r83
            have e5 : ∀ (n : KW W2 []) (o : Nat), n.val.cell? ⟨b5, o, none⟩ = _ := fun n o => (n.keep.below.cell (p := ⟨b5, o, none⟩) lt5).trans (q5 o)
            have hne : Nonempty (KW W2 []) := ⟨⟨_, Keep.start W2⟩⟩
            clear hhas hX qt q5 r4 r80 r81 r82 r83 lt0 lt4 lt8 lt5
            refine wp_region_keep (by kernel_rfl) (by kernel_rfl) (Keep.start W2) ?_
            repeat (go_big_quiet_step ((go_at_call 42; exact KW.call (before_calls m.v q.p.told D HBF.out _))))
            refine wpQuiet_nil ?_
            rintro _ ⟨nq, rfl⟩
            have hbq := nq.keep.below
            go_wp2
            go_meet
            exact ⟨rfl, hbq⟩
      case rest =>
        obtain ⟨rfl, hb⟩ := hcut
        obtain ⟨W3, hW3⟩ : ∃ x, x = wc := ⟨_, rfl⟩
        subst hW3
        have HSb := Lib.hid (HSa.out.trans (RStep.below B T.n hb))
        have HBb := Lib.hid (HBa.out.below hb HBa.out.lt)
        have HWb := Lib.hid (HWa.out.below hb)
        clear hb HWa HSa HBa
        go_upto_if 149 with (fail)
        go_cut [2] (fun _ wx => ∃ B' : RB, RefW wx B' T2 ∧ RStep W B T.n wx B')
        case first =>
          rename_i K0 A2 J0 K1 A1 A0
          clear A2 K0
          revert T B i m w U T1 W0 b5 q D L T2 W u7 u8 u9 u10 u11 u12 u13 u14 u15 u16 u17 u18 u19 u20 u21 u22 u23 u24 u25 u26 u27 u28 u29 u30 u31 u32 u33 u34 u35 u36 u37 u38 u39 u40 u41 u42 u43 u44 u45 u46 u47 u48 u49 u50 u51 u52 u53 u54 u55 u56 u57 u58 u59 u60 u61 u62 u63 u64 u65 u66 u67 u68 u69 u70 u71 u72 u73 u74 u75 u76 u77 u78 u79 u80 u81 u82 u83 u84 u85 u86 u87 u88 u89 u90 u91 u92 u93 u94 u95 u96 u97 u98 u99 u100 u101 u102 u103 u104 u105 u106 u107 u108 u109 u110 u111 u112 u113 u114 u115 u116 u117 u118 u119 u120 u121 u122 u123 u124 u125 u126 u127 u128 u129 u130 u131 u132 u133 u134 u135 u136 u137 u138 u139 u140 u141 u142 u143 u144 u145 u146 u147 u148 u150 u151 u152 u153 u154 u155 u156 u157 u158 u159 u160 u161 u162 u163 u164 u165 u166 u167 u168 u169 u170 u171 u172 u173 u174 u175 u176 u177 u178 u179 u180 u181 u182 u183 u184 u185 u186 u187 u188 u189 u190 u191 u192 u193 u194 u195 u196 u197 u198 u199 u200 u201 u202 u203 u204 u205 u206 u207 u208 u209 u210 u211 u212 u213 u214 u215 u216 u217 u218 u219 u220 u221 u222 u223 u224 u225 u226 u227 u228 u229 u230 u231 u232 W3 J0 K1
          exact hLater.out
        case rest => as_aux_lemma =>
          obtain ⟨⟨tb2, b2, a2, c2, ov2⟩, hT2, hS2⟩ := hcut
          obtain rfl : tb2 = B.tb := hS2.tb
          obtain ⟨W7, hW7⟩ : ∃ x, x = wc := ⟨_, rfl⟩
          subst hW7
          have HI2 : Hid (i < T2.n) := Lib.hid (by rw [T2N.out]; exact HI1.out)
          have Z2 : Hid (0 < T2.n) := Lib.hid (by have := HI2.out; omega)
          have hin2 : (i : Int) < (T2.n : Int) := by have := HI2.out; omega
          obtain ⟨V, hV⟩ : ∃ V, T2.tell_ i = V := ⟨_, rfl⟩
          obtain ⟨E, hE⟩ : ∃ E, (decide ((T2.at_ i).role = 2) && betB V m.v) = E := ⟨_, rfl⟩
          have HEE := Lib.hid hE
          have HVe := Lib.hid hV
          have HW7 := Lib.hid hT2
          have HS7 := Lib.hid hS2
          have HB7 := Lib.hid (HB.out.fr hS2.fr HNB.out)
          clear hV hE hT2 hS2
          go_upto_region 20 with (fail)
          go_cut [224] (fun s224 wx => s224 = .bool E ∧ Below W7.heap.size W7 wx)
          case first =>
            have hX := HW7.out
            have q5 := HB7.out.cell
            have qt := hX.ownp Z2.out
            dsimp only at qt
            have r9 : W7.cell? ⟨b2 9, i, none⟩ = some (.int .i64 (T2.at_ i).role) := hX.g9 HI2.out
            by_cases h2 : (T2.at_ i).role = 2
            rotate_left
            · have h2b : ((T2.at_ i).role == 2) = false := by simpa using h2
              have HE : Hid (E = false) := Lib.hid (by rw [← HEE.out, decide_eq_false h2]; rfl)
              clear h2 hX
              go_quiet (fail)
              go_wp2
              go_meet
              exact ⟨by rw [HE.out], ⟨rfl, rfl, rfl, Nat.le_refl _, fun _ _ => rfl⟩⟩
            have HBF : Hid (betB V m.v = E) := Lib.hid (by rw [← HEE.out, decide_eq_true h2]; rfl)
            rw [h2] at r9
            have t0 : W7.cell? ⟨b2 17, i * 4, none⟩ = some (.int .u64 V.root) := by have := hX.get4 HI2.out (f := 17) (.inr rfl) rfl 0 (by omega); rw [show cont T2 17 i = (T2.tell_ i).cells from rfl, HVe.out] at this; exact this
            have t1 : W7.cell? ⟨b2 17, i * 4 + 1, none⟩ = some (.int .u64 V.cost) := by have := hX.get4 HI2.out (f := 17) (.inr rfl) rfl 1 (by omega); rw [show cont T2 17 i = (T2.tell_ i).cells from rfl, HVe.out] at this; exact this
            have t2 : W7.cell? ⟨b2 17, i * 4 + 2, none⟩ = some (.int .u64 V.bridge) := by have := hX.get4 HI2.out (f := 17) (.inr rfl) rfl 2 (by omega); rw [show cont T2 17 i = (T2.tell_ i).cells from rfl, HVe.out] at this; exact this
            have t3 : W7.cell? ⟨b2 17, i * 4 + 3, none⟩ = some (.int .i64 V.port) := by have := hX.get4 HI2.out (f := 17) (.inr rfl) rfl 3 (by omega); rw [show cont T2 17 i = (T2.tell_ i).cells from rfl, HVe.out] at this; exact this
            have lt0 := hX.t.lt
            have lt9 := (hX.r Z2.out 9 (.inl (by omega))).lt
            have lt17 := (hX.r Z2.out 17 (.inr rfl)).lt
            have lt5 := HB7.out.lt
            have et : ∀ (n : KW W7 []) (o : Nat), n.val.cell? ⟨B.tb, o, none⟩ = _ := fun n o => (n.keep.below.cell (p := ⟨B.tb, o, none⟩) lt0).trans (qt o)
            have e9 : ∀ (n : KW W7 []), n.val.cell? ⟨b2 9, i, none⟩ = _ := fun n => (n.keep.below.cell (p := ⟨b2 9, i, none⟩) lt9).trans r9
            have e0 : ∀ (n : KW W7 []), n.val.cell? ⟨b2 17, i * 4, none⟩ = _ := fun n => (n.keep.below.cell (p := ⟨b2 17, i * 4, none⟩) lt17).trans t0
            have e1 : ∀ (n : KW W7 []), n.val.cell? ⟨b2 17, i * 4 + 1, none⟩ = _ := fun n => (n.keep.below.cell (p := ⟨b2 17, i * 4 + 1, none⟩) lt17).trans t1
            have e2 : ∀ (n : KW W7 []), n.val.cell? ⟨b2 17, i * 4 + 2, none⟩ = _ := fun n => (n.keep.below.cell (p := ⟨b2 17, i * 4 + 2, none⟩) lt17).trans t2
            have e3 : ∀ (n : KW W7 []), n.val.cell? ⟨b2 17, i * 4 + 3, none⟩ = _ := fun n => (n.keep.below.cell (p := ⟨b2 17, i * 4 + 3, none⟩) lt17).trans t3
            have e5 : ∀ (n : KW W7 []) (o : Nat), n.val.cell? ⟨b5, o, none⟩ = _ := fun n o => (n.keep.below.cell (p := ⟨b5, o, none⟩) lt5).trans (q5 o)
            have hne : Nonempty (KW W7 []) := ⟨⟨_, Keep.start W7⟩⟩
            clear h2 hX qt q5 r9 t0 t1 t2 t3 lt0 lt9 lt17 lt5
            refine wp_region_keep (by kernel_rfl) (by kernel_rfl) (Keep.start W7) ?_
            repeat (go_big_quiet_step ((go_at_call 42; exact KW.call (before_calls V m.v E HBF.out _))))
            refine wpQuiet_nil ?_
            rintro _ ⟨nq, rfl⟩
            have hbq := nq.keep.below
            go_wp2
            go_meet
            exact ⟨rfl, hbq⟩
          case rest =>
            obtain ⟨rfl, hb⟩ := hcut
            obtain ⟨W8, hW8⟩ : ∃ x, x = wc := ⟨_, rfl⟩
            subst hW8
            have HW8 := Lib.hid (HW7.out.below hb)
            have HS8 := Lib.hid (HS7.out.trans (RStep.below _ _ hb))
            obtain ⟨T4, hT4⟩ : ∃ T4, replyF i m T2 = T4 := ⟨_, rfl⟩
            have hz4 := HZ.out
            rw [hT4] at hz4
            have HZ4 := Lib.hid hz4
            have o4 : T4.n = T2.n ∧ T4.flush.length = T4.n := by
              have h := shp_reply i m T2
              rw [hT4] at h
              exact ⟨h.n, (h.fl.trans O2.out.fl).trans h.n.symm⟩
            have T4N := Lib.hid o4.1
            have HI4 : Hid (i < T4.n) := Lib.hid (by rw [o4.1]; exact HI2.out)
            have N4 : Hid (T4.n ≤ 16) := Lib.hid (by rw [o4.1, T2N.out]; exact N16.out)
            have F4 := Lib.hid o4.2
            have hee := HEE.out
            rw [← HVe.out] at hee
            have HR0 : Hid (E = false → T2 = T4) := Lib.hid fun h => by rw [← hT4]; exact (reply_no (hee.trans h)).symm
            have HR1 : Hid (E = true → sendF i false T2 = T4) := Lib.hid fun h => by rw [← hT4]; exact (reply_yes (hee.trans h)).symm
            clear hb hT4 hz4 o4 hee HW7 HB7 HS7
            go_upto_if 224 with (fail)
            go_cut [] (fun wx => ∃ v, RefW wx ⟨B.tb, b2, a2, c2, v⟩ T4 ∧ RStep W B T.n wx ⟨B.tb, b2, a2, c2, v⟩)
            case first =>
              cases E with
              | false =>
                have HE := Lib.hid (HR0.out rfl)
                go_wp2
                go_meet
                exact ⟨_, by rw [← HE.out]; exact HW8.out, HS8.out⟩
              | true =>
                have HC : Hid (Calls Try.prog 41 #[.pointer (some ⟨B.tb, 0, none⟩), .int .i64 (i : Int), .bool false] W8 (RSPost W8 ⟨B.tb, b2, a2, c2, ov2⟩ T2.n T4)) := Lib.hid (rsend_calls T2 ⟨B.tb, b2, a2, c2, ov2⟩ i false HI2.out O2.out.n O2.out.rp O2.out.room W8 HW8.out T4 (HR1.out rfl))
                go_wp2_with (go_at_call 41; (with_reducible refine HC.out.mono ?_); rintro e w' ⟨v', rfl, hT', hS'⟩)
                go_meet
                rw [T2N.out, T1N.out] at hS'
                exact ⟨v', hT', HS8.out.trans hS'⟩
            case rest =>
              obtain ⟨v, hT4, hS4⟩ := hcut
              have q5 := (HB.out.fr hS4.fr HNB.out).cell
              have HT4 := Lib.hid hT4
              have HS4 := Lib.hid (HS.out.trans hS4)
              clear hT4 hS4
              cases hch : m.change with
              | false =>
                have HE : Hid (T4 = U) := by have h := HZ4.out; unfold changeF at h; rw [hch, if_neg (by simp)] at h; exact Lib.hid h
                rw [hch] at q5
                clear hch
                go_wp2
                go_end0
                exact ⟨_, rfl, by rw [← HE.out]; exact HT4.out, HS4.out⟩
              | true =>
                have HE : Hid (noticeF i T4 = U) := by have h := HZ4.out; unfold changeF at h; rw [hch, if_pos rfl] at h; exact Lib.hid h
                rw [hch] at q5
                clear hch
                have HC : Hid (Calls Try.prog 40 #[.pointer (some ⟨B.tb, 0, none⟩), .int .i64 (i : Int)] wc (RQPost wc ⟨B.tb, b2, a2, c2, v⟩ T4.n U)) := Lib.hid (rnotice_calls T4 ⟨B.tb, b2, a2, c2, v⟩ i HI4.out N4.out F4.out wc HT4.out U HE.out)
                go_wp2_with (go_at_call 40; (with_reducible refine HC.out.mono ?_); rintro e w' ⟨rfl, hT', hS'⟩)
                go_end0
                rw [T4N.out, T2N.out, T1N.out] at hS'
                exact ⟨_, rfl, hT', HS4.out.trans hS'⟩
set_option maxRecDepth 8000 in
set_option maxHeartbeats 40000000 in
theorem rreceive_cH : rreceive_cP.1 := by
          intro T
          unhygienic intros
          cases D with
          | false =>
            have HE : Hid (T1 = T2) := by rw [← HT2.out]; exact Lib.hid (hear_no HD.out).symm
            go_wp2
            go_meet
            exact ⟨B, by rw [← HE.out]; exact HWb.out, HSb.out⟩
          | true =>
            have hhe := hear_yes HD.out
            rw [HT2.out] at hhe
            have oth := (O1.out.heard i m HM.out).mono (k := T1.n + (T1.n + 1)) (by omega)
            have sth : AllP StB (T1.upd i (hearP (T1.at_ i) m)) := AllP.upd (I := StB) S1.out (fun hi => clo_st.hear _ m HM.out (S1.out i hi))
            have hth : Hid (T1.upd i (hearP (T1.at_ i) m) = T1.upd i (hearP q m)) := Lib.hid (by rw [HQ.out])
            obtain ⟨TH, hTHe⟩ : ∃ TH, T1.upd i (hearP (T1.at_ i) m) = TH := ⟨_, rfl⟩
            have thn : TH.n = T1.n := by rw [← hTHe]; exact upd_n _ _ _
            rw [hTHe] at hhe oth sth hth
            rw [← thn] at oth
            have o3 := TOk.again (k := TH.n + 1) oth false
            obtain ⟨T3, hT3⟩ : ∃ T3, againF false TH = T3 := ⟨_, rfl⟩
            have t3n : T3.n = T1.n := by rw [← hT3]; exact (shp_again false TH).n.trans thn
            have s3 : AllP StB T3 := by rw [← hT3]; exact allP_again clo_st false sth
            rw [hT3] at hhe o3
            have HHE := Lib.hid hhe
            have HT3 := Lib.hid hT3
            have OTH : Hid (TOk TH TH.n) := Lib.hid (oth.mono (by omega))
            have O3 : Hid (TOk T3 (T3.n + 1)) := by rw [t3n, ← thn]; exact Lib.hid o3
            have HI3 : Hid (i < T3.n) := Lib.hid (by rw [t3n]; exact HI1.out)
            have THN := Lib.hid thn
            have T3N := Lib.hid t3n
            have S3 := Lib.hid s3
            clear hhe oth hTHe thn o3 hT3 t3n sth s3
            have hX3 := HWb.out
            have q5 := HBb.out.cell
            have hin : (i : Int) < (T.n : Int) := by have := HI1.out; have := T1N.out; omega
            have s1 : IntKind.i64.wrap (m.age + 256) = m.age + 256 := IntWalk.i64_in _ (by omega)
            have qt := hX3.ownp Z1.out
            rw [T1N.out] at qt
            have HS0 : Hid (W3.drew.cell? ⟨B.tb, 4, none⟩ = some (.slice (some ⟨B.b 4, 0, none⟩) T.n (B.c 4)) ∧ W3.drew.cell? ⟨B.tb, 8, none⟩ = some (.slice (some ⟨B.b 8, 0, none⟩) T.n (B.c 8)) ∧ W3.drew.cell? ⟨B.tb, 11, none⟩ = some (.slice (some ⟨B.b 11, 0, none⟩) T.n (B.c 11)) ∧ W3.drew.cell? ⟨B.tb, 12, none⟩ = some (.slice (some ⟨B.b 12, 0, none⟩) T.n (B.c 12)) ∧ W3.drew.cell? ⟨b5, 1, none⟩ = some (.int .u64 m.v.root) ∧ W3.drew.cell? ⟨b5, 2, none⟩ = some (.int .u64 m.v.cost) ∧ W3.drew.cell? ⟨b5, 3, none⟩ = some (.int .u64 m.v.bridge) ∧ W3.drew.cell? ⟨b5, 4, none⟩ = some (.int .i64 m.v.port) ∧ W3.drew.cell? ⟨b5, 12, none⟩ = some (.int .i64 m.age)) := Lib.hid ⟨qt 4, qt 8, qt 11, qt 12, q5 1, q5 2, q5 3, q5 4, q5 12⟩
            clear qt q5
            go_upto_region 14 with (fail)
            refine wp_region_held_drew (S := fun w' => (w'.cell? ⟨B.tb, 4, none⟩ = some (.slice (some ⟨B.b 4, 0, none⟩) T.n (B.c 4)) ∧ w'.cell? ⟨B.tb, 8, none⟩ = some (.slice (some ⟨B.b 8, 0, none⟩) T.n (B.c 8)) ∧ w'.cell? ⟨B.tb, 11, none⟩ = some (.slice (some ⟨B.b 11, 0, none⟩) T.n (B.c 11)) ∧ w'.cell? ⟨B.tb, 12, none⟩ = some (.slice (some ⟨B.b 12, 0, none⟩) T.n (B.c 12)) ∧ w'.cell? ⟨b5, 1, none⟩ = some (.int .u64 m.v.root) ∧ w'.cell? ⟨b5, 2, none⟩ = some (.int .u64 m.v.cost) ∧ w'.cell? ⟨b5, 3, none⟩ = some (.int .u64 m.v.bridge) ∧ w'.cell? ⟨b5, 4, none⟩ = some (.int .i64 m.v.port) ∧ w'.cell? ⟨b5, 12, none⟩ = some (.int .i64 m.age))) (by kernel_rfl) HS0.out (fun hS => ?_)
            have hX0 : RefW W3.drew B T1 := hX3.drew
            have hs0 : RStep W3 B T1.n W3.drew B := (RStep.refl W3 B T1.n).drew
            generalize W3.drew = w0 at hX0 hs0 hS HS0 ⊢
            have hX := hX0
            clear hX3 hX0 HS0
            have r4 : w0.cell? ⟨B.b 4, i, none⟩ = some (.bool (T1.at_ i).p.has) := hX.get HI1.out (.inl (by omega)) rfl
            have r80 : w0.cell? ⟨B.b 8, i * 4, none⟩ = some (.int .u64 (T1.at_ i).p.told.root) := hX.get4 HI1.out (f := 8) (.inl (by omega)) rfl 0 (by omega)
            have r81 : w0.cell? ⟨B.b 8, i * 4 + 1, none⟩ = some (.int .u64 (T1.at_ i).p.told.cost) := hX.get4 HI1.out (f := 8) (.inl (by omega)) rfl 1 (by omega)
            have r82 : w0.cell? ⟨B.b 8, i * 4 + 2, none⟩ = some (.int .u64 (T1.at_ i).p.told.bridge) := hX.get4 HI1.out (f := 8) (.inl (by omega)) rfl 2 (by omega)
            have r83 : w0.cell? ⟨B.b 8, i * 4 + 3, none⟩ = some (.int .i64 (T1.at_ i).p.told.port) := hX.get4 HI1.out (f := 8) (.inl (by omega)) rfl 3 (by omega)
            have r11 : w0.cell? ⟨B.b 11, i, none⟩ = some (.int .i64 (T1.at_ i).age) := hX.get HI1.out (.inl (by omega)) rfl
            have r12 : w0.cell? ⟨B.b 12, i, none⟩ = some (.int .i64 (T1.at_ i).left) := hX.get HI1.out (.inl (by omega)) rfl
            have f4 := hX.free Z1.out (f := 4) (.inl (by omega))
            have f8 := hX.free Z1.out (f := 8) (.inl (by omega))
            have f11 := hX.free Z1.out (f := 11) (.inl (by omega))
            have f12 := hX.free Z1.out (f := 12) (.inl (by omega))
            have n1 := hX.ne Z1.out 4 8 (.inl (by omega)) (.inl (by omega)) (by decide)
            have n2 := hX.ne Z1.out 4 11 (.inl (by omega)) (.inl (by omega)) (by decide)
            have n3 := hX.ne Z1.out 4 12 (.inl (by omega)) (.inl (by omega)) (by decide)
            have n4 := hX.ne Z1.out 8 11 (.inl (by omega)) (.inl (by omega)) (by decide)
            have n5 := hX.ne Z1.out 8 12 (.inl (by omega)) (.inl (by omega)) (by decide)
            have n6 := hX.ne Z1.out 11 12 (.inl (by omega)) (.inl (by omega)) (by decide)
            have m4 := hX.nt Z1.out 4 (.inl (by omega))
            have m8 := hX.nt Z1.out 8 (.inl (by omega))
            have m11 := hX.nt Z1.out 11 (.inl (by omega))
            have m12 := hX.nt Z1.out 12 (.inl (by omega))
            have hi1 := HI1.out
            have g1 := hX.set_has hi1 true
            have g2 := g1.set_told (i := i) (by rw [upd_n]; exact hi1) m.v
            rw [upd_at T1 _ hi1, upd_upd] at g2
            rw [HQ.out] at g2
            have G2 : RefW (((((w0.setCell ⟨B.b 4, i, none⟩ (.bool true)).setCell ⟨B.b 8, i * 4, none⟩ (.int .u64 m.v.root)).setCell ⟨B.b 8, i * 4 + 1, none⟩ (.int .u64 m.v.cost)).setCell ⟨B.b 8, i * 4 + 2, none⟩ (.int .u64 m.v.bridge)).setCell ⟨B.b 8, i * 4 + 3, none⟩ (.int .i64 m.v.port)) B (T1.upd i { q with p := { q.p with has := true, told := m.v } }) := g2
            have S2 : RStep W3 B T1.n (((((w0.setCell ⟨B.b 4, i, none⟩ (.bool true)).setCell ⟨B.b 8, i * 4, none⟩ (.int .u64 m.v.root)).setCell ⟨B.b 8, i * 4 + 1, none⟩ (.int .u64 m.v.cost)).setCell ⟨B.b 8, i * 4 + 2, none⟩ (.int .u64 m.v.bridge)).setCell ⟨B.b 8, i * 4 + 3, none⟩ (.int .i64 m.v.port)) B := (hs0.set Z1.out (f := 4) (.inl (by omega)) i _).set_told Z1.out i _ _ _ _
            have e4 : b5 ≠ B.b 4 := fun e => HNB.out (.inr (.inl ⟨by rw [← T1N.out]; exact Z1.out, 4, .inl (by omega), e⟩))
            have e8 : b5 ≠ B.b 8 := fun e => HNB.out (.inr (.inl ⟨by rw [← T1N.out]; exact Z1.out, 8, .inl (by omega), e⟩))
            have e11 : b5 ≠ B.b 11 := fun e => HNB.out (.inr (.inl ⟨by rw [← T1N.out]; exact Z1.out, 11, .inl (by omega), e⟩))
            have e12 : b5 ≠ B.b 12 := fun e => HNB.out (.inr (.inl ⟨by rw [← T1N.out]; exact Z1.out, 12, .inl (by omega), e⟩))
            have HK4 : Hid (∀ (W' : World) (j : Nat) (v : Value), (W'.cell? ⟨B.tb, 4, none⟩ = some (.slice (some ⟨B.b 4, 0, none⟩) T.n (B.c 4)) ∧ W'.cell? ⟨B.tb, 8, none⟩ = some (.slice (some ⟨B.b 8, 0, none⟩) T.n (B.c 8)) ∧ W'.cell? ⟨B.tb, 11, none⟩ = some (.slice (some ⟨B.b 11, 0, none⟩) T.n (B.c 11)) ∧ W'.cell? ⟨B.tb, 12, none⟩ = some (.slice (some ⟨B.b 12, 0, none⟩) T.n (B.c 12)) ∧ W'.cell? ⟨b5, 1, none⟩ = some (.int .u64 m.v.root) ∧ W'.cell? ⟨b5, 2, none⟩ = some (.int .u64 m.v.cost) ∧ W'.cell? ⟨b5, 3, none⟩ = some (.int .u64 m.v.bridge) ∧ W'.cell? ⟨b5, 4, none⟩ = some (.int .i64 m.v.port) ∧ W'.cell? ⟨b5, 12, none⟩ = some (.int .i64 m.age)) → ((W'.setCell ⟨B.b 4, j, none⟩ v).cell? ⟨B.tb, 4, none⟩ = some (.slice (some ⟨B.b 4, 0, none⟩) T.n (B.c 4)) ∧ (W'.setCell ⟨B.b 4, j, none⟩ v).cell? ⟨B.tb, 8, none⟩ = some (.slice (some ⟨B.b 8, 0, none⟩) T.n (B.c 8)) ∧ (W'.setCell ⟨B.b 4, j, none⟩ v).cell? ⟨B.tb, 11, none⟩ = some (.slice (some ⟨B.b 11, 0, none⟩) T.n (B.c 11)) ∧ (W'.setCell ⟨B.b 4, j, none⟩ v).cell? ⟨B.tb, 12, none⟩ = some (.slice (some ⟨B.b 12, 0, none⟩) T.n (B.c 12)) ∧ (W'.setCell ⟨B.b 4, j, none⟩ v).cell? ⟨b5, 1, none⟩ = some (.int .u64 m.v.root) ∧ (W'.setCell ⟨B.b 4, j, none⟩ v).cell? ⟨b5, 2, none⟩ = some (.int .u64 m.v.cost) ∧ (W'.setCell ⟨B.b 4, j, none⟩ v).cell? ⟨b5, 3, none⟩ = some (.int .u64 m.v.bridge) ∧ (W'.setCell ⟨B.b 4, j, none⟩ v).cell? ⟨b5, 4, none⟩ = some (.int .i64 m.v.port) ∧ (W'.setCell ⟨B.b 4, j, none⟩ v).cell? ⟨b5, 12, none⟩ = some (.int .i64 m.age))) := Lib.hid fun W' j v h =>
              ⟨(cell_set_ne m4).trans h.1, (cell_set_ne m4).trans h.2.1, (cell_set_ne m4).trans h.2.2.1, (cell_set_ne m4).trans h.2.2.2.1, (cell_set_ne e4).trans h.2.2.2.2.1, (cell_set_ne e4).trans h.2.2.2.2.2.1, (cell_set_ne e4).trans h.2.2.2.2.2.2.1, (cell_set_ne e4).trans h.2.2.2.2.2.2.2.1, (cell_set_ne e4).trans h.2.2.2.2.2.2.2.2⟩
            have HK8 : Hid (∀ (W' : World) (j : Nat) (v : Value), (W'.cell? ⟨B.tb, 4, none⟩ = some (.slice (some ⟨B.b 4, 0, none⟩) T.n (B.c 4)) ∧ W'.cell? ⟨B.tb, 8, none⟩ = some (.slice (some ⟨B.b 8, 0, none⟩) T.n (B.c 8)) ∧ W'.cell? ⟨B.tb, 11, none⟩ = some (.slice (some ⟨B.b 11, 0, none⟩) T.n (B.c 11)) ∧ W'.cell? ⟨B.tb, 12, none⟩ = some (.slice (some ⟨B.b 12, 0, none⟩) T.n (B.c 12)) ∧ W'.cell? ⟨b5, 1, none⟩ = some (.int .u64 m.v.root) ∧ W'.cell? ⟨b5, 2, none⟩ = some (.int .u64 m.v.cost) ∧ W'.cell? ⟨b5, 3, none⟩ = some (.int .u64 m.v.bridge) ∧ W'.cell? ⟨b5, 4, none⟩ = some (.int .i64 m.v.port) ∧ W'.cell? ⟨b5, 12, none⟩ = some (.int .i64 m.age)) → ((W'.setCell ⟨B.b 8, j, none⟩ v).cell? ⟨B.tb, 4, none⟩ = some (.slice (some ⟨B.b 4, 0, none⟩) T.n (B.c 4)) ∧ (W'.setCell ⟨B.b 8, j, none⟩ v).cell? ⟨B.tb, 8, none⟩ = some (.slice (some ⟨B.b 8, 0, none⟩) T.n (B.c 8)) ∧ (W'.setCell ⟨B.b 8, j, none⟩ v).cell? ⟨B.tb, 11, none⟩ = some (.slice (some ⟨B.b 11, 0, none⟩) T.n (B.c 11)) ∧ (W'.setCell ⟨B.b 8, j, none⟩ v).cell? ⟨B.tb, 12, none⟩ = some (.slice (some ⟨B.b 12, 0, none⟩) T.n (B.c 12)) ∧ (W'.setCell ⟨B.b 8, j, none⟩ v).cell? ⟨b5, 1, none⟩ = some (.int .u64 m.v.root) ∧ (W'.setCell ⟨B.b 8, j, none⟩ v).cell? ⟨b5, 2, none⟩ = some (.int .u64 m.v.cost) ∧ (W'.setCell ⟨B.b 8, j, none⟩ v).cell? ⟨b5, 3, none⟩ = some (.int .u64 m.v.bridge) ∧ (W'.setCell ⟨B.b 8, j, none⟩ v).cell? ⟨b5, 4, none⟩ = some (.int .i64 m.v.port) ∧ (W'.setCell ⟨B.b 8, j, none⟩ v).cell? ⟨b5, 12, none⟩ = some (.int .i64 m.age))) := Lib.hid fun W' j v h =>
              ⟨(cell_set_ne m8).trans h.1, (cell_set_ne m8).trans h.2.1, (cell_set_ne m8).trans h.2.2.1, (cell_set_ne m8).trans h.2.2.2.1, (cell_set_ne e8).trans h.2.2.2.2.1, (cell_set_ne e8).trans h.2.2.2.2.2.1, (cell_set_ne e8).trans h.2.2.2.2.2.2.1, (cell_set_ne e8).trans h.2.2.2.2.2.2.2.1, (cell_set_ne e8).trans h.2.2.2.2.2.2.2.2⟩
            have HK11 : Hid (∀ (W' : World) (j : Nat) (v : Value), (W'.cell? ⟨B.tb, 4, none⟩ = some (.slice (some ⟨B.b 4, 0, none⟩) T.n (B.c 4)) ∧ W'.cell? ⟨B.tb, 8, none⟩ = some (.slice (some ⟨B.b 8, 0, none⟩) T.n (B.c 8)) ∧ W'.cell? ⟨B.tb, 11, none⟩ = some (.slice (some ⟨B.b 11, 0, none⟩) T.n (B.c 11)) ∧ W'.cell? ⟨B.tb, 12, none⟩ = some (.slice (some ⟨B.b 12, 0, none⟩) T.n (B.c 12)) ∧ W'.cell? ⟨b5, 1, none⟩ = some (.int .u64 m.v.root) ∧ W'.cell? ⟨b5, 2, none⟩ = some (.int .u64 m.v.cost) ∧ W'.cell? ⟨b5, 3, none⟩ = some (.int .u64 m.v.bridge) ∧ W'.cell? ⟨b5, 4, none⟩ = some (.int .i64 m.v.port) ∧ W'.cell? ⟨b5, 12, none⟩ = some (.int .i64 m.age)) → ((W'.setCell ⟨B.b 11, j, none⟩ v).cell? ⟨B.tb, 4, none⟩ = some (.slice (some ⟨B.b 4, 0, none⟩) T.n (B.c 4)) ∧ (W'.setCell ⟨B.b 11, j, none⟩ v).cell? ⟨B.tb, 8, none⟩ = some (.slice (some ⟨B.b 8, 0, none⟩) T.n (B.c 8)) ∧ (W'.setCell ⟨B.b 11, j, none⟩ v).cell? ⟨B.tb, 11, none⟩ = some (.slice (some ⟨B.b 11, 0, none⟩) T.n (B.c 11)) ∧ (W'.setCell ⟨B.b 11, j, none⟩ v).cell? ⟨B.tb, 12, none⟩ = some (.slice (some ⟨B.b 12, 0, none⟩) T.n (B.c 12)) ∧ (W'.setCell ⟨B.b 11, j, none⟩ v).cell? ⟨b5, 1, none⟩ = some (.int .u64 m.v.root) ∧ (W'.setCell ⟨B.b 11, j, none⟩ v).cell? ⟨b5, 2, none⟩ = some (.int .u64 m.v.cost) ∧ (W'.setCell ⟨B.b 11, j, none⟩ v).cell? ⟨b5, 3, none⟩ = some (.int .u64 m.v.bridge) ∧ (W'.setCell ⟨B.b 11, j, none⟩ v).cell? ⟨b5, 4, none⟩ = some (.int .i64 m.v.port) ∧ (W'.setCell ⟨B.b 11, j, none⟩ v).cell? ⟨b5, 12, none⟩ = some (.int .i64 m.age))) := Lib.hid fun W' j v h =>
              ⟨(cell_set_ne m11).trans h.1, (cell_set_ne m11).trans h.2.1, (cell_set_ne m11).trans h.2.2.1, (cell_set_ne m11).trans h.2.2.2.1, (cell_set_ne e11).trans h.2.2.2.2.1, (cell_set_ne e11).trans h.2.2.2.2.2.1, (cell_set_ne e11).trans h.2.2.2.2.2.2.1, (cell_set_ne e11).trans h.2.2.2.2.2.2.2.1, (cell_set_ne e11).trans h.2.2.2.2.2.2.2.2⟩
            have HK12 : Hid (∀ (W' : World) (j : Nat) (v : Value), (W'.cell? ⟨B.tb, 4, none⟩ = some (.slice (some ⟨B.b 4, 0, none⟩) T.n (B.c 4)) ∧ W'.cell? ⟨B.tb, 8, none⟩ = some (.slice (some ⟨B.b 8, 0, none⟩) T.n (B.c 8)) ∧ W'.cell? ⟨B.tb, 11, none⟩ = some (.slice (some ⟨B.b 11, 0, none⟩) T.n (B.c 11)) ∧ W'.cell? ⟨B.tb, 12, none⟩ = some (.slice (some ⟨B.b 12, 0, none⟩) T.n (B.c 12)) ∧ W'.cell? ⟨b5, 1, none⟩ = some (.int .u64 m.v.root) ∧ W'.cell? ⟨b5, 2, none⟩ = some (.int .u64 m.v.cost) ∧ W'.cell? ⟨b5, 3, none⟩ = some (.int .u64 m.v.bridge) ∧ W'.cell? ⟨b5, 4, none⟩ = some (.int .i64 m.v.port) ∧ W'.cell? ⟨b5, 12, none⟩ = some (.int .i64 m.age)) → ((W'.setCell ⟨B.b 12, j, none⟩ v).cell? ⟨B.tb, 4, none⟩ = some (.slice (some ⟨B.b 4, 0, none⟩) T.n (B.c 4)) ∧ (W'.setCell ⟨B.b 12, j, none⟩ v).cell? ⟨B.tb, 8, none⟩ = some (.slice (some ⟨B.b 8, 0, none⟩) T.n (B.c 8)) ∧ (W'.setCell ⟨B.b 12, j, none⟩ v).cell? ⟨B.tb, 11, none⟩ = some (.slice (some ⟨B.b 11, 0, none⟩) T.n (B.c 11)) ∧ (W'.setCell ⟨B.b 12, j, none⟩ v).cell? ⟨B.tb, 12, none⟩ = some (.slice (some ⟨B.b 12, 0, none⟩) T.n (B.c 12)) ∧ (W'.setCell ⟨B.b 12, j, none⟩ v).cell? ⟨b5, 1, none⟩ = some (.int .u64 m.v.root) ∧ (W'.setCell ⟨B.b 12, j, none⟩ v).cell? ⟨b5, 2, none⟩ = some (.int .u64 m.v.cost) ∧ (W'.setCell ⟨B.b 12, j, none⟩ v).cell? ⟨b5, 3, none⟩ = some (.int .u64 m.v.bridge) ∧ (W'.setCell ⟨B.b 12, j, none⟩ v).cell? ⟨b5, 4, none⟩ = some (.int .i64 m.v.port) ∧ (W'.setCell ⟨B.b 12, j, none⟩ v).cell? ⟨b5, 12, none⟩ = some (.int .i64 m.age))) := Lib.hid fun W' j v h =>
              ⟨(cell_set_ne m12).trans h.1, (cell_set_ne m12).trans h.2.1, (cell_set_ne m12).trans h.2.2.1, (cell_set_ne m12).trans h.2.2.2.1, (cell_set_ne e12).trans h.2.2.2.2.1, (cell_set_ne e12).trans h.2.2.2.2.2.1, (cell_set_ne e12).trans h.2.2.2.2.2.2.1, (cell_set_ne e12).trans h.2.2.2.2.2.2.2.1, (cell_set_ne e12).trans h.2.2.2.2.2.2.2.2⟩
            clear g1 g2 hX e4 e8 e11 e12 m4 m8 m11 m12
            refine wpAnyH_take (i := 0) (v := .pointer (some ⟨B.tb, 0, none⟩)) (show _ = some (Oper.mk (some 150) _ _ _ _ _) from rfl) (by kernel_rfl) (by kernel_rfl) (by kernel_rfl) (fun _ _ _ h => h) (Or.inl ⟨by rfl, by intro w hSw; go_simp⟩) hS ?_
            try simp only [Act.put, List.setIfInBounds_toArray, List.set_cons_zero, List.set_cons_succ]
            refine wpAnyH_take (i := 1) (v := .pointer (some ⟨B.tb, 0, none⟩)) (show _ = some (Oper.mk (some 151) _ _ _ _ _) from rfl) (by kernel_rfl) (by kernel_rfl) (by kernel_rfl) (fun _ _ _ h => h) (Or.inl ⟨by rfl, by intro w hSw; go_simp⟩) hS ?_
            try simp only [Act.put, List.setIfInBounds_toArray, List.set_cons_zero, List.set_cons_succ]
            refine wpAnyH_take (i := 2) (v := .pointer (some ⟨B.tb, 4, none⟩)) (show _ = some (Oper.mk (some 152) _ _ _ _ _) from rfl) (by kernel_rfl) (by kernel_rfl) (by kernel_rfl) (fun _ _ _ h => h) (Or.inl ⟨by rfl, by intro w hSw; go_simp⟩) hS ?_
            try simp only [Act.put, List.setIfInBounds_toArray, List.set_cons_zero, List.set_cons_succ]
            refine wpAnyH_take (i := 3) (v := .slice (some ⟨B.b 4, 0, none⟩) T.n (B.c 4)) (show _ = some (Oper.mk (some 153) _ _ _ _ _) from rfl) (by kernel_rfl) (by kernel_rfl) (by kernel_rfl) (fun _ _ _ h => h) (Or.inl ⟨by rfl, by intro w hSw; obtain ⟨h1, h2, h3, h4, h5, h6, h7, h8, h9⟩ := hSw; go_simp⟩) hS ?_
            try simp only [Act.put, List.setIfInBounds_toArray, List.set_cons_zero, List.set_cons_succ]
            refine wpAnyH_take (i := 4) (v := .int .i64 (i : Int)) (show _ = some (Oper.mk (some 154) _ _ _ _ _) from rfl) (by kernel_rfl) (by kernel_rfl) (by kernel_rfl) (fun _ _ _ h => h) (Or.inl ⟨by rfl, by intro w hSw; go_simp⟩) hS ?_
            try simp only [Act.put, List.setIfInBounds_toArray, List.set_cons_zero, List.set_cons_succ]
            refine wpAnyH_take (i := 5) (v := .pointer (some ⟨B.tb, 0, none⟩)) (show _ = some (Oper.mk (some 155) _ _ _ _ _) from rfl) (by kernel_rfl) (by kernel_rfl) (by kernel_rfl) (fun _ _ _ h => h) (Or.inl ⟨by rfl, by intro w hSw; go_simp⟩) hS ?_
            try simp only [Act.put, List.setIfInBounds_toArray, List.set_cons_zero, List.set_cons_succ]
            refine wpAnyH_take (i := 6) (v := .pointer (some ⟨B.tb, 0, none⟩)) (show _ = some (Oper.mk (some 156) _ _ _ _ _) from rfl) (by kernel_rfl) (by kernel_rfl) (by kernel_rfl) (fun _ _ _ h => h) (Or.inl ⟨by rfl, by intro w hSw; go_simp⟩) hS ?_
            try simp only [Act.put, List.setIfInBounds_toArray, List.set_cons_zero, List.set_cons_succ]
            refine wpAnyH_take (i := 7) (v := .pointer (some ⟨B.tb, 8, none⟩)) (show _ = some (Oper.mk (some 157) _ _ _ _ _) from rfl) (by kernel_rfl) (by kernel_rfl) (by kernel_rfl) (fun _ _ _ h => h) (Or.inl ⟨by rfl, by intro w hSw; go_simp⟩) hS ?_
            try simp only [Act.put, List.setIfInBounds_toArray, List.set_cons_zero, List.set_cons_succ]
            refine wpAnyH_take (i := 8) (v := .slice (some ⟨B.b 8, 0, none⟩) T.n (B.c 8)) (show _ = some (Oper.mk (some 158) _ _ _ _ _) from rfl) (by kernel_rfl) (by kernel_rfl) (by kernel_rfl) (fun _ _ _ h => h) (Or.inl ⟨by rfl, by intro w hSw; obtain ⟨h1, h2, h3, h4, h5, h6, h7, h8, h9⟩ := hSw; go_simp⟩) hS ?_
            try simp only [Act.put, List.setIfInBounds_toArray, List.set_cons_zero, List.set_cons_succ]
            refine wpAnyH_take (i := 9) (v := .int .i64 (i : Int)) (show _ = some (Oper.mk (some 159) _ _ _ _ _) from rfl) (by kernel_rfl) (by kernel_rfl) (by kernel_rfl) (fun _ _ _ h => h) (Or.inl ⟨by rfl, by intro w hSw; go_simp⟩) hS ?_
            try simp only [Act.put, List.setIfInBounds_toArray, List.set_cons_zero, List.set_cons_succ]
            refine wpAnyH_take (i := 10) (v := .pointer (some ⟨B.tb, 0, none⟩)) (show _ = some (Oper.mk (some 160) _ _ _ _ _) from rfl) (by kernel_rfl) (by kernel_rfl) (by kernel_rfl) (fun _ _ _ h => h) (Or.inl ⟨by rfl, by intro w hSw; go_simp⟩) hS ?_
            try simp only [Act.put, List.setIfInBounds_toArray, List.set_cons_zero, List.set_cons_succ]
            refine wpAnyH_take (i := 11) (v := .pointer (some ⟨B.tb, 0, none⟩)) (show _ = some (Oper.mk (some 161) _ _ _ _ _) from rfl) (by kernel_rfl) (by kernel_rfl) (by kernel_rfl) (fun _ _ _ h => h) (Or.inl ⟨by rfl, by intro w hSw; go_simp⟩) hS ?_
            try simp only [Act.put, List.setIfInBounds_toArray, List.set_cons_zero, List.set_cons_succ]
            refine wpAnyH_take (i := 12) (v := .pointer (some ⟨B.tb, 11, none⟩)) (show _ = some (Oper.mk (some 162) _ _ _ _ _) from rfl) (by kernel_rfl) (by kernel_rfl) (by kernel_rfl) (fun _ _ _ h => h) (Or.inl ⟨by rfl, by intro w hSw; go_simp⟩) hS ?_
            try simp only [Act.put, List.setIfInBounds_toArray, List.set_cons_zero, List.set_cons_succ]
            refine wpAnyH_take (i := 13) (v := .slice (some ⟨B.b 11, 0, none⟩) T.n (B.c 11)) (show _ = some (Oper.mk (some 163) _ _ _ _ _) from rfl) (by kernel_rfl) (by kernel_rfl) (by kernel_rfl) (fun _ _ _ h => h) (Or.inl ⟨by rfl, by intro w hSw; obtain ⟨h1, h2, h3, h4, h5, h6, h7, h8, h9⟩ := hSw; go_simp⟩) hS ?_
            try simp only [Act.put, List.setIfInBounds_toArray, List.set_cons_zero, List.set_cons_succ]
            refine wpAnyH_take (i := 14) (v := .int .i64 (i : Int)) (show _ = some (Oper.mk (some 164) _ _ _ _ _) from rfl) (by kernel_rfl) (by kernel_rfl) (by kernel_rfl) (fun _ _ _ h => h) (Or.inl ⟨by rfl, by intro w hSw; go_simp⟩) hS ?_
            try simp only [Act.put, List.setIfInBounds_toArray, List.set_cons_zero, List.set_cons_succ]
            refine wpAnyH_take (i := 15) (v := .pointer (some ⟨B.tb, 0, none⟩)) (show _ = some (Oper.mk (some 165) _ _ _ _ _) from rfl) (by kernel_rfl) (by kernel_rfl) (by kernel_rfl) (fun _ _ _ h => h) (Or.inl ⟨by rfl, by intro w hSw; go_simp⟩) hS ?_
            try simp only [Act.put, List.setIfInBounds_toArray, List.set_cons_zero, List.set_cons_succ]
            refine wpAnyH_take (i := 16) (v := .pointer (some ⟨B.tb, 0, none⟩)) (show _ = some (Oper.mk (some 166) _ _ _ _ _) from rfl) (by kernel_rfl) (by kernel_rfl) (by kernel_rfl) (fun _ _ _ h => h) (Or.inl ⟨by rfl, by intro w hSw; go_simp⟩) hS ?_
            try simp only [Act.put, List.setIfInBounds_toArray, List.set_cons_zero, List.set_cons_succ]
            refine wpAnyH_take (i := 17) (v := .pointer (some ⟨B.tb, 12, none⟩)) (show _ = some (Oper.mk (some 167) _ _ _ _ _) from rfl) (by kernel_rfl) (by kernel_rfl) (by kernel_rfl) (fun _ _ _ h => h) (Or.inl ⟨by rfl, by intro w hSw; go_simp⟩) hS ?_
            try simp only [Act.put, List.setIfInBounds_toArray, List.set_cons_zero, List.set_cons_succ]
            refine wpAnyH_take (i := 18) (v := .slice (some ⟨B.b 12, 0, none⟩) T.n (B.c 12)) (show _ = some (Oper.mk (some 168) _ _ _ _ _) from rfl) (by kernel_rfl) (by kernel_rfl) (by kernel_rfl) (fun _ _ _ h => h) (Or.inl ⟨by rfl, by intro w hSw; obtain ⟨h1, h2, h3, h4, h5, h6, h7, h8, h9⟩ := hSw; go_simp⟩) hS ?_
            try simp only [Act.put, List.setIfInBounds_toArray, List.set_cons_zero, List.set_cons_succ]
            refine wpAnyH_take (i := 19) (v := .int .i64 (i : Int)) (show _ = some (Oper.mk (some 169) _ _ _ _ _) from rfl) (by kernel_rfl) (by kernel_rfl) (by kernel_rfl) (fun _ _ _ h => h) (Or.inl ⟨by rfl, by intro w hSw; go_simp⟩) hS ?_
            try simp only [Act.put, List.setIfInBounds_toArray, List.set_cons_zero, List.set_cons_succ]
            refine wpAnyH_take (i := 20) (v := .pointer (some ⟨b5, 1, none⟩)) (show _ = some (Oper.mk (some 170) _ _ _ _ _) from rfl) (by kernel_rfl) (by kernel_rfl) (by kernel_rfl) (fun _ _ _ h => h) (Or.inl ⟨by rfl, by intro w hSw; go_simp⟩) hS ?_
            try simp only [Act.put, List.setIfInBounds_toArray, List.set_cons_zero, List.set_cons_succ]
            refine wpAnyH_take (i := 21) (v := .agg #[.int .u64 m.v.root, .int .u64 m.v.cost, .int .u64 m.v.bridge, .int .i64 m.v.port]) (show _ = some (Oper.mk (some 171) _ _ _ _ _) from rfl) (by kernel_rfl) (by kernel_rfl) (by kernel_rfl) (fun _ _ _ h => h) (Or.inl ⟨by rfl, by intro w hSw; obtain ⟨h1, h2, h3, h4, h5, h6, h7, h8, h9⟩ := hSw; go_simp⟩) hS ?_
            try simp only [Act.put, List.setIfInBounds_toArray, List.set_cons_zero, List.set_cons_succ]
            refine wpAnyH_take (i := 22) (v := .pointer (some ⟨b5, 12, none⟩)) (show _ = some (Oper.mk (some 172) _ _ _ _ _) from rfl) (by kernel_rfl) (by kernel_rfl) (by kernel_rfl) (fun _ _ _ h => h) (Or.inl ⟨by rfl, by intro w hSw; go_simp⟩) hS ?_
            try simp only [Act.put, List.setIfInBounds_toArray, List.set_cons_zero, List.set_cons_succ]
            refine wpAnyH_take (i := 23) (v := .int .i64 m.age) (show _ = some (Oper.mk (some 173) _ _ _ _ _) from rfl) (by kernel_rfl) (by kernel_rfl) (by kernel_rfl) (fun _ _ _ h => h) (Or.inl ⟨by rfl, by intro w hSw; obtain ⟨h1, h2, h3, h4, h5, h6, h7, h8, h9⟩ := hSw; go_simp⟩) hS ?_
            try simp only [Act.put, List.setIfInBounds_toArray, List.set_cons_zero, List.set_cons_succ]
            refine wpAnyH_take (i := 24) (v := .int .i64 (m.age + 256)) (show _ = some (Oper.mk (some 174) _ _ _ _ _) from rfl) (by kernel_rfl) (by kernel_rfl) (by kernel_rfl) (fun _ _ _ h => h) (Or.inl ⟨by rfl, by intro w hSw; go_simp⟩) hS ?_
            try simp only [Act.put, List.setIfInBounds_toArray, List.set_cons_zero, List.set_cons_succ]
            clear s1
            refine wpAnyH_take (i := 25) (v := .pointer (some ⟨B.b 4, i, none⟩)) (show _ = some (Oper.mk (some 175) _ _ _ _ _) from rfl) (by kernel_rfl) (by kernel_rfl) (by kernel_rfl) (fun _ _ _ h => h) (Or.inl ⟨by rfl, by intro w hSw; go_simp⟩) hS ?_
            try simp only [Act.put, List.setIfInBounds_toArray, List.set_cons_zero, List.set_cons_succ]
            refine wpAnyH_ready (rs := [26]) (by kernel_rfl) (by simp) ?_
            refine AllReadyH.cons (show _ = some (Oper.mk none _ _ _ _ _) from rfl) (fun K hK => ?_) AllReadyH.nil
            go_simp
            refine hK.out _ _ (HK4.out _ _ _ hS) (fun hSn => ?_)
            clear hK K hS
            revert hSn
            intro hS
            refine wpAnyH_take (i := 27) (v := .pointer (some ⟨B.b 8, i * 4, none⟩)) (show _ = some (Oper.mk (some 176) _ _ _ _ _) from rfl) (by kernel_rfl) (by kernel_rfl) (by kernel_rfl) (fun _ _ _ h => h) (Or.inl ⟨by rfl, by intro w hSw; go_simp⟩) hS ?_
            try simp only [Act.put, List.setIfInBounds_toArray, List.set_cons_zero, List.set_cons_succ]
            refine wpAnyH_ready (rs := [28]) (by kernel_rfl) (by simp) ?_
            refine AllReadyH.cons (show _ = some (Oper.mk none _ _ _ _ _) from rfl) (fun K hK => ?_) AllReadyH.nil
            go_simp
            refine hK.out _ _ (HK8.out _ _ _ (HK8.out _ _ _ (HK8.out _ _ _ (HK8.out _ _ _ hS)))) (fun hSn => ?_)
            clear hK K hS
            revert hSn
            intro hS
            generalize ((((w0.setCell ⟨B.b 4, i, none⟩ (.bool true)).setCell ⟨B.b 8, i * 4, none⟩ (.int .u64 m.v.root)).setCell ⟨B.b 8, i * 4 + 1, none⟩ (.int .u64 m.v.cost)).setCell ⟨B.b 8, i * 4 + 2, none⟩ (.int .u64 m.v.bridge)).setCell ⟨B.b 8, i * 4 + 3, none⟩ (.int .i64 m.v.port) = w1 at G2 S2 hS ⊢
            clear r4 r80 r81 r82 r83 r11 r12 f4 f8 f11 f12 n1 n2 n3 n4 n5
            have vk2 : i < (T1.upd i { q with p := { q.p with has := true, told := m.v } }).n := by rw [upd_n]; exact hi1
            have vz2 : 0 < (T1.upd i { q with p := { q.p with has := true, told := m.v } }).n := by omega
            have r11 := G2.get vk2 (f := 11) (.inl (by omega)) rfl
            rw [show ∀ k, cont (T1.upd i { q with p := { q.p with has := true, told := m.v } }) 11 k = pcell ((T1.upd i { q with p := { q.p with has := true, told := m.v } }).at_ k) 11 from fun k => rfl, upd_at T1 _ hi1] at r11
            replace r11 : w1.cell? ⟨B.b 11, i, none⟩ = some (.int .i64 q.age) := r11
            have f11 := G2.free vz2 (f := 11) (.inl (by omega))
            have g3 := G2.set_age vk2 (m.age + 256)
            rw [upd_at T1 _ hi1, upd_upd] at g3
            have G3 : RefW (w1.setCell ⟨B.b 11, i, none⟩ (.int .i64 (m.age + 256))) B (T1.upd i { q with p := { q.p with has := true, told := m.v }, age := m.age + 256 }) := g3
            have S3 : RStep W3 B T1.n (w1.setCell ⟨B.b 11, i, none⟩ (.int .i64 (m.age + 256))) B := S2.set Z1.out (f := 11) (.inl (by omega)) i _
            clear g3 G2 S2 vk2 vz2 n6
            refine wpAnyH_take (i := 29) (v := .pointer (some ⟨B.b 11, i, none⟩)) (show _ = some (Oper.mk (some 177) _ _ _ _ _) from rfl) (by kernel_rfl) (by kernel_rfl) (by kernel_rfl) (fun _ _ _ h => h) (Or.inl ⟨by rfl, by intro w hSw; go_simp⟩) hS ?_
            try simp only [Act.put, List.setIfInBounds_toArray, List.set_cons_zero, List.set_cons_succ]
            refine wpAnyH_ready (rs := [30]) (by kernel_rfl) (by simp) ?_
            refine AllReadyH.cons (show _ = some (Oper.mk none _ _ _ _ _) from rfl) (fun K hK => ?_) AllReadyH.nil
            rw [if_pos (by rfl)]
            refine wp_sti (.tmp 177) (.tmp 174) (B.b 11) i (m.age + 256) rfl rfl rfl rfl (by rw [r11]; rfl) (f11 i) ?_
            refine hK.out _ _ (HK11.out _ _ _ hS) (fun hSn => ?_)
            clear hK K hS
            revert hSn
            intro hS
            generalize w1.setCell ⟨B.b 11, i, none⟩ (.int .i64 (m.age + 256)) = w2 at G3 S3 hS ⊢
            clear r11 f11
            have vk3 : i < (T1.upd i { q with p := { q.p with has := true, told := m.v }, age := m.age + 256 }).n := by rw [upd_n]; exact hi1
            have vz3 : 0 < (T1.upd i { q with p := { q.p with has := true, told := m.v }, age := m.age + 256 }).n := by omega
            have r12 := G3.get vk3 (f := 12) (.inl (by omega)) rfl
            rw [show ∀ k, cont (T1.upd i { q with p := { q.p with has := true, told := m.v }, age := m.age + 256 }) 12 k = pcell ((T1.upd i { q with p := { q.p with has := true, told := m.v }, age := m.age + 256 }).at_ k) 12 from fun k => rfl, upd_at T1 _ hi1] at r12
            replace r12 : w2.cell? ⟨B.b 12, i, none⟩ = some (.int .i64 q.left) := r12
            have f12 := G3.free vz3 (f := 12) (.inl (by omega))
            have g4 := G3.set_left vk3 6
            rw [upd_at T1 _ hi1, upd_upd] at g4
            have G4 : RefW (w2.setCell ⟨B.b 12, i, none⟩ (.int .i64 6)) B (T1.upd i { q with p := { q.p with has := true, told := m.v }, age := m.age + 256, left := 6 }) := g4
            have S4 : RStep W3 B T1.n (w2.setCell ⟨B.b 12, i, none⟩ (.int .i64 6)) B := S3.set Z1.out (f := 12) (.inl (by omega)) i _
            clear g4 G3 S3 vk3 vz3
            refine wpAnyH_take (i := 31) (v := .pointer (some ⟨B.b 12, i, none⟩)) (show _ = some (Oper.mk (some 178) _ _ _ _ _) from rfl) (by kernel_rfl) (by kernel_rfl) (by kernel_rfl) (fun _ _ _ h => h) (Or.inl ⟨by rfl, by intro w hSw; go_simp⟩) hS ?_
            try simp only [Act.put, List.setIfInBounds_toArray, List.set_cons_zero, List.set_cons_succ]
            refine wpAnyH_ready (rs := [32]) (by kernel_rfl) (by simp) ?_
            refine AllReadyH.cons (show _ = some (Oper.mk none _ _ _ _ _) from rfl) (fun K hK => ?_) AllReadyH.nil
            rw [if_pos (by rfl)]
            refine wp_sti (.tmp 178) (.const (.int .i64 6)) (B.b 12) i (6) rfl rfl rfl rfl (by rw [r12]; rfl) (f12 i) ?_
            refine hK.out _ _ (HK12.out _ _ _ hS) (fun hSn => ?_)
            clear hK K hS
            revert hSn
            intro hS
            refine wpAnyH_done (by kernel_rfl) ?_ _
            clear hS HK4 HK8 HK11 HK12
            generalize w2.setCell ⟨B.b 12, i, none⟩ (.int .i64 6) = W4 at G4 S4 ⊢
            clear r12 f12
            have HB4 := Lib.hid (HBb.out.fr S4.fr (by rw [T1N.out]; exact HNB.out))
            have q5 := HB4.out.cell
            have VN : Hid ((T1.upd i { q with p := { q.p with has := true, told := m.v }, age := m.age + 256, left := 6 }).n = T1.n) := Lib.hid (upd_n _ _ _)
            have VA : Hid ((T1.upd i { q with p := { q.p with has := true, told := m.v }, age := m.age + 256, left := 6 }).at_ i = { q with p := { q.p with has := true, told := m.v }, age := m.age + 256, left := 6 }) := Lib.hid (upd_at T1 _ hi1)
            have VU : Hid (∀ y, (T1.upd i { q with p := { q.p with has := true, told := m.v }, age := m.age + 256, left := 6 }).upd i y = T1.upd i y) := Lib.hid fun y => upd_upd _ _ _ _
            have HV1 : Hid (m.age + 256 < m.maxAge → T1.upd i { q with p := { q.p with has := true, told := m.v }, age := m.age + 256, left := 6 } = TH) := Lib.hid fun h => by
              rw [hth.out]
              unfold hearP
              rw [decide_eq_true h, if_pos h]
            have HV2 : Hid (¬ m.age + 256 < m.maxAge → T1.upd i { q with p := { q.p with has := false, told := v0 }, age := m.age + 256, left := 6 } = TH) := Lib.hid fun h => by
              rw [hth.out]
              unfold hearP
              rw [decide_eq_false h, if_neg h]
            generalize T1.upd i { q with p := { q.p with has := true, told := m.v }, age := m.age + 256, left := 6 } = V at G4 VN VA VU HV1
            have HG4 := Lib.hid G4
            have HS4 := Lib.hid S4
            clear G4 S4 hi1 hth
            go_upto_region 15 with (fail)
            go_cut [184] (fun s184 wx => s184 = .bool (decide (m.maxAge ≤ m.age + 256)) ∧ wx = W4)
            case first =>
              go_step
              refine wpList_plain rfl fun K hK => ?_
              refine wp_faB (.tmp 5) b5 9 12 (by decide) rfl rfl (hK _ _ ?_)
              try simp only [Act.put, List.setIfInBounds_toArray, List.set_cons_zero, List.set_cons_succ]
              refine wpList_plain rfl fun K hK => ?_
              refine wp_ldi (.tmp 179) b5 12 _ rfl rfl (q5 12) (hK _ _ ?_)
              try simp only [Act.put, List.setIfInBounds_toArray, List.set_cons_zero, List.set_cons_succ]
              refine wpList_plain rfl fun K hK => ?_
              refine wp_add (.tmp 180) (.const (.int .i64 256)) m.age 256 rfl rfl rfl (by omega) (by omega) (hK _ _ ?_)
              try simp only [Act.put, List.setIfInBounds_toArray, List.set_cons_zero, List.set_cons_succ]
              refine wpList_plain rfl fun K hK => ?_
              refine wp_faB (.tmp 5) b5 10 13 (by decide) rfl rfl (hK _ _ ?_)
              try simp only [Act.put, List.setIfInBounds_toArray, List.set_cons_zero, List.set_cons_succ]
              refine wpList_plain rfl fun K hK => ?_
              refine wp_ldi (.tmp 182) b5 13 _ rfl rfl (q5 13) (hK _ _ ?_)
              try simp only [Act.put, List.setIfInBounds_toArray, List.set_cons_zero, List.set_cons_succ]
              refine wpList_plain rfl fun K hK => ?_
              refine wp_geq (.tmp 181) (.tmp 183) (m.age + 256) m.maxAge rfl rfl rfl (hK _ _ ?_)
              try simp only [Act.put, List.setIfInBounds_toArray, List.set_cons_zero, List.set_cons_succ]
              go_wp2
              go_meet
              exact ⟨rfl, rfl⟩
            case rest =>
            obtain ⟨rfl, hwc⟩ := hcut
            have hwc' : W4 = wc := hwc.symm
            clear hwc
            subst hwc'
            go_upto_if 184 with (fail)
            go_cut [] (fun wx => RefW wx B TH ∧ RStep W3 B T1.n wx B)
            case first =>
              by_cases hlt : m.age + 256 < m.maxAge
              · have hle : ¬ m.maxAge ≤ m.age + 256 := by omega
                have HE := Lib.hid (HV1.out hlt)
                clear hlt
                go_wp2
                go_meet
                exact ⟨by rw [← HE.out]; exact HG4.out, HS4.out⟩
              · have hle : m.maxAge ≤ m.age + 256 := by omega
                have HE := Lib.hid (HV2.out hlt)
                clear hlt
                have hV := HG4.out
                have vk : i < V.n := by rw [VN.out]; exact HI1.out
                have vz : 0 < V.n := by omega
                have qt := hV.ownp vz
                rw [VN.out, T1N.out] at qt
                have r4 : W4.cell? ⟨B.b 4, i, none⟩ = some (.bool (V.at_ i).p.has) := hV.get vk (.inl (by omega)) rfl
                have r80 : W4.cell? ⟨B.b 8, i * 4, none⟩ = some (.int .u64 (V.at_ i).p.told.root) := hV.get4 vk (f := 8) (.inl (by omega)) rfl 0 (by omega)
                have r81 : W4.cell? ⟨B.b 8, i * 4 + 1, none⟩ = some (.int .u64 (V.at_ i).p.told.cost) := hV.get4 vk (f := 8) (.inl (by omega)) rfl 1 (by omega)
                have r82 : W4.cell? ⟨B.b 8, i * 4 + 2, none⟩ = some (.int .u64 (V.at_ i).p.told.bridge) := hV.get4 vk (f := 8) (.inl (by omega)) rfl 2 (by omega)
                have r83 : W4.cell? ⟨B.b 8, i * 4 + 3, none⟩ = some (.int .i64 (V.at_ i).p.told.port) := hV.get4 vk (f := 8) (.inl (by omega)) rfl 3 (by omega)
                have f4 := hV.free vz (f := 4) (.inl (by omega))
                have f8 := hV.free vz (f := 8) (.inl (by omega))
                have n1 := hV.ne vz 4 8 (.inl (by omega)) (.inl (by omega)) (by decide)
                have m4 := hV.nt vz 4 (.inl (by omega))
                have m8 := hV.nt vz 8 (.inl (by omega))
                have g1 := hV.set_has vk false
                have g2 := g1.set_told (i := i) (by rw [upd_n]; exact vk) v0
                rw [upd_at V _ vk, upd_upd, VU.out, VA.out] at g2
                have HS0 : Hid (W4.drew.cell? ⟨B.tb, 4, none⟩ = some (.slice (some ⟨B.b 4, 0, none⟩) T.n (B.c 4)) ∧ W4.drew.cell? ⟨B.tb, 8, none⟩ = some (.slice (some ⟨B.b 8, 0, none⟩) T.n (B.c 8))) := Lib.hid ⟨qt 4, qt 8⟩
                clear qt r4 r80 r81 r82 r83 f4 f8 n1 m4 m8 g1 g2
                go_upto_region 16 with (fail)
                refine wp_region_held_drew (S := fun w' => (w'.cell? ⟨B.tb, 4, none⟩ = some (.slice (some ⟨B.b 4, 0, none⟩) T.n (B.c 4)) ∧ w'.cell? ⟨B.tb, 8, none⟩ = some (.slice (some ⟨B.b 8, 0, none⟩) T.n (B.c 8)))) (by kernel_rfl) HS0.out (fun hS => ?_)
                have hV0 : RefW W4.drew B V := HG4.out.drew
                have hs0 : RStep W3 B T1.n W4.drew B := HS4.out.drew
                generalize W4.drew = w0 at hV0 hs0 hS HS0 ⊢
                clear HS0
                have r4 : w0.cell? ⟨B.b 4, i, none⟩ = some (.bool (V.at_ i).p.has) := hV0.get vk (.inl (by omega)) rfl
                have r80 : w0.cell? ⟨B.b 8, i * 4, none⟩ = some (.int .u64 (V.at_ i).p.told.root) := hV0.get4 vk (f := 8) (.inl (by omega)) rfl 0 (by omega)
                have r81 : w0.cell? ⟨B.b 8, i * 4 + 1, none⟩ = some (.int .u64 (V.at_ i).p.told.cost) := hV0.get4 vk (f := 8) (.inl (by omega)) rfl 1 (by omega)
                have r82 : w0.cell? ⟨B.b 8, i * 4 + 2, none⟩ = some (.int .u64 (V.at_ i).p.told.bridge) := hV0.get4 vk (f := 8) (.inl (by omega)) rfl 2 (by omega)
                have r83 : w0.cell? ⟨B.b 8, i * 4 + 3, none⟩ = some (.int .i64 (V.at_ i).p.told.port) := hV0.get4 vk (f := 8) (.inl (by omega)) rfl 3 (by omega)
                have f4 := hV0.free vz (f := 4) (.inl (by omega))
                have f8 := hV0.free vz (f := 8) (.inl (by omega))
                have n1 := hV0.ne vz 4 8 (.inl (by omega)) (.inl (by omega)) (by decide)
                have m4 := hV0.nt vz 4 (.inl (by omega))
                have m8 := hV0.nt vz 8 (.inl (by omega))
                have g1 := hV0.set_has vk false
                have g2 := g1.set_told (i := i) (by rw [upd_n]; exact vk) v0
                rw [upd_at V _ vk, upd_upd, VU.out, VA.out] at g2
                have G5 : RefW (((((w0.setCell ⟨B.b 4, i, none⟩ (.bool false)).setCell ⟨B.b 8, i * 4, none⟩ (.int .u64 0)).setCell ⟨B.b 8, i * 4 + 1, none⟩ (.int .u64 0)).setCell ⟨B.b 8, i * 4 + 2, none⟩ (.int .u64 0)).setCell ⟨B.b 8, i * 4 + 3, none⟩ (.int .i64 0)) B (T1.upd i { q with p := { q.p with has := false, told := v0 }, age := m.age + 256, left := 6 }) := g2
                have S5 : RStep W3 B T1.n (((((w0.setCell ⟨B.b 4, i, none⟩ (.bool false)).setCell ⟨B.b 8, i * 4, none⟩ (.int .u64 0)).setCell ⟨B.b 8, i * 4 + 1, none⟩ (.int .u64 0)).setCell ⟨B.b 8, i * 4 + 2, none⟩ (.int .u64 0)).setCell ⟨B.b 8, i * 4 + 3, none⟩ (.int .i64 0)) B := (hs0.set Z1.out (f := 4) (.inl (by omega)) i _).set_told Z1.out i _ _ _ _
                have HK4 : Hid (∀ (W' : World) (j : Nat) (v : Value), (W'.cell? ⟨B.tb, 4, none⟩ = some (.slice (some ⟨B.b 4, 0, none⟩) T.n (B.c 4)) ∧ W'.cell? ⟨B.tb, 8, none⟩ = some (.slice (some ⟨B.b 8, 0, none⟩) T.n (B.c 8))) → ((W'.setCell ⟨B.b 4, j, none⟩ v).cell? ⟨B.tb, 4, none⟩ = some (.slice (some ⟨B.b 4, 0, none⟩) T.n (B.c 4)) ∧ (W'.setCell ⟨B.b 4, j, none⟩ v).cell? ⟨B.tb, 8, none⟩ = some (.slice (some ⟨B.b 8, 0, none⟩) T.n (B.c 8)))) := Lib.hid fun W' j v h =>
                  ⟨(cell_set_ne m4).trans h.1, (cell_set_ne m4).trans h.2⟩
                have HK8 : Hid (∀ (W' : World) (j : Nat) (v : Value), (W'.cell? ⟨B.tb, 4, none⟩ = some (.slice (some ⟨B.b 4, 0, none⟩) T.n (B.c 4)) ∧ W'.cell? ⟨B.tb, 8, none⟩ = some (.slice (some ⟨B.b 8, 0, none⟩) T.n (B.c 8))) → ((W'.setCell ⟨B.b 8, j, none⟩ v).cell? ⟨B.tb, 4, none⟩ = some (.slice (some ⟨B.b 4, 0, none⟩) T.n (B.c 4)) ∧ (W'.setCell ⟨B.b 8, j, none⟩ v).cell? ⟨B.tb, 8, none⟩ = some (.slice (some ⟨B.b 8, 0, none⟩) T.n (B.c 8)))) := Lib.hid fun W' j v h =>
                  ⟨(cell_set_ne m8).trans h.1, (cell_set_ne m8).trans h.2⟩
                clear g1 g2 hV hV0 hs0 vk vz m4 m8
                refine wpAnyH_take (i := 0) (v := .pointer (some ⟨B.tb, 0, none⟩)) (show _ = some (Oper.mk (some 185) _ _ _ _ _) from rfl) (by kernel_rfl) (by kernel_rfl) (by kernel_rfl) (fun _ _ _ h => h) (Or.inl ⟨by rfl, by intro w hSw; go_simp⟩) hS ?_
                try simp only [Act.put, List.setIfInBounds_toArray, List.set_cons_zero, List.set_cons_succ]
                refine wpAnyH_take (i := 1) (v := .pointer (some ⟨B.tb, 0, none⟩)) (show _ = some (Oper.mk (some 186) _ _ _ _ _) from rfl) (by kernel_rfl) (by kernel_rfl) (by kernel_rfl) (fun _ _ _ h => h) (Or.inl ⟨by rfl, by intro w hSw; go_simp⟩) hS ?_
                try simp only [Act.put, List.setIfInBounds_toArray, List.set_cons_zero, List.set_cons_succ]
                refine wpAnyH_take (i := 2) (v := .pointer (some ⟨B.tb, 4, none⟩)) (show _ = some (Oper.mk (some 187) _ _ _ _ _) from rfl) (by kernel_rfl) (by kernel_rfl) (by kernel_rfl) (fun _ _ _ h => h) (Or.inl ⟨by rfl, by intro w hSw; go_simp⟩) hS ?_
                try simp only [Act.put, List.setIfInBounds_toArray, List.set_cons_zero, List.set_cons_succ]
                refine wpAnyH_take (i := 3) (v := .slice (some ⟨B.b 4, 0, none⟩) T.n (B.c 4)) (show _ = some (Oper.mk (some 188) _ _ _ _ _) from rfl) (by kernel_rfl) (by kernel_rfl) (by kernel_rfl) (fun _ _ _ h => h) (Or.inl ⟨by rfl, by intro w hSw; obtain ⟨h1, h2⟩ := hSw; go_simp⟩) hS ?_
                try simp only [Act.put, List.setIfInBounds_toArray, List.set_cons_zero, List.set_cons_succ]
                refine wpAnyH_take (i := 4) (v := .int .i64 (i : Int)) (show _ = some (Oper.mk (some 189) _ _ _ _ _) from rfl) (by kernel_rfl) (by kernel_rfl) (by kernel_rfl) (fun _ _ _ h => h) (Or.inl ⟨by rfl, by intro w hSw; go_simp⟩) hS ?_
                try simp only [Act.put, List.setIfInBounds_toArray, List.set_cons_zero, List.set_cons_succ]
                refine wpAnyH_take (i := 5) (v := .pointer (some ⟨B.tb, 0, none⟩)) (show _ = some (Oper.mk (some 190) _ _ _ _ _) from rfl) (by kernel_rfl) (by kernel_rfl) (by kernel_rfl) (fun _ _ _ h => h) (Or.inl ⟨by rfl, by intro w hSw; go_simp⟩) hS ?_
                try simp only [Act.put, List.setIfInBounds_toArray, List.set_cons_zero, List.set_cons_succ]
                refine wpAnyH_take (i := 6) (v := .pointer (some ⟨B.tb, 0, none⟩)) (show _ = some (Oper.mk (some 191) _ _ _ _ _) from rfl) (by kernel_rfl) (by kernel_rfl) (by kernel_rfl) (fun _ _ _ h => h) (Or.inl ⟨by rfl, by intro w hSw; go_simp⟩) hS ?_
                try simp only [Act.put, List.setIfInBounds_toArray, List.set_cons_zero, List.set_cons_succ]
                refine wpAnyH_take (i := 7) (v := .pointer (some ⟨B.tb, 8, none⟩)) (show _ = some (Oper.mk (some 192) _ _ _ _ _) from rfl) (by kernel_rfl) (by kernel_rfl) (by kernel_rfl) (fun _ _ _ h => h) (Or.inl ⟨by rfl, by intro w hSw; go_simp⟩) hS ?_
                try simp only [Act.put, List.setIfInBounds_toArray, List.set_cons_zero, List.set_cons_succ]
                refine wpAnyH_take (i := 8) (v := .slice (some ⟨B.b 8, 0, none⟩) T.n (B.c 8)) (show _ = some (Oper.mk (some 193) _ _ _ _ _) from rfl) (by kernel_rfl) (by kernel_rfl) (by kernel_rfl) (fun _ _ _ h => h) (Or.inl ⟨by rfl, by intro w hSw; obtain ⟨h1, h2⟩ := hSw; go_simp⟩) hS ?_
                try simp only [Act.put, List.setIfInBounds_toArray, List.set_cons_zero, List.set_cons_succ]
                refine wpAnyH_take (i := 9) (v := .int .i64 (i : Int)) (show _ = some (Oper.mk (some 194) _ _ _ _ _) from rfl) (by kernel_rfl) (by kernel_rfl) (by kernel_rfl) (fun _ _ _ h => h) (Or.inl ⟨by rfl, by intro w hSw; go_simp⟩) hS ?_
                try simp only [Act.put, List.setIfInBounds_toArray, List.set_cons_zero, List.set_cons_succ]
                refine wpAnyH_take (i := 10) (v := .agg #[.int .u64 0, .int .u64 0, .int .u64 0, .int .i64 0]) (show _ = some (Oper.mk (some 195) _ _ _ _ _) from rfl) (by kernel_rfl) (by kernel_rfl) (by kernel_rfl) (fun _ _ _ h => h) (Or.inl ⟨by rfl, by intro w hSw; go_simp⟩) hS ?_
                try simp only [Act.put, List.setIfInBounds_toArray, List.set_cons_zero, List.set_cons_succ]
                refine wpAnyH_take (i := 11) (v := .pointer (some ⟨B.b 4, i, none⟩)) (show _ = some (Oper.mk (some 196) _ _ _ _ _) from rfl) (by kernel_rfl) (by kernel_rfl) (by kernel_rfl) (fun _ _ _ h => h) (Or.inl ⟨by rfl, by intro w hSw; go_simp⟩) hS ?_
                try simp only [Act.put, List.setIfInBounds_toArray, List.set_cons_zero, List.set_cons_succ]
                refine wpAnyH_ready (rs := [12]) (by kernel_rfl) (by simp) ?_
                refine AllReadyH.cons (show _ = some (Oper.mk none _ _ _ _ _) from rfl) (fun K hK => ?_) AllReadyH.nil
                go_simp
                refine hK.out _ _ (HK4.out _ _ _ hS) (fun hSn => ?_)
                clear hK K hS
                revert hSn
                intro hS
                refine wpAnyH_take (i := 13) (v := .pointer (some ⟨B.b 8, i * 4, none⟩)) (show _ = some (Oper.mk (some 197) _ _ _ _ _) from rfl) (by kernel_rfl) (by kernel_rfl) (by kernel_rfl) (fun _ _ _ h => h) (Or.inl ⟨by rfl, by intro w hSw; go_simp⟩) hS ?_
                try simp only [Act.put, List.setIfInBounds_toArray, List.set_cons_zero, List.set_cons_succ]
                refine wpAnyH_ready (rs := [14]) (by kernel_rfl) (by simp) ?_
                refine AllReadyH.cons (show _ = some (Oper.mk none _ _ _ _ _) from rfl) (fun K hK => ?_) AllReadyH.nil
                go_simp
                refine hK.out _ _ (HK8.out _ _ _ (HK8.out _ _ _ (HK8.out _ _ _ (HK8.out _ _ _ hS)))) (fun hSn => ?_)
                clear hK K hS
                revert hSn
                intro hS
                refine wpAnyH_done (by kernel_rfl) ?_ _
                clear hS HK4 HK8
                generalize ((((w0.setCell ⟨B.b 4, i, none⟩ (.bool false)).setCell ⟨B.b 8, i * 4, none⟩ (.int .u64 0)).setCell ⟨B.b 8, i * 4 + 1, none⟩ (.int .u64 0)).setCell ⟨B.b 8, i * 4 + 2, none⟩ (.int .u64 0)).setCell ⟨B.b 8, i * 4 + 3, none⟩ (.int .i64 0) = W5 at G5 S5 ⊢
                clear r4 r80 r81 r82 r83 f4 f8 n1
                go_wp2
                go_meet
                exact ⟨by rw [← HE.out]; exact G5, S5⟩
            case rest =>
              obtain ⟨hTH, hSH⟩ := hcut
              obtain ⟨W6, hW6⟩ : ∃ x, x = wc := ⟨_, rfl⟩
              subst hW6
              have HSH := Lib.hid hSH
              have HC : Hid (Calls Try.prog 37 #[.pointer (some ⟨B.tb, 0, none⟩), .bool false] W6 (RPost W6 B TH.n T3)) := Lib.hid (ragain_calls TH B false OTH.out W6 hTH T3 HT3.out)
              have HCP : Hid (∀ w' b a c ov U, RefW w' ⟨B.tb, b, a, c, ov⟩ T3 → proposedF i T3 = U → Calls Try.prog 43 #[.pointer (some ⟨B.tb, 0, none⟩), .int .i64 (i : Int)] w' (RPost w' ⟨B.tb, b, a, c, ov⟩ T3.n U)) := Lib.hid fun w' b a c ov U h hU => rproposed_calls T3 ⟨B.tb, b, a, c, ov⟩ i HI3.out O3.out S3.out w' h U hU
              clear hTH hSH q5 HG4 HS4
              go_upto_region 18 with (go_at_call 37; (with_reducible refine HC.out.mono ?_); rintro e w3 ⟨⟨tb3, b3, a3, c3, ov3⟩, rfl, hT3, hS3⟩; obtain rfl : tb3 = B.tb := hS3.tb; rw [THN.out] at hS3)
              have HT3w := Lib.hid hT3
              have hS3' := HSH.out.trans hS3
              have HB3 := Lib.hid (HBb.out.fr hS3'.fr (by rw [T1N.out]; exact HNB.out))
              have q5 := HB3.out.cell
              have HS3 := Lib.hid hS3'
              clear hT3 hS3 hS3' HC
              cases hpr : m.proposal with
              | false =>
                have HE : Hid (T3 = T2) := by have h := HHE.out; rw [hpr, if_neg (by simp)] at h; exact Lib.hid h.symm
                rw [hpr] at q5
                clear hpr
                go_wp2
                go_meet
                exact ⟨_, by rw [← HE.out]; exact HT3w.out, HSb.out.trans (by rw [← T1N.out]; exact HS3.out)⟩
              | true =>
                have HPE : Hid (proposedF i T3 = T2) := by have h := HHE.out; rw [hpr, if_pos rfl] at h; exact Lib.hid h.symm
                rw [hpr] at q5
                clear hpr
                go_wp2_with (go_at_call 43; (with_reducible refine (HCP.out _ _ _ _ _ _ HT3w.out HPE.out).mono ?_); rintro e w4 ⟨B4, rfl, hT4, hS4⟩; rw [T3N.out] at hS4)
                go_meet
                have hS5 := HS3.out.trans hS4
                exact ⟨B4, hT4, HSb.out.trans (by rw [← T1N.out]; exact hS5)⟩
theorem rreceive_c (T : Tr) (B : RB) (i : Nat) (m : Msg) (hi : i < T.n) (hup : (T.at_ i).p.up = true) (hX : chkF m = true) (hk2 : ¬ m.kind = 2) (hk : ¬ (m.kind = 1 ∧ ¬ m.role = 3)) (hok : TOk T (2 * T.n + 2)) (hst : AllP StB T) (hm : m.v.ok) (w : World) (hT : RefW w B T) (U : Tr) (hU : receiveF (i : Int) m T = U) :
    Calls Try.prog 25 #[.pointer (some ⟨B.tb, 0, none⟩), .int .i64 (i : Int), .agg #[.int .i64 m.kind, .int .u64 m.v.root, .int .u64 m.v.cost, .int .u64 m.v.bridge, .int .i64 m.v.port, .bool m.change, .bool m.ack, .bool m.proposal, .bool m.agreement, .bool m.learning, .bool m.forwarding, .int .i64 m.role, .int .i64 m.age, .int .i64 m.maxAge, .int .i64 m.hello, .int .i64 m.delay]] w (RPost w B T.n U) :=
  rreceive_cP.2 ⟨rreceive_cH⟩ T B i m hi hup hX hk2 hk hok hst hm w hT U hU
end Go.Proofs.Ytjnbjcieepooaac
