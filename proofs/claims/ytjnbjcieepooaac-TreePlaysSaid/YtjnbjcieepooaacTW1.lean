/- turn, changed, forward and notice of package tree, by their contracts. -/
import Derived.Test.YtjnbjcieepooaacTW
import Derived.Test.YtjnbjcieepooaacTMP
namespace Go.Proofs.Ytjnbjcieepooaac
open Go.RowKit
set_option linter.unusedVariables false
set_option linter.unusedSimpArgs false

set_option maxHeartbeats 2000000 in
theorem turn_calls (T : Tr) (B : TB) (i : Nat) (r : Int) (hi : i < T.n) (hn : T.n ≤ 16) (hfl : T.flush.length = T.n) (w : World) (hT : TreeW w B T) (U : Tr) (hU : turnF i r T = U) :
    Calls Try.prog 51 #[.pointer (some ⟨B.tb, 0, none⟩), .int .i64 (i : Int), .int .i64 r] w (TPost w B T.n U) := by
  have hn0 : 0 < T.n := by omega
  have hS := TStep.refl w B T.n
  have hrow := hT.row hi
  have N := hT.nes hn0
  have n1 := N.tp; have n2 := N.tf; have n3 := N.pf
  have qt := hT.ownp hn0
  have hfp := hT.rowfree hn0
  have hff := hT.f.free
  have hfi := hT.flush_at hi
  have r8 : w.cell? ⟨B.pb, i * 16 + 8, none⟩ = some (.bool (T.at_ i).edge) := hrow 8 (by decide)
  have r9 : w.cell? ⟨B.pb, i * 16 + 9, none⟩ = some (.int .i64 (T.at_ i).role) := hrow 9 (by decide)
  have r10 : w.cell? ⟨B.pb, i * 16 + 10, none⟩ = some (.int .i64 (T.at_ i).state) := hrow 10 (by decide)
  have r13 : w.cell? ⟨B.pb, i * 16 + 13, none⟩ = some (.int .i64 (T.at_ i).wait) := hrow 13 (by decide)
  have r14 : w.cell? ⟨B.pb, i * 16 + 14, none⟩ = some (.int .i64 (T.at_ i).change) := hrow 14 (by decide)
  have r15 : w.cell? ⟨B.pb, i * 16 + 15, none⟩ = some (.bool (T.at_ i).agreed) := hrow 15 (by decide)
  have hin : (i : Int) < (T.n : Int) := by omega
  have HT := Lib.hid hT
  have HU := Lib.hid hU
  have HF := Lib.hid hfl
  clear hT hU hfl hrow
  by_cases h2 : r = 2
  · subst h2
    have hflag : turnF i 2 T = (T.upd i (turnP (T.at_ i) 2)).fl i := by unfold turnF; rw [if_neg (by decide)]
    rw [hflag] at HU
    cases he : (T.at_ i).edge with
    | true =>
      rw [he] at r8
      have HE : Hid ((turnP (T.at_ i) 2).cells = setsC [(9, .int .i64 2), (10, .int .i64 0), (13, .int .i64 0), (15, .bool false), (14, .int .i64 0), (10, .int .i64 2)] (T.at_ i).cells) := by unfold turnP; rw [if_pos ⟨rfl, he⟩, if_neg (by rw [he]; simp)]; rfl
      clear he hflag
      go_enter Try.func51, Try.ntmps51
      go_wp2
      go_end0
      have h1 := HT.out.set_port hi [(9, .int .i64 2), (10, .int .i64 0), (13, .int .i64 0), (15, .bool false), (14, .int .i64 0), (10, .int .i64 2)] _ (by simp) (HE.out)
      have h2 := h1.set_flush (i := i) (by rw [upd_n]; exact hi) (by rw [upd_n]; exact HF.out)
      exact ⟨B, rfl, by rw [← HU.out]; exact h2, (hS.set_port hn0 (i * 16) [(9, .int .i64 2), (10, .int .i64 0), (13, .int .i64 0), (15, .bool false), (14, .int .i64 0), (10, .int .i64 2)]).set_flush i (.bool true)⟩
    | false =>
      rw [he] at r8
      have HE : Hid ((turnP (T.at_ i) 2).cells = setsC [(9, .int .i64 2), (10, .int .i64 0), (13, .int .i64 0), (15, .bool false), (14, .int .i64 0), (13, .int .i64 15)] (T.at_ i).cells) := by unfold turnP; rw [if_neg (by rw [he]; simp), if_pos ⟨rfl, he⟩]; rfl
      clear he hflag
      go_enter Try.func51, Try.ntmps51
      go_wp2
      go_end0
      have h1 := HT.out.set_port hi [(9, .int .i64 2), (10, .int .i64 0), (13, .int .i64 0), (15, .bool false), (14, .int .i64 0), (13, .int .i64 15)] _ (by simp) (HE.out)
      have h2 := h1.set_flush (i := i) (by rw [upd_n]; exact hi) (by rw [upd_n]; exact HF.out)
      exact ⟨B, rfl, by rw [← HU.out]; exact h2, (hS.set_port hn0 (i * 16) [(9, .int .i64 2), (10, .int .i64 0), (13, .int .i64 0), (15, .bool false), (14, .int .i64 0), (13, .int .i64 15)]).set_flush i (.bool true)⟩
  · have h2b : (r == 2) = false := by simpa using h2
    have HE : Hid ((turnP (T.at_ i) r).cells = setsC [(9, .int .i64 r), (10, .int .i64 0), (13, .int .i64 0), (15, .bool false), (14, .int .i64 0)] (T.at_ i).cells) := by unfold turnP; rw [if_neg (fun h => h2 h.1), if_neg (fun h => h2 h.1)]; rfl
    by_cases h1 : r = 1
    · subst h1
      have hflag : turnF i 1 T = T.upd i (turnP (T.at_ i) 1) := by unfold turnF; rw [if_pos rfl]
      rw [hflag] at HU
      clear hflag h2
      go_enter Try.func51, Try.ntmps51
      go_wp2
      go_end0
      have h1 := HT.out.set_port hi [(9, .int .i64 1), (10, .int .i64 0), (13, .int .i64 0), (15, .bool false), (14, .int .i64 0)] _ (by simp) (HE.out)
      exact ⟨B, rfl, by rw [← HU.out]; exact h1, hS.set_port hn0 (i * 16) [(9, .int .i64 1), (10, .int .i64 0), (13, .int .i64 0), (15, .bool false), (14, .int .i64 0)]⟩
    · have h1b : (r != 1) = true := by simpa using h1
      have hflag : turnF i r T = (T.upd i (turnP (T.at_ i) r)).fl i := by unfold turnF; rw [if_neg h1]
      rw [hflag] at HU
      clear hflag h2 h1
      go_enter Try.func51, Try.ntmps51
      go_wp2
      go_end0
      have h1 := HT.out.set_port hi [(9, .int .i64 r), (10, .int .i64 0), (13, .int .i64 0), (15, .bool false), (14, .int .i64 0)] _ (by simp) (HE.out)
      have h2 := h1.set_flush (i := i) (by rw [upd_n]; exact hi) (by rw [upd_n]; exact HF.out)
      exact ⟨B, rfl, by rw [← HU.out]; exact h2, (hS.set_port hn0 (i * 16) [(9, .int .i64 r), (10, .int .i64 0), (13, .int .i64 0), (15, .bool false), (14, .int .i64 0)]).set_flush i (.bool true)⟩

theorem ch_skip {a i : Nat} {T : Tr} (h : ¬ (actB (T.at_ i) = true ∧ (T.at_ i).edge = false)) : chStep a i T = T := if_neg h
theorem ch_do {a i : Nat} {T : Tr} (h1 : actB (T.at_ i) = true) (h2 : (T.at_ i).edge = false) : chStep a i T = (if i = a then T.upd i { T.at_ i with change := 4 } else (T.upd i { T.at_ i with change := 4 }).fl i) := if_pos ⟨h1, h2⟩
theorem act_no {q : TP} (h1 : ¬ q.role = 1) (h2 : ¬ q.role = 2) : actB q = false := by unfold actB; rw [decide_eq_false h1, decide_eq_false h2]; rfl
theorem act_yes {q : TP} (h : q.role = 1 ∨ q.role = 2) : actB q = true := by unfold actB; rcases h with h | h <;> simp [h]
set_option maxHeartbeats 4000000 in
theorem changed_calls (T : Tr) (B : TB) (a : Nat) (ha : a < T.n) (hn : T.n ≤ 16) (hfl : T.flush.length = T.n) (w : World) (hT : TreeW w B T) (U : Tr) (hU : changedF a T = U) :
    Calls Try.prog 52 #[.pointer (some ⟨B.tb, 0, none⟩), .int .i64 (a : Int)] w (TPost w B T.n U) := by
  have hn0 : 0 < T.n := by omega
  have qt := hT.ownp hn0
  have HU := Lib.hid hU
  have HF := Lib.hid hfl
  have HT := Lib.hid hT
  clear hU hfl hT
  go_enter Try.func52, Try.ntmps52
  go_wp2
  clear qt
  go_loopg [11] T.n (fun gh s11 wx => ∃ k : Nat, k + gh = T.n ∧ s11 = .int .i64 (k : Int) ∧ TreeW wx B (upto (chStep a) k T) ∧ TStep w B T.n wx B)
  case atStart => exact ⟨0, by omega, rfl, HT.out, TStep.refl _ _ _⟩
  case round =>
    obtain ⟨k, hkg, rfl, hX, hS⟩ := hrel
    have sh := shp_upto (shp_ch a) k T
    cases gk with
    | zero =>
      have hkM : ¬ ((k : Int) < (T.n : Int)) := by omega
      obtain rfl : k = T.n := by omega
      have HX := Lib.hid hX
      clear hX sh
      go_wp2
      go_end0
      exact ⟨B, rfl, by rw [← HU.out]; exact HX.out, hS⟩
    | succ gh =>
      have hkM : (k : Int) < (T.n : Int) := by omega
      have hstep : upto (chStep a) (k + 1) T = chStep a k (upto (chStep a) k T) := rfl
      have sn := sh.n
      have sf := sh.fl.trans HF.out
      have HST := Lib.hid hstep
      clear hstep
      generalize upto (chStep a) k T = X at hX sn sf HST
      have hkn : k < X.n := by rw [sn]; omega
      have hX0 : 0 < X.n := by omega
      have hrow := hX.row hkn
      have N := hX.nes hX0
      have n1 := N.tp; have n2 := N.tf; have n3 := N.pf
      have qt := hX.ownp hX0
      have hfp := hX.rowfree hX0
      have hff := hX.f.free
      have hfi := hX.flush_at hkn
      rw [sn] at qt
      have r8 : wr.cell? ⟨B.pb, k * 16 + 8, none⟩ = some (.bool (X.at_ k).edge) := hrow 8 (by decide)
      have r9 : wr.cell? ⟨B.pb, k * 16 + 9, none⟩ = some (.int .i64 (X.at_ k).role) := hrow 9 (by decide)
      have r14 : wr.cell? ⟨B.pb, k * 16 + 14, none⟩ = some (.int .i64 (X.at_ k).change) := hrow 14 (by decide)
      have HX := Lib.hid hX
      have SN := Lib.hid sn
      have SF := Lib.hid sf
      clear hX hrow sh N sn sf
      by_cases hact : (X.at_ k).role = 1 ∨ (X.at_ k).role = 2
      · have hA := act_yes hact
        cases he : (X.at_ k).edge with
        | true =>
          rw [he] at r8
          have HZ := Lib.hid (ch_skip (a := a) (i := k) (T := X) (by rw [he]; simp))
          clear he hA
          rcases hact with h | h
          all_goals
            rw [h] at r9
            clear h
            go_wp2
            go_roundg gh
            case measure => omega
            case rel => exact ⟨k + 1, by omega, by go_num, by rw [HST.out, HZ.out]; exact HX.out, hS⟩
        | false =>
          rw [he] at r8
          have hz := ch_do (a := a) hA he
          clear he hA
          have h1 := HX.out.set_port hkn [(14, .int .i64 4)] { X.at_ k with change := 4 } (by simp) rfl
          have h2 := h1.set_flush (i := k) (by rw [upd_n]; exact hkn) (by rw [upd_n]; exact SF.out.trans SN.out.symm)
          have H1 := Lib.hid h1
          have H2 := Lib.hid h2
          clear h1 h2
          by_cases hka : k = a
          · subst hka
            rw [if_pos rfl] at hz
            have HZ := Lib.hid hz
            clear hz
            rcases hact with h | h
            all_goals
              rw [h] at r9
              clear h
              go_wp2
              go_roundg gh
              case measure => omega
              case rel => exact ⟨k + 1, by omega, by go_num, by rw [HST.out, HZ.out]; exact H1.out, hS.set_port hn0 (k * 16) [(14, .int .i64 4)]⟩
          · rw [if_neg hka] at hz
            have HZ := Lib.hid hz
            clear hz
            have hkb : ((k : Int) != (a : Int)) = true := by simpa using (show ¬ (k : Int) = (a : Int) by omega)
            rcases hact with h | h
            all_goals
              rw [h] at r9
              clear h
              go_wp2
              go_roundg gh
              case measure => omega
              case rel => exact ⟨k + 1, by omega, by go_num, by rw [HST.out, HZ.out]; exact H2.out, (hS.set_port hn0 (k * 16) [(14, .int .i64 4)]).set_flush k (.bool true)⟩
      · have h1 : ¬ (X.at_ k).role = 1 := fun h => hact (.inl h)
        have h2 : ¬ (X.at_ k).role = 2 := fun h => hact (.inr h)
        have HZ := Lib.hid (ch_skip (a := a) (i := k) (T := X) (by rw [act_no h1 h2]; simp))
        have h1b : ((X.at_ k).role != 1) = true := by simpa using h1
        have h2b : ((X.at_ k).role != 2) = true := by simpa using h2
        clear h1 h2 hact
        go_wp2
        go_roundg gh
        case measure => omega
        case rel => exact ⟨k + 1, by omega, by go_num, by rw [HST.out, HZ.out]; exact HX.out, hS⟩

set_option maxHeartbeats 2000000 in
theorem forward_calls (T : Tr) (B : TB) (i : Nat) (hi : i < T.n) (hn : T.n ≤ 16) (hfl : T.flush.length = T.n) (w : World) (hT : TreeW w B T) (U : Tr) (hU : forwardF i T = U) :
    Calls Try.prog 34 #[.pointer (some ⟨B.tb, 0, none⟩), .int .i64 (i : Int)] w (TPost w B T.n U) := by
  have hn0 : 0 < T.n := by omega
  have qt := hT.ownp hn0
  have hrow := hT.row hi
  have hfp := hT.rowfree hn0
  have N := hT.nes hn0
  have n1 := N.tp
  have hin : (i : Int) < (T.n : Int) := by omega
  have r8 : w.cell? ⟨B.pb, i * 16 + 8, none⟩ = some (.bool (T.at_ i).edge) := hrow 8 (by decide)
  have r10 : w.cell? ⟨B.pb, i * 16 + 10, none⟩ = some (.int .i64 (T.at_ i).state) := hrow 10 (by decide)
  have r13 : w.cell? ⟨B.pb, i * 16 + 13, none⟩ = some (.int .i64 (T.at_ i).wait) := hrow 13 (by decide)
  have h1 : TreeW ((w.setCell ⟨B.pb, i * 16 + 10, none⟩ (.int .i64 2)).setCell ⟨B.pb, i * 16 + 13, none⟩ (.int .i64 0)) B (T.upd i (fwdP (T.at_ i))) := hT.set_port hi [(10, .int .i64 2), (13, .int .i64 0)] (fwdP (T.at_ i)) (by simp) rfl
  have hS := (TStep.refl w B T.n).set_port hn0 (i * 16) [(10, .int .i64 2), (13, .int .i64 0)]
  have HU := Lib.hid hU
  have HF := Lib.hid hfl
  have H1 := Lib.hid h1
  clear hU hfl hT hrow N h1
  cases he : (T.at_ i).edge with
  | true =>
    rw [he] at r8
    have hz : forwardF i T = T.upd i (fwdP (T.at_ i)) := by unfold forwardF; dsimp only; rw [if_pos he]
    rw [hz] at HU
    clear hz he
    go_enter Try.func34, Try.ntmps34
    go_wp2
    go_end0
    exact ⟨B, rfl, by rw [← HU.out]; exact H1.out, hS⟩
  | false =>
    rw [he] at r8
    have hz : forwardF i T = changedF i (T.upd i (fwdP (T.at_ i))) := by unfold forwardF; dsimp only; rw [if_neg (by rw [he]; simp)]
    rw [hz] at HU
    clear hz he
    have hn' : (T.upd i (fwdP (T.at_ i))).n = T.n := upd_n _ _ _
    have HN := Lib.hid hn'
    have HA : Hid (i < (T.upd i (fwdP (T.at_ i))).n) := by rw [hn']; exact hi
    have HB : Hid ((T.upd i (fwdP (T.at_ i))).n ≤ 16) := by rw [hn']; exact hn
    have HC : Hid ((T.upd i (fwdP (T.at_ i))).flush.length = (T.upd i (fwdP (T.at_ i))).n) := by rw [hn']; exact HF.out
    clear hn'
    go_enter Try.func34, Try.ntmps34
    go_wp2_with (go_at_call 52; (with_reducible refine (changed_calls (T.upd i (fwdP (T.at_ i))) B i HA.out HB.out HC.out _ H1.out U HU.out).mono ?_); rintro e w' ⟨B', rfl, hT', hS'⟩)
    go_end0
    rw [HN.out] at hS'
    exact ⟨B', rfl, hT', hS.trans hS'⟩

theorem no_skip {a i : Nat} {T : Tr} (h : i = a ∨ (T.at_ i).edge = true ∨ actB (T.at_ i) = false) : noStep a i T = T := if_pos h
theorem no_do {a i : Nat} {T : Tr} (h0 : ¬ i = a) (h1 : actB (T.at_ i) = true) (h2 : (T.at_ i).edge = false) : noStep a i T = (T.fl i).upd i { T.at_ i with change := 4 } :=
  if_neg fun h => by rcases h with h | h | h; exact h0 h; rw [h2] at h; cases h; rw [h1] at h; cases h
set_option maxHeartbeats 4000000 in
theorem notice_calls (T : Tr) (B : TB) (a : Nat) (ha : a < T.n) (hn : T.n ≤ 16) (hfl : T.flush.length = T.n) (w : World) (hT : TreeW w B T) (U : Tr) (hU : noticeF a T = U) :
    Calls Try.prog 44 #[.pointer (some ⟨B.tb, 0, none⟩), .int .i64 (a : Int)] w (TPost w B T.n U) := by
  have hn0 : 0 < T.n := by omega
  have qt := hT.ownp hn0
  have ra : w.cell? ⟨B.pb, a * 16 + 9, none⟩ = some (.int .i64 (T.at_ a).role) := hT.row ha 9 (by decide)
  have han : (a : Int) < (T.n : Int) := by omega
  have HF := Lib.hid hfl
  by_cases hact : (T.at_ a).role = 1 ∨ (T.at_ a).role = 2
  rotate_left
  · have h1 : ¬ (T.at_ a).role = 1 := fun h => hact (.inl h)
    have h2 : ¬ (T.at_ a).role = 2 := fun h => hact (.inr h)
    have h1b : ((T.at_ a).role != 1) = true := by simpa using h1
    have h2b : ((T.at_ a).role != 2) = true := by simpa using h2
    have hz : noticeF a T = T := by unfold noticeF; rw [if_neg (by rw [act_no h1 h2]; simp)]
    rw [hz] at hU
    have HU := Lib.hid hU
    have HT := Lib.hid hT
    clear hU hT hfl h1 h2 hact hz
    go_enter Try.func44, Try.ntmps44
    go_wp2
    refine bodyPost_ret (results_none rfl _ _ _) rfl ?_
    exact ⟨B, rfl, by rw [← HU.out]; exact HT.out, TStep.refl _ _ _⟩
  have hz : noticeF a T = upto (noStep a) T.n T := by unfold noticeF; rw [if_pos (act_yes hact)]
  rw [hz] at hU
  have HU := Lib.hid hU
  have HT := Lib.hid hT
  clear hU hfl hT hz
  rcases hact with hact | hact
  all_goals
    rw [hact] at ra
    clear hact
    go_enter Try.func44, Try.ntmps44
    go_wp2
    clear qt ra
    go_loopg [26] T.n (fun gh s26 wx => ∃ k : Nat, k + gh = T.n ∧ s26 = .int .i64 (k : Int) ∧ TreeW wx B (upto (noStep a) k T) ∧ TStep w B T.n wx B)
    case atStart => exact ⟨0, by omega, rfl, HT.out, TStep.refl _ _ _⟩
    case round =>
      obtain ⟨k, hkg, rfl, hX, hS⟩ := hrel
      have sh := shp_upto (shp_no a) k T
      cases gk with
      | zero =>
        have hkM : ¬ ((k : Int) < (T.n : Int)) := by omega
        obtain rfl : k = T.n := by omega
        have HX := Lib.hid hX
        clear hX sh
        go_wp2
        go_end0
        exact ⟨B, rfl, by rw [← HU.out]; exact HX.out, hS⟩
      | succ gh =>
        have hkM : (k : Int) < (T.n : Int) := by omega
        have hstep : upto (noStep a) (k + 1) T = noStep a k (upto (noStep a) k T) := rfl
        have sn := sh.n
        have sf := sh.fl.trans HF.out
        have HST := Lib.hid hstep
        clear hstep
        generalize upto (noStep a) k T = X at hX sn sf HST
        have hkn : k < X.n := by rw [sn]; omega
        have hX0 : 0 < X.n := by omega
        have hrow := hX.row hkn
        have N := hX.nes hX0
        have n1 := N.tp; have n2 := N.tf; have n3 := N.pf
        have qt := hX.ownp hX0
        have hfp := hX.rowfree hX0
        have hff := hX.f.free
        have hfi := hX.flush_at hkn
        rw [sn] at qt
        have r8 : wr.cell? ⟨B.pb, k * 16 + 8, none⟩ = some (.bool (X.at_ k).edge) := hrow 8 (by decide)
        have r9 : wr.cell? ⟨B.pb, k * 16 + 9, none⟩ = some (.int .i64 (X.at_ k).role) := hrow 9 (by decide)
        have r14 : wr.cell? ⟨B.pb, k * 16 + 14, none⟩ = some (.int .i64 (X.at_ k).change) := hrow 14 (by decide)
        have HX := Lib.hid hX
        have SN := Lib.hid sn
        have SF := Lib.hid sf
        clear hX hrow sh N sn sf
        by_cases hka : k = a
        · have HZ := Lib.hid (no_skip (T := X) (.inl hka))
          subst hka
          go_wp2
          go_roundg gh
          case measure => omega
          case rel => exact ⟨k + 1, by omega, by go_num, by rw [HST.out, HZ.out]; exact HX.out, hS⟩
        · have hkb : ((k : Int) == (a : Int)) = false := by simpa using (show ¬ (k : Int) = (a : Int) by omega)
          by_cases hac : (X.at_ k).role = 1 ∨ (X.at_ k).role = 2
          · have hA := act_yes hac
            cases he : (X.at_ k).edge with
            | true =>
              rw [he] at r8
              have HZ := Lib.hid (no_skip (a := a) (i := k) (T := X) (.inr (.inl he)))
              clear he hA hac hka
              go_wp2
              go_roundg gh
              case measure => omega
              case rel => exact ⟨k + 1, by omega, by go_num, by rw [HST.out, HZ.out]; exact HX.out, hS⟩
            | false =>
              rw [he] at r8
              have HZ := Lib.hid (no_do hka hA he)
              clear he hA hka
              have h2 := (HX.out.set_flush hkn (SF.out.trans SN.out.symm)).set_port (i := k) hkn [(14, .int .i64 4)] { X.at_ k with change := 4 } (by simp) rfl
              have H2 := Lib.hid h2
              clear h2
              rcases hac with h | h
              all_goals
                rw [h] at r9
                clear h
                go_wp2
                go_roundg gh
                case measure => omega
                case rel => exact ⟨k + 1, by omega, by go_num, by rw [HST.out, HZ.out]; exact H2.out, (hS.set_flush k (.bool true)).set_port hn0 (k * 16) [(14, .int .i64 4)]⟩
          · have h1 : ¬ (X.at_ k).role = 1 := fun h => hac (.inl h)
            have h2 : ¬ (X.at_ k).role = 2 := fun h => hac (.inr h)
            have HZ := Lib.hid (no_skip (a := a) (i := k) (T := X) (.inr (.inr (act_no h1 h2))))
            have h1b : ((X.at_ k).role != 1) = true := by simpa using h1
            have h2b : ((X.at_ k).role != 2) = true := by simpa using h2
            clear h1 h2 hac hka
            cases he : (X.at_ k).edge with
            | true =>
              rw [he] at r8
              clear he
              go_wp2
              go_roundg gh
              case measure => omega
              case rel => exact ⟨k + 1, by omega, by go_num, by rw [HST.out, HZ.out]; exact HX.out, hS⟩
            | false =>
              rw [he] at r8
              clear he
              go_wp2
              go_roundg gh
              case measure => omega
              case rel => exact ⟨k + 1, by omega, by go_num, by rw [HST.out, HZ.out]; exact HX.out, hS⟩
end Go.Proofs.Ytjnbjcieepooaac
