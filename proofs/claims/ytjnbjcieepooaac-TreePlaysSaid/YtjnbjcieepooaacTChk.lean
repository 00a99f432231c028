/- bpdu.Check by its contract. -/
import Derived.Test.YtjnbjcieepooaacTMP
import Derived.Deep.DeepCutAuto
namespace Go.Proofs.Ytjnbjcieepooaac
open Go.RowKit
set_option linter.unusedVariables false
set_option linter.unusedSimpArgs false

def ChkPost (x : Bool) (w : World) (e : Ending) (w' : World) : Prop := ∃ c : Int, e = .returned (.int .i64 c) ∧ (c == 0) = x ∧ (c != 0) = !x ∧ Below w.heap.size w w'
def rapB (m : Msg) : Bool := m.proposal || m.agreement || m.learning || m.forwarding || decide (m.role ≠ 0)
def agesI (a0 a1 a2 a3 : Int) (k : Nat) : Int := if k = 0 then a0 else if k = 1 then a1 else if k = 2 then a2 else a3
theorem ages_bad {a0 a1 a2 a3 : Int} {x : Bool} {j : Nat} (hj : j < 4) (h : ageB (agesI a0 a1 a2 a3 j) = false) : (ageB a0 && ageB a1 && ageB a2 && ageB a3 && x) = false := by
  have : j = 0 ∨ j = 1 ∨ j = 2 ∨ j = 3 := by omega
  rcases this with rfl | rfl | rfl | rfl
  · rw [show ageB a0 = false from h]; simp
  · rw [show ageB a1 = false from h]; simp
  · rw [show ageB a2 = false from h]; simp
  · rw [show ageB a3 = false from h]; simp

set_option maxRecDepth 8000 in
set_option maxHeartbeats 4000000 in
theorem check_calls (m : Msg) (x : Bool) (hx : chkF m = x) (w : World) : Calls Try.prog 24 #[.agg m.cells] w (ChkPost x w) := by
  have HX := Lib.hid hx
  clear hx
  obtain ⟨k, ⟨vr, vc, vb, vp⟩, ch, ak, pr, ag, le, fo, ro, a0, a1, a2, a3⟩ := m
  simp only [Msg.cells]
  have hB := Blk.new w #[.int .i64 k, .int .u64 vr, .int .u64 vc, .int .u64 vb, .int .i64 vp, .bool ch, .bool ak, .bool pr, .bool ag, .bool le, .bool fo, .int .i64 ro, .int .i64 a0, .int .i64 a1, .int .i64 a2, .int .i64 a3] 41
  have hb := (Below.refl w.heap.size w).alloc (Nat.le_refl _) (.cells #[.int .i64 k, .int .u64 vr, .int .u64 vc, .int .u64 vb, .int .i64 vp, .bool ch, .bool ak, .bool pr, .bool ag, .bool le, .bool fo, .int .i64 ro, .int .i64 a0, .int .i64 a1, .int .i64 a2, .int .i64 a3] 41)
  go_enter Try.func24, Try.ntmps24
  go_upto_region 1 with fail
  generalize w.alloc (.cells #[.int .i64 k, .int .u64 vr, .int .u64 vc, .int .u64 vb, .int .i64 vp, .bool ch, .bool ak, .bool pr, .bool ag, .bool le, .bool fo, .int .i64 ro, .int .i64 a0, .int .i64 a1, .int .i64 a2, .int .i64 a3] 41) = W at hB hb ⊢
  have q := hB.cell
  obtain ⟨R, hR⟩ : ∃ R, (pr || ag || le || fo || decide (ro ≠ 0)) = R := ⟨_, rfl⟩
  have HR := Lib.hid hR
  clear hR
  go_cut [3] (fun s3 wx => s3 = .bool R ∧ wx = W)
  case first =>
    cases pr <;> cases ag <;> cases le <;> cases fo
    all_goals
      go_wp2
      go_meet
      exact ⟨by rw [← HR.out]; first | (simp; done) | (simp; rfl), rfl⟩
  case rest =>
    obtain ⟨rfl, rfl⟩ := hcut
    by_cases k0 : k < 0
    · have HC : Hid (chkF ⟨k, ⟨vr, vc, vb, vp⟩, ch, ak, pr, ag, le, fo, ro, a0, a1, a2, a3⟩ = false) := Lib.hid (if_pos (.inl k0))
      go_wp2
      go_ret
      exact ⟨11, rfl, by rw [← HX.out, HC.out]; rfl, by rw [← HX.out, HC.out]; rfl, hb⟩
    by_cases k3 : 3 ≤ k
    · have HC : Hid (chkF ⟨k, ⟨vr, vc, vb, vp⟩, ch, ak, pr, ag, le, fo, ro, a0, a1, a2, a3⟩ = false) := Lib.hid (if_pos (.inr k3))
      go_wp2
      go_ret
      exact ⟨11, rfl, by rw [← HX.out, HC.out]; rfl, by rw [← HX.out, HC.out]; rfl, hb⟩
    have e1 : chkF ⟨k, ⟨vr, vc, vb, vp⟩, ch, ak, pr, ag, le, fo, ro, a0, a1, a2, a3⟩ = _ := if_neg (by simp only; omega)
    by_cases k2 : k = 2
    · subst k2
      rw [if_pos rfl] at e1
      rw [e1] at HX
      clear e1 k0 k3
      go_wp2
      all_goals
        first
        | (go_ret
           exact ⟨1, rfl, by rw [← HX.out]; simp [*], by rw [← HX.out]; simp [*], hb⟩)
        | (go_ret
           exact ⟨0, rfl, by rw [← HX.out]; simp [*], by rw [← HX.out]; simp [*], hb⟩)
    · rw [if_neg k2] at e1
      have k2b : (k == 2) = false := by simpa using k2
      by_cases c1 : k = 0 ∧ R = true
      · have HC : Hid (chkF ⟨k, ⟨vr, vc, vb, vp⟩, ch, ak, pr, ag, le, fo, ro, a0, a1, a2, a3⟩ = false) := Lib.hid (e1.trans (if_pos (.inl ⟨c1.1, HR.out.trans c1.2⟩)))
        obtain ⟨rfl, rfl⟩ := c1
        clear e1
        go_wp2
        go_ret
        exact ⟨1, rfl, by rw [← HX.out, HC.out]; rfl, by rw [← HX.out, HC.out]; rfl, hb⟩
      by_cases c2 : ro < 0
      · have HC : Hid (chkF ⟨k, ⟨vr, vc, vb, vp⟩, ch, ak, pr, ag, le, fo, ro, a0, a1, a2, a3⟩ = false) := Lib.hid (e1.trans (if_pos (.inr (.inl c2))))
        clear e1
        by_cases k00 : k = 0
        · subst k00
          have hRf : R = false := by simpa using c1
          subst hRf
          clear c1
          go_wp2
          go_ret
          exact ⟨1, rfl, by rw [← HX.out, HC.out]; rfl, by rw [← HX.out, HC.out]; rfl, hb⟩
        · have k00b : (k == 0) = false := by simpa using k00
          clear c1
          go_wp2
          go_ret
          exact ⟨1, rfl, by rw [← HX.out, HC.out]; rfl, by rw [← HX.out, HC.out]; rfl, hb⟩
      by_cases c3 : 3 < ro
      · have HC : Hid (chkF ⟨k, ⟨vr, vc, vb, vp⟩, ch, ak, pr, ag, le, fo, ro, a0, a1, a2, a3⟩ = false) := Lib.hid (e1.trans (if_pos (.inr (.inr c3))))
        clear e1
        by_cases k00 : k = 0
        · subst k00
          have hRf : R = false := by simpa using c1
          subst hRf
          clear c1
          go_wp2
          go_ret
          exact ⟨1, rfl, by rw [← HX.out, HC.out]; rfl, by rw [← HX.out, HC.out]; rfl, hb⟩
        · have k00b : (k == 0) = false := by simpa using k00
          clear c1
          go_wp2
          go_ret
          exact ⟨1, rfl, by rw [← HX.out, HC.out]; rfl, by rw [← HX.out, HC.out]; rfl, hb⟩
      have e2 := e1.trans (if_neg (show ¬ _ from fun h => by
        rcases h with h | h | h
        · exact c1 ⟨h.1, HR.out.symm.trans h.2⟩
        · exact c2 h
        · exact c3 h))
      clear e1
      have E2 := Lib.hid e2
      clear e2
      have hkr : (k = 0 ∧ R = false) ∨ ¬ k = 0 := by
        by_cases h : k = 0
        · exact .inl ⟨h, by simpa [h] using c1⟩
        · exact .inr h
      clear c1
      have hkr' : (((k == 0) = true ∧ R = false) ∨ (k == 0) = false) := by
        rcases hkr with h | h
        · exact .inl ⟨by simpa using h.1, h.2⟩
        · exact .inr (by simpa using h)
      clear hkr k2
      rcases hkr' with ⟨k00, rfl⟩ | k00
      all_goals
        go_upto_region 10 with (fail)
        by_cases d1 : 4294967295 < vc
        · have HC : Hid (chkF ⟨k, ⟨vr, vc, vb, vp⟩, ch, ak, pr, ag, le, fo, ro, a0, a1, a2, a3⟩ = false) := Lib.hid (E2.out.trans (if_pos (.inl d1)))
          go_wp2
          go_ret
          exact ⟨1, rfl, by rw [← HX.out, HC.out]; rfl, by rw [← HX.out, HC.out]; rfl, hb⟩
        by_cases d2 : vp < 0
        · have HC : Hid (chkF ⟨k, ⟨vr, vc, vb, vp⟩, ch, ak, pr, ag, le, fo, ro, a0, a1, a2, a3⟩ = false) := Lib.hid (E2.out.trans (if_pos (.inr (.inl d2))))
          go_wp2
          go_ret
          exact ⟨1, rfl, by rw [← HX.out, HC.out]; rfl, by rw [← HX.out, HC.out]; rfl, hb⟩
        by_cases d3 : 65535 < vp
        · have HC : Hid (chkF ⟨k, ⟨vr, vc, vb, vp⟩, ch, ak, pr, ag, le, fo, ro, a0, a1, a2, a3⟩ = false) := Lib.hid (E2.out.trans (if_pos (.inr (.inr d3))))
          go_wp2
          go_ret
          exact ⟨1, rfl, by rw [← HX.out, HC.out]; rfl, by rw [← HX.out, HC.out]; rfl, hb⟩
        have E3 := Lib.hid (E2.out.trans (if_neg (show ¬ _ from fun h => by rcases h with h | h | h; exact d1 h; exact d2 h; exact d3 h)))
        have hidx : ∀ j : Nat, j < 4 → ∀ w, (Instr.index 82 (.agg #[.int .i64 a0, .int .i64 a1, .int .i64 a2, .int .i64 a3]) (.int .i64 (j : Int))).run Try.prog w = .ok (.int .i64 (agesI a0 a1 a2 a3 j)) w := by
          intro j hj w
          refine index_one Try.underlying82 (fun _ => by kernel_rfl) (fun _ => by kernel_rfl) j hj ?_ _ _
          have : j = 0 ∨ j = 1 ∨ j = 2 ∨ j = 3 := by omega
          rcases this with rfl | rfl | rfl | rfl <;> rfl
        have HI := Lib.hid hidx
        clear hidx
        go_wp2
        go_loopg [90] 4 (fun gh s90 wx => ∃ j : Nat, j + gh = 4 ∧ s90 = .int .i64 (j : Int) ∧ Hid (∀ i, i < j → ageB (agesI a0 a1 a2 a3 i) = true) ∧ wc = wx)
        case atStart => exact ⟨0, rfl, rfl, fun i hi => absurd hi (by omega), rfl⟩
        case round =>
          obtain ⟨j, hjg, rfl, HA, rfl⟩ := hrel
          cases gk with
          | zero =>
            obtain rfl : j = 4 := by omega
            have hA0 := HA.out 0 (by omega)
            have hA1 := HA.out 1 (by omega)
            have hA2 := HA.out 2 (by omega)
            have hA3 := HA.out 3 (by omega)
            have e4 : (ageB a0 && ageB a1 && ageB a2 && ageB a3 && decide (a0 < a1)) = decide (a0 < a1) := by
              rw [show ageB a0 = true from hA0, show ageB a1 = true from hA1, show ageB a2 = true from hA2, show ageB a3 = true from hA3]; rfl
            have E4 := Lib.hid (E3.out.trans e4)
            clear hA0 hA1 hA2 hA3 e4
            by_cases hlt : a0 < a1
            · have HC : Hid (chkF ⟨k, ⟨vr, vc, vb, vp⟩, ch, ak, pr, ag, le, fo, ro, a0, a1, a2, a3⟩ = true) := Lib.hid (E4.out.trans (decide_eq_true hlt))
              go_wp2
              go_ret
              exact ⟨0, rfl, by rw [← HX.out, HC.out]; rfl, by rw [← HX.out, HC.out]; rfl, hb⟩
            · have HC : Hid (chkF ⟨k, ⟨vr, vc, vb, vp⟩, ch, ak, pr, ag, le, fo, ro, a0, a1, a2, a3⟩ = false) := Lib.hid (E4.out.trans (decide_eq_false hlt))
              go_wp2
              go_ret
              exact ⟨4, rfl, by rw [← HX.out, HC.out]; rfl, by rw [← HX.out, HC.out]; rfl, hb⟩
          | succ gh =>
            have hi := HI.out j (by omega)
            have hj4 : (j : Int) < 4 := by omega
            by_cases g0 : agesI a0 a1 a2 a3 j < 0
            · have HC : Hid (chkF ⟨k, ⟨vr, vc, vb, vp⟩, ch, ak, pr, ag, le, fo, ro, a0, a1, a2, a3⟩ = false) := Lib.hid (E3.out.trans (ages_bad (j := j) (by omega) (by unfold ageB; rw [decide_eq_false (by omega)]; rfl)))
              go_wp2
              go_ret
              exact ⟨1, rfl, by rw [← HX.out, HC.out]; rfl, by rw [← HX.out, HC.out]; rfl, hb⟩
            by_cases g1 : 65535 < agesI a0 a1 a2 a3 j
            · have HC : Hid (chkF ⟨k, ⟨vr, vc, vb, vp⟩, ch, ak, pr, ag, le, fo, ro, a0, a1, a2, a3⟩ = false) := Lib.hid (E3.out.trans (ages_bad (j := j) (by omega) (by unfold ageB; rw [decide_eq_false (show ¬ agesI a0 a1 a2 a3 j ≤ 65535 by omega)]; simp)))
              go_wp2
              go_ret
              exact ⟨1, rfl, by rw [← HX.out, HC.out]; rfl, by rw [← HX.out, HC.out]; rfl, hb⟩
            have HG : Hid (ageB (agesI a0 a1 a2 a3 j) = true) := by unfold ageB; rw [decide_eq_true (by omega), decide_eq_true (by omega)]; rfl
            go_wp2
            go_roundg gh
            case measure => omega
            case rel => exact ⟨j + 1, by omega, by go_num, fun i hi => by
              by_cases h : i = j
              · subst h; exact HG.out
              · exact HA.out i (by omega), rfl⟩
end Go.Proofs.Ytjnbjcieepooaac
