/- The functions of package credit, by their contracts. -/
import Derived.Test.YtjnbjcieepooaaaFrame
import Derived.Deep.RegionWith
import Derived.Deep.QuietTactic
import Derived.BigQuiet
import Derived.StillTailTactics
namespace Go.Proofs.Ytjnbjcieepooaaa
open Go.RowKit
set_option linter.unusedVariables false
set_option linter.unusedSimpArgs false

/-- A class's credit. -/
structure Sh where
  idle : Int
  port : Int
  value : Int
  last : Int
  mode : Int
def Sh.cells (S : Sh) : Array Value := #[.int .i64 S.idle, .int .i64 S.port, .int .i64 S.value, .int .i64 S.last, .int .i64 S.mode]
structure Sh.ok (S : Sh) : Prop where
  i1 : 1 ≤ S.idle
  i2 : S.idle ≤ S.port
  i3 : S.port ≤ 10000000000
  v1 : -1152921504606846976 ≤ S.value
  v2 : S.value ≤ 1152921504606846976
  l1 : 0 ≤ S.last
  m1 : 0 ≤ S.mode
  m2 : S.mode ≤ 2

def growF (v r n b : Int) : Int := if b ≤ v then v else if (b - v) / r < n then b else v + r * n

theorem growF_mul {v r n b : Int} (hr : 1 ≤ r) (h0 : 0 ≤ n) (hv : v < b) (h : n ≤ (b - v) / r) : 0 ≤ r * n ∧ r * n ≤ b - v := by
  have h1 : n * r ≤ (b - v) / r * r := Int.mul_le_mul_of_nonneg_right h (by omega)
  have h2 := Int.ediv_mul_le (b - v) (show r ≠ 0 by omega)
  have h3 : n * r = r * n := Int.mul_comm _ _
  have h4 : 0 ≤ r * n := Int.mul_nonneg (by omega) h0
  omega

theorem grow_calls (v r n b x : Int) (hx : growF v r n b = x) (w : World) (hr : 1 ≤ r) (h0 : 0 ≤ n) (hv1 : -1152921504606846976 ≤ v) (hv2 : v ≤ 1152921504606846976) (hb1 : 0 ≤ b) (hb2 : b ≤ 1152921504606846976) :
    Calls Try.prog 39 #[.int .i64 v, .int .i64 r, .int .i64 n, .int .i64 b] w fun e w' => e = .returned (.int .i64 x) ∧ w = w' := by
  subst hx
  by_cases c1 : b ≤ v
  · have E : growF v r n b = v := if_pos c1
    rw [E]
    go_enter Try.func39, Try.ntmps39
    go_wp2
    go_ret
    exact ⟨rfl, rfl⟩
  · have q0 : 0 ≤ (b - v) / r := Int.ediv_nonneg (by omega) (by omega)
    have q1 : (b - v) / r ≤ b - v := Int.ediv_le_self r (by omega)
    by_cases c2 : (b - v) / r < n
    · have E : growF v r n b = b := by unfold growF; rw [if_neg c1, if_pos c2]
      rw [E]
      clear E
      go_enter Try.func39, Try.ntmps39
      go_wp2
      go_ret
      exact ⟨rfl, rfl⟩
    · have E : growF v r n b = v + r * n := by unfold growF; rw [if_neg c1, if_neg c2]
      rw [E]
      have hm := growF_mul hr h0 (by omega) (Int.not_lt.1 c2)
      have m1 := hm.1
      have m2 := hm.2
      clear E hm
      go_enter Try.func39, Try.ntmps39
      go_wp2
      go_ret
      exact ⟨rfl, rfl⟩

/-- The credit when time has gone on. -/
def passV (S : Sh) (n : Int) : Int :=
  if S.mode = 1 then growF S.value S.idle n 1152921504606846976
  else if S.mode = 0 then growF S.value S.idle n 0
  else if S.idle < S.port then -growF (-S.value) (S.port - S.idle) n 1152921504606846976 else S.value
def passS (S : Sh) (now : Int) : Sh := if now ≤ S.last then S else { S with value := passV S (now - S.last), last := now }

set_option maxHeartbeats 2000000 in
theorem pass_calls (S : Sh) (hS : S.ok) (now : Int) (hnow : now ≤ 9223372036854775807) (b : Nat) (w : World) (hk : Blk w b S.cells 65) :
    Calls Try.prog 38 #[.pointer (some ⟨b, 0, none⟩), .int .i64 now] w fun e w' => e = .returned (.tuple #[]) ∧ Blk w' b (passS S now).cells 65 ∧ Fr (· = b) w w' := by
  obtain ⟨idle, port, value, last, mode⟩ := S
  obtain ⟨i1, i2, i3, v1, v2, l1, m1, m2⟩ := hS
  simp only at i1 i2 i3 v1 v2 l1 m1 m2
  have c0 : w.cell? ⟨b, 0, none⟩ = some (.int .i64 idle) := hk.cell 0
  have c1 : w.cell? ⟨b, 1, none⟩ = some (.int .i64 port) := hk.cell 1
  have c2 : w.cell? ⟨b, 2, none⟩ = some (.int .i64 value) := hk.cell 2
  have c3 : w.cell? ⟨b, 3, none⟩ = some (.int .i64 last) := hk.cell 3
  have c4 : w.cell? ⟨b, 4, none⟩ = some (.int .i64 mode) := hk.cell 4
  have f2 := hk.free 2
  have f3 := hk.free 3
  have HK := Lib.hid hk
  clear hk
  by_cases hl : now ≤ last
  · go_enter Try.func38, Try.ntmps38
    go_wp2
    refine bodyPost_ret (results_none rfl _ _ _) rfl ?_
    exact ⟨rfl, by rw [show passS ⟨idle, port, value, last, mode⟩ now = ⟨idle, port, value, last, mode⟩ from if_pos hl]; exact HK.out, Fr.refl _ _⟩
  · have hm : mode = 0 ∨ mode = 1 ∨ mode = 2 := by omega
    rcases hm with rfl | rfl | rfl
    · obtain ⟨x, hx⟩ : ∃ x, growF value idle (now - last) 0 = x := ⟨_, rfl⟩
      have HX := Lib.hid hx
      clear hx
      go_enter Try.func38, Try.ntmps38
      go_wp2
      go_region_with (go_at_call 39; (with_reducible refine (grow_calls _ _ _ _ _ HX.out _ (by omega) (by omega) (by omega) (by omega) (by omega) (by omega)).mono ?_); rintro e w' ⟨rfl, rfl⟩)
      all_goals
        go_end0
        refine ⟨rfl, ?_, Fr.drew (Fr.set (Fr.set (Fr.refl (· = b) w) (.inl rfl) _) (.inl rfl) _)⟩
        have e : passS ⟨idle, port, value, last, 0⟩ now = ⟨idle, port, x, now, 0⟩ := by
          unfold passS passV
          rw [if_neg (by show ¬ now ≤ last; omega), ← HX.out]
          rfl
        rw [e]
        exact (HK.out.set 3 _).set 2 _
    · obtain ⟨x, hx⟩ : ∃ x, growF value idle (now - last) 1152921504606846976 = x := ⟨_, rfl⟩
      have HX := Lib.hid hx
      clear hx
      go_enter Try.func38, Try.ntmps38
      go_wp2
      go_region_with (go_at_call 39; (with_reducible refine (grow_calls _ _ _ _ _ HX.out _ (by omega) (by omega) (by omega) (by omega) (by omega) (by omega)).mono ?_); rintro e w' ⟨rfl, rfl⟩)
      all_goals
        go_end0
        refine ⟨rfl, ?_, Fr.drew (Fr.set (Fr.set (Fr.refl (· = b) w) (.inl rfl) _) (.inl rfl) _)⟩
        have e : passS ⟨idle, port, value, last, 1⟩ now = ⟨idle, port, x, now, 1⟩ := by
          unfold passS passV
          rw [if_neg (by show ¬ now ≤ last; omega), ← HX.out]
          rfl
        rw [e]
        exact (HK.out.set 3 _).set 2 _
    · by_cases hip : idle < port
      · obtain ⟨x, hx⟩ : ∃ x, growF (-value) (port - idle) (now - last) 1152921504606846976 = x := ⟨_, rfl⟩
        have hxb : -1152921504606846976 ≤ x ∧ x ≤ 1152921504606846976 := by
          rw [← hx]
          unfold growF
          split
          · omega
          · split
            · omega
            · have := growF_mul (v := -value) (r := port - idle) (n := now - last) (b := 1152921504606846976) (by omega) (by omega) (by omega) (by omega)
              omega
        have hxb1 := hxb.1
        have hxb2 := hxb.2
        have HX := Lib.hid hx
        clear hx hxb
        have s1 : IntKind.i64.wrap (-value) = -value := IntWalk.i64_in _ (by omega)
        have s2 : IntKind.i64.wrap (port - idle) = port - idle := IntWalk.i64_in _ (by omega)
        have s3 : IntKind.i64.wrap (-x) = -x := IntWalk.i64_in _ (by omega)
        go_enter Try.func38, Try.ntmps38
        go_wp2
        go_quiet (fail)
        go_wp2
        go_region_with (go_at_call 39; (with_reducible refine (grow_calls _ _ _ _ _ HX.out _ (by omega) (by omega) (by omega) (by omega) (by omega) (by omega)).mono ?_); rintro e w' ⟨rfl, rfl⟩)
        all_goals
          go_end0
          refine ⟨rfl, ?_, Fr.set (Fr.drewN (Fr.set (Fr.refl (· = b) w) (.inl rfl) _) _) (.inl rfl) _⟩
          have e : passS ⟨idle, port, value, last, 2⟩ now = ⟨idle, port, -x, now, 2⟩ := by
            unfold passS passV
            rw [if_neg (by show ¬ now ≤ last; omega), ← HX.out]
            show Sh.mk _ _ (if idle < port then _ else _) _ _ = _
            rw [if_pos hip]
          rw [e]
          exact (HK.out.set 3 _).set 2 _
      · go_enter Try.func38, Try.ntmps38
        go_wp2
        go_quiet (fail)
        go_wp2
        go_end0
        refine ⟨rfl, ?_, Fr.drewN (Fr.set (Fr.refl (· = b) w) (.inl rfl) _) _⟩
        have e : passS ⟨idle, port, value, last, 2⟩ now = ⟨idle, port, value, now, 2⟩ := by
          unfold passS passV
          rw [if_neg (by show ¬ now ≤ last; omega)]
          show Sh.mk _ _ (if idle < port then _ else _) _ _ = _
          rw [if_neg (by omega)]
        rw [e]
        exact HK.out.set 3 _
end Go.Proofs.Ytjnbjcieepooaaa
