/- More functions of package credit, and of its reference, by their contracts. -/
import Derived.Test.YtjnbjcieepooaaaCredit
namespace Go.Proofs.Ytjnbjcieepooaaa
open Go.RowKit
set_option linter.unusedVariables false
set_option linter.unusedSimpArgs false

theorem growF_bd (v r n b : Int) (hr : 1 ≤ r) (h0 : 0 ≤ n) : v ≤ growF v r n b ∧ (v ≤ b → growF v r n b ≤ b) := by
  unfold growF
  split
  · omega
  · split
    · omega
    · have := growF_mul (v := v) (r := r) (n := n) (b := b) hr h0 (by omega) (by omega)
      omega

theorem passS_ok (S : Sh) (h : S.ok) (now : Int) : (passS S now).ok := by
  unfold passS
  split
  · exact h
  · obtain ⟨i1, i2, i3, v1, v2, l1, m1, m2⟩ := h
    have hb : -1152921504606846976 ≤ passV S (now - S.last) ∧ passV S (now - S.last) ≤ 1152921504606846976 := by
      unfold passV
      split
      · have := growF_bd S.value S.idle (now - S.last) 1152921504606846976 i1 (by omega); omega
      · split
        · have := growF_bd S.value S.idle (now - S.last) 0 i1 (by omega)
          by_cases hv : S.value ≤ 0
          · omega
          · have e : growF S.value S.idle (now - S.last) 0 = S.value := if_pos (by omega)
            omega
        · split
          · have := growF_bd (-S.value) (S.port - S.idle) (now - S.last) 1152921504606846976 (by omega) (by omega); omega
          · omega
    exact ⟨i1, i2, i3, hb.1, hb.2, by show 0 ≤ now; omega, m1, m2⟩

theorem passS_fix (S : Sh) (now : Int) : (passS S now).idle = S.idle ∧ (passS S now).port = S.port ∧ (passS S now).mode = S.mode ∧ (passS S now).last = (if now ≤ S.last then S.last else now) := by
  unfold passS; split <;> simp

theorem new_bad (i p : Int) (h : i < 1 ∨ 10000000000 < p ∨ p < i) (w : World) :
    Calls Try.prog 28 #[.int .i64 i, .int .i64 p] w fun e w' => e = .returned (.tuple #[.pointer none, .int .i64 30]) ∧ w = w' := by
  by_cases h1 : i < 1
  · clear h
    go_enter Try.func28, Try.ntmps28
    go_wp2
    go_ret2
    exact ⟨rfl, rfl⟩
  by_cases h2 : 10000000000 < p
  · clear h
    go_enter Try.func28, Try.ntmps28
    go_wp2
    go_ret2
    exact ⟨rfl, rfl⟩
  have h3 : p < i := by omega
  clear h
  go_enter Try.func28, Try.ntmps28
  go_wp2
  go_ret2
  exact ⟨rfl, rfl⟩
theorem new_ok (i p : Int) (h1 : 1 ≤ i) (h2 : p ≤ 10000000000) (h3 : i ≤ p) (w : World) :
    Calls Try.prog 28 #[.int .i64 i, .int .i64 p] w fun e w' => e = .returned (.tuple #[.pointer (some ⟨w.heap.size, 0, none⟩), .int .i64 0]) ∧ Blk w' w.heap.size (Sh.mk i p 0 0 0).cells 65 ∧ Below w.heap.size w w' := by
  go_enter Try.func28, Try.ntmps28
  go_wp2
  go_ret2
  exact ⟨rfl, Blk.new w _ _, (Below.refl _ _).alloc (Nat.le_refl _) _⟩

theorem value_calls (S : Sh) (hS : S.ok) (now : Int) (hnow : now ≤ 9223372036854775807) (x : Int) (hx : (passS S now).value = x) (b : Nat) (w : World) (hk : Blk w b S.cells 65) :
    Calls Try.prog 30 #[.pointer (some ⟨b, 0, none⟩), .int .i64 now] w fun e w' => e = .returned (.int .i64 x) ∧ Blk w' b (passS S now).cells 65 ∧ Fr (· = b) w w' := by
  subst hx
  have HK := Lib.hid hk
  clear hk
  go_enter Try.func30, Try.ntmps30
  go_wp2_with (go_at_call 38; (with_reducible refine (pass_calls S hS now hnow b _ HK.out).mono ?_); rintro e w' ⟨rfl, hk', hf'⟩; have c2 : w'.cell? ⟨b, 2, none⟩ = some (.int .i64 (passS S now).value) := hk'.cell 2)
  go_ret
  exact ⟨rfl, by assumption, by assumption⟩

theorem ready_calls (S : Sh) (hS : S.ok) (now : Int) (hnow : now ≤ 9223372036854775807) (x : Bool) (hx : decide (0 ≤ (passS S now).value) = x) (b : Nat) (w : World) (hk : Blk w b S.cells 65) :
    Calls Try.prog 31 #[.pointer (some ⟨b, 0, none⟩), .int .i64 now] w fun e w' => e = .returned (.bool x) ∧ Blk w' b (passS S now).cells 65 ∧ Fr (· = b) w w' := by
  subst hx
  have HK := Lib.hid hk
  clear hk
  obtain ⟨v, hv⟩ : ∃ v, (passS S now).value = v := ⟨_, rfl⟩
  rw [hv]
  have HV := Lib.hid hv
  clear hv
  go_enter Try.func31, Try.ntmps31
  go_wp2_with (go_at_call 30; (with_reducible refine (value_calls S hS now hnow _ HV.out b _ HK.out).mono ?_); rintro e w' ⟨rfl, hk', hf'⟩)
  go_ret
  exact ⟨rfl, by assumption, by assumption⟩

def modeS (S : Sh) (m now : Int) : Sh := { passS S now with mode := m, value := if m = 0 then min (passS S now).value 0 else (passS S now).value }

theorem mode_bad (S : Sh) (m now : Int) (h : m < 0 ∨ 2 < m) (b : Nat) (w : World) :
    Calls Try.prog 32 #[.pointer (some ⟨b, 0, none⟩), .int .i64 m, .int .i64 now] w fun e w' => e = .returned (.int .i64 1) ∧ w = w' := by
  by_cases h1 : m < 0
  · clear h
    go_enter Try.func32, Try.ntmps32
    go_wp2
    go_ret
    exact ⟨rfl, rfl⟩
  have h2 : 3 ≤ m := by omega
  clear h
  go_enter Try.func32, Try.ntmps32
  go_wp2
  go_ret
  exact ⟨rfl, rfl⟩

set_option maxHeartbeats 1000000 in
theorem mode_calls (S : Sh) (hS : S.ok) (m now : Int) (h1 : 0 ≤ m) (h2 : m ≤ 2) (hnow : now ≤ 9223372036854775807) (b : Nat) (w : World) (hk : Blk w b S.cells 65) :
    Calls Try.prog 32 #[.pointer (some ⟨b, 0, none⟩), .int .i64 m, .int .i64 now] w fun e w' => e = .returned (.int .i64 0) ∧ Blk w' b (modeS S m now).cells 65 ∧ Fr (· = b) w w' := by
  have HK := Lib.hid hk
  clear hk
  obtain ⟨T, hT⟩ : ∃ T, passS S now = T := ⟨_, rfl⟩
  have HT := Lib.hid hT
  obtain ⟨v, hv⟩ : ∃ v, T.value = v := ⟨_, rfl⟩
  have HV := Lib.hid hv
  clear hv
  by_cases h0 : m = 0
  · subst h0
    clear hT
    by_cases hv0 : v ≤ 0
    · go_enter Try.func32, Try.ntmps32
      go_wp2_with (go_at_call 38; (with_reducible refine (pass_calls S hS now hnow b _ HK.out).mono ?_); rintro e w' ⟨rfl, hk', hf'⟩; rw [HT.out] at hk'; have c2 : w'.cell? ⟨b, 2, none⟩ = some (.int .i64 v) := (by rw [← HV.out]; exact hk'.cell 2); have f2 := hk'.free 2; have f4 := hk'.free 4; have c4 : w'.cell? ⟨b, 4, none⟩ = some (.int .i64 T.mode) := hk'.cell 4)
      go_ret
      refine ⟨rfl, ?_, Fr.set (m := (· = b)) (Fr.set (m := (· = b)) hf' (.inl rfl) _) (.inl rfl) _⟩
      unfold modeS
      rw [HT.out, if_pos rfl, HV.out, Int.min_eq_left hv0]
      exact (hk'.set 4 _).set 2 _
    · go_enter Try.func32, Try.ntmps32
      go_wp2_with (go_at_call 38; (with_reducible refine (pass_calls S hS now hnow b _ HK.out).mono ?_); rintro e w' ⟨rfl, hk', hf'⟩; rw [HT.out] at hk'; have c2 : w'.cell? ⟨b, 2, none⟩ = some (.int .i64 v) := (by rw [← HV.out]; exact hk'.cell 2); have f2 := hk'.free 2; have f4 := hk'.free 4; have c4 : w'.cell? ⟨b, 4, none⟩ = some (.int .i64 T.mode) := hk'.cell 4)
      go_ret
      refine ⟨rfl, ?_, Fr.set (m := (· = b)) (Fr.set (m := (· = b)) hf' (.inl rfl) _) (.inl rfl) _⟩
      unfold modeS
      rw [HT.out, if_pos rfl, HV.out, Int.min_eq_right (by omega)]
      exact (hk'.set 4 _).set 2 _
  · have h00 : (m == 0) = false := by simpa using h0
    clear hT
    go_enter Try.func32, Try.ntmps32
    go_wp2_with (go_at_call 38; (with_reducible refine (pass_calls S hS now hnow b _ HK.out).mono ?_); rintro e w' ⟨rfl, hk', hf'⟩; rw [HT.out] at hk'; have c2 : w'.cell? ⟨b, 2, none⟩ = some (.int .i64 T.value) := hk'.cell 2; have f2 := hk'.free 2; have f4 := hk'.free 4; have c4 : w'.cell? ⟨b, 4, none⟩ = some (.int .i64 T.mode) := hk'.cell 4)
    go_ret
    refine ⟨rfl, ?_, Fr.set (m := (· = b)) hf' (.inl rfl) _⟩
    unfold modeS
    rw [HT.out, if_neg h0]
    exact hk'.set 4 _

def whenF (T : Sh) (now : Int) : Int := if 0 ≤ T.value then max now T.last else if -T.value % T.idle = 0 then max now T.last + -T.value / T.idle else max now T.last + (-T.value / T.idle + 1)

set_option maxHeartbeats 1000000 in
theorem when_calls (S : Sh) (hS : S.ok) (now : Int) (hnow0 : 0 ≤ now) (hnow : now ≤ 4611686018427387904) (hlast : S.last ≤ 4611686018427387904) (x : Int) (hx : whenF (passS S now) now = x) (b : Nat) (w : World) (hk : Blk w b S.cells 65) :
    Calls Try.prog 34 #[.pointer (some ⟨b, 0, none⟩), .int .i64 now] w fun e w' => e = .returned (.int .i64 x) ∧ Blk w' b (passS S now).cells 65 ∧ Fr (· = b) w w' := by
  have HK := Lib.hid hk
  clear hk
  have hT := passS_ok S hS now
  have hfx := passS_fix S now
  obtain ⟨T, hTT⟩ : ∃ T, passS S now = T := ⟨_, rfl⟩
  rw [hTT] at hx hT hfx
  have HT := Lib.hid hTT
  have i1 := hT.i1
  have i2 := hT.i2
  have i3 := hT.i3
  have v1 := hT.v1
  have v2 := hT.v2
  have l1 := hT.l1
  have l2 : T.last ≤ 4611686018427387904 := by rw [hfx.2.2.2]; split <;> omega
  obtain ⟨v, hv⟩ : ∃ v, T.value = v := ⟨_, rfl⟩
  have HV := Lib.hid hv
  rw [hv] at v1 v2
  have HVV : Hid ((passS S now).value = v) := by show _ = _; rw [hTT]; exact hv
  obtain ⟨l, hl⟩ : ∃ l, T.last = l := ⟨_, rfl⟩
  have HL := Lib.hid hl
  obtain ⟨d, hd⟩ : ∃ d, T.idle = d := ⟨_, rfl⟩
  have HD := Lib.hid hd
  rw [hl] at l1 l2
  rw [hd] at i1 i2
  have hn2 : now ≤ 9223372036854775807 := by omega
  have hxx : x = if 0 ≤ v then max now l else if -v % d = 0 then max now l + -v / d else max now l + (-v / d + 1) := by
    rw [← hx]; unfold whenF; rw [hv, hl, hd]
  have HX := Lib.hid hxx
  clear hTT hT hfx hv hl hd hx hxx
  obtain ⟨m, hm⟩ : ∃ m, m = max now l := ⟨_, rfl⟩
  have HM := Lib.hid hm
  clear hm
  by_cases h0 : 0 ≤ v
  · have hX := HX.out
    rw [if_pos h0] at hX
    subst hX
    by_cases hnl : l ≤ now
    · have e : max now l = now := by omega
      rw [e]
      clear e
      go_enter Try.func34, Try.ntmps34
      go_wp2_with (go_at_call 30; (with_reducible refine (value_calls S hS _ hn2 _ HVV.out b _ HK.out).mono ?_); rintro e w' ⟨rfl, hk', hf'⟩; rw [HT.out] at hk'; have c0 : w'.cell? ⟨b, 0, none⟩ = some (.int .i64 d) := (by rw [← HD.out]; exact hk'.cell 0); have c3 : w'.cell? ⟨b, 3, none⟩ = some (.int .i64 l) := (by rw [← HL.out]; exact hk'.cell 3))
      go_ret
      exact ⟨rfl, by rw [HT.out]; exact hk', hf'⟩
    · have e : max now l = l := by omega
      rw [e]
      clear e
      go_enter Try.func34, Try.ntmps34
      go_wp2_with (go_at_call 30; (with_reducible refine (value_calls S hS _ hn2 _ HVV.out b _ HK.out).mono ?_); rintro e w' ⟨rfl, hk', hf'⟩; rw [HT.out] at hk'; have c0 : w'.cell? ⟨b, 0, none⟩ = some (.int .i64 d) := (by rw [← HD.out]; exact hk'.cell 0); have c3 : w'.cell? ⟨b, 3, none⟩ = some (.int .i64 l) := (by rw [← HL.out]; exact hk'.cell 3))
      go_ret
      exact ⟨rfl, by rw [HT.out]; exact hk', hf'⟩
  · obtain ⟨u, rfl⟩ : ∃ u, v = -u := ⟨-v, by omega⟩
    have u1 : 0 < u := by omega
    have u2 : u ≤ 1152921504606846976 := by omega
    have q0 : 0 ≤ u / d := Int.ediv_nonneg (by omega) (by omega)
    have q1 : u / d ≤ u := Int.ediv_le_self d (by omega)
    have hX := HX.out
    rw [if_neg h0, Int.neg_neg] at hX
    clear h0
    by_cases hr : u % d = 0
    · rw [if_pos hr] at hX
      subst hX
      have hr2 : (u % d != 0) = false := by simpa using hr
      clear hr
      by_cases hnl : l ≤ now
      · have e : max now l = now := by omega
        rw [e]
        clear e
        go_enter Try.func34, Try.ntmps34
        go_wp2_with (go_at_call 30; (with_reducible refine (value_calls S hS _ hn2 _ HVV.out b _ HK.out).mono ?_); rintro e w' ⟨rfl, hk', hf'⟩; rw [HT.out] at hk'; have c0 : w'.cell? ⟨b, 0, none⟩ = some (.int .i64 d) := (by rw [← HD.out]; exact hk'.cell 0); have c3 : w'.cell? ⟨b, 3, none⟩ = some (.int .i64 l) := (by rw [← HL.out]; exact hk'.cell 3))
        go_ret
        exact ⟨rfl, by rw [HT.out]; exact hk', hf'⟩
      · have e : max now l = l := by omega
        rw [e]
        clear e
        go_enter Try.func34, Try.ntmps34
        go_wp2_with (go_at_call 30; (with_reducible refine (value_calls S hS _ hn2 _ HVV.out b _ HK.out).mono ?_); rintro e w' ⟨rfl, hk', hf'⟩; rw [HT.out] at hk'; have c0 : w'.cell? ⟨b, 0, none⟩ = some (.int .i64 d) := (by rw [← HD.out]; exact hk'.cell 0); have c3 : w'.cell? ⟨b, 3, none⟩ = some (.int .i64 l) := (by rw [← HL.out]; exact hk'.cell 3))
        go_ret
        exact ⟨rfl, by rw [HT.out]; exact hk', hf'⟩
    · rw [if_neg hr] at hX
      subst hX
      have hr2 : (u % d != 0) = true := by simpa using hr
      clear hr
      by_cases hnl : l ≤ now
      · have e : max now l = now := by omega
        rw [e]
        clear e
        go_enter Try.func34, Try.ntmps34
        go_wp2_with (go_at_call 30; (with_reducible refine (value_calls S hS _ hn2 _ HVV.out b _ HK.out).mono ?_); rintro e w' ⟨rfl, hk', hf'⟩; rw [HT.out] at hk'; have c0 : w'.cell? ⟨b, 0, none⟩ = some (.int .i64 d) := (by rw [← HD.out]; exact hk'.cell 0); have c3 : w'.cell? ⟨b, 3, none⟩ = some (.int .i64 l) := (by rw [← HL.out]; exact hk'.cell 3))
        go_ret
        exact ⟨rfl, by rw [HT.out]; exact hk', hf'⟩
      · have e : max now l = l := by omega
        rw [e]
        clear e
        go_enter Try.func34, Try.ntmps34
        go_wp2_with (go_at_call 30; (with_reducible refine (value_calls S hS _ hn2 _ HVV.out b _ HK.out).mono ?_); rintro e w' ⟨rfl, hk', hf'⟩; rw [HT.out] at hk'; have c0 : w'.cell? ⟨b, 0, none⟩ = some (.int .i64 d) := (by rw [← HD.out]; exact hk'.cell 0); have c3 : w'.cell? ⟨b, 3, none⟩ = some (.int .i64 l) := (by rw [← HL.out]; exact hk'.cell 3))
        go_ret
        exact ⟨rfl, by rw [HT.out]; exact hk', hf'⟩

/-- A class's credit, as the reference has it. -/
def Sh.refCells (S : Sh) : Array Value := #[.int .i64 S.idle, .int .i64 S.port, .int .i64 S.value, .int .i64 S.mode]
def tickV (S : Sh) : Int := if S.mode = 0 then min (S.value + S.idle) 0 else if S.mode = 1 then S.value + S.idle else S.value - (S.port - S.idle)

set_option maxHeartbeats 1000000 in
theorem tick_calls (S : Sh) (hS : S.ok) (b : Nat) (w : World) (hk : Blk w b S.refCells 49) :
    Calls Try.prog 29 #[.pointer (some ⟨b, 0, none⟩)] w fun e w' => e = .returned (.tuple #[]) ∧ Blk w' b ({ S with value := tickV S } : Sh).refCells 49 ∧ Fr (· = b) w w' := by
  obtain ⟨idle, port, value, last, mode⟩ := S
  obtain ⟨i1, i2, i3, v1, v2, l1, m1, m2⟩ := hS
  simp only at i1 i2 i3 v1 v2 m1 m2
  clear l1
  have c0 : w.cell? ⟨b, 0, none⟩ = some (.int .i64 idle) := hk.cell 0
  have c1 : w.cell? ⟨b, 1, none⟩ = some (.int .i64 port) := hk.cell 1
  have c2 : w.cell? ⟨b, 2, none⟩ = some (.int .i64 value) := hk.cell 2
  have c3 : w.cell? ⟨b, 3, none⟩ = some (.int .i64 mode) := hk.cell 3
  have f2 := hk.free 2
  have HK := Lib.hid hk
  clear hk
  have hm : mode = 0 ∨ mode = 1 ∨ mode = 2 := by omega
  rcases hm with rfl | rfl | rfl
  · by_cases hv : 0 < value + idle
    · have s1 : IntKind.i64.wrap (value + idle) = value + idle := IntWalk.i64_in _ (by omega)
      go_enter Try.func29, Try.ntmps29
      go_wp2
      go_region
      all_goals
        go_wp2
        go_end0
        refine ⟨rfl, ?_, Fr.drew (Fr.set (Fr.set (Fr.refl (· = b) w) (.inl rfl) _) (.inl rfl) _)⟩
        have e : tickV ⟨idle, port, value, last, 0⟩ = 0 := by unfold tickV; rw [if_pos rfl]; exact Int.min_eq_right (by show 0 ≤ value + idle; omega)
        rw [e]
        exact (HK.out.set 2 _).set 2 _
    · have s1 : IntKind.i64.wrap (value + idle) = value + idle := IntWalk.i64_in _ (by omega)
      go_enter Try.func29, Try.ntmps29
      go_wp2
      go_region
      all_goals
        go_wp2
        go_end0
        refine ⟨rfl, ?_, Fr.drew (Fr.set (Fr.refl (· = b) w) (.inl rfl) _)⟩
        have e : tickV ⟨idle, port, value, last, 0⟩ = value + idle := by unfold tickV; rw [if_pos rfl]; exact Int.min_eq_left (by show value + idle ≤ 0; omega)
        rw [e]
        exact HK.out.set 2 _
  · have s1 : IntKind.i64.wrap (value + idle) = value + idle := IntWalk.i64_in _ (by omega)
    go_enter Try.func29, Try.ntmps29
    go_wp2
    go_region
    all_goals
      go_wp2
      go_end0
      refine ⟨rfl, ?_, Fr.drew (Fr.set (Fr.refl (· = b) w) (.inl rfl) _)⟩
      have e : tickV ⟨idle, port, value, last, 1⟩ = value + idle := rfl
      rw [e]
      exact HK.out.set 2 _
  · have s1 : IntKind.i64.wrap (port - idle) = port - idle := IntWalk.i64_in _ (by omega)
    have s2 : IntKind.i64.wrap (value - (port - idle)) = value - (port - idle) := IntWalk.i64_in _ (by omega)
    go_enter Try.func29, Try.ntmps29
    go_wp2
    go_region
    all_goals
      go_wp2
      go_end0
      refine ⟨rfl, ?_, Fr.drew (Fr.set (Fr.refl (· = b) w) (.inl rfl) _)⟩
      have e : tickV ⟨idle, port, value, last, 2⟩ = value - (port - idle) := rfl
      rw [e]
      exact HK.out.set 2 _

def setS (S : Sh) (m : Int) : Sh := { S with mode := m, value := if m = 0 then min S.value 0 else S.value }
theorem set_calls (S : Sh) (m : Int) (b : Nat) (w : World) (hk : Blk w b S.refCells 49) :
    Calls Try.prog 33 #[.pointer (some ⟨b, 0, none⟩), .int .i64 m] w fun e w' => e = .returned (.tuple #[]) ∧ Blk w' b (setS S m).refCells 49 ∧ Fr (· = b) w w' := by
  obtain ⟨idle, port, value, last, mode⟩ := S
  have c2 : w.cell? ⟨b, 2, none⟩ = some (.int .i64 value) := hk.cell 2
  have c3 : w.cell? ⟨b, 3, none⟩ = some (.int .i64 mode) := hk.cell 3
  have f2 := hk.free 2
  have f3 := hk.free 3
  have HK := Lib.hid hk
  clear hk
  by_cases h0 : m = 0
  · subst h0
    by_cases hv : 0 < value
    · go_enter Try.func33, Try.ntmps33
      go_wp2
      go_end0
      refine ⟨rfl, ?_, Fr.set (Fr.set (Fr.refl (· = b) w) (.inl rfl) _) (.inl rfl) _⟩
      unfold setS
      rw [if_pos rfl, Int.min_eq_right (by show 0 ≤ value; omega)]
      exact (HK.out.set 3 _).set 2 _
    · go_enter Try.func33, Try.ntmps33
      go_wp2
      go_end0
      refine ⟨rfl, ?_, Fr.set (Fr.refl (· = b) w) (.inl rfl) _⟩
      unfold setS
      rw [if_pos rfl, Int.min_eq_left (by show value ≤ 0; omega)]
      exact HK.out.set 3 _
  · have h00 : (m == 0) = false := by simpa using h0
    go_enter Try.func33, Try.ntmps33
    go_wp2
    go_end0
    refine ⟨rfl, ?_, Fr.set (Fr.refl (· = b) w) (.inl rfl) _⟩
    unfold setS
    rw [if_neg h0]
    exact HK.out.set 3 _
end Go.Proofs.Ytjnbjcieepooaaa
