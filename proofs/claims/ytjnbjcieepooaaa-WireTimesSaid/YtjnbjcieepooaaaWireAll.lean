/- The law 'WireAll' of package wire: frames one behind the other take as long as all of them; walked over the contracts of the package's functions: it answers true at every list. -/
import Derived.Test.YtjnbjcieepooaaaWireLaws
import Derived.Deep.LoopGhost
namespace Go.Proofs.Ytjnbjcieepooaaa
open Go.RowKit

def sumT (s : Int) : List Int → Int
  | [] => 0
  | z :: zs => (timeF z s).1 + sumT s zs
def okT (s : Int) (zs : List Int) : Bool := zs.all fun z => (timeF z s).2 == 0

theorem time_cases (a s : Int) : (timeF a s).2 = 0 ∧ 0 ≤ (timeF a s).1 ∧ (timeF a s).1 ≤ 1233600 ∨ timeF a s = (0, 1) := by
  by_cases h : speedB s = true ∧ 0 ≤ a ∧ a ≤ 1522
  · left
    obtain ⟨hs, h0, h1⟩ := h
    rw [time_eq a s hs h0 h1]
    refine ⟨rfl, ?_⟩
    rcases (speedB_iff s).1 hs with rfl | rfl | rfl | rfl <;> simp only <;> omega
  · exact .inr (time_no a s h)

theorem sumT_snoc (s : Int) (zs : List Int) (z : Int) : sumT s (zs ++ [z]) = sumT s zs + (timeF z s).1 := by
  induction zs with
  | nil => simp [sumT]
  | cons y ys ih => simp only [List.cons_append, sumT, ih]; omega
theorem okT_snoc (s : Int) (zs : List Int) (z : Int) : okT s (zs ++ [z]) = (okT s zs && ((timeF z s).2 == 0)) := by simp [okT]
theorem sumT_bd (s : Int) (zs : List Int) : 0 ≤ sumT s zs ∧ sumT s zs ≤ 1233600 * zs.length := by
  induction zs with
  | nil => simp [sumT]
  | cons y ys ih =>
    simp only [sumT, List.length_cons]
    rcases time_cases y s with ⟨_, h1, h2⟩ | h
    · omega
    · rw [h]; simp only; omega

/-- A slice of whole numbers that is read. -/
def Reads (w : World) (a : Option Addr) (len : Nat) (zs : List Int) : Prop :=
  zs.length = len ∧ (0 < len → ∃ b off, a = some ⟨b, off, none⟩ ∧ ∀ i, i < len → w.cell? ⟨b, off + i, none⟩ = some (.int .i64 (zs.getD i 0)))

theorem take_at (zs : List Int) (k : Nat) (h : k < zs.length) : zs.take (k + 1) = zs.take k ++ [zs.getD k 0] := by
  rw [List.take_succ_eq_append_getElem h]; simp [h]

set_option maxHeartbeats 400000 in
theorem all_calls (s : Int) (a : Option Addr) (len cap : Nat) (zs : List Int) (w : World) (hr : Reads w a len zs) (hlen : len ≤ 100) (t e : Int) (hte : (if okT s zs = true then (sumT s zs, 0) else (0, 1)) = (t, e)) :
    Calls Try.prog 36 #[.int .i64 s, .slice a len cap] w fun e' w' => e' = .returned (.tuple #[.int .i64 t, .int .i64 e]) ∧ w = w' := by
  have HR := Lib.hid hr
  have HTE := Lib.hid hte
  clear hr hte
  go_enter Try.func36, Try.ntmps36
  go_wp2
  go_loopg [6, 13] len (fun g s6 s13 wx => ∃ k : Nat, k + g = len ∧ s13 = .int .i64 k ∧ s6 = .int .i64 (sumT s (zs.take k)) ∧ Aside (okT s (zs.take k) = true) ∧ w = wx)
  case atStart => exact ⟨0, by omega, rfl, rfl, rfl, rfl⟩
  case round =>
    obtain ⟨k, hkg, rfl, rfl, HO, rfl⟩ := hrel
    have hzl := HR.out.1
    cases gk with
    | zero =>
      have hkz : ¬ ((k : Int) < (len : Int)) := by omega
      have htk : zs.take k = zs := List.take_of_length_le (by omega)
      have HH := HTE.out
      rw [← htk, if_pos HO.out] at HH
      simp only [Prod.mk.injEq] at HH
      obtain ⟨rfl, rfl⟩ := HH
      clear htk
      go_wp2
      go_ret2
      exact ⟨rfl, rfl⟩
    | succ g =>
      have hkz : (k : Int) < (len : Int) := by omega
      obtain ⟨b, off, rfl, hc⟩ := HR.out.2 (by omega)
      have hcell := hc k (by omega)
      clear hc
      obtain ⟨z, hz⟩ : ∃ z, z = zs.getD k 0 := ⟨_, rfl⟩
      rw [← hz] at hcell
      have HZ := Lib.hid hz
      have HS := Lib.hid (sumT_snoc s (zs.take k) z)
      have HK := Lib.hid (okT_snoc s (zs.take k) z)
      have hb := sumT_bd s (zs.take k)
      have hl2 : (zs.take k).length ≤ 100 := by simp; omega
      have HTK := Lib.hid (take_at zs k (by omega))
      clear hz
      rcases time_cases z s with ⟨h1, h2, h3⟩ | h1
      · have HT : Hid (timeF z s = ((timeF z s).1, 0)) := by show timeF z s = _; rw [← h1]
        have H1 := Lib.hid h1
        clear h1
        go_wp2_with (go_at_call 19; (with_reducible refine (time_calls _ _ _ _ HT.out _).mono ?_); rintro e w' ⟨rfl, rfl⟩)
        go_roundg g
        case measure => omega
        case rel => exact ⟨k + 1, by omega, by go_num, by rw [HTK.out, ← HZ.out, HS.out], by show okT s _ = true; rw [HTK.out, ← HZ.out, HK.out, HO.out, H1.out]; rfl, rfl⟩
      · have HT := Lib.hid h1
        have hno : okT s zs = false := by
          rw [Bool.eq_false_iff]
          intro h
          have hm := List.all_eq_true.1 h (zs.getD k 0) (by simp [show k < zs.length by omega])
          rw [← HZ.out, h1] at hm
          simp at hm
        have HH := HTE.out
        rw [if_neg (by rw [hno]; simp)] at HH
        simp only [Prod.mk.injEq] at HH
        obtain ⟨rfl, rfl⟩ := HH
        clear h1 hno
        go_wp2_with (go_at_call 19; (with_reducible refine (time_calls _ _ _ _ HT.out _).mono ?_); rintro e w' ⟨rfl, rfl⟩)
        go_ret2
        exact ⟨rfl, rfl⟩

def codeT (s : Int) (zs : List Int) : Int := if okT s zs = true then 0 else 1
theorem codeT_snoc (s : Int) (zs : List Int) (z : Int) : codeT s (zs ++ [z]) = if codeT s zs = 0 then (timeF z s).2 else codeT s zs := by
  unfold codeT
  rw [okT_snoc]
  cases h : okT s zs with
  | false => simp
  | true =>
    rcases time_cases z s with ⟨h1, _⟩ | h1
    · simp [h1]
    · simp [h1]
theorem codeT_bd (s : Int) (zs : List Int) : codeT s zs = 0 ∨ codeT s zs = 1 := by unfold codeT; split <;> simp

theorem time_mono (a b s : Int) (h0 : 0 ≤ a) (hab : a ≤ b) (hb : (timeF b s).2 = 0) : (timeF a s).1 ≤ (timeF b s).1 := by
  by_cases h : speedB s = true ∧ 0 ≤ b ∧ b ≤ 1522
  · obtain ⟨hs, h1, h2⟩ := h
    rw [time_eq b s hs h1 h2, time_eq a s hs h0 (by omega)]
    rcases (speedB_iff s).1 hs with rfl | rfl | rfl | rfl <;> simp only <;> omega
  · rw [time_no b s h] at hb; simp at hb

set_option maxHeartbeats 2000000 in
/-- 'WireAll' answers true. -/
theorem wireAll_walk (s : Int) (a : Option Addr) (len cap : Nat) (zs : List Int) (w : World) (hr : Reads w a len zs) (hmax : len ≤ 9223372036854775807) :
    Calls Try.prog 14 #[.int .i64 s, .slice a len cap] w fun e' w' => e' = .returned (.bool true) ∧ w = w' := by
  have HR := Lib.hid hr
  clear hr
  by_cases hlen : len ≤ 100
  · obtain ⟨t, e, hte⟩ : ∃ t e, (if okT s zs = true then (sumT s zs, (0 : Int)) else (0, 1)) = (t, e) := ⟨_, _, rfl⟩
    have HTE := Lib.hid hte
    clear hte
    go_enter Try.func14, Try.ntmps14
    go_wp2_with (first
      | (go_at_call 21; (with_reducible refine (takes_calls _).mono ?_); rintro e w' ⟨rfl, rfl⟩)
      | (go_at_call 36; (with_reducible refine (all_calls _ _ _ _ _ _ HR.out hlen _ _ HTE.out).mono ?_); rintro e w' ⟨rfl, rfl⟩))
    go_loopg [7, 8, 28] len (fun g s7 s8 s28 wx => ∃ k : Nat, k + g = len ∧ s28 = .int .i64 k ∧ s7 = .int .i64 (sumT s (zs.take k)) ∧ s8 = .int .i64 (codeT s (zs.take k)) ∧ w = wx)
    case atStart => exact ⟨0, by omega, rfl, rfl, rfl, rfl⟩
    case round =>
      obtain ⟨k, hkg, rfl, rfl, rfl, rfl⟩ := hrel
      have hzl := HR.out.1
      cases gk with
      | zero =>
        have hkz : ¬ ((k : Int) < (len : Int)) := by omega
        have htk : zs.take k = zs := List.take_of_length_le (by omega)
        rw [htk]
        clear htk
        cases hok : okT s zs with
        | true =>
          have HH := HTE.out
          rw [if_pos hok] at HH
          simp only [Prod.mk.injEq] at HH
          obtain ⟨rfl, rfl⟩ := HH
          have hc : codeT s zs = 0 := by unfold codeT; rw [if_pos hok]
          rw [hc]
          clear hc hok
          go_wp2
          go_ret
          exact ⟨by simp, rfl⟩
        | false =>
          have HH := HTE.out
          rw [if_neg (by rw [hok]; simp)] at HH
          simp only [Prod.mk.injEq] at HH
          obtain ⟨rfl, rfl⟩ := HH
          have hc : codeT s zs = 1 := by unfold codeT; rw [if_neg (by rw [hok]; simp)]
          rw [hc]
          clear hc hok
          go_wp2
          go_ret
          exact ⟨by simp, rfl⟩
      | succ g =>
        have hkz : (k : Int) < (len : Int) := by omega
        obtain ⟨b, off, rfl, hc⟩ := HR.out.2 (by omega)
        have hcell := hc k (by omega)
        obtain ⟨z, hz⟩ : ∃ z, z = zs.getD k 0 := ⟨_, rfl⟩
        rw [← hz] at hcell
        have HZ := Lib.hid hz
        have HS := Lib.hid (sumT_snoc s (zs.take k) z)
        have HC := Lib.hid (codeT_snoc s (zs.take k) z)
        have HCB := Lib.hid (codeT_bd s (zs.take k))
        have hb := sumT_bd s (zs.take k)
        have hl2 : (zs.take k).length ≤ 100 := by simp; omega
        have HTK := Lib.hid (take_at zs k (by omega))
        clear hz
        obtain ⟨c0, hc0⟩ : ∃ c0, c0 = codeT s (zs.take k) := ⟨_, rfl⟩
        rw [← hc0]
        have H0 := Lib.hid hc0
        clear hc0
        have fin : ∀ tz fz : Int, timeF z s = (tz, fz) → sumT s (zs.take k) + tz = sumT s (zs.take (k + 1)) ∧ ∀ c1, (if c0 = 0 then fz else c0) = c1 → c1 = codeT s (zs.take (k + 1)) := by
          intro tz fz h
          refine ⟨?_, fun c1 h1 => ?_⟩
          · rw [HTK.out, ← HZ.out, HS.out, h]
          · rw [HTK.out, ← HZ.out, HC.out, h, ← H0.out, ← h1]
        have FIN := Lib.hid fin
        clear fin
        rcases time_cases z s with ⟨h1, h2, h3⟩ | h1
        · have HT : Hid (timeF z s = ((timeF z s).1, 0)) := by show timeF z s = _; rw [← h1]
          have HTM : Hid (∀ y, 0 ≤ y → y ≤ z → (timeF y s).1 ≤ (timeF z s).1) := fun y hy hyz => time_mono y z s hy hyz h1
          clear h1
          have HCC : c0 = 0 ∨ c0 = 1 := by rw [H0.out]; exact HCB.out
          by_cases hk0 : (0 : Int) < (k : Int)
          · have hcp := hc (k - 1) (by omega)
            obtain ⟨y, hy⟩ : ∃ y, y = zs.getD (k - 1) 0 := ⟨_, rfl⟩
            rw [← hy] at hcp
            clear hy hc
            obtain ⟨ty, fy, hty⟩ : ∃ ty fy, timeF y s = (ty, fy) := ⟨_, _, rfl⟩
            have HTY := Lib.hid hty
            clear hty
            by_cases hy0 : 0 ≤ y
            · by_cases hyz : y ≤ z
              · have hle : ty ≤ (timeF z s).1 := by have := HTM.out y hy0 hyz; rw [HTY.out] at this; exact this
                rcases HCC with rfl | rfl
                all_goals
                  go_wp2_with (go_at_call 19; first | ((with_reducible refine (time_calls _ _ _ _ HT.out _).mono ?_); rintro e w' ⟨rfl, rfl⟩) | ((with_reducible refine (time_calls _ _ _ _ HTY.out _).mono ?_); rintro e w' ⟨rfl, rfl⟩))
                  go_roundg g
                  case measure => omega
                  case rel => exact ⟨k + 1, by omega, by go_num, congrArg _ (FIN.out _ _ HT.out).1, congrArg _ ((FIN.out _ _ HT.out).2 _ (by simp)), rfl⟩
              · rcases HCC with rfl | rfl
                all_goals
                  go_wp2_with (go_at_call 19; first | ((with_reducible refine (time_calls _ _ _ _ HT.out _).mono ?_); rintro e w' ⟨rfl, rfl⟩) | ((with_reducible refine (time_calls _ _ _ _ HTY.out _).mono ?_); rintro e w' ⟨rfl, rfl⟩))
                  go_roundg g
                  case measure => omega
                  case rel => exact ⟨k + 1, by omega, by go_num, congrArg _ (FIN.out _ _ HT.out).1, congrArg _ ((FIN.out _ _ HT.out).2 _ (by simp)), rfl⟩
            · rcases HCC with rfl | rfl
              all_goals
                go_wp2_with (go_at_call 19; first | ((with_reducible refine (time_calls _ _ _ _ HT.out _).mono ?_); rintro e w' ⟨rfl, rfl⟩) | ((with_reducible refine (time_calls _ _ _ _ HTY.out _).mono ?_); rintro e w' ⟨rfl, rfl⟩))
                go_roundg g
                case measure => omega
                case rel => exact ⟨k + 1, by omega, by go_num, congrArg _ (FIN.out _ _ HT.out).1, congrArg _ ((FIN.out _ _ HT.out).2 _ (by simp)), rfl⟩
          · clear hc
            rcases HCC with rfl | rfl
            all_goals
              go_wp2_with (go_at_call 19; (with_reducible refine (time_calls _ _ _ _ HT.out _).mono ?_); rintro e w' ⟨rfl, rfl⟩)
              go_roundg g
              case measure => omega
              case rel => exact ⟨k + 1, by omega, by go_num, congrArg _ (FIN.out _ _ HT.out).1, congrArg _ ((FIN.out _ _ HT.out).2 _ (by simp)), rfl⟩
        · have HT := Lib.hid h1
          clear h1
          have HCC : c0 = 0 ∨ c0 = 1 := by rw [H0.out]; exact HCB.out
          by_cases hk0 : (0 : Int) < (k : Int)
          all_goals
            clear hc
            rcases HCC with rfl | rfl
            all_goals
              go_wp2_with (go_at_call 19; (with_reducible refine (time_calls _ _ _ _ HT.out _).mono ?_); rintro e w' ⟨rfl, rfl⟩)
              go_roundg g
              case measure => omega
              case rel => exact ⟨k + 1, by omega, by go_num, congrArg _ ((Int.add_zero _).symm.trans (FIN.out _ _ HT.out).1), congrArg _ ((FIN.out _ _ HT.out).2 _ (by simp)), rfl⟩
  · go_enter Try.func14, Try.ntmps14
    go_wp2_with (go_at_call 21; (with_reducible refine (takes_calls _).mono ?_); rintro e w' ⟨rfl, rfl⟩)
    go_ret
    exact ⟨rfl, rfl⟩
end Go.Proofs.Ytjnbjcieepooaaa
