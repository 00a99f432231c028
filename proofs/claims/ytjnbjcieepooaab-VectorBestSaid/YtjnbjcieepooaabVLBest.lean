/- The law 'VectorBest'. -/
import Derived.Test.YtjnbjcieepooaabVectorC
import Derived.Test.YtjnbjcieepooaabVectorPlain
namespace Go.Proofs.Ytjnbjcieepooaab
open Go.RowKit
set_option linter.unusedVariables false
set_option linter.unusedSimpArgs false

theorem best_facts (vs : Nat → Vec) (k : Nat) (hk : 0 < k) : ∃ m : Nat, bestN vs k = (m : Int) ∧ m < k ∧ (∀ j, j < k → ¬ Bet (vs j) (vs m)) ∧ (∀ j, j < m → Bet (vs m) (vs j)) := by
  induction k with
  | zero => omega
  | succ k ih =>
    by_cases h0 : k = 0
    · subst h0
      refine ⟨0, rfl, by omega, fun j hj => ?_, fun j hj => absurd hj (by omega)⟩
      obtain rfl : j = 0 := by omega
      exact fun h => h.irrefl
    · obtain ⟨m, hm, h1, h2, h3⟩ := ih (by omega)
      have e : bestN vs (k + 1) = if bestN vs k < 0 ∨ betB (vs k) (vs (bestN vs k).toNat) = true then (k : Int) else bestN vs k := rfl
      rw [hm, show ((m : Int)).toNat = m by omega] at e
      by_cases hb : betB (vs k) (vs m) = true
      · have hB := (betB_iff _ _).1 hb
        refine ⟨k, by rw [e, if_pos (.inr hb)], by omega, fun j hj h => ?_, fun j hj => ?_⟩
        · by_cases hjk : j = k
          · subst hjk; exact h.irrefl
          · exact h2 j (by omega) (h.trans hB)
        · rcases bet_total (vs m) (vs j) with h | h | h
          · exact hB.trans h
          · exact (h2 j (by omega) h).elim
          · rw [← h]; exact hB
      · refine ⟨m, by rw [e, if_neg (by intro h; rcases h with h | h; omega; exact hb h)], by omega, fun j hj h => ?_, h3⟩
        by_cases hjk : j = k
        · subst hjk; exact hb ((betB_iff _ _).2 h)
        · exact h2 j (by omega) h

theorem eq_parts {a b : Vec} (h : Bet a b) : (¬ b.root = a.root) ∨ (b.root = a.root ∧ ¬ b.cost = a.cost) ∨ (b.root = a.root ∧ b.cost = a.cost ∧ ¬ b.bridge = a.bridge) ∨ (b.root = a.root ∧ b.cost = a.cost ∧ b.bridge = a.bridge ∧ ¬ b.port = a.port) := by
  unfold Bet at h; omega

set_option maxHeartbeats 4000000 in
/-- 'VectorBest' answers true. -/
theorem vectorBest_any (w : World) (a : Option Addr) (len cap : Nat) (vs : Nat → Vec) (hlen : len ≤ 9223372036854775807) (hv : 0 < len → ∃ b off, a = some ⟨b, off, none⟩ ∧ Vecs w b off len vs) :
    Calls Try.prog 5 #[.slice a len cap] w fun e w' => e = .returned (.bool true) ∧ Below w.heap.size w w' := by
  by_cases hbig : 200 < len
  · clear hv
    go_enter Try.func5, Try.ntmps5
    go_wp2_with (go_at_call 15; (with_reducible refine (orders_calls _).mono ?_); rintro e w' ⟨rfl, hb1⟩)
    go_ret
    exact ⟨rfl, by assumption⟩
  by_cases h0 : len = 0
  · subst h0
    have HX : Hid (bestN vs 0 = -1) := rfl
    have HV := Lib.hid hv
    clear hv
    go_enter Try.func5, Try.ntmps5
    go_wp2_with (first
      | (go_at_call 15; (with_reducible refine (orders_calls _).mono ?_); rintro e w' ⟨rfl, hb1⟩)
      | (go_at_call 19; (with_reducible refine (best_calls a 0 cap vs _ (by omega) (fun h => absurd h (by omega)) _ HX.out).mono ?_); rintro e w' ⟨rfl, hb2⟩))
    go_ret
    exact ⟨rfl, hb1.trans (hb2.mono hb1.size)⟩
  have hpos : 0 < len := by omega
  obtain ⟨b, off, rfl, hvs⟩ := hv hpos
  obtain ⟨m, hm, hml, hno, hbet⟩ := best_facts vs len hpos
  have HX := Lib.hid hm
  have HVS := Lib.hid hvs
  have HNO := Lib.hid hno
  have HBET := Lib.hid hbet
  clear hv hm hvs hno hbet h0
  have hmi : (m : Int) < (len : Int) := by omega
  have hK := Keep.start w
  go_enter Try.func5, Try.ntmps5
  go_wp2_with (first
    | (go_at_call 15; (with_reducible refine (orders_calls _).mono ?_); rintro e w' ⟨rfl, hb1⟩; have hK' := hK.step hb1; clear hK hb1; rename Keep _ _ _ => hK)
    | (go_at_call 19; (with_reducible refine (best_calls _ len cap vs _ hlen (fun _ => ⟨b, off, rfl, HVS.out.below hK.below HVS.out.lt⟩) _ HX.out).mono ?_); rintro e w' ⟨rfl, hb1⟩; have hK' := hK.step hb1; clear hK hb1; rename Keep _ _ _ => hK))
  go_loopg [28] len (fun g s28 wx => ∃ k : Nat, k + g = len ∧ s28 = .int .i64 (k : Int) ∧ Keep w wx [])
  case atStart => exact ⟨0, by omega, rfl, hK⟩
  case round =>
    clear hK
    obtain ⟨k, hkg, rfl, hK⟩ := hrel
    cases gk with
    | zero =>
      have hkl : ¬ ((k : Int) < (len : Int)) := by omega
      go_wp2
      go_ret
      exact ⟨rfl, hK.below⟩
    | succ g =>
      have hkl : (k : Int) < (len : Int) := by omega
      have hvr := HVS.out.below hK.below HVS.out.lt
      have d0 := hvr.at0 k (by omega)
      have d1 := hvr.at1 k (by omega)
      have d2 := hvr.at2 k (by omega)
      have d3 := hvr.at3 k (by omega)
      have b0 := hvr.at0 m hml
      have b1 := hvr.at1 m hml
      have b2 := hvr.at2 m hml
      have b3 := hvr.at3 m hml
      have hblt := hvr.lt
      have HB : Hid (betB (vs k) (vs m) = false) := (betB_false _ _).2 (HNO.out k (by omega))
      have hpart : k < m → _ := fun h => eq_parts (HBET.out k h)
      obtain ⟨v, hvk⟩ : ∃ v, v = vs k := ⟨_, rfl⟩
      obtain ⟨u, hu⟩ : ∃ u, u = vs m := ⟨_, rfl⟩
      have HVW : Hid (∀ w', Below w.heap.size w w' → (w'.cell? ⟨b, off + k * 4, none⟩ = some (.int .u64 v.root) ∧ w'.cell? ⟨b, off + k * 4 + 1, none⟩ = some (.int .u64 v.cost) ∧ w'.cell? ⟨b, off + k * 4 + 2, none⟩ = some (.int .u64 v.bridge) ∧ w'.cell? ⟨b, off + k * 4 + 3, none⟩ = some (.int .i64 v.port)) ∧
          (w'.cell? ⟨b, off + m * 4, none⟩ = some (.int .u64 u.root) ∧ w'.cell? ⟨b, off + m * 4 + 1, none⟩ = some (.int .u64 u.cost) ∧ w'.cell? ⟨b, off + m * 4 + 2, none⟩ = some (.int .u64 u.bridge) ∧ w'.cell? ⟨b, off + m * 4 + 3, none⟩ = some (.int .i64 u.port))) := fun w' hb' => by
        have h := HVS.out.below hb' HVS.out.lt
        rw [hvk, hu]
        exact ⟨⟨h.at0 k (by omega), h.at1 k (by omega), h.at2 k (by omega), h.at3 k (by omega)⟩, h.at0 m hml, h.at1 m hml, h.at2 m hml, h.at3 m hml⟩
      rw [← hvk] at d0 d1 d2 d3 HB hpart
      rw [← hu] at b0 b1 b2 b3 HB hpart
      clear hvk hu hvr
      obtain ⟨r, c, bb, p⟩ := v
      obtain ⟨ur, uc, ub, up⟩ := u
      simp only at d0 d1 d2 d3 b0 b1 b2 b3 hpart HVW
      have K1 := hK.add #[.int .u64 r, .int .u64 c, .int .u64 bb, .int .i64 p] 24
      have e1 : ∀ (n : KW w [(wr.heap.size, #[.int .u64 r, .int .u64 c, .int .u64 bb, .int .i64 p], 24)]) (o : Nat), n.val.cell? ⟨wr.heap.size, o, none⟩ = #[Value.int .u64 r, .int .u64 c, .int .u64 bb, .int .i64 p][o]? := fun n => (n.keep.nth 0 rfl).cell
      have e2 : ∀ (n : KW w [(wr.heap.size, #[.int .u64 r, .int .u64 c, .int .u64 bb, .int .i64 p], 24)]), n.val.cell? ⟨b, off + m * 4, none⟩ = some (.int .u64 ur) := fun n => (HVW.out _ n.keep.below).2.1
      have e3 : ∀ (n : KW w [(wr.heap.size, #[.int .u64 r, .int .u64 c, .int .u64 bb, .int .i64 p], 24)]), n.val.cell? ⟨b, off + m * 4 + 1, none⟩ = some (.int .u64 uc) := fun n => (HVW.out _ n.keep.below).2.2.1
      have e4 : ∀ (n : KW w [(wr.heap.size, #[.int .u64 r, .int .u64 c, .int .u64 bb, .int .i64 p], 24)]), n.val.cell? ⟨b, off + m * 4 + 2, none⟩ = some (.int .u64 ub) := fun n => (HVW.out _ n.keep.below).2.2.2.1
      have e5 : ∀ (n : KW w [(wr.heap.size, #[.int .u64 r, .int .u64 c, .int .u64 bb, .int .i64 p], 24)]), n.val.cell? ⟨b, off + m * 4 + 3, none⟩ = some (.int .i64 up) := fun n => (HVW.out _ n.keep.below).2.2.2.2
      have hne : Nonempty (KW w [(wr.heap.size, #[.int .u64 r, .int .u64 c, .int .u64 bb, .int .i64 p], 24)]) := ⟨⟨_, K1⟩⟩
      by_cases hkm : k < m
      · have hd : decide ((k : Int) < (m : Int)) = true := decide_eq_true (by omega)
        rcases hpart hkm with h | ⟨rfl, h⟩ | ⟨rfl, rfl, h⟩ | ⟨rfl, rfl, rfl, h⟩
        all_goals
          clear hpart
          go_wp2
          refine wp_region_keep (by kernel_rfl) (by kernel_rfl) K1 ?_
          repeat (go_big_quiet_step ((go_at_call 17; exact KW.call (better_calls _ _ _ HB.out _))))
          refine wpQuiet_nil ?_
          rintro _ ⟨nq, rfl⟩
          go_wp2
          go_roundg g
          case measure => omega
          case rel => exact ⟨k + 1, by omega, by go_num, ⟨fun x hx => by simp at hx, nq.keep.below⟩⟩
      · have hd : decide ((k : Int) < (m : Int)) = false := decide_eq_false (by omega)
        clear hpart
        go_wp2
        refine wp_region_keep (by kernel_rfl) (by kernel_rfl) K1 ?_
        repeat (go_big_quiet_step ((go_at_call 17; exact KW.call (better_calls _ _ _ HB.out _))))
        refine wpQuiet_nil ?_
        rintro _ ⟨nq, rfl⟩
        go_wp2
        go_roundg g
        case measure => omega
        case rel => exact ⟨k + 1, by omega, by go_num, ⟨fun x hx => by simp at hx, nq.keep.below⟩⟩
end Go.Proofs.Ytjnbjcieepooaab
