/- The law 'RoleDown' answers true. -/
import Derived.Test.YtjnbjcieepooaabRDPlain
namespace Go.Proofs.Ytjnbjcieepooaab
open Go.RowKit
set_option linter.unusedVariables false
set_option linter.unusedSimpArgs false

theorem below_empty {w w' : World} {B : Nat} {o : Obj} {n c : Nat} (hB : B ≤ w.heap.size) (h : Fr (InRow (.slice (some ⟨w.heap.size, 0, none⟩) n c)) (w.alloc o) w') : Below B w w' :=
  Below.fr ((Below.refl B w).alloc hB o) h (by simp; omega) fun i hi hr => by simp [InRow, Value.ownBlock] at hr; omega

set_option maxRecDepth 8000 in
set_option maxHeartbeats 6000000 in
theorem roleDown.roleDown_walk (w : World) (g : Int) (wg : (Lit.int .u64 g).wf = true) (a : Option Addr) (n cap : Nat) (F : FlatS Try.prog w 61 a n) (x : Int) (wx : (Lit.int .i64 x).wf = true) :
    Calls Try.prog 12 #[.int .u64 g, .slice a n cap, .int .i64 x] w fun e w' => e = .returned (.bool true) ∧ Below w.heap.size w w' := by
  obtain ⟨ps, hok, hp⟩ := ports_of F
  have htop := F.top
  have hxb := wf_bd64 wx
  clear F
  by_cases h0 : n = 0
  · subst h0
    clear hp
    go_enter Try.func12, Try.ntmps12
    go_wp2_with (go_at_call 25; (with_reducible refine (selects_calls _).mono ?_); rintro e w' ⟨rfl, hb1⟩)
    go_ret
    exact ⟨rfl, by assumption⟩
  have h0b : ((n : Int) == 0) = false := by simpa using h0
  by_cases hbig : 60 < n
  · clear hp
    go_enter Try.func12, Try.ntmps12
    go_wp2_with (go_at_call 25; (with_reducible refine (selects_calls _).mono ?_); rintro e w' ⟨rfl, hb1⟩)
    go_ret
    exact ⟨rfl, by assumption⟩
  by_cases hneg : x < 0
  · clear hp
    go_enter Try.func12, Try.ntmps12
    go_wp2_with (go_at_call 25; (with_reducible refine (selects_calls _).mono ?_); rintro e w' ⟨rfl, hb1⟩)
    go_ret
    exact ⟨rfl, by assumption⟩
  obtain ⟨b, off, rfl, hP⟩ := hp (by omega)
  obtain ⟨m, hm⟩ : ∃ m : Nat, x % (n : Int) = (m : Int) := ⟨(x % (n : Int)).toNat, by have := Int.emod_nonneg x (show (n : Int) ≠ 0 by omega); omega⟩
  have hmn : m < n := by have := Int.emod_lt_of_pos x (show (0 : Int) < (n : Int) by omega); omega
  have hmi : (m : Int) < (n : Int) := by omega
  obtain ⟨S, hS⟩ : ∃ S, wayN g (downA ps m) n = S := ⟨_, rfl⟩
  have HS := Lib.hid hS
  have HS' := Lib.hid ((down_way g ps m n).trans hS)
  obtain ⟨okA, okB⟩ := down_ok hok m
  clear hS
  have hpos : 1 ≤ (n : Int) := by omega
  go_enter Try.func12, Try.ntmps12
  go_upto_region 6 with (go_at_call 25; (with_reducible refine (selects_calls _).mono ?_); rintro e w1 ⟨rfl, hb1⟩)
  have hP1 := hP.below (hb1.alloc hb1.size (.cells #[] 61))
  have hown0 := own_empty w1 w1.heap.size (Nat.le_refl _) 61 8
  go_upto_region 7 with (refine wpList_append_many rfl _ _ 50 rfl w1.heap.size 61 _ 8 56 Try.underlying50 info61 rfl (by decide) (.slice (some ⟨w1.heap.size, 0, none⟩) 0 0) 0 [] rfl hown0 b off n cap (portsL ps n) rfl (portsL_len _ _) hP1.news (portsL_one _ _) (by unfold maxLen; omega) (by omega) (by simp) ?_; intro v7 w2 hown hfr)
  rw [Nat.zero_add, List.nil_append] at hown
  have hbe := below_empty (Nat.le_refl _) hfr
  have hb2 := hb1.trans (hbe.mono hb1.size)
  obtain ⟨ga, ca, rfl, hga, _⟩ := own_at hown (by omega)
  have hR := RowsB.of_own (fun i => (rfl : ((ps i).cells).size = 8)) hown
  clear hP1 hown0 hfr hown
  obtain ⟨y2, y3, _, _, _, _, fy⟩ := hR.row8 hmn
  go_upto_region 8 with fail
  have hRA := downA_rows hR hmn
  have hbA := (hb2.setCell (p := ⟨ga, m * 8 + 2, none⟩) (by have := hb1.size; show _ ≤ ga; omega) (.bool false)).setCell (p := ⟨ga, m * 8 + 3, none⟩) (by have := hb1.size; show _ ≤ ga; omega) (.bool false)
  revert hRA hbA
  generalize World.setCell (World.setCell _ _ _) _ _ = w3
  intro hRA hbA
  clear hR hb2 hbe y2 y3 fy hb1 hga
  have hP3 := (PortsAt.of_rows hRA).below ((Below.refl _ _).alloc (Nat.le_refl _) (.cells #[] 61))
  have hown0 := own_empty w3 w3.heap.size (Nat.le_refl _) 61 8
  go_upto_region 9 with (refine wpList_append_many rfl _ _ 50 rfl w3.heap.size 61 _ 8 56 Try.underlying50 info61 rfl (by decide) (.slice (some ⟨w3.heap.size, 0, none⟩) 0 0) 0 [] rfl hown0 ga 0 n ca (portsL (downA ps m) n) rfl (portsL_len _ _) hP3.news (portsL_one _ _) (by unfold maxLen; omega) (by omega) (by simp) ?_; intro v8 w4 hown hfr)
  rw [Nat.zero_add, List.nil_append] at hown
  have hbe := below_empty (Nat.le_refl _) hfr
  have hb4 := hbA.trans (hbe.mono hbA.size)
  have hRA4 := hRA.below hbe
  obtain ⟨gb, cb, rfl, hgb, _⟩ := own_at hown (by omega)
  have hR := RowsB.of_own (fun i => (rfl : ((downA ps m i).cells).size = 8)) hown
  have hne : ga ≠ gb := by have := hRA.lt; omega
  have hwb : w.heap.size ≤ gb := by have := hbA.size; omega
  clear hP3 hown0 hfr hown hbe hgb
  obtain ⟨_, y3, y4, y5, y6, y7, fy⟩ := hR.row8 hmn
  go_upto_region 10 with fail
  have hRB := downB_rows hR hmn
  have hRA5 := ((((hRA4.set_other (a := ⟨gb, m * 8 + 3, none⟩) hne (.bool true)).set_other (a := ⟨gb, m * 8 + 4, none⟩) hne (.int .u64 0)).set_other (a := ⟨gb, m * 8 + 5, none⟩) hne (.int .u64 0)).set_other (a := ⟨gb, m * 8 + 6, none⟩) hne (.int .u64 0)).set_other (a := ⟨gb, m * 8 + 7, none⟩) hne (.int .i64 0)
  have hb5 := ((((hb4.setCell (p := ⟨gb, m * 8 + 3, none⟩) hwb (.bool true)).setCell (p := ⟨gb, m * 8 + 4, none⟩) hwb (.int .u64 0)).setCell (p := ⟨gb, m * 8 + 5, none⟩) hwb (.int .u64 0)).setCell (p := ⟨gb, m * 8 + 6, none⟩) hwb (.int .u64 0)).setCell (p := ⟨gb, m * 8 + 7, none⟩) hwb (.int .i64 0)
  revert hRB hRA5 hb5
  generalize World.setCell (World.setCell (World.setCell _ _ _) _ _) _ _ = w5
  intro hRB hRA5 hb5
  clear hR hRA4 hRA hb4 y3 y4 y5 y6 y7 fy hbA
  have hPA := PortsAt.of_rows hRA5
  have hPB := PortsAt.of_rows hRB
  go_upto_region 11 with (first
    | (go_at_call_of 26 (Value.slice (some ⟨ga, 0, none⟩) n ca); (with_reducible refine (select_calls g (downA ps m) _ n ca (by omega) okA _ (fun _ => ⟨ga, 0, rfl, hPA⟩) S HS.out).mono ?_); rintro e w6 ⟨br, bt, cr, ct, rfl, ho, g1, g2, hb6⟩)
    | (go_at_call_of 26 (Value.slice (some ⟨gb, 0, none⟩) n cb); (with_reducible refine (select_calls g (downB ps m) _ n cb (by omega) okB _ (fun _ => ⟨gb, 0, rfl, hPB.below hb6⟩) S HS'.out).mono ?_); rintro e w7 ⟨br', bt', cr', ct', rfl, ho', g1', g2', hb7⟩))
  have ho7 := ho.fr (Fr.of_below (m := fun _ => False) hb7) (fun h => h) (fun h => h)
  have K := ((Keep.start w7).add #[.int .u64 S.v.root, .int .u64 S.v.cost, .int .u64 S.v.bridge, .int .i64 S.v.port, .int .i64 S.p, .slice (some ⟨br, 0, none⟩) n n, .slice (some ⟨bt, 0, none⟩) n n] 53).add #[.int .u64 S.v.root, .int .u64 S.v.cost, .int .u64 S.v.bridge, .int .i64 S.v.port, .int .i64 S.p, .slice (some ⟨br', 0, none⟩) n n, .slice (some ⟨bt', 0, none⟩) n n] 53
  have hb8 := hb5.trans ((hb6.trans (hb7.mono hb6.size)).mono hb5.size)
  have hb9 := hb8.trans (K.below.mono hb8.size)
  have hsame : Sames ((w7.alloc (.cells #[.int .u64 S.v.root, .int .u64 S.v.cost, .int .u64 S.v.bridge, .int .i64 S.v.port, .int .i64 S.p, .slice (some ⟨br, 0, none⟩) n n, .slice (some ⟨bt, 0, none⟩) n n] 53)).alloc (.cells #[.int .u64 S.v.root, .int .u64 S.v.cost, .int .u64 S.v.bridge, .int .i64 S.v.port, .int .i64 S.p, .slice (some ⟨br', 0, none⟩) n n, .slice (some ⟨bt', 0, none⟩) n n] 53)) g (downA ps m) S n br bt br' bt' := by
    have h1 := ho7.fr (Fr.of_below (m := fun _ => False) K.below) (fun h => h) (fun h => h)
    have h2 := ho'.fr (Fr.of_below (m := fun _ => False) K.below) (fun h => h) (fun h => h)
    exact ⟨h1.r.lt, h1.t.lt, h2.r.lt, h2.t.lt, fun i hi => by rw [h1.r.cell]; exact h1.rv i hi, fun i hi => by rw [h2.r.cell, h2.rv i hi, down_role], fun i o hi ho => h1.tells i o hi ho, fun i o hi ho => by rw [h2.tells i o hi ho, down_tell]⟩
  simp only [size_alloc'] at K
  clear ho7 ho ho' hb6 hb7 hPA hPB hb5 hb8 g1 g2 g1' g2' hRA5 hRB
  change Code.wp _ _ _ _ ((w7.alloc (.cells #[.int .u64 S.v.root, .int .u64 S.v.cost, .int .u64 S.v.bridge, .int .i64 S.v.port, .int .i64 S.p, .slice (some ⟨br, 0, none⟩) n n, .slice (some ⟨bt, 0, none⟩) n n] 53)).alloc (.cells #[.int .u64 S.v.root, .int .u64 S.v.cost, .int .u64 S.v.bridge, .int .i64 S.v.port, .int .i64 S.p, .slice (some ⟨br', 0, none⟩) n n, .slice (some ⟨bt', 0, none⟩) n n] 53))
  generalize (w7.alloc (.cells #[.int .u64 S.v.root, .int .u64 S.v.cost, .int .u64 S.v.bridge, .int .i64 S.v.port, .int .i64 S.p, .slice (some ⟨br, 0, none⟩) n n, .slice (some ⟨bt, 0, none⟩) n n] 53)).alloc (.cells #[.int .u64 S.v.root, .int .u64 S.v.cost, .int .u64 S.v.bridge, .int .i64 S.v.port, .int .i64 S.p, .slice (some ⟨br', 0, none⟩) n n, .slice (some ⟨bt', 0, none⟩) n n] 53) = w8 at K hsame hb9 ⊢
  generalize w7.heap.size = b9 at K ⊢
  have hst : Hid (∀ w', Below w8.heap.size w8 w' → (∀ o, w'.cell? ⟨b9, o, none⟩ = #[.int .u64 S.v.root, .int .u64 S.v.cost, .int .u64 S.v.bridge, .int .i64 S.v.port, .int .i64 S.p, .slice (some ⟨br, 0, none⟩) n n, .slice (some ⟨bt, 0, none⟩) n n][o]?) ∧ ∀ o, w'.cell? ⟨b9 + 1, o, none⟩ = #[.int .u64 S.v.root, .int .u64 S.v.cost, .int .u64 S.v.bridge, .int .i64 S.v.port, .int .i64 S.p, .slice (some ⟨br', 0, none⟩) n n, .slice (some ⟨bt', 0, none⟩) n n][o]?) := fun w' hb => ⟨(((K.step hb).nth 1 rfl).cell), (((K.step hb).nth 0 rfl).cell)⟩
  have HSA := Lib.hid hsame
  have rz := hsame.r m hmn
  rw [down_zero] at rz
  obtain ⟨q9, q10⟩ := hst.out _ (Below.refl _ _)
  clear K hsame
  go_wp2
  clear q9 q10 rz
  go_loopg [91] n (fun gh s91 wx => ∃ k : Nat, k + gh = n ∧ s91 = .int .i64 (k : Int) ∧ Below w8.heap.size w8 wx)
  case atStart => exact ⟨0, by omega, rfl, Below.refl _ _⟩
  case round =>
    obtain ⟨k, hkg, rfl, hbx⟩ := hrel
    cases gk with
    | zero =>
      have hkM : ¬ ((k : Int) < (n : Int)) := by omega
      have q := hst.out _ hbx
      go_wp2
      go_ret
      exact ⟨rfl, hb9.trans (hbx.mono hb9.size)⟩
    | succ gh =>
      have hkM : (k : Int) < (n : Int) := by omega
      have hs' := HSA.out.below hbx
      obtain ⟨q9, q10⟩ := hst.out _ hbx
      have r1 := hs'.r k (by omega)
      have r2 := hs'.r' k (by omega)
      obtain ⟨T, hT⟩ : ∃ T, tellF g (downA ps m) S k = T := ⟨_, rfl⟩
      have HT := Lib.hid hT
      have t0 : wr.cell? ⟨bt, k * 4, none⟩ = some (.int .u64 T.root) := by rw [← HT.out]; exact hs'.t k 0 (by omega) (by omega)
      have t1 : wr.cell? ⟨bt, k * 4 + 1, none⟩ = some (.int .u64 T.cost) := by rw [← HT.out]; exact hs'.t k 1 (by omega) (by omega)
      have t2 : wr.cell? ⟨bt, k * 4 + 2, none⟩ = some (.int .u64 T.bridge) := by rw [← HT.out]; exact hs'.t k 2 (by omega) (by omega)
      have t3 : wr.cell? ⟨bt, k * 4 + 3, none⟩ = some (.int .i64 T.port) := by rw [← HT.out]; exact hs'.t k 3 (by omega) (by omega)
      have u0 : wr.cell? ⟨bt', k * 4, none⟩ = some (.int .u64 T.root) := by rw [← HT.out]; exact hs'.t' k 0 (by omega) (by omega)
      have u1 : wr.cell? ⟨bt', k * 4 + 1, none⟩ = some (.int .u64 T.cost) := by rw [← HT.out]; exact hs'.t' k 1 (by omega) (by omega)
      have u2 : wr.cell? ⟨bt', k * 4 + 2, none⟩ = some (.int .u64 T.bridge) := by rw [← HT.out]; exact hs'.t' k 2 (by omega) (by omega)
      have u3 : wr.cell? ⟨bt', k * 4 + 3, none⟩ = some (.int .i64 T.port) := by rw [← HT.out]; exact hs'.t' k 3 (by omega) (by omega)
      clear hs' hT
      go_wp2
      go_quiet (fail)
      go_wp2
      go_roundg gh
      case measure => omega
      case rel => exact ⟨k + 1, by omega, by go_num, hbx.trans ⟨rfl, rfl, rfl, Nat.le_refl _, fun _ _ => rfl⟩⟩
end Go.Proofs.Ytjnbjcieepooaab
