/- Link and proposed of package tree, by their contracts. -/
import Derived.Test.YtjnbjcieepooaacTW5
namespace Go.Proofs.Ytjnbjcieepooaac
open Go.RowKit
set_option linter.unusedVariables false
set_option linter.unusedSimpArgs false

theorem link_no {T : Tr} {x : Int} {up : Bool} (h : ¬ (0 ≤ x ∧ x < (T.n : Int) ∧ (T.at_ x.toNat).p.up ≠ up)) : linkF x up T = T := if_neg h
theorem link_yes {T : Tr} {i : Nat} {up : Bool} (hi : i < T.n) (h : (T.at_ i).p.up ≠ up) : linkF (i : Int) up T = againF true ((T.upd i (linkP (T.at_ i) up)).fl i) := by
  unfold linkF
  rw [if_pos ⟨by omega, by omega, by rw [Int.toNat_natCast]; exact h⟩, Int.toNat_natCast]
theorem TOk.linked {T : Tr} {k : Nat} (h : TOk T k) (i : Nat) (up : Bool) : TOk ((T.upd i (linkP (T.at_ i) up)).fl i) k :=
  h.step ((shp_upd T i (linkP (T.at_ i) up)).trans (shp_fl _ i) (Nat.le_refl _)) ((kep_upd _ _ _).trans (kep_fl _ _)).rps ((h.ps.upd fun hi => clo_ok.link _ _ (h.ps i hi)).fl i) (by omega)
set_option maxRecDepth 8000 in
set_option maxHeartbeats 4000000 in
theorem link_calls (T : Tr) (B : TB) (x : Int) (up : Bool) (hok : TOk T T.n) (w : World) (hT : TreeW w B T) (U : Tr) (hU : linkF x up T = U) :
    Calls Try.prog 15 #[.pointer (some ⟨B.tb, 0, none⟩), .int .i64 x, .bool up] w (TPost w B T.n U) := by
  have HU := Lib.hid hU
  have HO := Lib.hid hok
  have HT := Lib.hid hT
  have hn := hok.n
  have qt0 := hT.own
  by_cases h0 : x < 0
  · have HE : Hid (T = U) := by rw [← hU]; exact Lib.hid (link_no (by omega)).symm
    clear hU hok hT HU HO hn
    go_enter Try.func15, Try.ntmps15
    go_wp2
    refine bodyPost_ret (results_none rfl _ _ _) rfl ?_
    exact ⟨B, rfl, by rw [← HE.out]; exact HT.out, TStep.refl _ _ _⟩
  by_cases h1 : x < (T.n : Int)
  rotate_left
  · have HE : Hid (T = U) := by rw [← hU]; exact Lib.hid (link_no (by omega)).symm
    clear hU hok hT HU HO hn
    go_enter Try.func15, Try.ntmps15
    go_wp2
    refine bodyPost_ret (results_none rfl _ _ _) rfl ?_
    exact ⟨B, rfl, by rw [← HE.out]; exact HT.out, TStep.refl _ _ _⟩
  obtain ⟨i, rfl⟩ : ∃ i : Nat, x = (i : Int) := ⟨x.toNat, by omega⟩
  have hi : i < T.n := by omega
  have hn0 : 0 < T.n := by omega
  have qt := hT.ownp hn0
  have hrow := hT.row hi
  have N := hT.nes hn0
  have n1 := N.tp; have n2 := N.tf; have n3 := N.pf
  have hfp := hT.rowfree hn0
  have hff := hT.f.free
  have hfi := hT.flush_at hi
  have r2 : w.cell? ⟨B.pb, i * 16 + 2, none⟩ = some (.bool (T.at_ i).p.up) := hrow 2 (by decide)
  have r3 : w.cell? ⟨B.pb, i * 16 + 3, none⟩ = some (.bool (T.at_ i).p.has) := hrow 3 (by decide)
  have r4 : w.cell? ⟨B.pb, i * 16 + 4, none⟩ = some (.int .u64 (T.at_ i).p.told.root) := hrow 4 (by decide)
  have r5 : w.cell? ⟨B.pb, i * 16 + 5, none⟩ = some (.int .u64 (T.at_ i).p.told.cost) := hrow 5 (by decide)
  have r6 : w.cell? ⟨B.pb, i * 16 + 6, none⟩ = some (.int .u64 (T.at_ i).p.told.bridge) := hrow 6 (by decide)
  have r7 : w.cell? ⟨B.pb, i * 16 + 7, none⟩ = some (.int .i64 (T.at_ i).p.told.port) := hrow 7 (by decide)
  clear qt0 h0 N hrow
  by_cases hup : (T.at_ i).p.up = up
  · have HE : Hid (T = U) := by rw [← hU]; exact Lib.hid (link_no (by rw [Int.toNat_natCast]; exact fun h => h.2.2 hup)).symm
    rw [hup] at r2
    clear hU hok hT HU HO hn hup hi hn0
    go_enter Try.func15, Try.ntmps15
    go_wp2
    refine bodyPost_ret (results_none rfl _ _ _) rfl ?_
    exact ⟨B, rfl, by rw [← HE.out]; exact HT.out, TStep.refl _ _ _⟩
  · have hub : ((T.at_ i).p.up == up) = false := by simpa using hup
    have hz := link_yes hi hup
    have h1 := hT.set_port hi [(2, .bool up), (3, .bool false), (4, .int .u64 0), (5, .int .u64 0), (6, .int .u64 0), (7, .int .i64 0)] (linkP (T.at_ i) up) (by simp) rfl
    have h2 := h1.set_flush (i := i) (by rw [upd_n]; exact hi) (by rw [upd_n]; exact hok.fl)
    have hS := ((TStep.refl w B T.n).set_port hn0 (i * 16) [(2, .bool up), (3, .bool false), (4, .int .u64 0), (5, .int .u64 0), (6, .int .u64 0), (7, .int .i64 0)]).set_flush i (.bool true)
    have hV := hok.linked i up
    obtain ⟨V, hVe⟩ : ∃ V, (T.upd i (linkP (T.at_ i) up)).fl i = V := ⟨_, rfl⟩
    have hVn : V.n = T.n := by rw [← hVe]; exact upd_n _ _ _
    rw [hVe] at h2 hV hz
    have HV : Hid (TOk V V.n) := by rw [hVn]; exact Lib.hid hV
    have HVN := Lib.hid hVn
    have H2 : Hid (TreeW (((((((w.setCell ⟨B.pb, i * 16 + 2, none⟩ (.bool up)).setCell ⟨B.pb, i * 16 + 3, none⟩ (.bool false)).setCell ⟨B.pb, i * 16 + 4, none⟩ (.int .u64 0)).setCell ⟨B.pb, i * 16 + 4 + 1, none⟩ (.int .u64 0)).setCell ⟨B.pb, i * 16 + 4 + 2, none⟩ (.int .u64 0)).setCell ⟨B.pb, i * 16 + 4 + 3, none⟩ (.int .i64 0)).setCell ⟨B.fb, i, none⟩ (.bool true)) B V) := h2
    have HZ : Hid (againF true V = U) := by rw [← hU]; exact Lib.hid hz.symm
    clear hU hok hT HU HO hn hup hi hn0 hz h1 h2 hV hVe hVn
    go_enter Try.func15, Try.ntmps15
    go_wp2_with (go_at_call 33; (with_reducible refine (again_calls V B true HV.out _ H2.out U HZ.out).mono ?_); rintro e w' ⟨B', rfl, hT', hS'⟩)
    go_end0
    rw [HVN.out] at hS'
    exact ⟨B', rfl, hT', hS.trans hS'⟩
end Go.Proofs.Ytjnbjcieepooaac
